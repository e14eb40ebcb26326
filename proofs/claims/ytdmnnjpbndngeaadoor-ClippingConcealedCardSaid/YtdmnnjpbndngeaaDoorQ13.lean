/- Joined: Q11, Q12, Q13. -/
import Derived.Test.YtdmnnjpbndngeaaDoorQ10
import Derived.Test.YtdmnnjpbndngeaaDoorApp3
import Derived.Deep.RegionLaw
import Derived.Test.YtdmnnjpbndngeaaDoorK17
import Derived.Test.YtdmnnjpbndngeaaDoorTail
import Derived.Deep.MidRow
/- Chapter 45: view.Of, of a terminal that may be shown. -/
namespace Go.Proofs.YtdmnnjpbndngeaaDoor
open Go.RowKit Go.Shelf

theorem el_rows45 : ElemOf Tryd.prog 52 61 (.slice none 0 0) 1 24 := ⟨Tryd.underlying52, by kernel_rfl, rfl, by omega, by omega⟩
def viewT (t : Tm) : Vw := ⟨t.W, t.H, t.rows.map fun l => trimG (glyCs l), t.row, t.col, t.vis⟩
theorem vbO_cells {w : World} {b : Nat} {v0 v1 v2 v3 v4 v5 : Value} {t : TypeId} (h : w.heap[b]? = some (.cells #[v0, v1, v2, v3, v4, v5] t (0, 0))) : w.cell? ⟨b, 0, none⟩ = some v0 ∧ w.cell? ⟨b, 1, none⟩ = some v1 ∧
    w.cell? ⟨b, 2, none⟩ = some v2 ∧ w.cell? ⟨b, 3, none⟩ = some v3 ∧ w.cell? ⟨b, 4, none⟩ = some v4 ∧ w.cell? ⟨b, 5, none⟩ = some v5 :=
  ⟨cell_block h 0, cell_block h 1, cell_block h 2, cell_block h 3, cell_block h 4, cell_block h 5⟩

/-- view.Trim of a row of the call's own. -/
theorem trimOP (w : World) (base n : Nat) (v : Value) (l : List Gl) (hown : w.ownsRow base 73 3 v n (l.flatMap Gl.enc)) (hn : l.length = n) (hl : n ≤ 1000) :
    Calls Tryd.prog 22 #[v] w fun e w' => ∃ A c, e = .returned (.slice A (trimG l).length c) ∧ w'.ownsRow w.heap.size 73 3 (.slice A (trimG l).length c) (trimG l).length ((trimG l).flatMap Gl.enc) ∧ Below w.heap.size w w' := by
  subst hn
  obtain ⟨A, c, rfl, hc, hgl⟩ := Sl.of_own GlAt.lays hown
  rcases hown.2 with ⟨he, h0⟩ | ⟨g, cap, cur, he, h5⟩
  · have hl0 : l = [] := List.eq_nil_of_length_eq_zero h0
    subst hl0
    rw [he]
    refine (trimNilP w).mono ?_
    rintro e w' ⟨rfl, hb⟩
    exact ⟨none, 0, rfl, World.ownsRow_nil _ _ _ _, hb⟩
  · injection he with e1 e2 e3
    subst e1
    refine (trimSP w g c l.length l rfl hgl hl hc).mono ?_
    rintro e w' ⟨v, rfl, ho, hb⟩
    obtain ⟨A', c', rfl⟩ := own_form ho
    exact ⟨A', c', rfl, ho, hb⟩

set_option maxRecDepth 100000 in
set_option maxHeartbeats 8000000 in
theorem ofP (w : World) (A : Option Addr) (c : Nat) (t : Tm) (h : CRows2 w w.heap.size A t.rows) (ht : TameC t.rows) (hT : Tabs w) (hsh : showB t.W t.H t.rows t.row t.col = true) :
    Calls Tryd.prog 8 #[t.val A c] w fun e w' => ∃ A' c', e = .returned ((viewT t).val A' c') ∧ t.rows.length ≤ c' ∧ Rows2 w' w'.heap.size A' (viewT t).rows ∧ Below w.heap.size w w' := by
  obtain ⟨W, H, rows, row, col, vis, I, B, S, SA, SL, SC⟩ := t
  obtain ⟨W1, hW1⟩ : ∃ W1, (w.alloc (.cells #[.int .i64 W, .int .i64 H, .slice A rows.length c, .int .i64 (I 3), .int .i64 (I 4), .slice (SA 5) (SL 5) (SC 5), .int .i64 row, .int .i64 col, .bool (B 8), .int .i64 (I 9), .int .i64 (I 10), .bool (B 11), .int .i64 (I 12), .int .i64 (I 13), .int .i64 (I 14), .bool (B 15), .int .u8 (I 16), .int .u8 (I 17), .int .i64 (I 18), .int .i64 (I 19), .int .i64 (I 20), .int .i64 (I 21), .bool (B 22), .bool (B 23), .bool (B 24), .bool (B 25), .bool (B 26), .bool vis, .bool (B 28), .bool (B 29), .int .u8 (I 30), .int .u8 (I 31), .int .i64 (I 32), .int .i64 (I 33), .int .i64 (I 34), .slice (SA 35) (SL 35) (SC 35), .slice (SA 36) (SL 36) (SC 36), .int .i64 (I 37), .string (S 38), .string (S 39), .string (S 40), .string (S 41)] 38)).alloc (.cells #[.int .i64 0, .int .i64 0, .slice none 0 0, .int .i64 0, .int .i64 0, .bool false] 54) = W1 := ⟨_, rfl⟩
  have hbox : Below w.heap.size w W1 := by rw [← hW1]; exact ((Below.refl w.heap.size w).alloc (Nat.le_refl _) _).alloc (by simp) _
  have hblk : W1.heap[w.heap.size]? = some (.cells #[.int .i64 W, .int .i64 H, .slice A rows.length c, .int .i64 (I 3), .int .i64 (I 4), .slice (SA 5) (SL 5) (SC 5), .int .i64 row, .int .i64 col, .bool (B 8), .int .i64 (I 9), .int .i64 (I 10), .bool (B 11), .int .i64 (I 12), .int .i64 (I 13), .int .i64 (I 14), .bool (B 15), .int .u8 (I 16), .int .u8 (I 17), .int .i64 (I 18), .int .i64 (I 19), .int .i64 (I 20), .int .i64 (I 21), .bool (B 22), .bool (B 23), .bool (B 24), .bool (B 25), .bool (B 26), .bool vis, .bool (B 28), .bool (B 29), .int .u8 (I 30), .int .u8 (I 31), .int .i64 (I 32), .int .i64 (I 33), .int .i64 (I 34), .slice (SA 35) (SL 35) (SC 35), .slice (SA 36) (SL 36) (SC 36), .int .i64 (I 37), .string (S 38), .string (S 39), .string (S 40), .string (S 41)] 38 (0, 0)) := by rw [← hW1]; exact block_alloc (block_new w _) _
  have hres : W1.heap[w.heap.size + 1]? = some (.cells #[.int .i64 0, .int .i64 0, .slice none 0 0, .int .i64 0, .int .i64 0, .bool false] 54 (0, 0)) := by
    rw [← hW1]
    have := block_new (w.alloc (.cells #[.int .i64 W, .int .i64 H, .slice A rows.length c, .int .i64 (I 3), .int .i64 (I 4), .slice (SA 5) (SL 5) (SC 5), .int .i64 row, .int .i64 col, .bool (B 8), .int .i64 (I 9), .int .i64 (I 10), .bool (B 11), .int .i64 (I 12), .int .i64 (I 13), .int .i64 (I 14), .bool (B 15), .int .u8 (I 16), .int .u8 (I 17), .int .i64 (I 18), .int .i64 (I 19), .int .i64 (I 20), .int .i64 (I 21), .bool (B 22), .bool (B 23), .bool (B 24), .bool (B 25), .bool (B 26), .bool vis, .bool (B 28), .bool (B 29), .int .u8 (I 30), .int .u8 (I 31), .int .i64 (I 32), .int .i64 (I 33), .int .i64 (I 34), .slice (SA 35) (SL 35) (SC 35), .slice (SA 36) (SL 36) (SC 36), .int .i64 (I 37), .string (S 38), .string (S 39), .string (S 40), .string (S 41)] 38)) (.cells #[.int .i64 0, .int .i64 0, .slice none 0 0, .int .i64 0, .int .i64 0, .bool false] 54)
    rwa [World.size_alloc] at this
  have hs1 : w.heap.size + 1 < W1.heap.size := block_lt hres
  have HS := hide (showP W1 A c ⟨W, H, rows, row, col, vis, I, B, S, SA, SL, SC⟩ ((h.below hbox).more hbox.size) ht (hT.below hbox))
  dsimp only at hsh h ht HS
  rw [hsh] at HS
  have HV := hide (show viewT ⟨W, H, rows, row, col, vis, I, B, S, SA, SL, SC⟩ = ⟨W, H, rows.map fun l => trimG (glyCs l), row, col, vis⟩ from rfl)
  rw [HV.out]
  unfold Tm.val at HS ⊢
  dsimp only at HS ⊢
  have HH := hide h
  have Ht := hide ht
  obtain ⟨n, hn⟩ : ∃ n, rows.length = n := ⟨_, rfl⟩
  have Hn := hide hn
  have hn12 : n ≤ 12 := by rw [← hn]; exact ht.1
  rw [hn] at HS hW1 hblk ⊢
  have HB2 := hide (fun (W2 : World) (hb : Below W1.heap.size W1 W2) => And.intro (block_below hblk hb (by omega)) (block_below hres hb hs1))
  have Hbox := hide hbox
  clear h ht hT hsh hbox hres hn
  go_enter Tryd.func8, Tryd.ntmps8
  go_upto_region 3 with (first
    | (refine wpList_load_row rfl 38 (.tmp 1) rfl w.heap.size rfl 38 _ (0, 0) _ hblk Tryd.underlying38 rfl (by kernel_rfl) ?_)
    | (go_at_call 21; refine HS.out.mono ?_; rintro e W2 ⟨rfl, hb2⟩)
    | fail)
  clear hblk hW1 HS
  obtain ⟨hblk2, hres2⟩ := HB2.out W2 hb2
  have hs2 : w.heap.size + 1 < W2.heap.size := block_lt hres2
  have hw2 := Hbox.out.trans (hb2.mono Hbox.out.size)
  obtain ⟨W3, hW3⟩ : ∃ W3, W2.alloc (.cells #[.int .i64 W, .int .i64 H, .slice none 0 0, .int .i64 row, .int .i64 col, .bool vis] 54) = W3 := ⟨_, rfl⟩
  have hv3 : W3.heap[W2.heap.size]? = some (.cells #[.int .i64 W, .int .i64 H, .slice none 0 0, .int .i64 row, .int .i64 col, .bool vis] 54 (0, 0)) := by rw [← hW3]; exact block_new W2 _
  have hr3 : W3.heap[w.heap.size + 1]? = some (.cells #[.int .i64 0, .int .i64 0, .slice none 0 0, .int .i64 0, .int .i64 0, .bool false] 54 (0, 0)) := by rw [← hW3]; exact block_alloc hres2 _
  have hw3 : Below w.heap.size w W3 := by rw [← hW3]; exact hw2.alloc hw2.size _
  have hs3 : W2.heap.size + 1 ≤ W3.heap.size := block_lt hv3
  have hk3 := block_alloc hblk2 (.cells #[.int .i64 W, .int .i64 H, .slice none 0 0, .int .i64 row, .int .i64 col, .bool vis] 54)
  rw [hW3] at hk3
  have c0 := cell_block hblk2 0
  have c1 := cell_block hblk2 1
  have c6 := cell_block hblk2 6
  have c7 := cell_block hblk2 7
  have c27 := cell_block hblk2 27
  have c2 := cell_block hk3 2
  simp only [List.getElem?_toArray, List.getElem?_cons_succ, List.getElem?_cons_zero] at c0 c1 c6 c7 c27 c2
  have Hv3 := hide hv3
  have Hr3 := hide hr3
  have Hw3 := hide hw3
  clear hblk2 hres2 hv3 hr3 hw3 hk3 hb2 HB2 hw2
  go_wp2
  go_loopw [30] (fun i wr => ∃ (k : Nat) (vv : Value), k ≤ n ∧ i = .int .i64 k ∧ wr.heap[W2.heap.size]? = some (.cells #[.int .i64 W, .int .i64 H, vv, .int .i64 row, .int .i64 col, .bool vis] 54 (0, 0)) ∧
    wr.heap[w.heap.size + 1]? = some (.cells #[.int .i64 0, .int .i64 0, .slice none 0 0, .int .i64 0, .int .i64 0, .bool false] 54 (0, 0)) ∧ MadeG wr (W2.heap.size + 1) vv ((rows.take k).map fun l => trimG (glyCs l)) ∧ Below w.heap.size w wr ∧ W2.heap.size + 1 ≤ wr.heap.size) (fun i _ => n - (intOf i).toNat)
  case atStart => exact ⟨0, .slice none 0 0, Nat.zero_le _, rfl, Hv3.out, Hr3.out, MadeG.nil _ _, Hw3.out, hs3⟩
  case round =>
    clear c0 c1 c6 c7 c27 c2 hW3
    obtain ⟨k, vv, hk, rfl, hv1, hv0, hmade, hbw, hsz⟩ := hrel
    rename World => wo
    by_cases hlt : k < n
    · have hltI : (k : Int) < (n : Int) := by omega
      have hkl : k < rows.length := by rw [Hn.out]; exact hlt
      obtain ⟨b, off, hAA, hbb, A1, c1, d0, -, hrow⟩ := (HH.out.below hbw).get1 hkl
      have htk := Ht.out.2 _ (List.getElem_mem hkl)
      have Hrows := hide (show (rows.take (k + 1)).map (fun l => trimG (glyCs l)) = (rows.take k).map (fun l => trimG (glyCs l)) ++ [trimG (glyCs rows[k])] by rw [List.take_succ_eq_append_getElem hkl, List.map_append]; rfl)
      obtain ⟨l, hl⟩ : ∃ l, rows[k] = l := ⟨_, rfl⟩
      rw [hl] at d0 hrow htk Hrows
      obtain ⟨q, hq⟩ : ∃ q, l.length = q := ⟨_, rfl⟩
      rw [hq] at d0
      subst hAA
      have hrow0 : CeRow wo wo.heap.size A1 l := hrow.more hbw.size
      -- the calls
      have hdr : Below wo.heap.size wo wo.drew := (Below.refl _ _).drew
      obtain ⟨wa, hwa⟩ : ∃ wa, wo.drew.alloc (.cells #[.slice A1 q c1] 48) = wa := ⟨_, rfl⟩
      have hba : Below wo.heap.size wo wa := by rw [← hwa]; exact hdr.alloc hdr.size _
      have hca : wa.cell? ⟨wo.heap.size, 0, none⟩ = some (.slice A1 q c1) := by rw [← hwa]; exact cell_block (block_new wo.drew _) 0
      have hsa : wo.heap.size < wa.heap.size := World.block_lt_of_cell? wa ⟨wo.heap.size, 0, none⟩ hca
      have HGl := hide (show Calls Tryd.prog 24 #[.slice A1 q c1] wo.drew fun e w' => e = .returned (.func (.func 42) #[] #[.pointer (some ⟨wo.heap.size, 0, none⟩)]) ∧ w' = wa by
        rw [← hwa]; exact glyphs_of wo.drew A1 q c1)
      have HCo : Hid (Calls Tryd.prog 23 #[.func (.func 42) #[] #[.pointer (some ⟨wo.heap.size, 0, none⟩)]] wa fun e w' => ∃ v, e = .returned v ∧ w'.ownsRow wa.heap.size 73 3 v (glyCs l).length ((glyCs l).flatMap Gl.enc) ∧ Below wa.heap.size wa w') := by
        rcases Nat.eq_zero_or_pos q with h0 | h0
        · exact hide (collectGP wa wo.heap.size 0 0 q c1 A1 (fun h => by omega) l hq (by have := htk.1; omega) (by omega) hca fun j g hj => by
            have := (List.getElem?_eq_some_iff.1 hj).1
            omega)
        · obtain ⟨b2, o2, e1, e2, e3⟩ := hrow0 (by omega)
          exact hide (collectGP wa wo.heap.size b2 o2 q c1 A1 (fun _ => e1) l hq (by have := htk.1; omega) (by omega) hca fun j g hj =>
            have hx := e3 j g hj
            ⟨(hba.cell (p := ⟨b2, _, none⟩) e2).trans hx.1, (hba.cell (p := ⟨b2, _, none⟩) e2).trans hx.2.1, (hba.cell (p := ⟨b2, _, none⟩) e2).trans hx.2.2.1, (hba.cell (p := ⟨b2, _, none⟩) e2).trans hx.2.2.2.1, (hba.cell (p := ⟨b2, _, none⟩) e2).trans hx.2.2.2.2⟩)
      have hgl := glyCs_len l
      have hg140 : (glyCs l).length ≤ 1000 := by have := htk.1; omega
      have HTr := hide (fun (wb : World) (v : Value) (ho : wb.ownsRow wa.heap.size 73 3 v (glyCs l).length ((glyCs l).flatMap Gl.enc)) => trimOP wb wa.heap.size (glyCs l).length v (glyCs l) ho rfl hg140)
      obtain ⟨RW, hRW⟩ : ∃ RW, trimG (glyCs l) = RW := ⟨_, rfl⟩
      rw [hRW] at HTr Hrows
      obtain ⟨M, hM⟩ : ∃ M, RW.length = M := ⟨_, rfl⟩
      rw [hM] at HTr
      have HM := hide hM
      obtain ⟨xs, hout, hins⟩ := hmade
      have hkl' : ((rows.take k).map fun l => trimG (glyCs l)).length = k := by rw [List.length_map, List.length_take]; omega
      rw [hkl'] at hout
      have Hins := hide hins
      obtain ⟨A2, c2, rfl⟩ := own_form hout
      have c5 : wo.cell? ⟨W2.heap.size, 2, none⟩ = some (.slice A2 k c2) := cell_block hv1 2
      have f5 : wo.frozen? ⟨W2.heap.size, 2, none⟩ = false := frozen_block hv1 2
      have ca : wa.cell? ⟨W2.heap.size, 2, none⟩ = some (.slice A2 k c2) := (hba.cell (p := ⟨W2.heap.size, 2, none⟩) (show W2.heap.size < wo.heap.size by omega)).trans c5
      have Hv1 := hide hv1
      have Hv0 := hide hv0
      have Hbw := hide hbw
      have Hba := hide hba
      have Hout := hide hout
      clear hwa hrow hrow0 htk hl hq hkl hca hgl hRW hM hins hkl' hv1 hv0 hbw hba hout
      go_wp2
      go_region_law (first
        | (refine step_app el_rows45 w5 (.tmp 35) (.tmp 40) (by rfl) (by rfl) (W2.heap.size + 1) _ k xs (by rfl) hout5 (by omega) (by omega) [.slice A5 M c5b] rfl (by simp [Value.oneCell']) (by rfl) ?_; intro g6 cap6 w6 hown6 hg6; have hv6 := (hg6.block W2.heap.size (by simp; omega) (fun he => absurd (hout5.lt _ he.symm).1 (by omega))).trans (block_alloc (block_below Hv1.out hb5' (by omega)) _); have k6 : w6.cell? ⟨W2.heap.size, 2, none⟩ = some (.slice A2 k c2) := cell_block hv6 2; have f6 : w6.frozen? ⟨W2.heap.size, 2, none⟩ = false := frozen_block hv6 2; replace hv6 := hide hv6)
        | (go_simp; go_at_call 22; refine (HTr.out wb v4 hown4).mono ?_; rintro e w5 ⟨A5, c5b, rfl, hown5, hb5⟩; have hb5' := Hbb.out.trans (hb5.mono Hbb.out.size); have hs5 := hb5'.size; have k5 : w5.cell? ⟨W2.heap.size, 2, none⟩ = some (.slice A2 k c2) := (hb5'.cell (p := ⟨W2.heap.size, 2, none⟩) (by show W2.heap.size < wo.heap.size; omega)).trans c5; have hout5 := own_below Hout.out hb5' (Nat.le_refl _); have k5b : (w5.alloc (.cells #[.slice A5 M c5b] 61)).cell? ⟨W2.heap.size, 2, none⟩ = some (.slice A2 k c2) := ((((Below.refl w5.heap.size w5).alloc (Nat.le_refl _) _).cell (p := ⟨W2.heap.size, 2, none⟩) (by show W2.heap.size < w5.heap.size; omega))).trans k5)
        | (go_simp; go_at_call 23; refine HCo.out.mono ?_; rintro e wb ⟨v4, rfl, hown4, hb4⟩; have Hbb := hide (Hba.out.trans (hb4.mono Hba.out.size)); have kb : wb.cell? ⟨W2.heap.size, 2, none⟩ = some (.slice A2 k c2) := (Hbb.out.cell (p := ⟨W2.heap.size, 2, none⟩) (by show W2.heap.size < wo.heap.size; omega)).trans c5)
        | (go_simp; go_at_call 24; refine HGl.out.mono ?_; rintro e w3 ⟨rfl, rfl⟩)
        | fail)
      all_goals
        have hbw5 := Hbw.out.trans (hb5'.mono Hbw.out.size)
        have hmade7 := madeG_step (v6 := .slice (some ⟨g6, 0, none⟩) (k + 1) cap6) Hrows.out (hout5.alloc _) (fun j r hr => let ⟨u, hu, ho⟩ := Hins.out j r hr; ⟨u, hu, (own_below (own_below ho (Below.refl _ _) (Nat.le_refl _)) hb5' (Nat.le_refl _)).alloc _⟩) (b5 := wb.heap.size) (A5 := A5) (c5 := c5b) (by rw [HM.out]; exact (show (w5.alloc _).ownsRow wb.heap.size 73 3 (.slice A5 M c5b) M (RW.flatMap Gl.enc) from hown5.alloc _)) (by have := Hbb.out.size; omega) (by rw [HM.out]; exact hown6) hg6 (by rw [List.length_map, List.length_take, Hn.out]; omega)
        have hB7 : Below w.heap.size w (w6.setCell ⟨W2.heap.size, 2, none⟩ (.slice (some ⟨g6, 0, none⟩) (k + 1) cap6)) := (below_own (hbw5.alloc hbw5.size _) (hout5.alloc _) hg6 (by omega) (by simp; omega)).setCell (p := ⟨W2.heap.size, 2, none⟩) (by show w.heap.size ≤ W2.heap.size; omega) _
        have hv17 := heap_setCell_same w6 _ 2 _ _ (.slice (some ⟨g6, 0, none⟩) (k + 1) cap6) hv6.out
        have hv07 : (w6.setCell ⟨W2.heap.size, 2, none⟩ (.slice (some ⟨g6, 0, none⟩) (k + 1) cap6)).heap[w.heap.size + 1]? = _ := block_far ((hg6.block (w.heap.size + 1) (by simp; omega) (fun he => absurd (hout5.lt _ he.symm).1 (by omega))).trans (block_alloc (block_below Hv0.out hb5' (by omega)) _)) (by show w.heap.size + 1 ≠ W2.heap.size; omega) _
        have hs7 : W2.heap.size + 1 ≤ (w6.setCell ⟨W2.heap.size, 2, none⟩ (.slice (some ⟨g6, 0, none⟩) (k + 1) cap6)).heap.size := by have := hg6.size; simp at this ⊢; omega
        have hm8 : MadeG (w6.setCell ⟨W2.heap.size, 2, none⟩ (.slice (some ⟨g6, 0, none⟩) (k + 1) cap6)) (W2.heap.size + 1) (.slice (some ⟨g6, 0, none⟩) (k + 1) cap6) ((rows.take (k + 1)).map fun l => trimG (glyCs l)) := by
          obtain ⟨xs7, m1, m2⟩ := hmade7
          refine ⟨xs7, ownsRow_setCell_below m1 (Nat.lt_succ_self _) _, fun i r hr => ?_⟩
          obtain ⟨u, hu, ho⟩ := m2 i r hr
          exact ⟨u, hu, ownsRow_setCell_below ho (Nat.lt_succ_self _) _⟩
        obtain ⟨W7, hW7⟩ : ∃ W7, w6.setCell ⟨W2.heap.size, 2, none⟩ (.slice (some ⟨g6, 0, none⟩) (k + 1) cap6) = W7 := ⟨_, rfl⟩
        rw [hW7] at hm8 hB7 hv17 hv07 hs7 ⊢
        clear hW7 k5 k5b k6 f6 hown5 hown6 hg6 hout5 hmade7
        have Hv17 := hide hv17
        have Hv07 := hide hv07
        clear hv17 hv07
        go_wp2
        go_roundw
        case rel => exact ⟨k + 1, _, by omega, by go_num, Hv17.out, Hv07.out, hm8, hB7, hs7⟩
        case measure => simp [intOf]; omega
    · obtain rfl : k = n := by omega
      have hnl : ¬ (k : Int) < (k : Int) := by omega
      obtain ⟨x0, x1, x2, x3, x4, x5⟩ := vbO_cells hv1
      obtain ⟨z0, z1, z2, z3, z4, z5⟩ := vbO_cells hv0
      have hf00 := frozen_block hv0 0
      have hf01 := frozen_block hv0 1
      have hf02 := frozen_block hv0 2
      have hf03 := frozen_block hv0 3
      have hf04 := frozen_block hv0 4
      have hf05 := frozen_block hv0 5
      obtain ⟨A2, c2, hv2, hc2', hr2⟩ := hmade.reads
      have hrl : ((rows.take k).map fun l => trimG (glyCs l)).length = k := by rw [List.length_map, List.length_take, Hn.out]; omega
      have htake : rows.take k = rows := List.take_of_length_le (by rw [Hn.out]; exact Nat.le_refl _)
      rw [hrl] at hv2 hc2'
      subst hv2
      rw [htake] at hmade hrl
      obtain ⟨xs, hout, hins⟩ := hmade
      have Hout := hide hout
      have Hins := hide hins
      have Hv0 := hide hv0
      have Hrl := hide hrl
      have Hc2 := hide hc2'
      clear hout hins hv0 hv1 hr2 hrl hc2' htake
      go_wp2
      obtain ⟨W6, hW6⟩ : ∃ W6, (((((wo.setCell ⟨w.heap.size + 1, 0, none⟩ (.int .i64 W)).setCell ⟨w.heap.size + 1, 1, none⟩ (.int .i64 H)).setCell ⟨w.heap.size + 1, 2, none⟩ (.slice A2 k c2)).setCell ⟨w.heap.size + 1, 3, none⟩ (.int .i64 row)).setCell ⟨w.heap.size + 1, 4, none⟩ (.int .i64 col)).setCell ⟨w.heap.size + 1, 5, none⟩ (.bool vis) = W6 := ⟨_, rfl⟩
      rw [hW6]
      have hbx : W6.heap[w.heap.size + 1]? = some (.cells #[.int .i64 W, .int .i64 H, .slice A2 k c2, .int .i64 row, .int .i64 col, .bool vis] 54) := by
        rw [← hW6]
        exact heap_setCell_same _ _ 5 _ _ (.bool vis) (heap_setCell_same _ _ 4 _ _ (.int .i64 col) (heap_setCell_same _ _ 3 _ _ (.int .i64 row) (heap_setCell_same _ _ 2 _ _ (.slice A2 k c2) (heap_setCell_same _ _ 1 _ _ (.int .i64 H) (heap_setCell_same _ _ 0 _ _ (.int .i64 W) Hv0.out)))))
      have hlo : w.heap.size + 1 < W2.heap.size + 1 := by omega
      have hset : ∀ {sz n : Nat} {e : TypeId} {v : Value} {xs : List Value}, wo.ownsRow (W2.heap.size + 1) e sz v n xs → W6.ownsRow (W2.heap.size + 1) e sz v n xs := fun h => by
        rw [← hW6]
        exact ownsRow_setCell_below (ownsRow_setCell_below (ownsRow_setCell_below (ownsRow_setCell_below (ownsRow_setCell_below (ownsRow_setCell_below h hlo _) hlo _) hlo _) hlo _) hlo _) hlo _
      have hlo2 : w.heap.size ≤ w.heap.size + 1 := Nat.le_succ _
      have hB6 : Below w.heap.size w W6 := by
        rw [← hW6]
        exact (((((hbw.setCell (p := ⟨w.heap.size + 1, 0, none⟩) hlo2 _).setCell (p := ⟨w.heap.size + 1, 1, none⟩) hlo2 _).setCell (p := ⟨w.heap.size + 1, 2, none⟩) hlo2 _).setCell (p := ⟨w.heap.size + 1, 3, none⟩) hlo2 _).setCell (p := ⟨w.heap.size + 1, 4, none⟩) hlo2 _).setCell (p := ⟨w.heap.size + 1, 5, none⟩) hlo2 _
      have hmade6 : MadeG W6 (W2.heap.size + 1) (.slice A2 k c2) (rows.map fun l => trimG (glyCs l)) := by
        refine ⟨xs, hset Hout.out, fun j r hr => ?_⟩
        obtain ⟨u, hu, ho⟩ := Hins.out j r hr
        exact ⟨u, hu, hset ho⟩
      obtain ⟨A3, c3, hv3, hc3', hrows3⟩ := hmade6.reads
      rw [Hrl.out] at hv3 hc3'
      cases hv3
      obtain ⟨y0, y1, y2, y3, y4, y5⟩ := vbO_cells hbx
      clear hW6
      have hval : (⟨W, H, rows.map fun l => trimG (glyCs l), row, col, vis⟩ : Vw).val A2 c2 = .agg #[.int .i64 W, .int .i64 H, .slice A2 k c2, .int .i64 row, .int .i64 col, .bool vis] := by
        unfold Vw.val
        dsimp only
        rw [Hrl.out]
      exact bodyPost_ret (v := .agg #[.int .i64 W, .int .i64 H, .slice A2 k c2, .int .i64 row, .int .i64 col, .bool vis]) (by simp [results, Tryd.results8, go_sem, y0, y1, y2, y3, y4, y5]) rfl ⟨A2, c2, by rw [hval], hc3', hrows3, hB6⟩
end Go.Proofs.YtdmnnjpbndngeaaDoor

/- Chapter 45: the text of a concealed cell is not shown, in plain words. -/
namespace Go.Proofs.YtdmnnjpbndngeaaDoor
open Go.RowKit Go.Shelf

theorem rowShow_set {W : Int} {l : List Ce} {x : Nat} {c : Ce} {s : ByteArray} (hc : l[x]? = some c) (hw : c.width = 1) (h1 : clErr s.data.toList = 0) (h2 : clW s.data.toList = 1) (h : rowShow W l = true) : rowShow W (l.set x { c with text := s }) = true := by
  unfold rowShow at h ⊢
  simp only [Bool.and_eq_true, decide_eq_true_eq] at h ⊢
  obtain ⟨e1, e2, e3⟩ := h
  have hE : rowC l = 0 := by
    unfold rowCE at e2
    by_cases h5 : l.length < 1 ∨ 132 < l.length
    · rw [if_pos h5] at e2; exact absurd e2 (by decide)
    · rw [if_neg h5] at e2; exact e2
  have hlen : ¬ (l.length < 1 ∨ 132 < l.length) := fun h5 => by
    unfold rowCE at e2; rw [if_pos h5] at e2; exact absurd e2 (by decide)
  refine ⟨by rw [List.length_set]; exact e1, ?_, ?_⟩
  · unfold rowCE
    rw [List.length_set, if_neg hlen]
    exact rowC_set l x c _ hc hw rfl h1 h2 hE
  · rw [List.all_eq_true] at e3 ⊢
    intro d hd
    rcases List.mem_or_eq_of_mem_set hd with h | rfl
    · exact e3 d h
    · exact e3 c (List.mem_of_getElem? hc)
theorem showB_set {W H r q : Int} {rows : List (List Ce)} {y x : Nat} {l : List Ce} {c : Ce} {s : ByteArray} (hl : rows[y]? = some l) (hc : l[x]? = some c) (hw : c.width = 1) (h1 : clErr s.data.toList = 0) (h2 : clW s.data.toList = 1) (h : showB W H rows r q = true) :
    showB W H (rows.set y (l.set x { c with text := s })) r q = true := by
  unfold showB at h ⊢
  rw [List.length_set]
  simp only [Bool.and_eq_true] at h ⊢
  obtain ⟨e1, e2, e3, e4⟩ := h
  refine ⟨e1, e2, e3, ?_⟩
  rw [List.all_eq_true] at e4 ⊢
  intro d hd
  rcases List.mem_or_eq_of_mem_set hd with h | rfl
  · exact e4 d h
  · exact rowShow_set hc hw h1 h2 (e4 l (List.mem_of_getElem? hl))
theorem view_set {rows : List (List Ce)} {y x : Nat} {l : List Ce} {c : Ce} {s : ByteArray} (hl : rows[y]? = some l) (hc : l[x]? = some c) (hf : hidF c = true) :
    ((rows.set y (l.set x { c with text := s })).map fun l => trimG (glyCs l)) = rows.map fun l => trimG (glyCs l) := by
  rw [List.map_set, glyCs_set l x c _ hc hf rfl]
  apply List.ext_getElem?
  intro i
  rw [List.getElem?_set]
  split
  · rename_i h
    subst h
    rw [List.getElem?_map, hl]
    split
    · rfl
    · rename_i h
      exact absurd (by rw [List.length_map]; exact (List.getElem?_eq_some_iff.1 hl).1) h
  · rfl
theorem tame_set {rows : List (List Ce)} {y x : Nat} {l : List Ce} {c : Ce} {s : ByteArray} (hl : rows[y]? = some l) (hs : s.size ≤ 40) (h : TameC rows) : TameC (rows.set y (l.set x { c with text := s })) := by
  have hll := h.2 l (List.mem_of_getElem? hl)
  refine ⟨by rw [List.length_set]; exact h.1, fun d hd => ?_⟩
  rcases List.mem_or_eq_of_mem_set hd with h' | rfl
  · exact h.2 d h'
  · refine ⟨by rw [List.length_set]; exact hll.1, fun e he => ?_⟩
    rcases List.mem_or_eq_of_mem_set he with h' | rfl
    · exact hll.2 e h'
    · exact hs
theorem viewT_tame {t : Tm} (h : TameC t.rows) : (viewT t).Tame := by
  refine ⟨by unfold viewT; dsimp only; rw [List.length_map]; exact h.1, fun r hr => ?_⟩
  unfold viewT at hr
  obtain ⟨l, hl, rfl⟩ := List.mem_map.1 hr
  have hll := h.2 l hl
  refine ⟨Nat.le_trans (trimG_len _) (Nat.le_trans (glyCs_len l) hll.1), fun g hg => ?_⟩
  have hg2 := trimG_sub _ g hg
  unfold glyCs at hg2
  obtain ⟨c, hc, hgc⟩ := List.mem_flatMap.1 hg2
  unfold glyC at hgc
  split at hgc
  · rw [List.mem_singleton] at hgc
    subst hgc
    exact (by decide : (1 : Nat) ≤ 40)
  · split at hgc
    · cases hgc
    · rw [List.mem_singleton] at hgc
      subst hgc
      exact hll.2 c hc
/-- The characters that the statement lays into the cell. -/
theorem char_ok : ∀ b : Fin 90, clErr (Utf8.encode (33 + (b.val : Int))).data.toList = 0 ∧ clW (Utf8.encode (33 + (b.val : Int))).data.toList = 1 ∧ (Utf8.encode (33 + (b.val : Int))).size ≤ 40 := by decide +kernel
end Go.Proofs.YtdmnnjpbndngeaaDoor

/- Chapter 45: a struct in a variable, whatever its cells. -/
namespace Go.Proofs.YtdmnnjpbndngeaaDoor
open Go.RowKit Go.Shelf

def Tm.cells (t : Tm) (A : Option Addr) (c : Nat) : Array Value := #[.int .i64 t.W, .int .i64 t.H, .slice A t.rows.length c, .int .i64 (t.I 3), .int .i64 (t.I 4), .slice (t.SA 5) (t.SL 5) (t.SC 5), .int .i64 t.row, .int .i64 t.col, .bool (t.B 8), .int .i64 (t.I 9), .int .i64 (t.I 10), .bool (t.B 11), .int .i64 (t.I 12), .int .i64 (t.I 13), .int .i64 (t.I 14), .bool (t.B 15), .int .u8 (t.I 16), .int .u8 (t.I 17), .int .i64 (t.I 18), .int .i64 (t.I 19), .int .i64 (t.I 20), .int .i64 (t.I 21), .bool (t.B 22), .bool (t.B 23), .bool (t.B 24), .bool (t.B 25), .bool (t.B 26), .bool t.vis, .bool (t.B 28), .bool (t.B 29), .int .u8 (t.I 30), .int .u8 (t.I 31), .int .i64 (t.I 32), .int .i64 (t.I 33), .int .i64 (t.I 34), .slice (t.SA 35) (t.SL 35) (t.SC 35), .slice (t.SA 36) (t.SL 36) (t.SC 36), .int .i64 (t.I 37), .string (t.S 38), .string (t.S 39), .string (t.S 40), .string (t.S 41)]
theorem Tm.val_cells (t : Tm) (A : Option Addr) (c : Nat) : t.val A c = .agg (t.cells A c) := rfl
theorem Tm.cells_one (t : Tm) (A : Option Addr) (c : Nat) : (t.cells A c).all (·.oneCell') = true := by
  unfold Tm.cells; simp [Value.oneCell']
def aggOf : Value → Option (Array Value) | .agg z => some z | _ => none
theorem info_zero : ∃ i Z, Tryd.prog.info? 38 = some i ∧ i.zero = some (.agg Z) ∧ Z.size = 42 ∧ i.size = 42 := by
  have h : ((Tryd.prog.info? 38).bind fun i => i.zero.bind fun v => (aggOf v).bind fun z => some (z.size, i.size)) = some (42, 42) := by kernel_rfl
  cases hi : Tryd.prog.info? 38 with
  | none => rw [hi] at h; cases h
  | some i =>
    rw [hi] at h
    dsimp only [Option.bind] at h
    cases hz : i.zero with
    | none => rw [hz] at h; cases h
    | some v =>
      rw [hz] at h
      cases v with
      | agg Z =>
        simp only [aggOf, Option.some.injEq, Prod.mk.injEq] at h
        exact ⟨i, Z, rfl, hz, h.1, h.2⟩
      | _ => cases h
theorem alloc38 : ∃ Z : Array Value, Z.size = 42 ∧ ∀ w : World, (Instr.alloc 38 true (.tuple #[])).run Tryd.prog w = .ok (.pointer (some ⟨w.heap.size, 0, none⟩)) (w.alloc (.cells Z 38)) := by
  obtain ⟨i, Z, hi, hz, h1, -⟩ := info_zero
  refine ⟨Z, h1, fun w => ?_⟩
  simp only [Instr.alloc, zeroValue, typeInfo, Sem.run_bind, run_program, Result.andThen_ok, hi, hz, Sem.run_pure]
  simp [newVar, Value.cells, newRow]

section
variable {o : Oper} {a : Act} {w : World} {K : Act → World → Prop} {Q : Exit → Act → World → Prop} {Z : Array Value}
theorem wp_alloc38 (hZ : ∀ w : World, (Instr.alloc 38 true (.tuple #[])).run Tryd.prog w = .ok (.pointer (some ⟨w.heap.size, 0, none⟩)) (w.alloc (.cells Z 38))) (ho : o.op = .alloc 38)
    (h : K (a.put o.dst (.pointer (some ⟨w.heap.size, 0, none⟩))) (w.alloc (.cells Z 38))) : o.wp Tryd.prog a w K Q := by
  unfold Oper.wp execOp
  simp only [ho, Sem.run_bind, hZ, Sem.run_pure, Result.andThen_ok]
  exact h
theorem wpList_alloc38 {ops : Array Oper} {rest : List Oper} (hZ : ∀ w : World, (Instr.alloc 38 true (.tuple #[])).run Tryd.prog w = .ok (.pointer (some ⟨w.heap.size, 0, none⟩)) (w.alloc (.cells Z 38))) (hgd : o.guard = none) (ho : o.op = .alloc 38)
    (h : wpList Tryd.prog ops Q rest (a.put o.dst (.pointer (some ⟨w.heap.size, 0, none⟩))) (w.alloc (.cells Z 38))) : wpList Tryd.prog ops Q (o :: rest) a w :=
  wpList_plain hgd fun _ hK => wp_alloc38 hZ ho (hK _ _ h)
theorem exec_load_mid {P : Program} {eval : Operand → Value} (ty : TypeId) (x : Operand) (ho : o.op = .load ty x) (b off : Nat) (hx : eval x = .pointer (some ⟨b, off, none⟩)) (cs : List Value) (d : TypeDesc) (hc : w.rangeAt b off cs)
    (hu : P.underlying ty = some d) (hd : d.isRow = true) (hi : (P.info? ty).map (·.size) = some cs.length) : (execOp eval o).run P w = .ok (.value (.agg cs.toArray)) w := by
  unfold execOp
  simp only [ho, hx, Instr.loadAt, Instr.sureAddr, Sem.run_bind, Sem.run_pure, Result.andThen_ok, run_loadVar_mid w b off ty cs d hc hu hd hi]
end

/-- A struct in a variable of its own: its cells, which may be written. -/
def TBox (w : World) (b : Nat) (cs : List Value) : Prop := b < w.heap.size ∧ w.rangeAt b 0 cs ∧ w.there b 0 cs.length
theorem TBox.cell {w : World} {b : Nat} {cs : List Value} (h : TBox w b cs) {j : Nat} {v : Value} (hj : cs[j]? = some v) : w.cell? ⟨b, j, none⟩ = some v := by
  have := h.2.1 j v hj
  rwa [Nat.zero_add] at this
theorem TBox.free {w : World} {b : Nat} {cs : List Value} (h : TBox w b cs) {j : Nat} (hj : j < cs.length) : w.frozen? ⟨b, j, none⟩ = false := by
  have := (h.2.2 j hj).2
  rwa [Nat.zero_add] at this
theorem TBox.below {w w' : World} {b B : Nat} {cs : List Value} (h : TBox w b cs) (hb : Below B w w') (hB : b < B) : TBox w' b cs := by
  obtain ⟨h1, h2, h3⟩ := h
  have hx : w'.heap[b]? = some w.heap[b] := (hb.block b hB).trans (Array.getElem?_eq_getElem h1)
  refine ⟨block_lt hx, fun j v hj => ?_, fun j hj => ⟨?_, ?_⟩⟩
  · exact (hb.cell (p := ⟨b, 0 + j, none⟩) hB).trans (h2 j v hj)
  · rw [hb.cell (p := ⟨b, 0 + j, none⟩) hB]; exact (h3 j hj).1
  · rw [hb.frozen (p := ⟨b, 0 + j, none⟩) hB]; exact (h3 j hj).2
theorem size_cells45 (b : Nat) : ∀ (vs : List Value) (o : Nat) (w : World), (w.setCells b o vs).heap.size = w.heap.size
  | [], _, _ => rfl
  | v :: vs, o, w => by
    show ((w.setCell ⟨b, o, none⟩ v).setCells b (o + 1) vs).heap.size = _
    rw [size_cells45 b vs]; simp
theorem there_block {w : World} {b n : Nat} {Z : Array Value} {t : TypeId} (h : w.heap[b]? = some (.cells Z t (0, 0))) (hn : Z.size = n) : w.there b 0 n := fun j hj => by
  rw [Nat.zero_add]
  exact ⟨by rw [cell_block h, Array.getElem?_eq_getElem (by omega)]; rfl, frozen_block h j⟩
theorem TBox.stored {w : World} {b : Nat} {cs : List Value} (hb : b < w.heap.size) (h : w.there b 0 cs.length) : TBox (w.setCells b 0 cs) b cs :=
  ⟨by rw [size_cells45]; exact hb, World.rangeAt_setCells_same w b 0 cs h, World.there_setCells h b 0 cs⟩

/-- The value of the law's argument. -/
def conV (CL : List Value) (at_ ch : Int) (p q : Pl) : Value := .agg (CL ++ [Value.int .u16 at_, .int .u8 ch, .int .i64 p.upd, .int .i64 p.row, .int .i64 p.col, .int .i64 q.upd, .int .i64 q.row, .int .i64 q.col]).toArray

theorem below_cells45 {B b : Nat} {a : World} (hb : B ≤ b) : ∀ (vs : List Value) (o : Nat) (w : World), Below B a w → Below B a (w.setCells b o vs)
  | [], _, _, h => h
  | v :: vs, o, _, h => below_cells45 hb vs (o + 1) _ (h.setCell (p := ⟨b, o, none⟩) hb v)
theorem wp_store_list {P : Program} {op : Oper} {a : Act} {w : World} {K : Act → World → Prop} {Q : Exit → Act → World → Prop} (ty : TypeId) (x y : Operand) (ho : op.op = .store ty x y) (b : Nat) (cs : List Value) (hx : a.eval x = .pointer (some ⟨b, 0, none⟩)) (hy : a.eval y = .agg cs.toArray)
    (ht : w.there b 0 cs.length) (hi : (P.info? ty).map (·.size) = some cs.length) (h1 : cs.toArray.all (·.oneCell') = true) (h : K (a.put op.dst undef) (w.setCells b 0 cs)) : op.wp P a w K Q :=
  wp_store_mid ty x y ho b 0 cs.toArray hx hy (by simpa using ht) (by simpa using hi) h1 (by simpa using h)
theorem there_new {w : World} {b n : Nat} {Z : Array Value} {t : TypeId} (hb : b = w.heap.size) (hn : Z.size = n) : (w.alloc (.cells Z t)).there b 0 n := by
  subst hb; exact there_block (block_new w _) hn
theorem TBox.apart {w : World} {b b' : Nat} {cs vs : List Value} (h : TBox w b cs) (hne : b ≠ b') : TBox (w.setCells b' 0 vs) b cs :=
  ⟨by rw [size_cells45]; exact h.1, World.rangeAt_setCells_apart h.2.1 b' 0 vs (.inl hne), World.there_setCells h.2.2 b' 0 vs⟩
theorem wpList_store_list {P : Program} {ops : Array Oper} {rest : List Oper} {op : Oper} {a : Act} {w : World} {Q : Exit → Act → World → Prop} (hgd : op.guard = none) (ty : TypeId) (x y : Operand) (ho : op.op = .store ty x y) (b : Nat) (cs : List Value) (hx : a.eval x = .pointer (some ⟨b, 0, none⟩)) (hy : a.eval y = .agg cs.toArray)
    (ht : w.there b 0 cs.length) (hi : (P.info? ty).map (·.size) = some cs.length) (h1 : cs.toArray.all (·.oneCell') = true) (h : wpList P ops Q rest (a.put op.dst undef) (w.setCells b 0 cs)) : wpList P ops Q (op :: rest) a w :=
  wpList_plain hgd fun _ hK => wp_store_list ty x y ho b cs hx hy ht hi h1 (hK _ _ h)
theorem TBox.set {w : World} {b : Nat} {cs : List Value} (h : TBox w b cs) {j : Nat} (hj : j < cs.length) (v : Value) : TBox (w.setCell ⟨b, j, none⟩ v) b (cs.set j v) := by
  obtain ⟨h1, h2, h3⟩ := h
  refine ⟨by simp; exact h1, fun k u hk => ?_, fun k hk => ⟨?_, ?_⟩⟩
  · rw [List.getElem?_set] at hk
    by_cases hjk : j = k
    · subst hjk
      rw [if_pos rfl, if_pos hj] at hk
      cases hk
      have hs := (h3 j hj).1
      rw [Nat.zero_add] at hs ⊢
      exact World.cell?_setCell_same' w _ _ hs
    · rw [if_neg hjk] at hk
      rw [World.cell?_setCell_other w _ _ _ (fun e => hjk (by injection e with e1 e2; omega))]
      exact h2 k u hk
  · rw [List.length_set] at hk
    by_cases hjk : j = k
    · subst hjk
      have hs := (h3 j hj).1
      rw [Nat.zero_add] at hs ⊢
      rw [World.cell?_setCell_same' w _ _ hs]; rfl
    · rw [World.cell?_setCell_other w _ _ _ (fun e => hjk (by injection e with e1 e2; omega))]
      exact (h3 k hk).1
  · rw [List.length_set] at hk
    rw [World.frozen?_setCell]; exact (h3 k hk).2
/-- A load of many cells in a plain region, guarded or not. -/
theorem wpList_load_w {P : Program} {ops : Array Oper} {rest : List Oper} {op : Oper} {a : Act} {w : World} {Q : Exit → Act → World → Prop} (hw : Region.wanted op (yielded ops a.tmps) = true) (ty : TypeId) (x : Operand) (ho : op.op = .load ty x)
    (b o : Nat) (hx : a.eval x = .pointer (some ⟨b, o, none⟩)) (cs : List Value) (d : TypeDesc) (hc : w.rangeAt b o cs)
    (hu : P.underlying ty = some d) (hd : d.isRow = true) (hi : (P.info? ty).map (·.size) = some cs.length)
    (h : wpList P ops Q rest (a.put op.dst (.agg cs.toArray)) w) : wpList P ops Q (op :: rest) a w :=
  wpList_step fun K hK => by
    rw [if_pos hw]
    exact wp_load_mid ty x ho b o hx cs d hc hu hd hi (hK _ _ h)
end Go.Proofs.YtdmnnjpbndngeaaDoor
