/- Chapter 45: the walk of the law ClippingConcealed. -/
import Derived.Test.YtdmnnjpbndngeaaDoorQ13
import Derived.Test.YtdmnnjpbndngeaaDoorTail2
import Derived.Test.YtdmnnjpbndngeaaDoorOpen
import Derived.Deep.RegionLaw
namespace Go.Proofs.YtdmnnjpbndngeaaDoor
open Go.RowKit Go.Shelf

theorem el_crows : ElemOf Tryd.prog 22 48 (.slice none 0 0) 1 24 := ⟨Tryd.underlying22, by kernel_rfl, rfl, by omega, by omega⟩
theorem el_cell45 : ElemOf Tryd.prog 48 47 (.agg #[.string ⟨#[]⟩, .int .i64 0, .int .i64 0, .int .i64 0, .int .i64 0]) 5 48 := ⟨Tryd.underlying48, by kernel_rfl, rfl, by omega, by omega⟩
theorem makesPlace : MakesZ Tryd.prog 41 #[.int .i64 0, .int .i64 0, .int .i64 0] := fun w => by
  go_simp

set_option maxRecDepth 100000 in
set_option maxHeartbeats 20000000 in
theorem concealedLawP (wL : World) (A : Option Addr) (c : Nat) (t : Tm) (h : CRows2 wL wL.heap.size A t.rows) (hT : Tabs wL) (at_ ch : Int) (ha : 0 ≤ at_ ∧ at_ < 65536) (hch : 0 ≤ ch ∧ ch < 256) (p q : Pl) :
    Calls Tryd.prog 3 #[conV (t.cells A c).toList at_ ch p q] wL fun e w' => e = .returned (.bool true) ∧ Below wL.heap.size wL w' := by
  have hval := t.val_cells A c
  have hone := t.cells_one A c
  obtain ⟨CL, hCL⟩ : ∃ CL : List Value, CL = (t.cells A c).toList := ⟨_, rfl⟩
  have hCS : t.cells A c = CL.toArray := by rw [hCL]
  have hsz : CL.length = 42 := by rw [hCL]; rfl
  rw [← hCL]
  rw [hCS] at hval hone
  unfold conV
  obtain ⟨Z, hZs, hZ⟩ := alloc38
  have HZ := hide hZ
  obtain ⟨W0, hW0⟩ : ∃ W0, wL.alloc (.cells (CL ++ [Value.int .u16 at_, .int .u8 ch, .int .i64 p.upd, .int .i64 p.row, .int .i64 p.col, .int .i64 q.upd, .int .i64 q.row, .int .i64 q.col]).toArray 43) = W0 := ⟨_, rfl⟩
  have hbox : Below wL.heap.size wL W0 := by rw [← hW0]; exact (Below.refl wL.heap.size wL).alloc (Nat.le_refl _) _
  have hblk : W0.heap[wL.heap.size]? = some (.cells (CL ++ [Value.int .u16 at_, .int .u8 ch, .int .i64 p.upd, .int .i64 p.row, .int .i64 p.col, .int .i64 q.upd, .int .i64 q.row, .int .i64 q.col]).toArray 43 (0, 0)) := by rw [← hW0]; exact block_new wL _
  have hs0 : wL.heap.size < W0.heap.size := block_lt hblk
  have HS := hide (fun (W2 : World) (hb : Below W0.heap.size W0 W2) => show W2.rangeAt wL.heap.size 0 CL ∧ W2.cell? ⟨wL.heap.size, 42, none⟩ = some (.int .u16 at_) ∧ W2.cell? ⟨wL.heap.size, 43, none⟩ = some (.int .u8 ch) ∧ W2.cell? ⟨wL.heap.size, 44, none⟩ = some (.int .i64 p.upd) ∧ W2.cell? ⟨wL.heap.size, 45, none⟩ = some (.int .i64 p.row) ∧ W2.cell? ⟨wL.heap.size, 46, none⟩ = some (.int .i64 p.col) ∧ W2.cell? ⟨wL.heap.size, 47, none⟩ = some (.int .i64 q.upd) ∧ W2.cell? ⟨wL.heap.size, 48, none⟩ = some (.int .i64 q.row) ∧ W2.cell? ⟨wL.heap.size, 49, none⟩ = some (.int .i64 q.col) from by
    have hk := block_below hblk hb hs0
    refine ⟨fun j v hj => ?_, ?_⟩
    · have hjl := (List.getElem?_eq_some_iff.1 hj).1
      rw [Nat.zero_add, cell_block hk, List.getElem?_toArray, List.getElem?_append_left hjl]
      exact hj
    · have hk2 : ∀ i, W2.cell? ⟨wL.heap.size, 42 + i, none⟩ = [Value.int .u16 at_, .int .u8 ch, .int .i64 p.upd, .int .i64 p.row, .int .i64 p.col, .int .i64 q.upd, .int .i64 q.row, .int .i64 q.col][i]? := fun i => by
        rw [cell_block hk, List.getElem?_toArray, List.getElem?_append_right (by omega), hsz]
        congr 1; omega
      exact ⟨hk2 0, hk2 1, hk2 2, hk2 3, hk2 4, hk2 5, hk2 6, hk2 7⟩)
  have Hone := hide hone
  have Hsz := hide hsz
  have Hbox := hide hbox
  have Hval := hide hval
  have HCL := hide hCL
  have HLg := hide (fun (W2 : World) (hb : Below wL.heap.size wL W2) => large15 W2 A c t ((h.below hb).more hb.size))
  have HSh := hide (fun (W2 : World) (hb : Below wL.heap.size wL W2) (ht : TameC t.rows) => show15 W2 A c t ((h.below hb).more hb.size) ht)
  have HOf := hide (fun (W2 : World) (hb : Below wL.heap.size wL W2) (ht : TameC t.rows) (hs : showB t.W t.H t.rows t.row t.col = true) => ofP W2 A c t ((h.below hb).more hb.size) ht (hT.below hb) hs)
  have HA := hide (fun (W2 : World) (hb : Below wL.heap.size wL W2) => awakeP W2 (hT.below hb))
  rw [hval] at HLg HSh HOf
  have HH := hide h
  have HT := hide (fun (W2 : World) (hb : Below wL.heap.size wL W2) => hT.below hb)
  clear hblk hone hbox hval hCL hCS hsz h hT hZ
  go_enter Tryd.func3, Tryd.ntmps3
  go_upto_region 1 with fail
  clear hW0
  go_cut [3, 4, 5, 6, 7] (fun s3 s4 s5 s6 s7 wx => ∃ b3 b6 b7, s3 = .pointer (some ⟨b3, 0, none⟩) ∧ s4 = .int .u16 at_ ∧ s5 = .int .u8 ch ∧ s6 = .pointer (some ⟨b6, 0, none⟩) ∧ s7 = .pointer (some ⟨b7, 0, none⟩) ∧ TBox wx b3 CL ∧ TBox wx b6 [.int .i64 p.upd, .int .i64 p.row, .int .i64 p.col] ∧ TBox wx b7 [.int .i64 q.upd, .int .i64 q.row, .int .i64 q.col] ∧ Below W0.heap.size W0 wx ∧ W0.heap.size ≤ b3)
  case first =>
    refine td_begin (by kernel_rfl) ?_
    (refine tda_take 0 (v := ?_) rfl (by kernel_rfl) (by decide +kernel) (by decide +kernel) (fun _ _ _ h => h) (by rfl) ?_ ?_; rotate_left; (· (intro w; (go_simp <;> with_reducible rfl))); (try simp only [Act.put, List.setIfInBounds_toArray, List.set_cons_zero, List.set_cons_succ]))
    (refine tda_take 2 (v := ?_) rfl (by kernel_rfl) (by decide +kernel) (by decide +kernel) (fun _ _ _ h => h) (by rfl) ?_ ?_; rotate_left; (· (intro w; (go_simp <;> with_reducible rfl))); (try simp only [Act.put, List.setIfInBounds_toArray, List.set_cons_zero, List.set_cons_succ]))
    (refine tda_take 4 (v := ?_) rfl (by kernel_rfl) (by decide +kernel) (by decide +kernel) (fun _ _ _ h => h) (by rfl) ?_ ?_; rotate_left; (· (intro w; (go_simp <;> with_reducible rfl))); (try simp only [Act.put, List.setIfInBounds_toArray, List.set_cons_zero, List.set_cons_succ]))
    (refine tda_take 6 (v := ?_) rfl (by kernel_rfl) (by decide +kernel) (by decide +kernel) (fun _ _ _ h => h) (by rfl) ?_ ?_; rotate_left; (· (intro w; (go_simp <;> with_reducible rfl))); (try simp only [Act.put, List.setIfInBounds_toArray, List.set_cons_zero, List.set_cons_succ]))
    (refine tda_take 8 (v := ?_) rfl (by kernel_rfl) (by decide +kernel) (by decide +kernel) (fun _ _ _ h => h) (by rfl) ?_ ?_; rotate_left; (· (intro w; (go_simp <;> with_reducible rfl))); (try simp only [Act.put, List.setIfInBounds_toArray, List.set_cons_zero, List.set_cons_succ]))
    refine td_hold (fun W2 => W2.rangeAt wL.heap.size 0 CL ∧ W2.cell? ⟨wL.heap.size, 42, none⟩ = some (.int .u16 at_) ∧ W2.cell? ⟨wL.heap.size, 43, none⟩ = some (.int .u8 ch) ∧ W2.cell? ⟨wL.heap.size, 44, none⟩ = some (.int .i64 p.upd) ∧ W2.cell? ⟨wL.heap.size, 45, none⟩ = some (.int .i64 p.row) ∧ W2.cell? ⟨wL.heap.size, 46, none⟩ = some (.int .i64 p.col) ∧ W2.cell? ⟨wL.heap.size, 47, none⟩ = some (.int .i64 q.upd) ∧ W2.cell? ⟨wL.heap.size, 48, none⟩ = some (.int .i64 q.row) ∧ W2.cell? ⟨wL.heap.size, 49, none⟩ = some (.int .i64 q.col)) [] (by decide +kernel) ?_ (fun hHeld => ?_)
    · (exact HS.out _ (by repeat (first | with_reducible exact hb' | with_reducible exact Below.refl _ _ | with_reducible refine bD ?_ | with_reducible refine below_cells45 (by assumption) _ _ _ ?_)))
    (refine td_take 1 (v := ?_) rfl (by decide) (by kernel_rfl) (by decide +kernel) (by decide +kernel) (fun _ _ _ h => h) (by assumption) (by rfl) ?_ ?_; rotate_left; (· (intro w hSw; (try dsimp only at hSw); (refine exec_load_mid 38 (.tmp 17) ?_ wL.heap.size 0 ?_ CL _ hSw.1 Tryd.underlying38 rfl (by rw [Hsz.out]; kernel_rfl); all_goals rfl))); (try simp only [Act.put, List.setIfInBounds_toArray, List.set_cons_zero, List.set_cons_succ]))
    (refine td_take 3 (v := ?_) rfl (by decide) (by kernel_rfl) (by decide +kernel) (by decide +kernel) (fun _ _ _ h => h) (by assumption) (by rfl) ?_ ?_; rotate_left; (· (intro w hSw; (try dsimp only at hSw); (go_simp <;> with_reducible rfl))); (try simp only [Act.put, List.setIfInBounds_toArray, List.set_cons_zero, List.set_cons_succ]))
    (refine td_take 5 (v := ?_) rfl (by decide) (by kernel_rfl) (by decide +kernel) (by decide +kernel) (fun _ _ _ h => h) (by assumption) (by rfl) ?_ ?_; rotate_left; (· (intro w hSw; (try dsimp only at hSw); (go_simp <;> with_reducible rfl))); (try simp only [Act.put, List.setIfInBounds_toArray, List.set_cons_zero, List.set_cons_succ]))
    (refine td_take 7 (v := ?_) rfl (by decide) (by kernel_rfl) (by decide +kernel) (by decide +kernel) (fun _ _ _ h => h) (by assumption) (by rfl) ?_ ?_; rotate_left; (· (intro w hSw; (try dsimp only at hSw); (go_simp <;> with_reducible rfl))); (try simp only [Act.put, List.setIfInBounds_toArray, List.set_cons_zero, List.set_cons_succ]))
    (refine td_take 9 (v := ?_) rfl (by decide) (by kernel_rfl) (by decide +kernel) (by decide +kernel) (fun _ _ _ h => h) (by assumption) (by rfl) ?_ ?_; rotate_left; (· (intro w hSw; (try dsimp only at hSw); (go_simp <;> with_reducible rfl))); (try simp only [Act.put, List.setIfInBounds_toArray, List.set_cons_zero, List.set_cons_succ]))
    refine td_allocs3 (fuel := 5) (i := 10) (j := 11) (k := 12) (di := 3) (dj := 6) (dk := 7) rfl rfl rfl rfl rfl rfl rfl rfl rfl rfl rfl rfl HZ.out makesPlace makesPlace (fun w' hb' => HS.out _ ((bD (Below.refl _ W0)).trans hb')) (by decide) (by decide) (by decide) (by decide) (by decide) (by decide) (by decide +kernel) (by decide +kernel) (by decide +kernel) (by decide +kernel) (by decide +kernel) (by decide +kernel) (by decide +kernel) ?_
    intro b3 b6 b7 w' n1 n2 n3 s1 s2 s3 x1 x2 x3 hb'
    clear hHeld
    have hHeld : True := trivial
    have HX := hide (And.intro x1 (And.intro x2 x3))
    replace hb' : Below W0.heap.size W0 w' := (bD (Below.refl _ W0)).trans hb'
    replace s1 : W0.heap.size ≤ b3 := s1
    replace s2 : W0.heap.size ≤ b6 := s2
    replace s3 : W0.heap.size ≤ b7 := s3
    have HB := hide hb'
    have t3 := there_block x1 hZs
    have t6 := World.there_setCells (there_block (n := 3) x2 rfl) b3 0 CL
    have t7 := World.there_setCells (World.there_setCells (there_block (n := 3) x3 rfl) b3 0 CL) b6 0 [.int .i64 p.upd, .int .i64 p.row, .int .i64 p.col]
    have HT3 := hide (show TBox (((w'.setCells b3 0 CL).setCells b6 0 [.int .i64 p.upd, .int .i64 p.row, .int .i64 p.col]).setCells b7 0 [.int .i64 q.upd, .int .i64 q.row, .int .i64 q.col]) b3 CL from ((TBox.stored (block_lt x1) (by rw [Hsz.out]; exact t3)).apart n1).apart n2)
    have HT6 := hide (show TBox (((w'.setCells b3 0 CL).setCells b6 0 [.int .i64 p.upd, .int .i64 p.row, .int .i64 p.col]).setCells b7 0 [.int .i64 q.upd, .int .i64 q.row, .int .i64 q.col]) b6 [.int .i64 p.upd, .int .i64 p.row, .int .i64 p.col] from (TBox.stored (by rw [size_cells45]; exact block_lt x2) t6).apart n3)
    have HT7 := hide (show TBox (((w'.setCells b3 0 CL).setCells b6 0 [.int .i64 p.upd, .int .i64 p.row, .int .i64 p.col]).setCells b7 0 [.int .i64 q.upd, .int .i64 q.row, .int .i64 q.col]) b7 [.int .i64 q.upd, .int .i64 q.row, .int .i64 q.col] from TBox.stored (by rw [size_cells45, size_cells45]; exact block_lt x3) t7)
    have HBB := hide (show Below W0.heap.size W0 (((w'.setCells b3 0 CL).setCells b6 0 [.int .i64 p.upd, .int .i64 p.row, .int .i64 p.col]).setCells b7 0 [.int .i64 q.upd, .int .i64 q.row, .int .i64 q.col]) from below_cells45 s3 _ _ _ (below_cells45 s2 _ _ _ (below_cells45 s1 _ _ _ hb')))
    clear x1 x2 x3
    (try simp only [Act.put, List.setIfInBounds_toArray, List.set_cons_zero, List.set_cons_succ])
    repeat' (first
      | (refine td_ready (rs := [17]) (by decide +kernel) (by decide) (by simp) ?_; refine td_cons rfl (fun K hK => ?_) (td_nil); (focus (rw [if_pos (by rfl)]; refine wp_store_list 41 (.tmp 7) (.tmp 26) rfl b7 [.int .i64 q.upd, .int .i64 q.row, .int .i64 q.col] (by rfl) (by rfl) t7 (by show _ = some 3; kernel_rfl) (by simp [Value.oneCell']) ?_; (first | refine hK.out _ _ ?_ ?_ | (go_wp2_with fail; refine hK.out _ _ ?_ ?_)); (· (exact HS.out _ (by repeat (first | with_reducible exact hb' | with_reducible exact Below.refl _ _ | with_reducible refine bD ?_ | with_reducible refine below_cells45 (by assumption) _ _ _ ?_)))); clear hK K hHeld; intro hHeld; (try simp only [Act.put]))); rotate_left)
      | (refine td_ready (rs := [16]) (by decide +kernel) (by decide) (by simp) ?_; refine td_cons rfl (fun K hK => ?_) (td_nil); (focus (rw [if_pos (by rfl)]; refine wp_store_list 41 (.tmp 6) (.tmp 24) rfl b6 [.int .i64 p.upd, .int .i64 p.row, .int .i64 p.col] (by rfl) (by rfl) t6 (by show _ = some 3; kernel_rfl) (by simp [Value.oneCell']) ?_; (first | refine hK.out _ _ ?_ ?_ | (go_wp2_with fail; refine hK.out _ _ ?_ ?_)); (· (exact HS.out _ (by repeat (first | with_reducible exact hb' | with_reducible exact Below.refl _ _ | with_reducible refine bD ?_ | with_reducible refine below_cells45 (by assumption) _ _ _ ?_)))); clear hK K hHeld; intro hHeld; (try simp only [Act.put]))); rotate_left)
      | (refine td_ready (rs := [15]) (by decide +kernel) (by decide) (by simp) ?_; refine td_cons rfl (fun K hK => ?_) (td_nil); (focus (go_simp; (first | refine hK.out _ _ ?_ ?_ | (go_wp2_with fail; refine hK.out _ _ ?_ ?_)); (· (exact HS.out _ (by repeat (first | with_reducible exact hb' | with_reducible exact Below.refl _ _ | with_reducible refine bD ?_ | with_reducible refine below_cells45 (by assumption) _ _ _ ?_)))); clear hK K hHeld; intro hHeld; (try simp only [Act.put, List.setIfInBounds_toArray, List.set_cons_zero, List.set_cons_succ]))); rotate_left)
      | (refine td_ready (rs := [14]) (by decide +kernel) (by decide) (by simp) ?_; refine td_cons rfl (fun K hK => ?_) (td_nil); (focus (go_simp; (first | refine hK.out _ _ ?_ ?_ | (go_wp2_with fail; refine hK.out _ _ ?_ ?_)); (· (exact HS.out _ (by repeat (first | with_reducible exact hb' | with_reducible exact Below.refl _ _ | with_reducible refine bD ?_ | with_reducible refine below_cells45 (by assumption) _ _ _ ?_)))); clear hK K hHeld; intro hHeld; (try simp only [Act.put, List.setIfInBounds_toArray, List.set_cons_zero, List.set_cons_succ]))); rotate_left)
      | (refine td_ready (rs := [13]) (by decide +kernel) (by decide) (by simp) ?_; refine td_cons rfl (fun K hK => ?_) (td_nil); (focus (rw [if_pos (by rfl)]; refine wp_store_list 38 (.tmp 3) (.tmp 18) rfl b3 CL (by rfl) (by rfl) (by rw [Hsz.out]; exact t3) (by rw [Hsz.out]; kernel_rfl) Hone.out ?_; (first | refine hK.out _ _ ?_ ?_ | (go_wp2_with fail; refine hK.out _ _ ?_ ?_)); (· (exact HS.out _ (by repeat (first | with_reducible exact hb' | with_reducible exact Below.refl _ _ | with_reducible refine bD ?_ | with_reducible refine below_cells45 (by assumption) _ _ _ ?_)))); clear hK K hHeld; intro hHeld; (try simp only [Act.put]))); rotate_left)
      | fail)
    all_goals refine And.intro (by decide +kernel) ?_
    go_wp2_with fail
    go_meet
    case rel => exact ⟨b3, b6, b7, rfl, rfl, rfl, rfl, rfl, HT3.out, HT6.out, HT7.out, HBB.out, s1⟩
  case rest =>
    obtain ⟨b3, b6, b7, rfl, rfl, rfl, rfl, rfl, h3, h6, h7, hb1, hl3⟩ := hcut
    obtain ⟨W1, rfl⟩ : ∃ W1 : World, W1 = wc := ⟨_, rfl⟩
    have Hb1 := hide (Hbox.out.trans (hb1.mono Hbox.out.size))
    have l3 := h3.1
    have l6 := h6.1
    have l7 := h7.1
    have HBx := hide (fun (W2 : World) (hb : Below W1.heap.size W1 W2) => And.intro (h3.below hb l3) (And.intro (h6.below hb l6) (h7.below hb l7)))
    have hbL3 : wL.heap.size ≤ b3 := by omega
    clear hb1 HS hs0
    cases hlg : largeC t.rows with
    | true =>
      simp only [hlg] at HLg
      have r3 := h3.2.1
      clear hlg
      go_wp2_with (first
        | (refine wpList_load_mid rfl 38 (.tmp 3) rfl b3 0 rfl CL _ r3 Tryd.underlying38 rfl (by rw [Hsz.out]; kernel_rfl) ?_)
        | (go_at_call 4; refine (HLg.out W1 Hb1.out).mono ?_; rintro e w2 ⟨rfl, hb2⟩; have Hb2 := hide (Hb1.out.trans (hb2.mono Hb1.out.size)); clear hb2)
        | (go_at_call 6; refine (HA.out w2 Hb2.out).mono ?_; rintro e w9 ⟨rfl, hb9⟩; have Hb9 := hide (Hb2.out.trans (hb9.mono Hb2.out.size)); clear hb9)
        | fail)
      go_ret
      exact ⟨rfl, Hb9.out⟩
    | false =>
    have Ht := hide (large_tame hlg)
    simp only [hlg] at HLg
    clear hlg
    cases hsh : showB t.W t.H t.rows t.row t.col with
    | false =>
      simp only [hsh] at HSh
      have r3 := h3.2.1
      clear hsh
      go_wp2_with (first
        | (refine wpList_load_mid rfl 38 (.tmp 3) rfl b3 0 rfl CL _ r3 Tryd.underlying38 rfl (by rw [Hsz.out]; kernel_rfl) ?_)
        | (refine wpList_load_w (by rfl) 38 (.tmp 3) rfl b3 0 rfl CL _ r4 Tryd.underlying38 rfl (by rw [Hsz.out]; kernel_rfl) ?_)
        | (go_at_call 4; refine (HLg.out W1 Hb1.out).mono ?_; rintro e w2 ⟨rfl, hb2⟩; have r4 := (HBx.out w2 hb2).1.2.1; have Hb2 := hide (Hb1.out.trans (hb2.mono Hb1.out.size)); clear hb2)
        | (go_at_call 5; refine (HSh.out w2 Hb2.out Ht.out).mono ?_; rintro e w3 ⟨rfl, hb3⟩; have Hb3 := hide (Hb2.out.trans (hb3.mono Hb2.out.size)); clear hb3)
        | (go_at_call 6; refine (HA.out w3 Hb3.out).mono ?_; rintro e w9 ⟨rfl, hb9⟩; have Hb9 := hide (Hb3.out.trans (hb9.mono Hb3.out.size)); clear hb9)
        | fail)
      go_ret
      exact ⟨rfl, Hb9.out⟩
    | true =>
    simp only [hsh] at HSh
    have Hsh := hide hsh
    clear hsh
    have r3 := h3.2.1
    have hc0 : CL[0]? = some (.int .i64 t.W) := by rw [HCL.out]; rfl
    have hc1 : CL[1]? = some (.int .i64 t.H) := by rw [HCL.out]; rfl
    have hc2 : CL[2]? = some (.slice A t.rows.length c) := by rw [HCL.out]; rfl
    have Hc0 := hide hc0
    have Hc1 := hide hc1
    have Hc2 := hide hc2
    clear hc0 hc1 hc2
    go_upto_region 4 with (first
      | (refine wpList_load_mid rfl 38 (.tmp 3) rfl b3 0 rfl CL _ r3 Tryd.underlying38 rfl (by rw [Hsz.out]; kernel_rfl) ?_)
      | (refine wpList_load_w (by rfl) 38 (.tmp 3) rfl b3 0 rfl CL _ r4 Tryd.underlying38 rfl (by rw [Hsz.out]; kernel_rfl) ?_)
      | (go_at_call 4; refine (HLg.out W1 Hb1.out).mono ?_; rintro e w2 ⟨rfl, hb2⟩; have r4 := (HBx.out w2 hb2).1.2.1; have Hi2 := hide hb2; have Hb2 := hide (Hb1.out.trans (hb2.mono Hb1.out.size)); clear hb2)
      | (go_at_call 5; refine (HSh.out w2 Hb2.out Ht.out).mono ?_; rintro e w3 ⟨rfl, hb3⟩; have Hi3 := hide (Hi2.out.trans (hb3.mono Hi2.out.size)); have Hb3 := hide (Hb2.out.trans (hb3.mono Hb2.out.size)); clear hb3)
      | fail)
    clear r3 r4 HLg HSh
    -- the sizes
    obtain ⟨Wd, hWd⟩ : ∃ x, t.W = x := ⟨_, rfl⟩
    obtain ⟨Ht2, hHt⟩ : ∃ x, t.H = x := ⟨_, rfl⟩
    have hshow := Hsh.out
    unfold showB at hshow
    simp only [Bool.and_eq_true, decide_eq_true_eq] at hshow
    obtain ⟨z1, z2, -, z4⟩ := hshow
    have z1 := sizedB_of z1
    rw [hWd, hHt] at z1
    rw [hHt] at z2
    rw [hWd] at z4
    obtain ⟨n, hn⟩ : ∃ n, t.rows.length = n := ⟨_, rfl⟩
    rw [hn] at z2
    subst z2
    obtain ⟨m, hm⟩ : ∃ m : Nat, Wd = (m : Int) := ⟨Wd.toNat, by omega⟩
    subst hm
    obtain ⟨M, hM⟩ : ∃ M : Nat, m * n = M := ⟨_, rfl⟩
    have hM1 : 0 < M := by rw [← hM]; exact Nat.mul_pos (by omega) (by omega)
    have hM2 : M ≤ 132 * 60 := by rw [← hM]; exact Nat.mul_le_mul (by omega) (by omega)
    have hMI : (m : Int) * (n : Int) = (M : Int) := by rw [← hM]; simp
    obtain ⟨an, han⟩ : ∃ an : Nat, at_ = (an : Int) := ⟨at_.toNat, by omega⟩
    subst han
    have k0 := (HBx.out w3 Hi3.out).1.cell Hc0.out
    have k1 := (HBx.out w3 Hi3.out).1.cell Hc1.out
    have k2 := (HBx.out w3 Hi3.out).1.cell Hc2.out
    rw [hWd] at k0
    rw [hHt] at k1
    rw [hn] at k2
    have HM := hide hM
    have Hn := hide hn
    have HW := hide hWd
    have HHt := hide hHt
    have Hall := hide z4
    clear hM hn hWd hHt z4
    obtain ⟨N0, hN0⟩ : ∃ N0 : Nat, an % M = N0 := ⟨_, rfl⟩
    have hN0M : N0 < M := by rw [← hN0]; exact Nat.mod_lt _ hM1
    have hN0I : (an : Int) % (M : Int) = (N0 : Int) := by rw [← hN0]; simp
    obtain ⟨y, hy⟩ : ∃ y, N0 / m = y := ⟨_, rfl⟩
    obtain ⟨x, hx⟩ : ∃ x, N0 % m = x := ⟨_, rfl⟩
    have hyn : y < n := by rw [← hy]; exact Nat.div_lt_of_lt_mul (by rw [HM.out]; exact hN0M)
    have hxm : x < m := by rw [← hx]; exact Nat.mod_lt _ (by omega)
    have hyI : (N0 : Int) / (m : Int) = (y : Int) := by rw [← hy]; simp
    have hxI : (N0 : Int) % (m : Int) = (x : Int) := by rw [← hx]; simp
    have hm0 : ((m : Int) == 0) = false := by rw [beq_eq_false_iff_ne]; omega
    clear hN0 hy hx
    go_upto_region 5 with fail
    rw [hN0I]
    clear k1 hMI hN0I
    have hwy : wrap64 (y : Int) = (y : Int) := by first | exact IntWalk.i64_in _ (by omega) | (unfold wrap64; omega)
    have HR5 := hide (And.intro hwy (And.intro hxI hyI))
    clear hwy hxI hyI
    go_quiet (fail)
    simp only [HR5.out.1, HR5.out.2.1, HR5.out.2.2]
    have hb4 := below_drewN (Below.refl w3.heap.size w3) nq
    obtain ⟨W4, hW4⟩ : ∃ W4, w3.drewN nq = W4 := ⟨_, rfl⟩
    rw [hW4] at hb4 ⊢
    have Hb4 := hide (Hb3.out.trans (hb4.mono Hb3.out.size))
    have Hi4 := hide (Hi3.out.trans (hb4.mono Hi3.out.size))
    clear hW4 hb4 hm0 k0 k2 HR5
    -- the cell
    have hyl : y < t.rows.length := by rw [Hn.out]; exact hyn
    have hyI : (y : Int) < (n : Int) := by omega
    have hxI : (x : Int) < (m : Int) := by omega
    obtain ⟨ba, off, hAA, hba, A1, c1, d0, -, hrow⟩ := (HH.out.below Hb4.out).get1 hyl
    have hrs := List.all_eq_true.1 Hall.out _ (List.getElem_mem hyl)
    have hty : t.rows[y]? = some t.rows[y] := List.getElem?_eq_getElem hyl
    obtain ⟨l, hl⟩ : ∃ l, t.rows[y] = l := ⟨_, rfl⟩
    rw [hl] at d0 hrow hrs hty
    unfold rowShow at hrs
    simp only [Bool.and_eq_true, decide_eq_true_eq] at hrs
    have hlm : l.length = m := by have := hrs.1; omega
    rw [hlm] at d0
    have hxl : x < l.length := by omega
    obtain ⟨b2, o2, hA1, hbb2, e0, e1, e2, e3, e4⟩ := hrow.get hxl
    have hlx : l[x]? = some l[x] := List.getElem?_eq_getElem hxl
    have hao := List.all_eq_true.1 hrs.2.2 _ (List.getElem_mem hxl)
    obtain ⟨ce, hce⟩ : ∃ ce, l[x] = ce := ⟨_, rfl⟩
    rw [hce] at e0 e1 e2 e3 e4 hlx hao
    obtain ⟨⟨tx, wd, fo, bk, fl⟩, hcc⟩ : ∃ u, u = ce := ⟨_, rfl⟩
    subst hcc
    dsimp only at e0 e1 e2 e3 e4
    unfold attrOk at hao
    simp only [Bool.and_eq_true, decide_eq_true_eq] at hao
    obtain ⟨-, -, hf1, hf2⟩ := hao
    have Hty := hide hty
    have Hlx := hide hlx
    have Hlm := hide hlm
    have Hrow := hide hrow
    have HA1 := hide hA1
    have HAA := hide hAA
    rw [hA1] at d0
    have Hd0 := hide ((Hb4.out.cell (p := ⟨ba, off + y, none⟩) hba).symm.trans d0)
    have k2 := (HBx.out W4 Hi4.out).1.cell Hc2.out
    rw [Hn.out, hAA] at k2
    obtain ⟨W5, hW5⟩ : ∃ W5, W4.alloc (.cells #[.string tx, .int .i64 wd, .int .i64 fo, .int .i64 bk, .int .i64 fl] 47) = W5 := ⟨_, rfl⟩
    have hb5 : Below W4.heap.size W4 W5 := by rw [← hW5]; exact (Below.refl _ _).alloc (Nat.le_refl _) _
    have hbk5 : W5.heap[W4.heap.size]? = some (.cells #[.string tx, .int .i64 wd, .int .i64 fo, .int .i64 bk, .int .i64 fl] 47 (0, 0)) := by rw [← hW5]; exact block_new W4 _
    obtain ⟨g0, g1, g2, g3, g4⟩ := ce_cells hbk5
    have Hb5 := hide (Hb4.out.trans (hb5.mono Hb4.out.size))
    have Hi5 := hide (Hi4.out.trans (hb5.mono Hi4.out.size))
    clear hb5 hbk5 hty hlx hlm hrow hrs hl hce hyl hxl hA1 hAA
    have u1 : decide (fl < 0) = false := decide_eq_false (by omega)
    have u2 : decide (255 < fl) = false := decide_eq_false (by omega)
    by_cases hw1 : wd ≠ 1
    · have u0 : (wd != 1) = true := by rw [bne_iff_ne]; exact hw1
      clear hw1
      go_wp2_with (first
        | (go_at_call 6; refine (HA.out _ Hb5.out).mono ?_; rintro e w9 ⟨rfl, hb9⟩; have Hb9 := hide (Hb5.out.trans (hb9.mono Hb5.out.size)); clear hb9)
        | fail)
      go_ret
      exact ⟨rfl, Hb9.out⟩
    have hw1 := Decidable.not_not.1 hw1
    subst hw1
    cases hq : (bits BinOp.and IntKind.i64 fl 64 == 0) with
    | true =>
      go_wp2_with (first
        | (go_at_call 6; refine (HA.out _ Hb5.out).mono ?_; rintro e w9 ⟨rfl, hb9⟩; have Hb9 := hide (Hb5.out.trans (hb9.mono Hb5.out.size)); clear hb9)
        | fail)
      go_ret
      exact ⟨rfl, Hb9.out⟩
    | false =>
    have Hhid := hide (show hidF ⟨tx, 1, fo, bk, fl⟩ = true by unfold hidF; unfold bne; dsimp only; rw [hq]; rfl)
    go_upto_region 9 with fail
    clear g0 g1 g2 g3 g4 u1 u2 hq d0 e0 e1 e2 e3 e4 k2
    -- the copy of the terminal
    have r5 := (HBx.out W5 Hi5.out).1.2.1
    obtain ⟨W6, hW6⟩ : ∃ W6, (W5.alloc (.cells Z 38)).setCells W5.heap.size 0 CL = W6 := ⟨_, rfl⟩
    have t5 : (W5.alloc (.cells Z 38)).there W5.heap.size 0 CL.length := by rw [Hsz.out]; exact there_new rfl hZs
    have T6 : TBox W6 W5.heap.size CL := by rw [← hW6]; exact TBox.stored (by simp) t5
    have hb6 : Below W5.heap.size W5 W6 := by rw [← hW6]; exact below_cells45 (Nat.le_refl _) _ _ _ ((Below.refl _ _).alloc (Nat.le_refl _) _)
    have Hb6 := hide (Hb5.out.trans (hb6.mono Hb5.out.size))
    have Hi6 := hide (Hi5.out.trans (hb6.mono Hi5.out.size))
    have T6b := T6.1
    have HT6 := hide T6
    have hs16 : W1.heap.size ≤ W5.heap.size := Hi5.out.size
    -- the slices of the rows
    obtain ⟨vs, hvl, hvr⟩ := list_of n (R := fun i v => ∃ (r : List Ce) (A' : Option Addr) (c' : Nat), t.rows[i]? = some r ∧ v = .slice A' r.length c' ∧ wL.cell? ⟨ba, off + i, none⟩ = some v ∧ r.length ≤ c' ∧ CeRow wL wL.heap.size A' r) fun i hi => by
      have hil : i < t.rows.length := by rw [Hn.out]; exact hi
      obtain ⟨b', o', hA', -, A', c', w0, w1, w2⟩ := HH.out.get1 hil
      rw [HAA.out] at hA'
      cases hA'
      exact ⟨_, t.rows[i], A', c', List.getElem?_eq_getElem hil, rfl, w0, w1, w2⟩
    have hone1 : ∀ u ∈ vs, u.oneCell' = true := fun u hu => by
      obtain ⟨i, hi, rfl⟩ := List.getElem_of_mem hu
      obtain ⟨r, A', c', -, e1, -⟩ := hvr i _ (List.getElem?_eq_getElem hi)
      rw [e1]; rfl
    have Hvr := hide hvr
    have Hone1 := hide hone1
    have Hvl := hide hvl
    clear hvr hone1 hb6 T6 hvl
    go_upto_region 10 with (first
      | (refine wpList_load_mid rfl 38 (.tmp 3) rfl b3 0 rfl CL _ r5 Tryd.underlying38 rfl (by rw [Hsz.out]; kernel_rfl) ?_)
      | (refine wpList_alloc38 HZ.out rfl rfl ?_)
      | (refine wpList_store_list rfl 38 (.tmp 12) (.tmp 87) rfl W5.heap.size CL rfl rfl t5 (by rw [Hsz.out]; kernel_rfl) Hone.out ?_)
      | fail)
    clear r5 t5
    rw [hW6]
    clear hW6
    obtain ⟨W7, hW7⟩ : ∃ W7, W6.alloc (.cells #[] 48) = W7 := ⟨_, rfl⟩
    have hb7 : Below W6.heap.size W6 W7 := by rw [← hW7]; exact (Below.refl _ _).alloc (Nat.le_refl _) _
    have hown7 : W7.ownsRow W6.heap.size 48 1 (.slice (some ⟨W6.heap.size, 0, none⟩) 0 0) 0 [] := by
      rw [← hW7]; exact own_lit W6 W6.heap.size 48 1 0 #[] (Nat.le_refl _) (by omega) rfl
    have Hi7 := hide (Hi6.out.trans (hb7.mono Hi6.out.size))
    have Hb7 := hide (Hb6.out.trans (hb7.mono Hb6.out.size))
    have k2 := (HBx.out W7 Hi7.out).1.cell Hc2.out
    rw [Hn.out, HAA.out] at k2
    have hs7 := hb7.size
    have hvc : ∀ j u, vs[j]? = some u → W7.cell? ⟨ba, off + j, none⟩ = some u := fun j u hu => by
      obtain ⟨r, A', c', -, -, e3, -⟩ := Hvr.out j u hu
      exact (Hb7.out.cell (p := ⟨ba, off + j, none⟩) hba).trans e3
    have Hvc := hide hvc
    have Hown7 := hide hown7
    have HB7 := hide hb7
    have hvl1 : vs.length = n * 1 := by rw [Hvl.out]; omega
    have Hvl1 := hide hvl1
    clear hvc hown7 hb7 hvl1
    go_upto_region 11 with (first
      | (at_builtin; refine wpList_apps W7 (.tmp 88) (.tmp 91) 22 rfl (by rfl) el_crows W6.heap.size _ 0 [] (by rfl) Hown7.out hs7 ba off n c vs (by rfl) Hvl1.out Hvc.out Hone1.out (by omega) ?_; intro v8 w8 hown8 hg8; rw [Nat.zero_add, List.nil_append] at hown8; obtain ⟨g8, c8, rfl, hg8a, hg8b⟩ := own_form1 hown8 (by omega); have hb8 := below_own HB7.out Hown7.out hg8 (Nat.le_refl _) hs7; have T8 := HT6.out.below hb8 T6b; have x2 := T8.cell Hc2.out; have x2f := T8.free (j := 2) (by rw [Hsz.out]; omega))
      | fail)
    -- the row
    obtain ⟨W9, hW9⟩ : ∃ W9, w8.setCell ⟨W5.heap.size, 2, none⟩ (.slice (some ⟨g8, 0, none⟩) n c8) = W9 := ⟨_, rfl⟩
    have T9 : TBox W9 W5.heap.size (CL.set 2 (.slice (some ⟨g8, 0, none⟩) n c8)) := by rw [← hW9]; exact T8.set (by rw [Hsz.out]; omega) _
    have hown9 : W9.ownsRow W6.heap.size 48 1 (.slice (some ⟨g8, 0, none⟩) n c8) n vs := by
      rw [← hW9]; exact ownsRow_setCell_below hown8 (a := ⟨W5.heap.size, 2, none⟩) T6b _
    have hb89 : Below W6.heap.size W6 w8 := hb8
    have hi9 : Below W1.heap.size W1 W9 := by
      rw [← hW9]
      exact (Hi6.out.trans (hb8.mono Hi6.out.size)).setCell (p := ⟨W5.heap.size, 2, none⟩) hs16 _
    rw [hW9]
    have hs69 : W6.heap.size ≤ W9.heap.size := by rw [← hW9]; simpa using hb8.size
    clear hW9 x2 x2f T8 hown8 hg8 hb8 hb89 hW7 k2
    have Hi9 := hide hi9
    have Hb9 := hide (Hb1.out.trans (hi9.mono Hb1.out.size))
    have x2 : W9.cell? ⟨W5.heap.size, 2, none⟩ = some (.slice (some ⟨g8, 0, none⟩) n c8) := T9.cell (by rw [List.getElem?_set_self (by rw [Hsz.out]; omega)])
    have k2 := (HBx.out W9 hi9).1.cell Hc2.out
    rw [Hn.out, HAA.out] at k2
    have d0 : W9.cell? ⟨ba, off + y, none⟩ = some (.slice (some ⟨b2, o2, none⟩) m c1) := (Hb9.out.cell (p := ⟨ba, off + y, none⟩) hba).trans Hd0.out
    have HT9 := hide T9
    have Hown9 := hide hown9
    have hg89 : g8 < W9.heap.size := by
      rcases hown9.2 with ⟨h, -⟩ | ⟨g, cap, cur, h, -, hg, -⟩
      · cases h
      · cases h; exact block_lt hg
    obtain ⟨cur, hgb, hcur⟩ : ∃ cur, W9.heap[g8]? = some (.cells cur 48 (0, 0)) ∧ y < cur.size := by
      rcases hown9.2 with ⟨h, -⟩ | ⟨g, cap, cur, h, -, hg, hnc, -, hsz, -⟩
      · cases h
      · cases h; exact ⟨cur, hg, by omega⟩
    clear T9 hown9 hi9
    obtain ⟨W10, hW10⟩ : ∃ W10, W9.alloc (.cells #[] 47) = W10 := ⟨_, rfl⟩
    have hb10 : Below W9.heap.size W9 W10 := by rw [← hW10]; exact (Below.refl _ _).alloc (Nat.le_refl _) _
    have hs10 : W9.heap.size ≤ W10.heap.size := hb10.size
    have hown10 : W10.drew.ownsRow W9.heap.size 47 5 (.slice (some ⟨W9.heap.size, 0, none⟩) 0 0) 0 [] := by
      rw [← hW10]; exact own_lit W9 W9.heap.size 47 5 0 #[] (Nat.le_refl _) (by omega) rfl
    have Hown10 := hide hown10
    have HB10 := hide hb10
    have hq5 : W5.heap.size < W9.heap.size := by omega
    have x2' : W10.cell? ⟨W5.heap.size, 2, none⟩ = some (.slice (some ⟨g8, 0, none⟩) n c8) := (hb10.cell (p := ⟨W5.heap.size, 2, none⟩) hq5).trans x2
    have k2' : W10.cell? ⟨b3, 2, none⟩ = some (.slice (some ⟨ba, off, none⟩) n c) := (hb10.cell (p := ⟨b3, 2, none⟩) (by have := Hi9.out.size; show b3 < W9.heap.size; omega)).trans k2
    have d0' : W10.cell? ⟨ba, off + y, none⟩ = some (.slice (some ⟨b2, o2, none⟩) m c1) := (hb10.cell (p := ⟨ba, off + y, none⟩) (by have := Hb9.out.size; show ba < W9.heap.size; omega)).trans d0
    have hnews : ∀ j u, (l.flatMap Ce.enc)[j]? = some u → W10.drew.cell? ⟨b2, o2 + j, none⟩ = some u := by
      have hlow : ∀ o, W10.drew.cell? ⟨b2, o, none⟩ = W4.cell? ⟨b2, o, none⟩ := fun o => ((Hb9.out.trans (hb10.mono Hb9.out.size)).cell (p := ⟨b2, o, none⟩) hbb2).trans (Hb4.out.cell (p := ⟨b2, o, none⟩) hbb2).symm
      have hr := Hrow.out
      rw [HA1.out] at hr
      obtain ⟨b', o', e, -, hc⟩ := hr (by rw [Hlm.out]; omega)
      cases e
      refine flat_cells (sz := 5) (fun _ => rfl) l (fun j u => W10.drew.cell? ⟨b2, o2 + j, none⟩ = some u) fun k x hx j u hj => ?_
      obtain ⟨f0, f1, f2, f3, f4⟩ := hc k x hx
      rw [hlow, ← Nat.add_assoc]
      match j, hj with
      | 0, hj => cases hj; exact f0
      | 1, hj => cases hj; exact f1
      | 2, hj => cases hj; exact f2
      | 3, hj => cases hj; exact f3
      | 4, hj => cases hj; exact f4
      | j + 5, hj => simp [Ce.enc] at hj
    have hnl : (l.flatMap Ce.enc).length = m * 5 := by rw [flat_len (enc := Ce.enc) (sz := 5) (fun _ => rfl) l, Hlm.out]
    have hn1 : ∀ u ∈ l.flatMap Ce.enc, u.oneCell' = true := fun u hu => by
      obtain ⟨x, -, hx⟩ := List.mem_flatMap.1 hu
      simp only [Ce.enc, List.mem_cons, List.mem_nil_iff, or_false] at hx
      rcases hx with rfl | rfl | rfl | rfl | rfl <;> rfl
    have HN := hide (And.intro hnews (And.intro hnl hn1))
    clear hnews hnl hn1 hown10 hb10
    go_wp2
    go_cut [] (fun wx => ∃ g10 c10 w10, wx = w10.setCell ⟨g8, y, none⟩ (.slice (some ⟨g10, 0, none⟩) m c10) ∧ w10.ownsRow W9.heap.size 47 5 (.slice (some ⟨g10, 0, none⟩) m c10) m (l.flatMap Ce.enc) ∧ W10.drew.grownBy w10 (some W9.heap.size) ∧ g10 < w10.heap.size)
    case first =>
      go_region_law (first
        | (refine step_apps el_cell45 W10.drew (.tmp 99) (.tmp 105) (by rfl) (by rfl) W9.heap.size _ 0 [] (by rfl) Hown10.out hs10 b2 o2 m c1 (l.flatMap Ce.enc) (by rfl) (by omega) HN.out.2.1 HN.out.1 HN.out.2.2 (by omega) m (Nat.zero_add _) ?_; intro g10 c10 w10 hown11 hg10 hgl10; have hgb10 := (hg10.block g8 (show g8 < W10.heap.size by omega) (fun he => by simp [Value.ownBlock] at he; omega)).trans ((HB10.out.block g8 hg89).trans hgb); have y0 : w10.cell? ⟨g8, y, none⟩ = some cur[y] := (cell_block hgb10 y).trans (Array.getElem?_eq_getElem hcur); have y1 := frozen_block hgb10 y; have x10 : w10.cell? ⟨W5.heap.size, 2, none⟩ = some (.slice (some ⟨g8, 0, none⟩) n c8) := (World.cell?_of_block (a := ⟨W5.heap.size, 2, none⟩) (hg10.block W5.heap.size (show W5.heap.size < W10.heap.size by omega) (fun he => by simp [Value.ownBlock] at he; omega))).trans x2')
        | fail)
      all_goals
        go_wp2_with fail
        go_meet
        case rel => exact ⟨g10, c10, w10, rfl, hown11, hg10, hgl10⟩
    case rest =>
      obtain ⟨g10, c10, w10, rfl, hown11, hg10, hgl10⟩ := hcut
      -- the text of the cell
      have hg10b := (hown11.lt g10 rfl).1
      have hg810 : g8 ≠ g10 := by omega
      have hgb10 := (hg10.block g8 (show g8 < W10.heap.size by omega) (fun he => by simp at he; omega)).trans ((HB10.out.block g8 hg89).trans hgb)
      have hy10 : w10.cell? ⟨g8, y, none⟩ = some cur[y] := (cell_block hgb10 y).trans (Array.getElem?_eq_getElem hcur)
      have x12 : w10.cell? ⟨W5.heap.size, 2, none⟩ = some (.slice (some ⟨g8, 0, none⟩) n c8) := (World.cell?_of_block (a := ⟨W5.heap.size, 2, none⟩) (hg10.block W5.heap.size (show W5.heap.size < W10.heap.size by omega) (fun he => by simp at he; omega))).trans x2'
      obtain ⟨cur10, hcb, hcs⟩ : ∃ cur10, w10.heap[g10]? = some (.cells cur10 47 (0, 0)) ∧ x * 5 < cur10.size := by
        rcases hown11.2 with ⟨h, -⟩ | ⟨g, cap, cu, h, -, hg, hnc, -, hsz, -⟩
        · cases h
        · cases h; exact ⟨cu, hg, by omega⟩
      obtain ⟨W12, hW12⟩ : ∃ W12, w10.setCell ⟨g8, y, none⟩ (.slice (some ⟨g10, 0, none⟩) m c10) = W12 := ⟨_, rfl⟩
      have hW5g8 : W5.heap.size ≠ g8 := by omega
      have v1 : W12.cell? ⟨W5.heap.size, 2, none⟩ = some (.slice (some ⟨g8, 0, none⟩) n c8) := by
        rw [← hW12, World.cell?_setCell_far _ _ _ _ (fun e => hW5g8 e.symm)]; exact x12
      have v2 : W12.cell? ⟨g8, y, none⟩ = some (.slice (some ⟨g10, 0, none⟩) m c10) := by
        rw [← hW12]; exact World.cell?_setCell_same' w10 _ _ (by rw [hy10]; rfl)
      have hb12 : W12.heap[g10]? = some (.cells cur10 47 (0, 0)) := by rw [← hW12]; exact block_far hcb (fun e => hg810 e.symm) _
      have v3 : W12.cell? ⟨g10, x * 5, none⟩ = some cur10[x * 5] := (cell_block hb12 _).trans (Array.getElem?_eq_getElem hcs)
      have v4 := frozen_block hb12 (x * 5)
      obtain ⟨r, hr⟩ : ∃ r : Nat, ch % 90 = (r : Int) := ⟨(ch % 90).toNat, by omega⟩
      have hr90 : r < 90 := by omega
      rw [hW12]
      have HX := hide (And.intro hown11 (And.intro hg10 hgl10))
      have HW12 := hide hW12
      have Hcb := hide hb12
      clear hown11 hg10 hgl10 hW12 hcb hb12 hgb10 hy10 x12
      go_upto_region 13 with fail
      obtain ⟨W13, hW13⟩ : ∃ W13, W12.setCell ⟨g10, x * 5, none⟩ (.string (Utf8.encode (33 + (r : Int)))) = W13 := ⟨_, rfl⟩
      rw [hW13]
      have hi13 : Below W1.heap.size W1 W13 := by
        have hsz9 := Hi9.out.size
        have hA : Below W1.heap.size W1 W10.drew := (Hi9.out.trans (HB10.out.mono hsz9)).drew
        have hB : Below W1.heap.size W1 w10 := hA.grown HX.out.2.1 (by show W1.heap.size ≤ W10.heap.size; omega) (fun k e => by cases e; exact hsz9)
        rw [← hW13, ← HW12.out]
        exact (hB.setCell (p := ⟨g8, y, none⟩) (by show W1.heap.size ≤ g8; omega) _).setCell (p := ⟨g10, x * 5, none⟩) (by show W1.heap.size ≤ g10; omega) _
      have T13 : TBox W13 W5.heap.size (CL.set 2 (.slice (some ⟨g8, 0, none⟩) n c8)) := by
        have hA : Below W6.heap.size W9 W10.drew := (HB10.out.mono hs69).drew
        have hB : Below W6.heap.size W9 w10 := hA.grown HX.out.2.1 (by show W6.heap.size ≤ W10.heap.size; omega) (fun k e => by cases e; exact hs69)
        have hC : Below W6.heap.size W9 W13 := by
          rw [← hW13, ← HW12.out]
          exact (hB.setCell (p := ⟨g8, y, none⟩) hg8a _).setCell (p := ⟨g10, x * 5, none⟩) (by show W6.heap.size ≤ g10; omega) _
        exact HT9.out.below hC T6b
      have hcells : ({ t with rows := t.rows.set y (l.set x { (⟨tx, 1, fo, bk, fl⟩ : Ce) with text := Utf8.encode (33 + (r : Int)) }) } : Tm).cells (some ⟨g8, 0, none⟩) c8 = (CL.set 2 (.slice (some ⟨g8, 0, none⟩) n c8)).toArray := by
        rw [HCL.out]; unfold Tm.cells; dsimp only; rw [List.length_set, Hn.out]; rfl
      have hX := HX.out
      have hbw13 := Hb1.out.trans (hi13.mono Hb1.out.size)
      have hcr : CRows2 W13 W13.heap.size (some ⟨g8, 0, none⟩) (t.rows.set y (l.set x { (⟨tx, 1, fo, bk, fl⟩ : Ce) with text := Utf8.encode (33 + (r : Int)) })) := by
        have hgb13 : ∀ k u, k ≠ y → vs[k]? = some u → W13.cell? ⟨g8, k, none⟩ = some u := fun k u hk hu => by
          have hkv := (List.getElem?_eq_some_iff.1 hu).1
          rw [← hW13, World.cell?_setCell_far _ _ _ _ (fun e => hg810 e.symm), ← HW12.out, World.cell?_setCell_other _ _ _ _ (fun e => hk (by injection e with e1 e2; exact e2.symm)), World.cell?_of_block (a := ⟨g8, k, none⟩) (hX.2.1.block g8 (show g8 < W10.heap.size by omega) (fun he => by simp at he; omega))]
          show W10.cell? ⟨g8, k, none⟩ = some u
          rw [HB10.out.cell (p := ⟨g8, k, none⟩) hg89, Hown9.out.cellAt k (by rw [Hvl.out] at hkv; omega)]
          exact hu
        have hl13 : g8 < W13.heap.size := World.block_lt_of_cell? W13 ⟨g8, y, none⟩ (by rw [← hW13, World.cell?_setCell_far _ _ _ _ (fun e => hg810 e.symm)]; exact v2)
        refine fun _ => ⟨g8, 0, rfl, hl13, fun k r' hk => ?_⟩
        rw [Nat.zero_add, Nat.mul_one]
        rw [List.getElem?_set] at hk
        by_cases hky : y = k
        · subst hky
          rw [if_pos rfl, if_pos (by rw [Hn.out]; exact hyn)] at hk
          cases hk
          refine ⟨some ⟨g10, 0, none⟩, c10, ?_, ?_, ?_⟩
          · rw [List.length_set, Hlm.out, ← hW13, World.cell?_setCell_far _ _ _ _ (fun e => hg810 e.symm)]; exact v2
          · rw [List.length_set, Hlm.out]
            rcases hX.1.2 with ⟨h, -⟩ | ⟨g, cap, cu, h, -, hg, hnc, -⟩
            · cases h
            · cases h; exact hnc
          · refine fun _ => ⟨g10, 0, rfl, World.block_lt_of_cell? W13 ⟨g10, x * 5, none⟩ (by rw [← hW13]; exact World.cell?_setCell_same' W12 _ _ (by rw [v3]; rfl)), fun j e he => ?_⟩
            have htxt : W13.cell? ⟨g10, x * 5, none⟩ = some (.string (Utf8.encode (33 + (r : Int)))) := by rw [← hW13]; exact World.cell?_setCell_same' W12 _ _ (by rw [v3]; rfl)
            have hold : ∀ (e0 : Ce) (i : Nat) (u : Value), l[j]? = some e0 → (Ce.enc e0)[i]? = some u → j * 5 + i ≠ x * 5 → W13.cell? ⟨g10, j * 5 + i, none⟩ = some u := fun e0 i u h0 hu hne => by
              have hf := flat_get (enc := Ce.enc) (sz := 5) (fun _ => rfl) l j e0 i u h0 hu
              have hfl : j * 5 + i < m * 5 := by have := (List.getElem?_eq_some_iff.1 hf).1; rw [HN.out.2.1] at this; exact this
              rw [← hW13, World.cell?_setCell_other _ _ _ _ (fun e => hne (by injection e with e1 e2; exact e2.symm)), ← HW12.out, World.cell?_setCell_far _ _ _ _ hg810, hX.1.cellAt (j * 5 + i) hfl]
              exact hf
            rw [List.getElem?_set] at he
            rw [Nat.zero_add]
            generalize Utf8.encode (33 + (r : Int)) = TX at he htxt
            by_cases hjx : x = j
            · subst hjx
              rw [if_pos rfl, if_pos (List.getElem?_eq_some_iff.1 Hlx.out).1] at he
              have he2 := Option.some.inj he
              subst he2
              exact ⟨htxt, hold _ 1 _ Hlx.out rfl (by omega), hold _ 2 _ Hlx.out rfl (by omega), hold _ 3 _ Hlx.out rfl (by omega), hold _ 4 _ Hlx.out rfl (by omega)⟩
            · rw [if_neg hjx] at he
              exact ⟨hold e 0 _ he rfl (by omega), hold e 1 _ he rfl (by omega), hold e 2 _ he rfl (by omega), hold e 3 _ he rfl (by omega), hold e 4 _ he rfl (by omega)⟩
        · rw [if_neg hky] at hk
          have hkl := (List.getElem?_eq_some_iff.1 hk).1
          have hkn : k < vs.length := by rw [Hvl.out, ← Hn.out]; exact hkl
          obtain ⟨r2, A', c', e1, e2, -, e4, e5⟩ := Hvr.out k _ (List.getElem?_eq_getElem hkn)
          rw [hk] at e1
          cases e1
          refine ⟨A', c', (hgb13 k _ (fun e => hky e.symm) (List.getElem?_eq_getElem hkn)).trans (by rw [e2]), e4, (e5.below (CeAt.stays _) hbw13).more hbw13.size⟩
      have Hi13 := hide hi13
      have Hb13 := hide (Hb1.out.trans (hi13.mono Hb1.out.size))
      have HS13 := hide (fun (W2 : World) (hb : Below W13.heap.size W13 W2) => show W2.rangeAt b3 0 CL ∧ W2.cell? ⟨b6, 0, none⟩ = some (.int .i64 p.upd) ∧ W2.cell? ⟨b6, 1, none⟩ = some (.int .i64 p.row) ∧ W2.cell? ⟨b6, 2, none⟩ = some (.int .i64 p.col) ∧ W2.cell? ⟨b7, 0, none⟩ = some (.int .i64 q.upd) ∧ W2.cell? ⟨b7, 1, none⟩ = some (.int .i64 q.row) ∧ W2.cell? ⟨b7, 2, none⟩ = some (.int .i64 q.col) from
        have hx := HBx.out W2 (Hi13.out.trans (hb.mono Hi13.out.size))
        ⟨hx.1.2.1, hx.2.1.cell rfl, hx.2.1.cell rfl, hx.2.1.cell rfl, hx.2.2.cell rfl, hx.2.2.cell rfl, hx.2.2.cell rfl⟩)
      have hu38 := Tryd.underlying38
      have hi38 : (Tryd.prog.info? 38).map (·.size) = some CL.length := by rw [Hsz.out]; kernel_rfl
      have HT13 := hide T13
      have Hcells := hide hcells
      have Hcr := hide hcr
      clear hi13 v1 v2 v3 v4 hW13 T13 hcells hcr
      have HO13 := hide (fun (W2 : World) (hb : Below W13.heap.size W13 W2) => HOf.out W2 (Hb13.out.trans (hb.mono Hb13.out.size)) Ht.out Hsh.out)
      have HBt := hide (fun (W2 : World) (hb : Below W13.heap.size W13 W2) (A' : Option Addr) (c' : Nat) (hr : Rows2 W2 W2.heap.size A' (viewT t).rows) => betweenP W2 A' c' (viewT t) p q hr (viewT_tame Ht.out) (HT.out W2 (Hb13.out.trans (hb.mono Hb13.out.size))))
      unfold Pl.val at HBt
      have hbd := (Below.refl W13.heap.size W13).drew
      obtain ⟨TT, hTT⟩ : ∃ TT, betT (viewT t) p.row p.col q.row q.col = TT := ⟨_, rfl⟩
      obtain ⟨EE, hEE⟩ : ∃ EE, betE (viewT t) p.row p.col q.row q.col = EE := ⟨_, rfl⟩
      simp only [hTT, hEE] at HBt
      have HTE := hide (And.intro hTT hEE)
      clear hTT hEE hu38 hi38
      go_cut [13, 14] (fun s13 s14 wx => s13 = .string TT ∧ s14 = .int .i64 EE ∧ Below W13.heap.size W13 wx)
      case first =>
        refine td_begin (by kernel_rfl) ?_
        refine td_hold (fun W2 => W2.rangeAt b3 0 CL ∧ W2.cell? ⟨b6, 0, none⟩ = some (.int .i64 p.upd) ∧ W2.cell? ⟨b6, 1, none⟩ = some (.int .i64 p.row) ∧ W2.cell? ⟨b6, 2, none⟩ = some (.int .i64 p.col) ∧ W2.cell? ⟨b7, 0, none⟩ = some (.int .i64 q.upd) ∧ W2.cell? ⟨b7, 1, none⟩ = some (.int .i64 q.row) ∧ W2.cell? ⟨b7, 2, none⟩ = some (.int .i64 q.col)) [] (by decide +kernel) ?_ (fun hHeld => ?_)
        · (first | exact HS13.out _ hb15 | exact HS13.out _ hb14 | exact HS13.out _ hbd)
        (refine td_take 0 (v := ?_) rfl (by decide) (by kernel_rfl) (by decide +kernel) (by decide +kernel) (fun _ _ _ h => h) (by assumption) (by rfl) ?_ ?_; rotate_left; (· (intro w hSw; (try dsimp only at hSw); (refine exec_load_mid 38 (.tmp 3) ?_ b3 0 ?_ CL _ hSw.1 Tryd.underlying38 rfl (by rw [Hsz.out]; kernel_rfl); all_goals rfl))); (try simp only [Act.put, List.setIfInBounds_toArray, List.set_cons_zero, List.set_cons_succ]))
        (refine td_take 2 (v := ?_) rfl (by decide) (by kernel_rfl) (by decide +kernel) (by decide +kernel) (fun _ _ _ h => h) (by assumption) (by rfl) ?_ ?_; rotate_left; (· (intro w hSw; (try dsimp only at hSw); (go_simp <;> with_reducible rfl))); (try simp only [Act.put, List.setIfInBounds_toArray, List.set_cons_zero, List.set_cons_succ]))
        (refine td_take 3 (v := ?_) rfl (by decide) (by kernel_rfl) (by decide +kernel) (by decide +kernel) (fun _ _ _ h => h) (by assumption) (by rfl) ?_ ?_; rotate_left; (· (intro w hSw; (try dsimp only at hSw); (go_simp <;> with_reducible rfl))); (try simp only [Act.put, List.setIfInBounds_toArray, List.set_cons_zero, List.set_cons_succ]))
        repeat' (first
          | (refine td_ready (rs := [1]) (by decide +kernel) (by decide) (by simp) ?_; refine td_cons rfl (fun K hK => ?_) (td_nil); (focus (go_simp; go_at_call 8; refine (HO13.out _ hbd).mono ?_; rintro e w14 ⟨A14, c14, rfl, hc14, hr14, hb14'⟩; have hb14 := hbd.trans (hb14'.mono hbd.size); (first | refine hK.out _ _ ?_ ?_ | (go_wp2_with fail; refine hK.out _ _ ?_ ?_)); (· (first | exact HS13.out _ hb15 | exact HS13.out _ hb14 | exact HS13.out _ hbd)); clear hK K hHeld; intro hHeld; (try simp only [Act.put, List.setIfInBounds_toArray, List.set_cons_zero, List.set_cons_succ]))); rotate_left)
          | (refine td_ready (rs := [4]) (by decide +kernel) (by decide) (by simp) ?_; refine td_cons rfl (fun K hK => ?_) (td_nil); (focus (go_simp; go_at_call 7; refine (HBt.out w14 hb14 A14 c14 hr14).mono ?_; rintro e w15 ⟨rfl, hb15'⟩; have hb15 := hb14.trans (hb15'.mono hb14.size); (first | refine hK.out _ _ ?_ ?_ | (go_wp2_with fail; refine hK.out _ _ ?_ ?_)); (· (first | exact HS13.out _ hb15 | exact HS13.out _ hb14 | exact HS13.out _ hbd)); clear hK K hHeld; intro hHeld; (try simp only [Act.put, List.setIfInBounds_toArray, List.set_cons_zero, List.set_cons_succ]))); rotate_left)
          | (refine td_ready (rs := [5]) (by decide +kernel) (by decide) (by simp) ?_; refine td_cons rfl (fun K hK => ?_) (td_nil); (focus (go_simp; (first | refine hK.out _ _ ?_ ?_ | (go_wp2_with fail; refine hK.out _ _ ?_ ?_)); (· (first | exact HS13.out _ hb15 | exact HS13.out _ hb14 | exact HS13.out _ hbd)); clear hK K hHeld; intro hHeld; (try simp only [Act.put, List.setIfInBounds_toArray, List.set_cons_zero, List.set_cons_succ]))); rotate_left)
          | (refine td_ready (rs := [6, 7]) (by decide +kernel) (by decide) (by simp) ?_; refine td_cons rfl (fun K hK => ?_) (td_cons rfl (fun K hK => ?_) (td_nil)); (focus (go_simp; (first | refine hK.out _ _ ?_ ?_ | (go_wp2_with fail; refine hK.out _ _ ?_ ?_)); (· (first | exact HS13.out _ hb15 | exact HS13.out _ hb14 | exact HS13.out _ hbd)); clear hK K hHeld; intro hHeld; (try simp only [Act.put, List.setIfInBounds_toArray, List.set_cons_zero, List.set_cons_succ]))); rotate_left; (focus (go_simp; (first | refine hK.out _ _ ?_ ?_ | (go_wp2_with fail; refine hK.out _ _ ?_ ?_)); (· (first | exact HS13.out _ hb15 | exact HS13.out _ hb14 | exact HS13.out _ hbd)); clear hK K hHeld; intro hHeld; (try simp only [Act.put, List.setIfInBounds_toArray, List.set_cons_zero, List.set_cons_succ]))); rotate_left)
          | (refine td_ready (rs := [7, 8]) (by decide +kernel) (by decide) (by simp) ?_; refine td_cons rfl (fun K hK => ?_) (td_cons rfl (fun K hK => ?_) (td_nil)); (focus (go_simp; (first | refine hK.out _ _ ?_ ?_ | (go_wp2_with fail; refine hK.out _ _ ?_ ?_)); (· (first | exact HS13.out _ hb15 | exact HS13.out _ hb14 | exact HS13.out _ hbd)); clear hK K hHeld; intro hHeld; (try simp only [Act.put, List.setIfInBounds_toArray, List.set_cons_zero, List.set_cons_succ]))); rotate_left; (focus (go_simp; (first | refine hK.out _ _ ?_ ?_ | (go_wp2_with fail; refine hK.out _ _ ?_ ?_)); (· (first | exact HS13.out _ hb15 | exact HS13.out _ hb14 | exact HS13.out _ hbd)); clear hK K hHeld; intro hHeld; (try simp only [Act.put, List.setIfInBounds_toArray, List.set_cons_zero, List.set_cons_succ]))); rotate_left)
          | (refine td_ready (rs := [6, 9]) (by decide +kernel) (by decide) (by simp) ?_; refine td_cons rfl (fun K hK => ?_) (td_cons rfl (fun K hK => ?_) (td_nil)); (focus (go_simp; (first | refine hK.out _ _ ?_ ?_ | (go_wp2_with fail; refine hK.out _ _ ?_ ?_)); (· (first | exact HS13.out _ hb15 | exact HS13.out _ hb14 | exact HS13.out _ hbd)); clear hK K hHeld; intro hHeld; (try simp only [Act.put, List.setIfInBounds_toArray, List.set_cons_zero, List.set_cons_succ]))); rotate_left; (focus (go_simp; (first | refine hK.out _ _ ?_ ?_ | (go_wp2_with fail; refine hK.out _ _ ?_ ?_)); (· (first | exact HS13.out _ hb15 | exact HS13.out _ hb14 | exact HS13.out _ hbd)); clear hK K hHeld; intro hHeld; (try simp only [Act.put, List.setIfInBounds_toArray, List.set_cons_zero, List.set_cons_succ]))); rotate_left)
          | (refine td_ready (rs := [8, 9]) (by decide +kernel) (by decide) (by simp) ?_; refine td_cons rfl (fun K hK => ?_) (td_cons rfl (fun K hK => ?_) (td_nil)); (focus (go_simp; (first | refine hK.out _ _ ?_ ?_ | (go_wp2_with fail; refine hK.out _ _ ?_ ?_)); (· (first | exact HS13.out _ hb15 | exact HS13.out _ hb14 | exact HS13.out _ hbd)); clear hK K hHeld; intro hHeld; (try simp only [Act.put, List.setIfInBounds_toArray, List.set_cons_zero, List.set_cons_succ]))); rotate_left; (focus (go_simp; (first | refine hK.out _ _ ?_ ?_ | (go_wp2_with fail; refine hK.out _ _ ?_ ?_)); (· (first | exact HS13.out _ hb15 | exact HS13.out _ hb14 | exact HS13.out _ hbd)); clear hK K hHeld; intro hHeld; (try simp only [Act.put, List.setIfInBounds_toArray, List.set_cons_zero, List.set_cons_succ]))); rotate_left)
          | (refine td_ready (rs := [6]) (by decide +kernel) (by decide) (by simp) ?_; refine td_cons rfl (fun K hK => ?_) (td_nil); (focus (go_simp; (first | refine hK.out _ _ ?_ ?_ | (go_wp2_with fail; refine hK.out _ _ ?_ ?_)); (· (first | exact HS13.out _ hb15 | exact HS13.out _ hb14 | exact HS13.out _ hbd)); clear hK K hHeld; intro hHeld; (try simp only [Act.put, List.setIfInBounds_toArray, List.set_cons_zero, List.set_cons_succ]))); rotate_left)
          | (refine td_ready (rs := [7]) (by decide +kernel) (by decide) (by simp) ?_; refine td_cons rfl (fun K hK => ?_) (td_nil); (focus (go_simp; (first | refine hK.out _ _ ?_ ?_ | (go_wp2_with fail; refine hK.out _ _ ?_ ?_)); (· (first | exact HS13.out _ hb15 | exact HS13.out _ hb14 | exact HS13.out _ hbd)); clear hK K hHeld; intro hHeld; (try simp only [Act.put, List.setIfInBounds_toArray, List.set_cons_zero, List.set_cons_succ]))); rotate_left)
          | (refine td_ready (rs := [8]) (by decide +kernel) (by decide) (by simp) ?_; refine td_cons rfl (fun K hK => ?_) (td_nil); (focus (go_simp; (first | refine hK.out _ _ ?_ ?_ | (go_wp2_with fail; refine hK.out _ _ ?_ ?_)); (· (first | exact HS13.out _ hb15 | exact HS13.out _ hb14 | exact HS13.out _ hbd)); clear hK K hHeld; intro hHeld; (try simp only [Act.put, List.setIfInBounds_toArray, List.set_cons_zero, List.set_cons_succ]))); rotate_left)
          | (refine td_ready (rs := [9]) (by decide +kernel) (by decide) (by simp) ?_; refine td_cons rfl (fun K hK => ?_) (td_nil); (focus (go_simp; (first | refine hK.out _ _ ?_ ?_ | (go_wp2_with fail; refine hK.out _ _ ?_ ?_)); (· (first | exact HS13.out _ hb15 | exact HS13.out _ hb14 | exact HS13.out _ hbd)); clear hK K hHeld; intro hHeld; (try simp only [Act.put, List.setIfInBounds_toArray, List.set_cons_zero, List.set_cons_succ]))); rotate_left)
          | fail)
        all_goals refine And.intro (by decide +kernel) ?_
        all_goals
          go_wp2_with fail
          go_meet
          case rel => exact ⟨rfl, rfl, hb15⟩
      case rest =>
        obtain ⟨rfl, rfl, hb15⟩ := hcut
        obtain ⟨W15, rfl⟩ : ∃ W15 : World, W15 = wc := ⟨_, rfl⟩
        have H15 := hide hb15
        have hck := char_ok ⟨r, hr90⟩
        dsimp only at hck
        have hvu : viewT { t with rows := t.rows.set y (l.set x { (⟨tx, 1, fo, bk, fl⟩ : Ce) with text := Utf8.encode (33 + (r : Int)) }) } = viewT t := by unfold viewT; dsimp only; rw [view_set Hty.out Hlx.out Hhid.out]
        have HO15 := hide (fun (W2 : World) (hb : Below W13.heap.size W13 W2) => show Calls Tryd.prog 8 #[.agg (CL.set 2 (.slice (some ⟨g8, 0, none⟩) n c8)).toArray] W2 fun e w' => ∃ A' c', e = .returned ((viewT t).val A' c') ∧ n ≤ c' ∧ Rows2 w' w'.heap.size A' (viewT t).rows ∧ Below W2.heap.size W2 w' by
          have hof := ofP W2 (some ⟨g8, 0, none⟩) c8 { t with rows := t.rows.set y (l.set x { (⟨tx, 1, fo, bk, fl⟩ : Ce) with text := Utf8.encode (33 + (r : Int)) }) } ((Hcr.out.below hb).more hb.size) (tame_set Hty.out hck.2.2 Ht.out) (HT.out W2 (Hb13.out.trans (hb.mono Hb13.out.size))) (showB_set Hty.out Hlx.out rfl hck.1 hck.2.1 Hsh.out)
          rw [hvu, Tm.val_cells, Hcells.out] at hof
          dsimp only at hof
          rw [List.length_set, Hn.out] at hof
          exact hof)
        have HS15 := hide (fun (W2 : World) (hb : Below W15.heap.size W15 W2) => show W2.rangeAt W5.heap.size 0 (CL.set 2 (.slice (some ⟨g8, 0, none⟩) n c8)) ∧ W2.cell? ⟨b6, 0, none⟩ = some (.int .i64 p.upd) ∧ W2.cell? ⟨b6, 1, none⟩ = some (.int .i64 p.row) ∧ W2.cell? ⟨b6, 2, none⟩ = some (.int .i64 p.col) ∧ W2.cell? ⟨b7, 0, none⟩ = some (.int .i64 q.upd) ∧ W2.cell? ⟨b7, 1, none⟩ = some (.int .i64 q.row) ∧ W2.cell? ⟨b7, 2, none⟩ = some (.int .i64 q.col) from
          have hx := HBx.out W2 (Hi13.out.trans ((H15.out.trans (hb.mono H15.out.size)).mono Hi13.out.size))
          ⟨(HT13.out.below (H15.out.trans (hb.mono H15.out.size)) HT13.out.1).2.1, hx.2.1.cell rfl, hx.2.1.cell rfl, hx.2.1.cell rfl, hx.2.2.cell rfl, hx.2.2.cell rfl, hx.2.2.cell rfl⟩)
        have HB15 := hide (fun (W2 : World) (hb : Below W15.heap.size W15 W2) => H15.out.trans (hb.mono H15.out.size))
        have hbd := (Below.refl W15.heap.size W15).drew
        have hl2 : (CL.set 2 (.slice (some ⟨g8, 0, none⟩) n c8)).length = 42 := by rw [List.length_set, Hsz.out]
        have Hl2 := hide hl2
        clear hb15 hck hvu hl2
        go_upto_region 14 with fail
        go_cut [15, 16] (fun s15 s16 wx => s15 = .string TT ∧ s16 = .int .i64 EE ∧ Below W15.heap.size W15 wx)
        case first =>
          refine td_begin (by kernel_rfl) ?_
          refine td_hold (fun W2 => W2.rangeAt W5.heap.size 0 (CL.set 2 (.slice (some ⟨g8, 0, none⟩) n c8)) ∧ W2.cell? ⟨b6, 0, none⟩ = some (.int .i64 p.upd) ∧ W2.cell? ⟨b6, 1, none⟩ = some (.int .i64 p.row) ∧ W2.cell? ⟨b6, 2, none⟩ = some (.int .i64 p.col) ∧ W2.cell? ⟨b7, 0, none⟩ = some (.int .i64 q.upd) ∧ W2.cell? ⟨b7, 1, none⟩ = some (.int .i64 q.row) ∧ W2.cell? ⟨b7, 2, none⟩ = some (.int .i64 q.col)) [] (by decide +kernel) ?_ (fun hHeld => ?_)
          · (first | exact HS15.out _ hb17 | exact HS15.out _ hb16 | exact HS15.out _ hbd)
          (refine td_take 0 (v := ?_) rfl (by decide) (by kernel_rfl) (by decide +kernel) (by decide +kernel) (fun _ _ _ h => h) (by assumption) (by rfl) ?_ ?_; rotate_left; (· (intro w hSw; (try dsimp only at hSw); (refine exec_load_mid 38 (.tmp 12) ?_ W5.heap.size 0 ?_ (CL.set 2 (.slice (some ⟨g8, 0, none⟩) n c8)) _ hSw.1 Tryd.underlying38 rfl (by rw [Hl2.out]; kernel_rfl); all_goals rfl))); (try simp only [Act.put, List.setIfInBounds_toArray, List.set_cons_zero, List.set_cons_succ]))
          (refine td_take 2 (v := ?_) rfl (by decide) (by kernel_rfl) (by decide +kernel) (by decide +kernel) (fun _ _ _ h => h) (by assumption) (by rfl) ?_ ?_; rotate_left; (· (intro w hSw; (try dsimp only at hSw); (go_simp <;> with_reducible rfl))); (try simp only [Act.put, List.setIfInBounds_toArray, List.set_cons_zero, List.set_cons_succ]))
          (refine td_take 3 (v := ?_) rfl (by decide) (by kernel_rfl) (by decide +kernel) (by decide +kernel) (fun _ _ _ h => h) (by assumption) (by rfl) ?_ ?_; rotate_left; (· (intro w hSw; (try dsimp only at hSw); (go_simp <;> with_reducible rfl))); (try simp only [Act.put, List.setIfInBounds_toArray, List.set_cons_zero, List.set_cons_succ]))
          repeat' (first
            | (refine td_ready (rs := [1]) (by decide +kernel) (by decide) (by simp) ?_; refine td_cons rfl (fun K hK => ?_) (td_nil); (focus (go_simp; go_at_call 8; refine (HO15.out _ (HB15.out _ hbd)).mono ?_; rintro e w16 ⟨A16, c16, rfl, hc16, hr16, hb16'⟩; have hb16 := hbd.trans (hb16'.mono hbd.size); (first | refine hK.out _ _ ?_ ?_ | (go_wp2_with fail; refine hK.out _ _ ?_ ?_)); (· (first | exact HS15.out _ hb17 | exact HS15.out _ hb16 | exact HS15.out _ hbd)); clear hK K hHeld; intro hHeld; (try simp only [Act.put, List.setIfInBounds_toArray, List.set_cons_zero, List.set_cons_succ]))); rotate_left)
            | (refine td_ready (rs := [4]) (by decide +kernel) (by decide) (by simp) ?_; refine td_cons rfl (fun K hK => ?_) (td_nil); (focus (go_simp; go_at_call 7; refine (HBt.out w16 (HB15.out _ hb16) A16 c16 hr16).mono ?_; rintro e w17 ⟨rfl, hb17'⟩; have hb17 := hb16.trans (hb17'.mono hb16.size); (first | refine hK.out _ _ ?_ ?_ | (go_wp2_with fail; refine hK.out _ _ ?_ ?_)); (· (first | exact HS15.out _ hb17 | exact HS15.out _ hb16 | exact HS15.out _ hbd)); clear hK K hHeld; intro hHeld; (try simp only [Act.put, List.setIfInBounds_toArray, List.set_cons_zero, List.set_cons_succ]))); rotate_left)
            | (refine td_ready (rs := [5]) (by decide +kernel) (by decide) (by simp) ?_; refine td_cons rfl (fun K hK => ?_) (td_nil); (focus (go_simp; (first | refine hK.out _ _ ?_ ?_ | (go_wp2_with fail; refine hK.out _ _ ?_ ?_)); (· (first | exact HS15.out _ hb17 | exact HS15.out _ hb16 | exact HS15.out _ hbd)); clear hK K hHeld; intro hHeld; (try simp only [Act.put, List.setIfInBounds_toArray, List.set_cons_zero, List.set_cons_succ]))); rotate_left)
            | (refine td_ready (rs := [6, 7]) (by decide +kernel) (by decide) (by simp) ?_; refine td_cons rfl (fun K hK => ?_) (td_cons rfl (fun K hK => ?_) (td_nil)); (focus (go_simp; (first | refine hK.out _ _ ?_ ?_ | (go_wp2_with fail; refine hK.out _ _ ?_ ?_)); (· (first | exact HS15.out _ hb17 | exact HS15.out _ hb16 | exact HS15.out _ hbd)); clear hK K hHeld; intro hHeld; (try simp only [Act.put, List.setIfInBounds_toArray, List.set_cons_zero, List.set_cons_succ]))); rotate_left; (focus (go_simp; (first | refine hK.out _ _ ?_ ?_ | (go_wp2_with fail; refine hK.out _ _ ?_ ?_)); (· (first | exact HS15.out _ hb17 | exact HS15.out _ hb16 | exact HS15.out _ hbd)); clear hK K hHeld; intro hHeld; (try simp only [Act.put, List.setIfInBounds_toArray, List.set_cons_zero, List.set_cons_succ]))); rotate_left)
            | (refine td_ready (rs := [7, 8]) (by decide +kernel) (by decide) (by simp) ?_; refine td_cons rfl (fun K hK => ?_) (td_cons rfl (fun K hK => ?_) (td_nil)); (focus (go_simp; (first | refine hK.out _ _ ?_ ?_ | (go_wp2_with fail; refine hK.out _ _ ?_ ?_)); (· (first | exact HS15.out _ hb17 | exact HS15.out _ hb16 | exact HS15.out _ hbd)); clear hK K hHeld; intro hHeld; (try simp only [Act.put, List.setIfInBounds_toArray, List.set_cons_zero, List.set_cons_succ]))); rotate_left; (focus (go_simp; (first | refine hK.out _ _ ?_ ?_ | (go_wp2_with fail; refine hK.out _ _ ?_ ?_)); (· (first | exact HS15.out _ hb17 | exact HS15.out _ hb16 | exact HS15.out _ hbd)); clear hK K hHeld; intro hHeld; (try simp only [Act.put, List.setIfInBounds_toArray, List.set_cons_zero, List.set_cons_succ]))); rotate_left)
            | (refine td_ready (rs := [6, 9]) (by decide +kernel) (by decide) (by simp) ?_; refine td_cons rfl (fun K hK => ?_) (td_cons rfl (fun K hK => ?_) (td_nil)); (focus (go_simp; (first | refine hK.out _ _ ?_ ?_ | (go_wp2_with fail; refine hK.out _ _ ?_ ?_)); (· (first | exact HS15.out _ hb17 | exact HS15.out _ hb16 | exact HS15.out _ hbd)); clear hK K hHeld; intro hHeld; (try simp only [Act.put, List.setIfInBounds_toArray, List.set_cons_zero, List.set_cons_succ]))); rotate_left; (focus (go_simp; (first | refine hK.out _ _ ?_ ?_ | (go_wp2_with fail; refine hK.out _ _ ?_ ?_)); (· (first | exact HS15.out _ hb17 | exact HS15.out _ hb16 | exact HS15.out _ hbd)); clear hK K hHeld; intro hHeld; (try simp only [Act.put, List.setIfInBounds_toArray, List.set_cons_zero, List.set_cons_succ]))); rotate_left)
            | (refine td_ready (rs := [8, 9]) (by decide +kernel) (by decide) (by simp) ?_; refine td_cons rfl (fun K hK => ?_) (td_cons rfl (fun K hK => ?_) (td_nil)); (focus (go_simp; (first | refine hK.out _ _ ?_ ?_ | (go_wp2_with fail; refine hK.out _ _ ?_ ?_)); (· (first | exact HS15.out _ hb17 | exact HS15.out _ hb16 | exact HS15.out _ hbd)); clear hK K hHeld; intro hHeld; (try simp only [Act.put, List.setIfInBounds_toArray, List.set_cons_zero, List.set_cons_succ]))); rotate_left; (focus (go_simp; (first | refine hK.out _ _ ?_ ?_ | (go_wp2_with fail; refine hK.out _ _ ?_ ?_)); (· (first | exact HS15.out _ hb17 | exact HS15.out _ hb16 | exact HS15.out _ hbd)); clear hK K hHeld; intro hHeld; (try simp only [Act.put, List.setIfInBounds_toArray, List.set_cons_zero, List.set_cons_succ]))); rotate_left)
            | (refine td_ready (rs := [6]) (by decide +kernel) (by decide) (by simp) ?_; refine td_cons rfl (fun K hK => ?_) (td_nil); (focus (go_simp; (first | refine hK.out _ _ ?_ ?_ | (go_wp2_with fail; refine hK.out _ _ ?_ ?_)); (· (first | exact HS15.out _ hb17 | exact HS15.out _ hb16 | exact HS15.out _ hbd)); clear hK K hHeld; intro hHeld; (try simp only [Act.put, List.setIfInBounds_toArray, List.set_cons_zero, List.set_cons_succ]))); rotate_left)
            | (refine td_ready (rs := [7]) (by decide +kernel) (by decide) (by simp) ?_; refine td_cons rfl (fun K hK => ?_) (td_nil); (focus (go_simp; (first | refine hK.out _ _ ?_ ?_ | (go_wp2_with fail; refine hK.out _ _ ?_ ?_)); (· (first | exact HS15.out _ hb17 | exact HS15.out _ hb16 | exact HS15.out _ hbd)); clear hK K hHeld; intro hHeld; (try simp only [Act.put, List.setIfInBounds_toArray, List.set_cons_zero, List.set_cons_succ]))); rotate_left)
            | (refine td_ready (rs := [8]) (by decide +kernel) (by decide) (by simp) ?_; refine td_cons rfl (fun K hK => ?_) (td_nil); (focus (go_simp; (first | refine hK.out _ _ ?_ ?_ | (go_wp2_with fail; refine hK.out _ _ ?_ ?_)); (· (first | exact HS15.out _ hb17 | exact HS15.out _ hb16 | exact HS15.out _ hbd)); clear hK K hHeld; intro hHeld; (try simp only [Act.put, List.setIfInBounds_toArray, List.set_cons_zero, List.set_cons_succ]))); rotate_left)
            | (refine td_ready (rs := [9]) (by decide +kernel) (by decide) (by simp) ?_; refine td_cons rfl (fun K hK => ?_) (td_nil); (focus (go_simp; (first | refine hK.out _ _ ?_ ?_ | (go_wp2_with fail; refine hK.out _ _ ?_ ?_)); (· (first | exact HS15.out _ hb17 | exact HS15.out _ hb16 | exact HS15.out _ hbd)); clear hK K hHeld; intro hHeld; (try simp only [Act.put, List.setIfInBounds_toArray, List.set_cons_zero, List.set_cons_succ]))); rotate_left)
            | fail)
          all_goals refine And.intro (by decide +kernel) ?_
          all_goals
            go_wp2_with fail
            go_meet
            case rel => exact ⟨rfl, rfl, hb17⟩
        case rest =>
          obtain ⟨rfl, rfl, hb17⟩ := hcut
          obtain ⟨W17, rfl⟩ : ∃ W17 : World, W17 = wc := ⟨_, rfl⟩
          have H17 := hide (HB15.out _ hb17)
          have Hb17 := hide (Hb13.out.trans (H17.out.mono Hb13.out.size))
          have qtt : (TT.toList == TT.toList) = true := by simp
          have qee : (EE == EE) = true := by simp
          clear hb17
          go_wp2_with (first
            | (go_at_call 6; refine (HA.out W17 Hb17.out).mono ?_; rintro e w18 ⟨rfl, hb18⟩; have Hb18 := hide (Hb17.out.trans (hb18.mono Hb17.out.size)); clear hb18)
            | fail)
          go_ret
          exact ⟨rfl, Hb18.out⟩
end Go.Proofs.YtdmnnjpbndngeaaDoor
