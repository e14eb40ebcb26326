/- The statements' screen: a view whose rows are ASCII strings that do not end with a blank. -/
import Derived.Test.YtdgmjbcfopkibaaDoorF11
import Derived.Deep.RegionLaw
namespace Go.Proofs.YtdgmjbcfopkibaaDoor
open Go.RowKit

def screenV (width : Int) (ss : List ByteArray) : Vw := ⟨width, ss.length, ss.map fun s => glyL s.data.toList, 0, 0, false⟩
/-- An ASCII string that is not empty and does not end with a blank. -/
def Plain (s : ByteArray) : Prop := s.size ≤ 100 ∧ (∀ k (h : k < s.size), s[k].toNat < 128) ∧ ∃ m tx, s.size = m + 1 ∧ (glyL s.data.toList)[m]? = some ⟨tx, false, 0⟩ ∧ (tx.toList == [32]) = false
theorem vbS_cells {w : World} {b : Nat} {v0 v1 v2 v3 v4 v5 : Value} {t : TypeId} (h : w.heap[b]? = some (.cells #[v0, v1, v2, v3, v4, v5] t (0, 0))) : w.cell? ⟨b, 0, none⟩ = some v0 ∧ w.cell? ⟨b, 1, none⟩ = some v1 ∧
    w.cell? ⟨b, 2, none⟩ = some v2 ∧ w.cell? ⟨b, 3, none⟩ = some v3 ∧ w.cell? ⟨b, 4, none⟩ = some v4 ∧ w.cell? ⟨b, 5, none⟩ = some v5 :=
  ⟨cell_block h 0, cell_block h 1, cell_block h 2, cell_block h 3, cell_block h 4, cell_block h 5⟩
theorem el_rows23 : ElemOf Tryd.prog 22 54 (.slice none 0 0) 1 24 := ⟨Tryd.underlying22, by kernel_rfl, rfl, by omega, by omega⟩

set_option maxRecDepth 100000 in
set_option maxHeartbeats 4000000 in
theorem screenP (w : World) (A : Option Addr) (c : Nat) (width : Int) (ss : List ByteArray) (h : Sl (One .string) 1 w w.heap.size A ss) (hn : ss.length ≤ 12) (hs : ∀ s ∈ ss, Plain s) :
    Calls Tryd.prog 17 #[.int .i64 width, .slice A ss.length c] w fun e w' => ∃ A' c', e = .returned ((screenV width ss).val A' c') ∧ ss.length ≤ c' ∧ Rows2 w' w'.heap.size A' (screenV width ss).rows ∧ Below w.heap.size w w' := by
  have HH := hide h
  have HS := hide hs
  clear h hs
  obtain ⟨n, hnl⟩ : ∃ n, ss.length = n := ⟨_, rfl⟩
  have Hnl := hide hnl
  rw [hnl] at hn ⊢
  clear hnl
  go_enter Tryd.func17, Tryd.ntmps17
  go_wp2
  have hb0 : (w.alloc (.cells #[.int .i64 0, .int .i64 0, .slice none 0 0, .int .i64 0, .int .i64 0, .bool false] 24)).heap[w.heap.size]? = _ := block_new _ _
  have hb1 := block_new (w.alloc (.cells #[.int .i64 0, .int .i64 0, .slice none 0 0, .int .i64 0, .int .i64 0, .bool false] 24)) (.cells #[.int .i64 width, .int .i64 n, .slice none 0 0, .int .i64 0, .int .i64 0, .bool false] 24)
  rw [World.size_alloc] at hb1
  go_loopw [17] (fun i wr => ∃ (k : Nat) (vv : Value), k ≤ n ∧ i = .int .i64 k ∧ wr.heap[w.heap.size + 1]? = some (.cells #[.int .i64 width, .int .i64 n, vv, .int .i64 0, .int .i64 0, .bool false] 24) ∧
    wr.heap[w.heap.size]? = some (.cells #[.int .i64 0, .int .i64 0, .slice none 0 0, .int .i64 0, .int .i64 0, .bool false] 24) ∧ MadeG wr (w.heap.size + 2) vv ((ss.take k).map fun s => glyL s.data.toList) ∧ Below w.heap.size w wr ∧ w.heap.size + 2 ≤ wr.heap.size) (fun i _ => n - (intOf i).toNat)
  case atStart => exact ⟨0, .slice none 0 0, Nat.zero_le _, rfl, hb1, block_alloc hb0 _, MadeG.nil _ _, ((Below.refl _ w).alloc (Nat.le_refl _) _).alloc (by simp) _, by simp⟩
  case round =>
    clear hb0 hb1
    obtain ⟨k, vv, hk, rfl, hv1, hv0, hmade, hbw, hsz⟩ := hrel
    by_cases hlt : k < n
    · have hkl : k < ss.length := by rw [Hnl.out]; exact hlt
      obtain ⟨b, off, rfl, hbb, c0⟩ := (HH.out.below (One.stays _ _) hbw).get1 hkl
      obtain ⟨s, hsk⟩ : ∃ s, ss[k] = s := ⟨_, rfl⟩
      obtain ⟨hs100, hasc, m, tx, hsm, hlast, htx⟩ : Plain s := by rw [← hsk]; exact HS.out _ (List.getElem_mem _)
      have Hrows := hide (show (ss.take (k + 1)).map (fun s => glyL s.data.toList) = (ss.take k).map (fun s => glyL s.data.toList) ++ [glyL s.data.toList] by rw [List.take_succ_eq_append_getElem hkl, List.map_append, hsk]; rfl)
      unfold One at c0
      rw [hsk] at c0
      clear hsk
      rename World => wo
      have hltn : (k : Int) < (n : Int) := by omega
      have Hv1 := hide hv1
      have Hv0 := hide hv0
      have Hmade := hide hmade
      have HA := hide hasc
      have HLast := hide (And.intro hsm (And.intro hlast htx))
      clear hv1 hv0 hmade hasc hsm hlast htx
      go_wp2
      go_loopw [8] (fun o wr => ∃ pos : Nat, pos ≤ s.size ∧ wr.ownsRow (wo.heap.size + 1) 57 3 o pos ((glyL (s.data.toList.take pos)).flatMap Gl.enc) ∧ wr.heap[wo.heap.size]? = some (.stringIter s pos) ∧ Below wo.heap.size wo wr) (fun _ wr => s.size - wr.iterPos wo.heap.size)
      case atStart => exact ⟨0, Nat.zero_le _, World.ownsRow_nil _ _ _ _, World.iter_heap wo s 0, (Below.refl _ wo).alloc (Nat.le_refl _) _⟩
      case round =>
        rename World => wi
        obtain ⟨pos, hp, hown, hit, hb⟩ := hrel
        have hsz : wo.heap.size + 1 ≤ wi.heap.size := block_lt hit
        by_cases hlt2 : pos < s.size
        · have hnx : ∀ ty, (Instr.next (.pointer (some ⟨wo.heap.size, 0, none⟩)) true ty).run Tryd.prog wi = _ := fun ty => Lib.run_next_ascii_at wi wo.heap.size s pos ty hit hlt2 (HA.out pos hlt2)
          have Hsn := hide (glyL_snoc s pos hlt2)
          obtain ⟨Ao, co0, rfl⟩ := own_form hown
          have hown5 := own_iter hown (Nat.lt_succ_self _) s (pos + 1)
          have hit5 := Lib.iterAt_heap wi wo.heap.size s pos (pos + 1) hit
          have hb5 := Lib.below_iterAt hb (k := wo.heap.size) (Nat.le_refl _) s (pos + 1)
          have hs5 := Lib.iterAt_size wi wo.heap.size s (pos + 1)
          obtain ⟨w5, hw5⟩ : ∃ w5, wi.iterAt wo.heap.size s (pos + 1) = w5 := ⟨_, rfl⟩
          rw [hw5] at hnx hown5 hit5 hb5 hs5
          have hs5' : wo.heap.size + 1 ≤ w5.heap.size := by omega
          clear hw5 hown hb hs5
          go_wp2_with (first
            | (at_builtin; (refine wpList_app w5 (.tmp 26) (.tmp 30) 54 rfl rfl el_glyph (wo.heap.size + 1) _ pos _ (by rfl) hown5 hs5' _ 1 1 _ _ (by rfl) rfl rfl (by simp [Value.oneCell']) (by omega) ?_); intro v6 w6 hown6 hg6)
            | fail)
          have hb6 := below_own (Below.refl (wo.heap.size + 1) w5) hown5 hg6 (Nat.le_refl _) hs5'
          have hit6 := block_below hit5 hb6 (Nat.lt_succ_self _)
          have hit0 := hide hit
          go_roundw
          case rel => exact ⟨pos + 1, by omega, own_eq hown6 rfl (by rw [Hsn.out]; simp [Gl.enc, chU]), hit6, hb5.trans (hb6.mono (Nat.le_succ _))⟩
          case measure => simp only [World.iterPos, hit6, hit0.out]; omega
        · obtain rfl : pos = s.size := by omega
          have hnx : ∀ ty, (Instr.next (.pointer (some ⟨wo.heap.size, 0, none⟩)) true ty).run Tryd.prog wi = _ := fun ty => Lib.run_next_end_at wi wo.heap.size s s.size ty hit hlt2
          have hTk : s.data.toList.take s.size = s.data.toList := List.take_length
          rw [hTk] at hown
          obtain ⟨hsm, hlast, htx⟩ := HLast.out
          have hbwi := hbw.trans (hb.mono hbw.size)
          obtain ⟨xs, hout, hins⟩ := Hmade.out
          have hout1 := own_below hout hb (Nat.le_refl _)
          have hins1 := fun k r hr => let ⟨u, hu, ho⟩ := hins k r hr; (⟨u, hu, own_below ho hb (Nat.le_refl _)⟩ : ∃ u : Value, xs[k]? = some u ∧ wi.ownsRow (w.heap.size + 2) 57 3 u r.length (r.flatMap Gl.enc))
          have hv1' := block_below Hv1.out hb (by omega)
          have hv0' := block_below Hv0.out hb (by omega)
          have hkl' : ((ss.take k).map fun s => glyL s.data.toList).length = k := by rw [List.length_map, List.length_take]; omega
          rw [hkl'] at hout1
          have Hins := hide hins1
          obtain ⟨g, c3, rfl, hg0, hg1⟩ := own_form1 hown (by omega)
          have hrl : (glyL s.data.toList).length = s.size := glyL_len _
          have hsl := Sl.of_own GlAt.lays (base := wo.heap.size + 1) (e := 57) (v := .slice (some ⟨g, 0, none⟩) s.size c3) (l := glyL s.data.toList) (own_eq hown hrl.symm rfl)
          obtain ⟨A4, c4, hA4, hc4, hgl⟩ := hsl
          rw [hrl] at hA4 hc4
          cases hA4
          have HTrim := hide (fun w1 (hb1 : Below wi.heap.size wi w1) => trimNoP w1 g c3 s.size m (glyL s.data.toList) hrl hsm tx hlast htx ((hgl.below (GlAt.stays _) hb1).more hb1.size) (by omega) hc4)
          have HH1 := hide hrl
          obtain ⟨A2, c2, rfl⟩ := own_form hout1
          have c5 : wi.cell? ⟨w.heap.size + 1, 2, none⟩ = some (.slice A2 k c2) := cell_block hv1' 2
          have f5 : wi.frozen? ⟨w.heap.size + 1, 2, none⟩ = false := frozen_block hv1' 2
          clear hins hins1 hout hgl hrl hown hkl' hsm hlast htx HLast hb hit hTk
          have hdr : Below wi.heap.size wi wi.drew := (Below.refl _ _).drew
          have hout2 := own_below hout1 hdr (Nat.le_refl _)
          have hwl : w.heap.size + 2 ≤ wi.heap.size := by omega
          go_wp2
          go_region_law (first
            | (refine step_app el_rows23 w5 (.tmp 33) (.tmp 36) (by rfl) (by rfl) (w.heap.size + 2) _ k xs (by rfl) hout5 (by omega) (by omega) [.slice A5 s.size c5b] rfl (by simp [Value.oneCell']) (by rfl) ?_; intro g6 cap6 w6 hown6 hg6; have hv6 := (hg6.block (w.heap.size + 1) (by simp; omega) (fun he => absurd (hout5.lt _ he.symm).1 (by omega))).trans (block_alloc (block_below hv1' hb5' (by omega)) _); have k6 : w6.cell? ⟨w.heap.size + 1, 2, none⟩ = some (.slice A2 k c2) := cell_block hv6 2; have f6 : w6.frozen? ⟨w.heap.size + 1, 2, none⟩ = false := frozen_block hv6 2; replace hv6 := hide hv6)
            | (go_simp; go_at_call 29; refine (HTrim.out _ hdr).mono ?_; rintro e w5 ⟨v5, rfl, hown5, hb5⟩; have hb5' := hdr.trans hb5; have hs5 := hb5'.size; have k5 : w5.cell? ⟨w.heap.size + 1, 2, none⟩ = some (.slice A2 k c2) := (hb5'.cell (p := ⟨w.heap.size + 1, 2, none⟩) (by show w.heap.size + 1 < wi.heap.size; omega)).trans c5; obtain ⟨A5, c5b, rfl⟩ := own_form hown5; have hout5 := own_below hout1 hb5' (Nat.le_refl _); have k5b : (w5.alloc (.cells #[.slice A5 s.size c5b] 54)).cell? ⟨w.heap.size + 1, 2, none⟩ = some (.slice A2 k c2) := ((((Below.refl w5.heap.size w5).alloc (Nat.le_refl _) _).cell (p := ⟨w.heap.size + 1, 2, none⟩) (by show w.heap.size + 1 < w5.heap.size; omega))).trans k5)
            | fail)
          all_goals
            have hbw5 := hbwi.trans (hb5'.mono hbwi.size)
            have hmade7 := madeG_step (v6 := .slice (some ⟨g6, 0, none⟩) (k + 1) cap6) Hrows.out (hout5.alloc _) (fun j r hr => let ⟨u, hu, ho⟩ := Hins.out j r hr; ⟨u, hu, (own_below ho hb5' (Nat.le_refl _)).alloc _⟩) (b5 := wi.heap.size) (A5 := A5) (c5 := c5b) (by rw [HH1.out]; exact (show (w5.alloc _).ownsRow wi.heap.size 57 3 (.slice A5 s.size c5b) s.size ((glyL s.data.toList).flatMap Gl.enc) from hown5.alloc _)) (by omega) (by rw [HH1.out]; exact hown6) hg6 (by rw [List.length_map, List.length_take]; omega)
            have hB7 : Below w.heap.size w (w6.setCell ⟨w.heap.size + 1, 2, none⟩ (.slice (some ⟨g6, 0, none⟩) (k + 1) cap6)) := (below_own (hbw5.alloc hbw5.size _) (hout5.alloc _) hg6 (by omega) (by simp; omega)).setCell (p := ⟨w.heap.size + 1, 2, none⟩) (Nat.le_succ _) _
            have hv17 := heap_setCell_same w6 _ 2 _ _ (.slice (some ⟨g6, 0, none⟩) (k + 1) cap6) hv6.out
            have hv07 : (w6.setCell ⟨w.heap.size + 1, 2, none⟩ (.slice (some ⟨g6, 0, none⟩) (k + 1) cap6)).heap[w.heap.size]? = _ := block_far ((hg6.block w.heap.size (by simp; omega) (fun he => absurd (hout5.lt _ he.symm).1 (by omega))).trans (block_alloc (block_below hv0' hb5' (by omega)) _)) (by simp) _
            have hs7 : w.heap.size + 2 ≤ (w6.setCell ⟨w.heap.size + 1, 2, none⟩ (.slice (some ⟨g6, 0, none⟩) (k + 1) cap6)).heap.size := by have := hg6.size; simp at this ⊢; omega
            have hm8 : MadeG (w6.setCell ⟨w.heap.size + 1, 2, none⟩ (.slice (some ⟨g6, 0, none⟩) (k + 1) cap6)) (w.heap.size + 2) (.slice (some ⟨g6, 0, none⟩) (k + 1) cap6) ((ss.take (k + 1)).map fun s => glyL s.data.toList) := by
              obtain ⟨xs7, m1, m2⟩ := hmade7
              refine ⟨xs7, ownsRow_setCell_below m1 (Nat.lt_succ_self _) _, fun i r hr => ?_⟩
              obtain ⟨u, hu, ho⟩ := m2 i r hr
              exact ⟨u, hu, ownsRow_setCell_below ho (Nat.lt_succ_self _) _⟩
            obtain ⟨W7, hW7⟩ : ∃ W7, w6.setCell ⟨w.heap.size + 1, 2, none⟩ (.slice (some ⟨g6, 0, none⟩) (k + 1) cap6) = W7 := ⟨_, rfl⟩
            rw [hW7] at hm8 hB7 hv17 hv07 hs7 ⊢
            clear hW7 k5 k5b k6 f6 hown5 hown6 hg6 hout5 hmade7
            have Hv17 := hide hv17
            have Hv07 := hide hv07
            clear hv17 hv07
            go_wp2
            go_roundw
            case rel => exact ⟨k + 1, _, by omega, by go_num, Hv17.out, Hv07.out, hm8, hB7, hs7⟩
            case measure => simp [intOf]; omega
    · obtain rfl : k = n := by omega
      have hc0 := cell_block hv1 0
      have hc1 := cell_block hv1 1
      have hc2 := cell_block hv1 2
      have hc3 := cell_block hv1 3
      have hc4 := cell_block hv1 4
      have hc5 := cell_block hv1 5
      have hz0 := cell_block hv0 0
      have hz1 := cell_block hv0 1
      have hz2 := cell_block hv0 2
      have hz3 := cell_block hv0 3
      have hz4 := cell_block hv0 4
      have hz5 := cell_block hv0 5
      have hf00 := frozen_block hv0 0
      have hf01 := frozen_block hv0 1
      have hf02 := frozen_block hv0 2
      have hf03 := frozen_block hv0 3
      have hf04 := frozen_block hv0 4
      have hf05 := frozen_block hv0 5
      obtain ⟨A2, c2, hv2, hc2', hr2⟩ := hmade.reads
      have hrl : ((ss.take k).map fun s => glyL s.data.toList).length = k := by rw [List.length_map, List.length_take, Hnl.out]; omega
      have hrows : (ss.take k).map (fun s => glyL s.data.toList) = (screenV width ss).rows := by rw [List.take_of_length_le (by rw [Hnl.out]; exact Nat.le_refl _)]; rfl
      rw [hrl] at hv2 hc2'
      subst hv2
      obtain ⟨xs, hout, hins⟩ := hmade
      have Hout := hide hout
      have Hins := hide hins
      have Hv0 := hide hv0
      have Hrows := hide hrows
      have Hrl := hide hrl
      have Hc2 := hide hc2'
      clear hout hins hv0 hv1 hr2 hrows hrl hc2'
      go_wp2
      obtain ⟨W6, hW6⟩ : ∃ W6, (((((wr.setCell ⟨w.heap.size, 0, none⟩ (.int .i64 width)).setCell ⟨w.heap.size, 1, none⟩ (.int .i64 k)).setCell ⟨w.heap.size, 2, none⟩ (.slice A2 k c2)).setCell ⟨w.heap.size, 3, none⟩ (.int .i64 0)).setCell ⟨w.heap.size, 4, none⟩ (.int .i64 0)).setCell ⟨w.heap.size, 5, none⟩ (.bool false) = W6 := ⟨_, rfl⟩
      rw [hW6]
      have hbx : W6.heap[w.heap.size]? = some (.cells #[.int .i64 width, .int .i64 k, .slice A2 k c2, .int .i64 0, .int .i64 0, .bool false] 24) := by
        rw [← hW6]
        exact heap_setCell_same _ _ 5 _ _ (.bool false) (heap_setCell_same _ _ 4 _ _ (.int .i64 0) (heap_setCell_same _ _ 3 _ _ (.int .i64 0) (heap_setCell_same _ _ 2 _ _ (.slice A2 k c2) (heap_setCell_same _ _ 1 _ _ (.int .i64 k) (heap_setCell_same _ _ 0 _ _ (.int .i64 width) Hv0.out)))))
      have hset : ∀ {sz n : Nat} {e : TypeId} {v : Value} {xs : List Value}, wr.ownsRow (w.heap.size + 2) e sz v n xs → W6.ownsRow (w.heap.size + 2) e sz v n xs := fun h => by
        rw [← hW6]
        exact ownsRow_setCell_below (ownsRow_setCell_below (ownsRow_setCell_below (ownsRow_setCell_below (ownsRow_setCell_below (ownsRow_setCell_below h (by show w.heap.size < _; omega) _) (by show w.heap.size < _; omega) _) (by show w.heap.size < _; omega) _) (by show w.heap.size < _; omega) _) (by show w.heap.size < _; omega) _) (by show w.heap.size < _; omega) _
      have hB6 : Below w.heap.size w W6 := by
        rw [← hW6]
        exact (((((hbw.setCell (p := ⟨w.heap.size, 0, none⟩) (Nat.le_refl _) _).setCell (p := ⟨w.heap.size, 1, none⟩) (Nat.le_refl _) _).setCell (p := ⟨w.heap.size, 2, none⟩) (Nat.le_refl _) _).setCell (p := ⟨w.heap.size, 3, none⟩) (Nat.le_refl _) _).setCell (p := ⟨w.heap.size, 4, none⟩) (Nat.le_refl _) _).setCell (p := ⟨w.heap.size, 5, none⟩) (Nat.le_refl _) _
      have hmade6 : MadeG W6 (w.heap.size + 2) (.slice A2 k c2) (screenV width ss).rows := by
        rw [← Hrows.out]
        refine ⟨xs, hset Hout.out, fun j r hr => ?_⟩
        obtain ⟨u, hu, ho⟩ := Hins.out j r hr
        exact ⟨u, hu, hset ho⟩
      have hrl2 : (screenV width ss).rows.length = k := by rw [← Hrows.out]; exact Hrl.out
      obtain ⟨A3, c3, hv3, hc3', hrows3⟩ := hmade6.reads
      rw [hrl2] at hv3 hc3'
      cases hv3
      obtain ⟨x0, x1, x2, x3, x4, x5⟩ := vbS_cells hbx
      clear hW6
      have hval : (screenV width ss).val A2 c2 = .agg #[.int .i64 width, .int .i64 k, .slice A2 k c2, .int .i64 0, .int .i64 0, .bool false] := by
        unfold Vw.val
        rw [hrl2]
        show Value.agg #[.int .i64 width, .int .i64 (ss.length : Nat), _, _, _, _] = _
        rw [Hnl.out]
        rfl
      exact bodyPost_ret (v := .agg #[.int .i64 width, .int .i64 k, .slice A2 k c2, .int .i64 0, .int .i64 0, .bool false]) (by simp [results, Tryd.results17, go_sem, x0, x1, x2, x3, x4, x5]) rfl ⟨A2, c2, by rw [hval], hc3', hrows3, hB6⟩
end Go.Proofs.YtdgmjbcfopkibaaDoor
