/- The statements' text: a view whose rows are strings. -/
import Derived.Test.YtmgepckhdgoemaaDoorL1
import Derived.Laws.Strings2
import Derived.Deep.RegionLaw
namespace Go.Proofs.YtmgepckhdgoemaaDoor
open Go.RowKit

def chG (s : ByteArray) (i : Nat) : Gl := ⟨s.extract i (i + 1), false, 0⟩
/-- The glyphs of a string, one for each byte. -/
def textRow (s : ByteArray) : List Gl := (List.range s.size).map (chG s)
def textTo (s : ByteArray) (k : Nat) : List Gl := (List.range k).map (chG s)
theorem textTo_succ (s : ByteArray) (k : Nat) : textTo s (k + 1) = textTo s k ++ [chG s k] := by unfold textTo; rw [List.range_succ, List.map_append]; rfl
theorem textTo_len (s : ByteArray) (k : Nat) : (textTo s k).length = k := by simp [textTo]
def textV (width : Int) (ss : List ByteArray) : Vw := ⟨width, ss.length, ss.map fun s => trimR (textRow s), 0, 0, true⟩

theorem el_rows : ElemOf Tryd.prog 22 27 (.slice none 0 0) 1 24 := ⟨Tryd.underlying22, by kernel_rfl, rfl, by omega, by omega⟩

/-- The rows that have been made: their slices are the call's own, and so are their glyphs. -/
def MadeRows (w : World) (base : Nat) (v : Value) (rows : List (List Gl)) : Prop :=
  ∃ xs : List Value, w.ownsRow base 27 1 v rows.length xs ∧ ∀ (k : Nat) r, rows[k]? = some r → ∃ u : Value, xs[k]? = some u ∧ w.ownsRow base 29 3 u r.length (r.flatMap Gl.enc)

theorem MadeRows.reads {w : World} {base : Nat} {v : Value} {rows : List (List Gl)} (h : MadeRows w base v rows) : ∃ A c, v = .slice A rows.length c ∧ rows.length ≤ c ∧ Rows2 w w.heap.size A rows := by
  obtain ⟨xs, hout, hins⟩ := h
  rcases hout.2 with ⟨rfl, h0⟩ | ⟨g, cap, cur, rfl, _, hh, hnc, _, _, htake⟩
  · exact ⟨none, 0, by rw [h0], by omega, Sl.nil h0⟩
  · refine ⟨some ⟨g, 0, none⟩, cap, rfl, hnc, fun _ => ⟨g, 0, rfl, block_lt hh, fun k r hr => ?_⟩⟩
    obtain ⟨u, hu, ho⟩ := hins k r hr
    obtain ⟨A', c', rfl, hc', hgl⟩ := Sl.of_own GlAt.lays ho
    refine ⟨A', c', ?_, hc', hgl⟩
    have hk := (List.getElem?_eq_some_iff.1 hr).1
    have h1 := hout.cellAt k (by omega)
    rw [hu] at h1
    rw [Nat.zero_add, Nat.mul_one]
    exact h1
theorem made_step {w5 w6 : World} {base : Nat} {A2 A5 : Option Addr} {k c2 c5 g6 cap6 B1 : Nat} {xs : List Value} {rows rows' : List (List Gl)} {r : List Gl} (hr : rows' = rows ++ [r]) (hout : w5.ownsRow base 27 1 (.slice A2 k c2) k xs)
    (hins : ∀ (j : Nat) r, rows[j]? = some r → ∃ u : Value, xs[j]? = some u ∧ w5.ownsRow base 29 3 u r.length (r.flatMap Gl.enc)) (hB1 : B1 < base) {b5 : Nat} (h5 : w5.ownsRow b5 29 3 (.slice A5 r.length c5) r.length (r.flatMap Gl.enc)) (hb5 : base ≤ b5)
    (h6 : w6.ownsRow base 27 1 (.slice (some ⟨g6, 0, none⟩) (k + 1) cap6) (k + 1) (xs ++ [.slice A5 r.length c5])) (hg : (w5.alloc (.cells #[.slice A5 r.length c5] 27)).grownBy w6 (Value.slice A2 k c2).ownBlock) (hk : rows.length = k) :
    MadeRows (w6.setCell ⟨B1, 2, none⟩ (.slice (some ⟨g6, 0, none⟩) (k + 1) cap6)) base (.slice (some ⟨g6, 0, none⟩) (k + 1) cap6) rows' := by
  subst hr
  have hxl : xs.length = k := by have := hout.1; simpa using this
  refine ⟨xs ++ [.slice A5 r.length c5], own_eq (ownsRow_setCell_below h6 hB1 _) (by simp [hk]) rfl, fun j x hx => ?_⟩
  by_cases hj : j < rows.length
  · rw [List.getElem?_append_left hj] at hx
    obtain ⟨u, hu, ho⟩ := hins j x hx
    exact ⟨u, by rw [List.getElem?_append_left (by omega)]; exact hu, ownsRow_setCell_below (own_other (ho.alloc _) (hout.alloc _) (by decide) hg) hB1 _⟩
  · rw [List.getElem?_append_right (by omega)] at hx
    have hj2 : j = rows.length := by
      have := (List.getElem?_eq_some_iff.1 hx).1
      simp at this
      omega
    subst hj2
    simp at hx
    subst hx
    exact ⟨_, by rw [List.getElem?_append_right (by omega), hxl, hk]; simp, ownsRow_setCell_below (own_other ((own_more h5 hb5).alloc _) (hout.alloc _) (by decide) hg) hB1 _⟩
theorem cut1 (s : ByteArray) (j : Nat) (h : j < s.size) (w : World) : (Instr.slice 9 (.string s) (some (.int .i64 (j : Int))) (some (.int .i64 ((j : Int) + 1))) none).run Tryd.prog w = .ok (.string (s.extract j (j + 1))) w := by
  have := run_slice_string (P := Tryd.prog) (w := w) 9 s .i64 .i64 (j : Int) ((j : Int) + 1) Tryd.underlying9 (by omega) (by omega) (by omega)
  rwa [show ((j : Int)).toNat = j by omega, show ((j : Int) + 1).toNat = j + 1 by omega] at this
set_option maxRecDepth 100000 in
set_option maxHeartbeats 4000000 in
theorem textP (w : World) (A : Option Addr) (c : Nat) (width : Int) (ss : List ByteArray) (h : Sl (One .string) 1 w w.heap.size A ss) (hn : ss.length ≤ 12) (hs : ∀ s ∈ ss, s.size ≤ 200) :
    Calls Tryd.prog 15 #[.int .i64 width, .slice A ss.length c] w fun e w' => ∃ A' c', e = .returned ((textV width ss).val A' c') ∧ ss.length ≤ c' ∧ Rows2 w' w'.heap.size A' (textV width ss).rows ∧ Below w.heap.size w w' := by
  have HH := hide h
  have HS := hide hs
  clear h hs
  obtain ⟨n, hnl⟩ : ∃ n, ss.length = n := ⟨_, rfl⟩
  have Hnl := hide hnl
  rw [hnl] at hn ⊢
  clear hnl
  go_enter Tryd.func15, Tryd.ntmps15
  go_wp2
  have hb0 : (w.alloc (.cells #[.int .i64 0, .int .i64 0, .slice none 0 0, .int .i64 0, .int .i64 0, .bool false] 24)).heap[w.heap.size]? = _ := block_new _ _
  have hb1 := block_new (w.alloc (.cells #[.int .i64 0, .int .i64 0, .slice none 0 0, .int .i64 0, .int .i64 0, .bool false] 24)) (.cells #[.int .i64 width, .int .i64 n, .slice none 0 0, .int .i64 0, .int .i64 0, .bool true] 24)
  rw [World.size_alloc] at hb1
  go_loopw [16] (fun i wr => ∃ (k : Nat) (vv : Value), k ≤ n ∧ i = .int .i64 k ∧ wr.heap[w.heap.size + 1]? = some (.cells #[.int .i64 width, .int .i64 n, vv, .int .i64 0, .int .i64 0, .bool true] 24) ∧
    wr.heap[w.heap.size]? = some (.cells #[.int .i64 0, .int .i64 0, .slice none 0 0, .int .i64 0, .int .i64 0, .bool false] 24) ∧ MadeRows wr (w.heap.size + 2) vv ((ss.take k).map fun s => trimR (textRow s)) ∧ Below w.heap.size w wr ∧ w.heap.size + 2 ≤ wr.heap.size) (fun i _ => n - (intOf i).toNat)
  case atStart => exact ⟨0, .slice none 0 0, Nat.zero_le _, rfl, hb1, block_alloc hb0 _, ⟨[], World.ownsRow_nil _ _ _ _, fun k r h => by simp at h⟩, ((Below.refl _ w).alloc (Nat.le_refl _) _).alloc (by simp) _, by simp⟩
  case round =>
    obtain ⟨k, vv, hk, rfl, hv1, hv0, hmade, hbw, hsz⟩ := hrel
    by_cases hlt : k < n
    · have hkl : k < ss.length := by rw [Hnl.out]; exact hlt
      obtain ⟨b, off, rfl, hbb, c0⟩ := (HH.out.below (One.stays _ _) hbw).get1 hkl
      obtain ⟨s, hsk⟩ : ∃ s, ss[k] = s := ⟨_, rfl⟩
      have hs200 : s.size ≤ 200 := by rw [← hsk]; exact HS.out _ (List.getElem_mem _)
      have Hrows := hide (show (ss.take (k + 1)).map (fun s => trimR (textRow s)) = (ss.take k).map (fun s => trimR (textRow s)) ++ [trimR (textRow s)] by rw [List.take_succ_eq_append_getElem hkl, List.map_append, hsk]; rfl)
      unfold One at c0
      rw [hsk] at c0
      clear hsk
      rename World => wo
      have hlit := own_lit wo wo.heap.size 29 3 0 #[] (Nat.le_refl _) (by omega) rfl
      have hltn : (k : Int) < (n : Int) := by omega
      go_wp2
      go_loopw [8, 23] (fun l i wi => ∃ (j g c3 : Nat), j ≤ s.size ∧ i = .int .i64 j ∧ l = .slice (some ⟨g, 0, none⟩) j c3 ∧ wi.ownsRow wo.heap.size 29 3 l j ((textTo s j).flatMap Gl.enc) ∧ Below wo.heap.size wo wi) (fun _ i _ => s.size - (intOf i).toNat)
      case atStart => exact ⟨0, wo.heap.size, 0, Nat.zero_le _, rfl, rfl, hlit, (Below.refl _ _).alloc (Nat.le_refl _) _⟩
      case round =>
        rename World => wi
        obtain ⟨j, g, c3, hj, rfl, rfl, hown, hbi⟩ := hrel
        have hsi := hbi.size
        by_cases hlj : j < s.size
        · have hcut := cut1 s j hlj wi
          have Hsucc := hide (textTo_succ s j)
          clear hv1 hv0 hb0 hb1 hlit
          go_wp2_with (at_builtin; refine wpList_app _ (.tmp 26) (.tmp 33) 27 rfl rfl el_glyph wo.heap.size _ _ _ rfl hown hsi _ 1 1 _ _ rfl (by first | rfl | simp) rfl (by simp [Value.oneCell']) (by omega) ?_; intro v6 w6 hown6 hg6; have hb6 := below_own hbi hown hg6 (Nat.le_refl _) hsi; obtain ⟨g6, c6, rfl, -, -⟩ := own_form1 hown6 (by omega))
          go_roundw
          case rel => exact ⟨j + 1, g6, c6, by omega, by go_num, rfl, own_eq hown6 rfl (by rw [Hsucc.out]; simp [Gl.enc, chG]), hb6⟩
          case measure => simp [intOf]; omega
        · obtain rfl : j = s.size := by omega
          have hbwi := hbw.trans (hbi.mono hbw.size)
          obtain ⟨xs, hout, hins⟩ := hmade
          have hout1 := own_below hout hbi (Nat.le_refl _)
          have hins1 := fun k r hr => let ⟨u, hu, ho⟩ := hins k r hr; (⟨u, hu, own_below ho hbi (Nat.le_refl _)⟩ : ∃ u : Value, xs[k]? = some u ∧ wi.ownsRow (w.heap.size + 2) 29 3 u r.length (r.flatMap Gl.enc))
          have hv1' := block_below hv1 hbi (by omega)
          have hv0' := block_below hv0 hbi (by omega)
          have hkl' : ((ss.take k).map fun s => trimR (textRow s)).length = k := by rw [List.length_map, List.length_take]; omega
          rw [hkl'] at hout1
          have Hins := hide hins1
          have hg := hown.lt g rfl
          have hrl : (textRow s).length = s.size := textTo_len s s.size
          have hsl := Sl.of_own GlAt.lays (base := wo.heap.size) (e := 29) (v := .slice (some ⟨g, 0, none⟩) s.size c3) (l := textRow s) (own_eq hown hrl.symm rfl)
          obtain ⟨A4, c4, hA4, hc4, hgl⟩ := hsl
          rw [hrl] at hA4 hc4
          cases hA4
          have HTrim := hide (fun w1 (hb1 : Below wi.heap.size wi w1) => trim15P w1 g 0 c3 (textRow s) ((hgl.below (GlAt.stays _) hb1).more hb1.size) (by omega) (by omega))
          rw [hrl] at HTrim
          have HH1 := hide hrl
          obtain ⟨A2, c2, rfl⟩ := own_form hout1
          have c5 : wi.cell? ⟨w.heap.size + 1, 2, none⟩ = some (.slice A2 k c2) := cell_block hv1' 2
          have f5 : wi.frozen? ⟨w.heap.size + 1, 2, none⟩ = false := frozen_block hv1' 2
          clear hv1 hv0 hb0 hb1 hlit hins hins1 hout hgl hrl hown hkl'
          have hdr : Below wi.heap.size wi wi.drew := (Below.refl _ _).drew
          have hout2 := own_below hout1 hdr (Nat.le_refl _)
          go_wp2
          go_region_law (first
            | (refine step_app el_rows w5 (.tmp 37) (.tmp 40) (by rfl) (by rfl) (w.heap.size + 2) _ k xs (by rfl) hout5 (by omega) (by omega) [.slice A5 (trimR (textRow s)).length c5b] rfl (by simp [Value.oneCell']) (by rfl) ?_; intro g6 cap6 w6 hown6 hg6; have hv6 := (hg6.block (w.heap.size + 1) (by simp; omega) (fun he => absurd (hout5.lt _ he.symm).1 (by omega))).trans (block_alloc (block_below hv1' hb5' (by omega)) _); have k6 : w6.cell? ⟨w.heap.size + 1, 2, none⟩ = some (.slice A2 k c2) := cell_block hv6 2; have f6 : w6.frozen? ⟨w.heap.size + 1, 2, none⟩ = false := frozen_block hv6 2; replace hv6 := hide hv6)
            | (go_simp; go_at_call 38; refine (HTrim.out _ hdr).mono ?_; rintro e w5 ⟨v5, rfl, hown5, hb5⟩; have hb5' := hdr.trans hb5; have hs5 := hb5'.size; have k5 : w5.cell? ⟨w.heap.size + 1, 2, none⟩ = some (.slice A2 k c2) := (hb5'.cell (p := ⟨w.heap.size + 1, 2, none⟩) (by show w.heap.size + 1 < wi.heap.size; omega)).trans c5; obtain ⟨A5, c5b, rfl⟩ := own_form hown5; have hout5 := own_below hout1 hb5' (Nat.le_refl _); have k5b : (w5.alloc (.cells #[.slice A5 (trimR (textRow s)).length c5b] 27)).cell? ⟨w.heap.size + 1, 2, none⟩ = some (.slice A2 k c2) := ((((Below.refl w5.heap.size w5).alloc (Nat.le_refl _) _).cell (p := ⟨w.heap.size + 1, 2, none⟩) (by show w.heap.size + 1 < w5.heap.size; omega))).trans k5)
            | fail)
          all_goals
            have hbw5 := hbwi.trans (hb5'.mono hbwi.size)
            have hmade7 := made_step Hrows.out hout5 (fun j r hr => let ⟨u, hu, ho⟩ := Hins.out j r hr; ⟨u, hu, own_below ho hb5' (Nat.le_refl _)⟩) (by omega) hown5 (by show _ ≤ wi.heap.size; omega) hown6 hg6 (B1 := w.heap.size + 1) (by rw [List.length_map, List.length_take]; omega)
            have hB7 : Below w.heap.size w (w6.setCell ⟨w.heap.size + 1, 2, none⟩ (.slice (some ⟨g6, 0, none⟩) (k + 1) cap6)) := (below_own (hbw5.alloc hbw5.size _) (hout5.alloc _) hg6 (by omega) (by simp; omega)).setCell (p := ⟨w.heap.size + 1, 2, none⟩) (Nat.le_succ _) _
            have hv17 := heap_setCell_same w6 _ 2 _ _ (.slice (some ⟨g6, 0, none⟩) (k + 1) cap6) hv6.out
            have hv07 : (w6.setCell ⟨w.heap.size + 1, 2, none⟩ (.slice (some ⟨g6, 0, none⟩) (k + 1) cap6)).heap[w.heap.size]? = _ := block_far ((hg6.block w.heap.size (by simp; omega) (fun he => absurd (hout5.lt _ he.symm).1 (by omega))).trans (block_alloc (block_below hv0' hb5' (by omega)) _)) (by simp) _
            have hs7 : w.heap.size + 2 ≤ (w6.setCell ⟨w.heap.size + 1, 2, none⟩ (.slice (some ⟨g6, 0, none⟩) (k + 1) cap6)).heap.size := by have := hg6.size; simp at this ⊢; omega
            obtain ⟨W7, hW7⟩ : ∃ W7, w6.setCell ⟨w.heap.size + 1, 2, none⟩ (.slice (some ⟨g6, 0, none⟩) (k + 1) cap6) = W7 := ⟨_, rfl⟩
            rw [hW7] at hmade7 hB7 hv17 hv07 hs7 ⊢
            clear hW7 k5 k5b k6 f6 hown5 hown6 hg6 hout5
            have Hv17 := hide hv17
            have Hv07 := hide hv07
            clear hv17 hv07
            go_wp2
            go_roundw
            case rel => exact ⟨k + 1, _, by omega, by go_num, Hv17.out, Hv07.out, hmade7, hB7, hs7⟩
            case measure => simp [intOf]; omega
    · obtain rfl : k = n := by omega
      have hc := fun i => cell_block hv1 i
      have hc0 := hc 0
      have hc1 := hc 1
      have hc2 := hc 2
      have hc3 := hc 3
      have hc4 := hc 4
      have hc5 := hc 5
      have hz := fun i => cell_block hv0 i
      have hz0 := hz 0
      have hz1 := hz 1
      have hz2 := hz 2
      have hz3 := hz 3
      have hz4 := hz 4
      have hz5 := hz 5
      have hf0 := frozen_block hv0
      have hf00 := hf0 0
      have hf01 := hf0 1
      have hf02 := hf0 2
      have hf03 := hf0 3
      have hf04 := hf0 4
      have hf05 := hf0 5
      obtain ⟨xs, hout, hins⟩ := hmade
      obtain ⟨A2, c2, rfl⟩ := own_form hout
      have hrl : ((ss.take k).map fun s => trimR (textRow s)).length = k := by rw [List.length_map, List.length_take, Hnl.out]; omega
      have Hrows := hide (show (ss.take k).map (fun s => trimR (textRow s)) = (textV width ss).rows by rw [List.take_of_length_le (by rw [Hnl.out]; exact Nat.le_refl _)]; rfl)
      rw [hrl] at hout hc2
      have Hout := hide hout
      have Hins := hide hins
      have Hv0 := hide hv0
      clear hc hf0 hb0 hb1 hz hout hins hrl hv0
      go_wp2
      obtain ⟨W6, hW6⟩ : ∃ W6, (((((wr.setCell ⟨w.heap.size, 0, none⟩ (.int .i64 width)).setCell ⟨w.heap.size, 1, none⟩ (.int .i64 k)).setCell ⟨w.heap.size, 2, none⟩ (.slice A2 k c2)).setCell ⟨w.heap.size, 3, none⟩ (.int .i64 0)).setCell ⟨w.heap.size, 4, none⟩ (.int .i64 0)).setCell ⟨w.heap.size, 5, none⟩ (.bool true) = W6 := ⟨_, rfl⟩
      rw [hW6]
      have hbx : VwBox W6 w.heap.size ⟨width, k, (textV width ss).rows, 0, 0, true⟩ A2 c2 := by
        rw [← hW6]
        unfold VwBox
        rw [← Hrows.out, List.length_map, List.length_take, Hnl.out, Nat.min_self]
        exact heap_setCell_same _ _ 5 _ _ (.bool true) (heap_setCell_same _ _ 4 _ _ (.int .i64 0) (heap_setCell_same _ _ 3 _ _ (.int .i64 0) (heap_setCell_same _ _ 2 _ _ (.slice A2 k c2) (heap_setCell_same _ _ 1 _ _ (.int .i64 k) (heap_setCell_same _ _ 0 _ _ (.int .i64 width) Hv0.out)))))
      have hset : ∀ {sz n : Nat} {e : TypeId} {v : Value} {xs : List Value}, wr.ownsRow (w.heap.size + 2) e sz v n xs → W6.ownsRow (w.heap.size + 2) e sz v n xs := fun h => by
        rw [← hW6]
        exact ownsRow_setCell_below (ownsRow_setCell_below (ownsRow_setCell_below (ownsRow_setCell_below (ownsRow_setCell_below (ownsRow_setCell_below h (by show w.heap.size < _; omega) _) (by show w.heap.size < _; omega) _) (by show w.heap.size < _; omega) _) (by show w.heap.size < _; omega) _) (by show w.heap.size < _; omega) _) (by show w.heap.size < _; omega) _
      have hB6 : Below w.heap.size w W6 := by
        rw [← hW6]
        exact (((((hbw.setCell (p := ⟨w.heap.size, 0, none⟩) (Nat.le_refl _) _).setCell (p := ⟨w.heap.size, 1, none⟩) (Nat.le_refl _) _).setCell (p := ⟨w.heap.size, 2, none⟩) (Nat.le_refl _) _).setCell (p := ⟨w.heap.size, 3, none⟩) (Nat.le_refl _) _).setCell (p := ⟨w.heap.size, 4, none⟩) (Nat.le_refl _) _).setCell (p := ⟨w.heap.size, 5, none⟩) (Nat.le_refl _) _
      have hmade6 : MadeRows W6 (w.heap.size + 2) (.slice A2 k c2) (textV width ss).rows := by
        rw [← Hrows.out]
        refine ⟨xs, own_eq (hset Hout.out) (by rw [List.length_map, List.length_take, Hnl.out, Nat.min_self]) rfl, fun j r hr => ?_⟩
        obtain ⟨u, hu, ho⟩ := Hins.out j r hr
        exact ⟨u, hu, hset ho⟩
      have hrl2 : (textV width ss).rows.length = k := by rw [← Hrows.out, List.length_map, List.length_take, Hnl.out, Nat.min_self]
      obtain ⟨A3, c3, hv3, hc3, hrows3⟩ := hmade6.reads
      rw [hrl2] at hv3 hc3
      cases hv3
      obtain ⟨x0, x1, x2, x3, x4, x5⟩ := hbx.cells
      rw [hrl2] at x2
      dsimp only at x0 x1 x2 x3 x4 x5
      clear hW6
      have hval : (textV width ss).val A2 c2 = .agg #[.int .i64 width, .int .i64 k, .slice A2 k c2, .int .i64 0, .int .i64 0, .bool true] := by
        unfold Vw.val
        rw [hrl2]
        show Value.agg #[.int .i64 width, .int .i64 (ss.length : Nat), _, _, _, _] = _
        rw [Hnl.out]
        rfl
      exact bodyPost_ret (v := .agg #[.int .i64 width, .int .i64 k, .slice A2 k c2, .int .i64 0, .int .i64 0, .bool true]) (by simp [results, Tryd.results15, go_sem, x0, x1, x2, x3, x4, x5]) rfl ⟨A2, c2, by rw [hval], hc3, hrows3, hB6⟩
end Go.Proofs.YtmgepckhdgoemaaDoor
