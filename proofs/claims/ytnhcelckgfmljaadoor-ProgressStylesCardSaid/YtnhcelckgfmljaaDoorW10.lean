/- narratorlaw27.glyphs. -/
import Derived.Test.YtnhcelckgfmljaaDoorW9
import Derived.Lib.OthersKept
namespace Go.Proofs.YtnhcelckgfmljaaDoor
open Go.RowKit

/-- The glyph of an ASCII byte. -/
def chU (b : UInt8) : Gl := ⟨Utf8.encode (b.toNat : Int), false, 0⟩
def glyL (l : List UInt8) : List Gl := l.map chU
theorem glyL_len (l : List UInt8) : (glyL l).length = l.length := by simp [glyL]
theorem glyL_snoc (s : ByteArray) (k : Nat) (h : k < s.size) : glyL (s.data.toList.take (k + 1)) = glyL (s.data.toList.take k) ++ [chU s[k]] := by
  unfold glyL; rw [List.take_succ_eq_append_getElem (by simpa using h), List.map_append]; rfl
/-- A row of the call's own stands while an iterator in another block moves on. -/
theorem own_iter {w : World} {b : Nat} {e : TypeId} {s n : Nat} {v : Value} {xs : List Value} (h : w.ownsRow b e s v n xs) {k : Nat} (hk : k < b) (str : ByteArray) (pos : Nat) : (w.iterAt k str pos).ownsRow b e s v n xs :=
  h.kept (row := some k) ⟨rfl, rfl, rfl, by rw [Lib.iterAt_size]; exact Nat.le_refl _, fun j _ hj => Lib.iterAt_other w k j str pos (fun e => hj (by rw [e]))⟩ (by
    cases hv : v.ownBlock with
    | none => exact .inl rfl
    | some g => right; intro he; cases he; have := (h.lt _ hv).1; omega)

set_option maxRecDepth 100000 in
set_option maxHeartbeats 4000000 in
theorem glyphsP (w : World) (s : ByteArray) (hs : s.size ≤ 100) (ha : ∀ k (h : k < s.size), s[k].toNat < 128) :
    Calls Tryd.prog 16 #[.string s] w fun e w' => ∃ vv, e = .returned vv ∧ w'.ownsRow w.heap.size 31 3 vv s.size ((glyL s.data.toList).flatMap Gl.enc) ∧ Below w.heap.size w w' := by
  have HA := hide ha
  clear ha
  go_enter Tryd.func16, Tryd.ntmps16
  go_wp2
  go_loopw [3] (fun o wr => ∃ pos : Nat, pos ≤ s.size ∧ wr.ownsRow (w.heap.size + 1) 31 3 o pos ((glyL (s.data.toList.take pos)).flatMap Gl.enc) ∧ wr.heap[w.heap.size]? = some (.stringIter s pos) ∧ Below w.heap.size w wr) (fun _ wr => s.size - wr.iterPos w.heap.size)
  case atStart => exact ⟨0, Nat.zero_le _, World.ownsRow_nil _ _ _ _, World.iter_heap w s 0, (Below.refl _ w).alloc (Nat.le_refl _) _⟩
  case round =>
    rename World => wo
    obtain ⟨pos, hp, hown, hit, hb⟩ := hrel
    have hsz : w.heap.size + 1 ≤ wo.heap.size := block_lt hit
    by_cases hlt : pos < s.size
    · have hnx : ∀ ty, (Instr.next (.pointer (some ⟨w.heap.size, 0, none⟩)) true ty).run Tryd.prog wo = _ := fun ty => Lib.run_next_ascii_at wo w.heap.size s pos ty hit hlt (HA.out pos hlt)
      have Hsn := hide (glyL_snoc s pos hlt)
      obtain ⟨Ao, co0, rfl⟩ := own_form hown
      have hown5 := own_iter hown (Nat.lt_succ_self _) s (pos + 1)
      have hit5 := Lib.iterAt_heap wo w.heap.size s pos (pos + 1) hit
      have hb5 := Lib.below_iterAt hb (k := w.heap.size) (Nat.le_refl _) s (pos + 1)
      have hs5 := Lib.iterAt_size wo w.heap.size s (pos + 1)
      obtain ⟨w5, hw5⟩ : ∃ w5, wo.iterAt w.heap.size s (pos + 1) = w5 := ⟨_, rfl⟩
      rw [hw5] at hnx hown5 hit5 hb5 hs5
      have hs5' : w.heap.size + 1 ≤ w5.heap.size := by omega
      clear hw5 hown hb hs5
      go_wp2_with (first
        | (at_builtin; (refine wpList_app w5 (.tmp 11) (.tmp 15) 29 rfl rfl el_glyph (w.heap.size + 1) _ pos _ (by rfl) hown5 hs5' _ 1 1 _ _ (by rfl) rfl rfl (by simp [Value.oneCell']) (by omega) ?_); intro v6 w6 hown6 hg6)
        | fail)
      have hb6 := below_own (Below.refl (w.heap.size + 1) w5) hown5 hg6 (Nat.le_refl _) hs5'
      have hit6 := block_below hit5 hb6 (Nat.lt_succ_self _)
      have hit0 := hide hit
      go_roundw
      case rel => exact ⟨pos + 1, by omega, own_eq hown6 rfl (by rw [Hsn.out]; simp [Gl.enc, chU]), hit6, hb5.trans (hb6.mono (Nat.le_succ _))⟩
      case measure => simp only [World.iterPos, hit6, hit0.out]; omega
    · obtain rfl : pos = s.size := by omega
      have hnx : ∀ ty, (Instr.next (.pointer (some ⟨w.heap.size, 0, none⟩)) true ty).run Tryd.prog wo = _ := fun ty => Lib.run_next_end_at wo w.heap.size s s.size ty hit hlt
      have HTk := hide (show s.data.toList.take s.size = s.data.toList from List.take_length)
      go_wp2
      go_ret
      exact ⟨_, rfl, own_eq (own_more hown (by omega)) rfl (by rw [HTk.out]), hb⟩
end Go.Proofs.YtnhcelckgfmljaaDoor
