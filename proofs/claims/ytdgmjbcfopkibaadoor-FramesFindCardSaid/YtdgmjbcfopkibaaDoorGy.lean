/- The glyphs of an ASCII string, one for each byte; what a range over such a string meets. -/
import Derived.Test.YtdgmjbcfopkibaaDoorApp3
import Derived.Lib.OthersKept
namespace Go.Proofs.YtdgmjbcfopkibaaDoor
open Go.RowKit

/-- The glyph of an ASCII byte. -/
def chU (b : UInt8) : Gl := ⟨Utf8.encode (b.toNat : Int), false, 0⟩
def glyL (l : List UInt8) : List Gl := l.map chU
theorem glyL_len (l : List UInt8) : (glyL l).length = l.length := by simp [glyL]
theorem glyL_snoc (s : ByteArray) (k : Nat) (h : k < s.size) : glyL (s.data.toList.take (k + 1)) = glyL (s.data.toList.take k) ++ [chU s[k]] := by
  unfold glyL; rw [List.take_succ_eq_append_getElem (by simpa using h), List.map_append]; rfl
/-- A row of the call's own stands while an iterator in another block moves on. -/
theorem own_iter {w : World} {b : Nat} {e : TypeId} {s n : Nat} {v : Value} {xs : List Value} (h : w.ownsRow b e s v n xs) {k : Nat} (hk : k < b) (str : ByteArray) (pos : Nat) : (w.iterAt k str pos).ownsRow b e s v n xs :=
  h.kept (row := some k) ⟨rfl, rfl, rfl, by rw [Lib.iterAt_size]; exact Nat.le_refl _, fun j _ hj => Lib.iterAt_other w k j str pos (fun e => hj (by rw [e]))⟩ (by
    cases hv : v.ownBlock with
    | none => exact .inl rfl
    | some g => right; intro he; cases he; have := (h.lt _ hv).1; omega)
end Go.Proofs.YtdgmjbcfopkibaaDoor
