/- narratorref01.Encode: the bytes of characters. -/
import Derived.Test.YtbnlnjejdggffaaDoorV3
import Derived.Lib.MapLaws
namespace Go.Proofs.YtbnlnjejdggffaaDoor
open Go.RowKit

abbrev RnRow (w : World) (B : Nat) (A : Option Addr) (l : List Int) : Prop := Sl (One (Value.int .i32)) 1 w B A l
theorem el_rune : ElemOf Tryd.prog 77 21 (.int .i32 0) 1 4 := ⟨Tryd.underlying77, by kernel_rfl, rfl, by decide, by decide⟩

def encs (l : List Int) : List UInt8 := l.flatMap Lib.encodeRune
theorem encs_snoc (l : List Int) (k : Nat) (hk : k < l.length) : encs (l.take (k + 1)) = encs (l.take k) ++ Lib.encodeRune l[k] := by
  unfold encs; rw [List.take_succ_eq_append_getElem hk, List.flatMap_append]; simp
theorem enc_len (r : Int) : (Lib.encodeRune r).length ≤ 4 := by unfold Lib.encodeRune; rw [List.length_map]; exact (Lib.encodeRuneZ_length r).2
theorem encs_len (l : List Int) : (encs l).length ≤ 4 * l.length := by
  unfold encs
  induction l with
  | nil => simp
  | cons x l ih => have := enc_len x; simp only [List.flatMap_cons, List.length_append, List.length_cons]; omega
theorem enc_cells (r : Int) : (Lib.encodeRune r).map byteV = (Lib.encodeRuneZ r).map (Value.int .u8) := by
  unfold Lib.encodeRune byteV
  rw [List.map_map]
  refine List.map_congr_left fun x hx => ?_
  obtain ⟨h0, h1⟩ := Lib.encodeRuneZ_byte r x hx
  simp only [Function.comp_apply]
  congr 1
  have : x.toNat < 256 := by omega
  simp [Nat.toUInt8, UInt8.toNat_ofNat', Nat.mod_eq_of_lt this]
  omega

theorem encs_step {w' : World} {B : Nat} {v' : Value} {e : TypeId} {l : List Int} {k n m : Nat} (hk : k < l.length) {news : List Value} (hnews : news = (Lib.encodeRuneZ l[k]).map (Value.int .u8)) (hn : n = (encs (l.take k)).length) (hm : m = news.length)
    (h : w'.ownsRow B e 1 v' (n + m) ((encs (l.take k)).map byteV ++ news)) : w'.ownsRow B e 1 v' (encs (l.take (k + 1))).length ((encs (l.take (k + 1))).map byteV) := by
  rw [encs_snoc l k hk, List.map_append, enc_cells, ← hnews, List.length_append]
  have : (Lib.encodeRune l[k]).length = m := by rw [hm, hnews, List.length_map]; unfold Lib.encodeRune; rw [List.length_map]
  rw [this, ← hn]
  exact h

end Go.Proofs.YtbnlnjejdggffaaDoor
