/- Chapter 45: the reference of Between. -/
import Derived.Test.YtdmnnjpbndngeaaDoorK10
namespace Go.Proofs.YtdmnnjpbndngeaaDoor
open Go.RowKit Go.Shelf

theorem below_drewN {B : Nat} {w w1 : World} (h : Below B w w1) (n : Nat) : Below B w (w1.drewN n) := h.trans ⟨rfl, rfl, rfl, Nat.le_refl _, fun _ _ => rfl⟩
theorem part_succ (l : List Gl) (f j : Nat) (h : f ≤ j) (hj : j < l.length) : textB ((l.take (j + 1)).drop f) = textB ((l.take j).drop f) ++ l[j].text := by
  rw [List.take_succ_eq_append_getElem hj, List.drop_append_of_le_length (by rw [List.length_take]; omega), textB_app, textB_one]
theorem part_none (l : List Gl) (f : Nat) : textB ((l.take f).drop f) = ⟨#[]⟩ := by
  rw [List.drop_of_length_le (by rw [List.length_take]; omega)]; rfl
theorem part_past (l : List Gl) (f a j : Nat) (h : f ≤ j) (hj : j ≤ a ∨ j = f) (hge : a ≤ j) : textB ((l.take j).drop f) = textB ((l.take a).drop f) := by
  rcases hj with hj | rfl
  · rw [show j = a by omega]
  · rw [part_none, List.drop_of_length_le (by rw [List.length_take]; omega)]; rfl

/-- What has been written before row k of n. -/
def outT (f : Nat → ByteArray) (a n k : Nat) : ByteArray := if k < n then linesN (linesFrom f a k) else joinN (linesFrom f a n)
theorem outT_zero (f : Nat → ByteArray) (a n : Nat) (h : 0 < n) : outT f a n 0 = ⟨#[]⟩ := by unfold outT; rw [if_pos h]; rfl
theorem outT_mid (f : Nat → ByteArray) (a n k : Nat) (h : k + 1 < n) : outT f a n (k + 1) = outT f a n k ++ f (a + k) ++ nl := by
  unfold outT; rw [if_pos h, if_pos (by omega), linesFrom_succ, linesN_snoc]
theorem outT_last (f : Nat → ByteArray) (a n k : Nat) (h : k + 1 = n) : outT f a n (k + 1) = outT f a n k ++ f (a + k) := by
  subst h
  unfold outT; rw [if_neg (by omega), if_pos (by omega), linesFrom_succ, joinN_lines]
theorem outT_size (f : Nat → ByteArray) (M n a k : Nat) (hk : k < n) (h : ∀ j, j < n → (f (a + j)).size ≤ M) : (outT f a n k).size ≤ n * (M + 1) := by
  unfold outT; rw [if_pos hk]
  have := linesFrom_size f M k a fun j hj => h j (by omega)
  have : k * (M + 1) ≤ n * (M + 1) := Nat.mul_le_mul_right _ (by omega)
  omega

end Go.Proofs.YtdmnnjpbndngeaaDoor
