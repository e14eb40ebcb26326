/- Tables: narratorref24.dark, Valid. -/
import Derived.Test.YtmgepckhdgoemaaDoorT3
import Derived.Test.YtmgepckhdgoemaaDoorT2
import Derived.StillTailTactics
namespace Go.Proofs.YtmgepckhdgoemaaDoor
open Go.RowKit

theorem bk_cons (g : Gl) (l : List Gl) (c : Nat) : bk (g :: l) c = if c < glW g then spaceB g else bk l (c - glW g) := by
  unfold bk colsOf
  rw [List.flatMap_cons]
  by_cases h : c < glW g
  · rw [if_pos h, List.getElem?_append_left (by simpa using h), List.getElem?_replicate, if_pos h]; rfl
  · rw [if_neg h, List.getElem?_append_right (by simp; omega)]; simp
theorem idx_bk (l : List Gl) : ∀ c : Nat, (∃ n : Nat, ∃ h : n < l.length, idx l c = n ∧ bk l c = spaceB l[n]) ∨ ((l.length : Int) ≤ idx l c ∧ idx l c ≤ l.length + c ∧ bk l c = true) := by
  induction l with
  | nil => intro c; right; exact ⟨by show (0 : Int) ≤ (c : Int); omega, by show (c : Int) ≤ ((0 : Nat) : Int) + c; omega, rfl⟩
  | cons g l ih =>
    intro c
    by_cases h : c < glW g
    · left
      refine ⟨0, by simp, ?_, ?_⟩
      · show (if (c : Int) < glW g then (0 : Int) else _) = _; rw [if_pos (by omega)]; rfl
      · rw [bk_cons, if_pos h]; rfl
    · have hi : idx (g :: l) c = 1 + idx l ((c - glW g : Nat) : Int) := by
        show (if (c : Int) < glW g then (0 : Int) else _) = _
        rw [if_neg (by omega), show ((c : Int) - glW g) = ((c - glW g : Nat) : Int) by omega]
      rcases ih (c - glW g) with ⟨n, hn, h1, h2⟩ | ⟨h1, h2, h3⟩
      · left
        refine ⟨n + 1, by simpa using hn, by rw [hi, h1]; omega, ?_⟩
        rw [bk_cons, if_neg h, h2]; rfl
      · right
        rw [hi, bk_cons, if_neg h]
        simp only [List.length_cons]
        exact ⟨by omega, by omega, h3⟩

theorem bits_const (W : Nat) (u : Bool) : (bits W fun _ => u).map Value.bool = List.replicate W (.bool u) := by
  unfold bits
  induction W with
  | zero => rfl
  | succ W ih => rw [List.range_succ, List.map_append, List.map_append, ih, List.replicate_succ']; rfl
theorem bits_upto (W : Nat) (A B : Nat → Bool) (j : Nat) {u : Bool} (h : A j = u) : ((bits W fun c => if c < j then A c else B c).map Value.bool).set j (.bool u) = (bits W fun c => if c < j + 1 then A c else B c).map Value.bool :=
  bits_set W _ _ j u fun c => by
    by_cases hcj : c = j
    · subst hcj; rw [if_pos (Nat.lt_succ_self _), if_pos rfl, h]
    · rw [if_neg hcj]
      by_cases h3 : c < j
      · rw [if_pos (by omega), if_pos h3]
      · rw [if_neg (by omega), if_neg h3]

def Vw.ok (v : Vw) : Bool := v.err == 0
/-- What the reference calls a valid range. -/
def valid24 (v : Vw) (t b : Int) : Bool := v.ok && validB v.height t b
end Go.Proofs.YtmgepckhdgoemaaDoor
