/- Line-drawing characters: the arms of a text; in plain words. -/
import Derived.Test.YtdgmjbcfopkibaaDoorU1
namespace Go.Proofs.YtdgmjbcfopkibaaDoor
open Go Go.Lib

/-- The arms of the characters from 2500 to 257F: 1 up, 2 right, 4 down, 8 left. -/
def armTab : List Nat := [10, 10, 5, 5, 10, 10, 5, 5, 10, 10, 5, 5, 6, 6, 6, 6, 12, 12, 12, 12, 3, 3, 3, 3, 9, 9, 9, 9, 7, 7, 7, 7, 7, 7, 7, 7, 13, 13, 13, 13, 13, 13, 13, 13, 14, 14, 14, 14, 14, 14, 14, 14, 11, 11, 11, 11, 11, 11, 11, 11, 15, 15, 15, 15, 15, 15, 15, 15, 15, 15, 15, 15, 15, 15, 15, 15, 10, 10, 5, 5, 10, 5, 6, 6, 6, 12, 12, 12, 3, 3, 3, 9, 9, 9, 7, 7, 7, 13, 13, 13, 14, 14, 14, 11, 11, 11, 15, 15, 15, 6, 12, 9, 3, 0, 0, 0, 8, 1, 2, 4, 8, 1, 2, 4, 10, 5, 10, 5]
def armC (r : Int) : Nat := if r = 45 then 10 else if r = 124 then 5 else if r = 43 then 15 else if 9472 ≤ r ∧ r ≤ 9599 then armTab.getD (r - 9472).toNat 0 else 0
/-- The arms of a text. -/
def armT (l : List UInt8) : Nat := match runesD l with | [r] => armC r | _ => 0
theorem armTab_lt : ∀ x ∈ armTab, x < 16 := by decide +kernel
theorem armC_lt (r : Int) : armC r < 16 := by
  unfold armC
  repeat' split
  all_goals first | decide | skip
  by_cases h : (r - 9472).toNat < armTab.length
  · rw [List.getD_eq_getElem?_getD, List.getElem?_eq_getElem h]
    exact armTab_lt _ (List.getElem_mem h)
  · rw [List.getD_eq_getElem?_getD, List.getElem?_eq_none (by omega)]
    decide
theorem armT_lt (l : List UInt8) : armT l < 16 := by
  unfold armT
  split
  · exact armC_lt _
  · decide
theorem armT_one {l : List UInt8} {r : Int} (h : runesD l = [r]) : armT l = armC r := by unfold armT; rw [h]
theorem armT_not {l : List UInt8} (h : (runesD l).length ≠ 1) : armT l = 0 := by
  unfold armT
  split
  · rename_i r hr; rw [hr] at h; exact absurd rfl h
  · rfl
theorem runesL_nil : ∀ (n : Nat) (l : List UInt8), l.length ≤ n → runesL n l = [] → l = []
  | 0, l, h, _ => List.eq_nil_of_length_eq_zero (by omega)
  | n + 1, l, _, h => by
    unfold runesL at h
    split at h
    · assumption
    · cases h
/-- A text that is not valid has no arms. -/
theorem armT_invalid {l : List UInt8} (h : validD l = false) : armT l = 0 := by
  by_cases h1 : (runesD l).length = 1
  · obtain ⟨r, hr⟩ := List.length_eq_one_iff.1 h1
    rw [armT_one hr]
    have hne : l ≠ [] := by rintro rfl; rw [validD_nil] at h; cases h
    have hpos := List.length_pos_iff.2 hne
    obtain ⟨n, hn⟩ : ∃ n, l.length = n + 1 := ⟨l.length - 1, by omega⟩
    unfold runesD at hr
    rw [hn, runesL, if_neg hne] at hr
    injection hr with hr1 hr2
    have hw := decodeL_width l
    have hd := runesL_nil n _ (by rw [List.length_drop]; omega) hr2
    rw [validD_step l hne, hd, validD_nil] at h
    by_cases hb : (decodeL l).1 = 65533 ∧ (decodeL l).2 = 1
    · rw [← hr1, hb.1]; decide
    · rw [if_neg hb] at h; cases h
  · exact armT_not h1

theorem arms_and : ∀ a n : Fin 16, bits BinOp.and IntKind.i64 ((a.val : Nat) : Int) ((n.val : Nat) : Int) = ((a.val &&& n.val : Nat) : Int) := by decide +kernel
/-- Whether arms hold all of n. -/
def hasA (a n : Nat) : Bool := a &&& n == n
theorem and_arms {a n : Nat} (ha : a < 16) (hn : n < 16) : bits BinOp.and IntKind.i64 (a : Int) (n : Int) = ((a &&& n : Nat) : Int) := arms_and ⟨a, ha⟩ ⟨n, hn⟩
theorem hasA_eq (a n : Nat) : (((a &&& n : Nat) : Int) == (n : Int)) = hasA a n := by
  unfold hasA
  by_cases h : a &&& n = n
  · rw [h]; simp
  · rw [beq_eq_false_iff_ne.2 h, beq_eq_false_iff_ne]; omega
theorem hasA_zero {n : Nat} (h : n ≠ 0) : hasA 0 n = false := by unfold hasA; simp; omega

/-- The arms of a column of a row. -/
def picR : List Gl → Nat → Nat
  | [], _ => 0
  | g :: l, c => if g.wide then (if c < 2 then 0 else picR l (c - 2)) else if c = 0 then (if g.style = 3 then 0 else armT g.text.data.toList) else picR l (c - 1)
theorem picR_lt : ∀ (l : List Gl) (c : Nat), picR l c < 16
  | [], _ => by unfold picR; decide
  | g :: l, c => by
    unfold picR
    repeat' split
    all_goals first | decide | exact picR_lt l _ | exact armT_lt _
end Go.Proofs.YtdgmjbcfopkibaaDoor
