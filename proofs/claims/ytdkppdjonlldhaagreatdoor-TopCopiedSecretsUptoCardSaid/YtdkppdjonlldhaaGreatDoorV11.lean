/- Proper views: what the checks answer; narratorref15.Check. -/
import Derived.Test.YtdkppdjonlldhaaGreatDoorV10
namespace Go.Proofs.YtdkppdjonlldhaaGreatDoor
open Go.RowKit

/-- The first error of a list. -/
def firstErr {α : Type} (f : α → Int) : List α → Int
  | [] => 0
  | x :: l => if f x ≠ 0 then f x else firstErr f l
theorem firstErr_at {α : Type} (f : α → Int) : ∀ (l : List α) (k : Nat) (hk : k < l.length), (∀ i (hi : i < k), f (l[i]'(by omega)) = 0) → f l[k] ≠ 0 → firstErr f l = f l[k]
  | x :: l, 0, hk, _, h => by unfold firstErr; exact if_pos h
  | x :: l, k + 1, hk, h0, h => by
    unfold firstErr
    have hx : f x = 0 := h0 0 (by omega)
    rw [if_neg (by omega)]
    exact firstErr_at f l k (by simpa using hk) (fun i hi => h0 (i + 1) (by omega)) h
theorem firstErr_none {α : Type} (f : α → Int) : ∀ (l : List α), (∀ i (hi : i < l.length), f l[i] = 0) → firstErr f l = 0
  | [], _ => rfl
  | x :: l, h => by
    unfold firstErr
    have hx : f x = 0 := h 0 (by simp)
    rw [if_neg (by omega)]
    exact firstErr_none f l (fun i hi => h (i + 1) (by simpa using hi))
theorem firstErr_zero {α : Type} {f : α → Int} : ∀ {l : List α}, firstErr f l = 0 → ∀ x ∈ l, f x = 0
  | x :: l, h, y, hy => by
    unfold firstErr at h
    by_cases hx : f x = 0
    · rw [if_neg (by simp [hx])] at h
      rcases List.mem_cons.1 hy with rfl | hy
      · exact hx
      · exact firstErr_zero h y hy
    · rw [if_pos hx] at h; exact absurd h hx

theorem firstErr_here {α : Type} {f : α → Int} {l : List α} {k : Nat} {r : α} (hk : l[k]? = some r) (h0 : ∀ i, i < k → ∀ x, l[i]? = some x → f x = 0) (hne : f r ≠ 0) : firstErr f l = f r := by
  obtain ⟨hlt, rfl⟩ := List.getElem?_eq_some_iff.1 hk
  exact firstErr_at f l k hlt (fun i hi => h0 i hi _ (List.getElem?_eq_getElem (by omega))) hne

def lastBlank (l : List Gl) : Bool := match l.getLast? with | some g => isBlank g | none => false
theorem lastBlank_at (l : List Gl) (n : Nat) (h : l.length = n + 1) (hn : n < l.length) : lastBlank l = isBlank l[n] := by
  have h1 : l.getLast? = some l[n] := by
    rw [List.getLast?_eq_getElem?, show l.length - 1 = n by omega, List.getElem?_eq_getElem (by omega)]
  unfold lastBlank; rw [h1]
theorem lastBlank_nil (l : List Gl) (h : l.length = 0) : lastBlank l = false := by
  have : l = [] := List.length_eq_zero_iff.1 h
  subst this; rfl

/-- Why a row is not proper. -/
def rowErr (width : Int) (l : List Gl) : Int :=
  if firstErr glErr l ≠ 0 then firstErr glErr l else if width < widthOf l then 12 else if lastBlank l then 1 else 0
def Vw.curB (v : Vw) : Bool := ((decide (v.row < 0) || decide (v.height ≤ v.row)) || decide (v.col < 0)) || decide (v.width ≤ v.col)
/-- Why a view is not proper. -/
def Vw.err (v : Vw) : Int :=
  if sizedB v.width v.height = false then 2 else if (v.rows.length : Int) ≠ v.height then 11 else if v.curB then 2 else firstErr (rowErr v.width) v.rows

theorem rowErr_glyph {width : Int} {l : List Gl} (h : firstErr glErr l ≠ 0) : rowErr width l = firstErr glErr l := by unfold rowErr; rw [if_pos h]
theorem rowErr_wide {width : Int} {l : List Gl} (h : firstErr glErr l = 0) (hw : decide (width < (widthOf l : Int)) = true) : rowErr width l = 12 := by
  unfold rowErr; rw [if_neg (by simp [h]), if_pos (of_decide_eq_true hw)]
theorem rowErr_last {width : Int} {l : List Gl} (h : firstErr glErr l = 0) (hw : decide (width < (widthOf l : Int)) = false) : rowErr width l = if lastBlank l then 1 else 0 := by
  unfold rowErr; rw [if_neg (by simp [h]), if_neg (of_decide_eq_false hw)]

/-- Small enough for the walks. -/
def Vw.Tame (v : Vw) : Prop := v.rows.length ≤ 12 ∧ ∀ r ∈ v.rows, r.length ≤ 140 ∧ ∀ g ∈ r, g.text.size ≤ 40
theorem Vw.tame {v : Vw} (h : v.great = false) : v.Tame := by
  unfold Vw.great at h
  rw [Bool.or_eq_false_iff, Bool.or_eq_false_iff] at h
  obtain ⟨⟨h1, h2⟩, h3⟩ := h
  refine ⟨by have := of_decide_eq_false h1; omega, fun r hr => ?_⟩
  rw [List.any_eq_false] at h3
  have h4 := h3 r hr
  unfold rowGreat at h4
  rw [Bool.not_eq_true, Bool.or_eq_false_iff, List.any_eq_false] at h4
  refine ⟨by have := of_decide_eq_false h4.1; omega, fun g hg => ?_⟩
  have := h4.2 g hg
  simp at this; omega

theorem curWays (v : Vw) (c : Bool) (h : v.curB = c) :
    (c = true ∧ decide (v.row < 0) = true) ∨ (c = true ∧ decide (v.row < 0) = false ∧ decide (v.height ≤ v.row) = true) ∨
    (c = true ∧ decide (v.row < 0) = false ∧ decide (v.height ≤ v.row) = false ∧ decide (v.col < 0) = true) ∨
    (c = true ∧ decide (v.row < 0) = false ∧ decide (v.height ≤ v.row) = false ∧ decide (v.col < 0) = false ∧ decide (v.width ≤ v.col) = true) ∨
    (c = false ∧ decide (v.row < 0) = false ∧ decide (v.height ≤ v.row) = false ∧ decide (v.col < 0) = false ∧ decide (v.width ≤ v.col) = false) := by
  subst h
  unfold Vw.curB
  cases decide (v.row < 0) <;> cases decide (v.height ≤ v.row) <;> cases decide (v.col < 0) <;> cases decide (v.width ≤ v.col) <;> simp

end Go.Proofs.YtdkppdjonlldhaaGreatDoor
