/- Tables: narratorref24.parts. -/
import Derived.Test.YtmgepckhdgoemaaDoorT5
namespace Go.Proofs.YtmgepckhdgoemaaDoor
open Go.RowKit

def partStep (ps : List (Nat × Nat)) (c : Nat) (free : Bool) : List (Nat × Nat) :=
  if free then ps else match ps.getLast? with
    | some p => if c < p.2 + 2 then ps.dropLast ++ [(p.1, c + 1)] else ps ++ [(c, c + 1)]
    | none => [(c, c + 1)]
/-- The columns of a range with gutters f. -/
def partsTo (f : Nat → Bool) : Nat → List (Nat × Nat)
  | 0 => []
  | c + 1 => partStep (partsTo f c) c (f c)

theorem partStep_free {ps : List (Nat × Nat)} {c : Nat} : partStep ps c true = ps := rfl
theorem partStep_nil {c : Nat} : partStep [] c false = [(c, c + 1)] := rfl
theorem partStep_near {qs : List (Nat × Nat)} {a e c : Nat} (h : c < e + 2) : partStep (qs ++ [(a, e)]) c false = qs ++ [(a, c + 1)] := by
  unfold partStep; simp [h]
theorem partStep_far {qs : List (Nat × Nat)} {a e c : Nat} (h : ¬ c < e + 2) : partStep (qs ++ [(a, e)]) c false = qs ++ [(a, e)] ++ [(c, c + 1)] := by
  unfold partStep; simp [h]
theorem snoc_cases {α : Type} (l : List α) : l = [] ∨ ∃ qs x, l = qs ++ [x] := by
  rcases List.eq_nil_or_concat l with h | ⟨qs, x, h⟩
  · exact .inl h
  · exact .inr ⟨qs, x, by rw [h, List.concat_eq_append]⟩
theorem partsTo_bd (f : Nat → Bool) : ∀ c, (partsTo f c).length ≤ c ∧ ∀ p ∈ partsTo f c, p.1 < p.2 ∧ p.2 ≤ c
  | 0 => ⟨Nat.le_refl _, fun p hp => by cases hp⟩
  | c + 1 => by
    obtain ⟨h1, h2⟩ := partsTo_bd f c
    unfold partsTo
    cases f c with
    | true => rw [partStep_free]; exact ⟨by omega, fun p hp => by have := h2 p hp; omega⟩
    | false =>
      rcases snoc_cases (partsTo f c) with h | ⟨qs, ⟨a, e⟩, h⟩
      · rw [h, partStep_nil]; exact ⟨by simp, fun p hp => by simp at hp; subst hp; simp⟩
      · rw [h] at h1 h2 ⊢
        by_cases hn : c < e + 2
        · rw [partStep_near hn]
          refine ⟨by simp at h1 ⊢; omega, fun p hp => ?_⟩
          rcases List.mem_append.1 hp with hp | hp
          · have := h2 p (by simp [hp]); omega
          · have := h2 (a, e) (by simp); simp at hp; subst hp; simp at this ⊢; omega
        · rw [partStep_far hn]
          refine ⟨by simp at h1 ⊢; omega, fun p hp => ?_⟩
          rcases List.mem_append.1 hp with hp | hp
          · have := h2 p hp; omega
          · simp at hp; subst hp; simp

def spanV (p : Nat × Nat) : List Value := [.int .i64 p.1, .int .i64 p.2]
theorem spans_length (ps : List (Nat × Nat)) : (ps.flatMap spanV).length = ps.length * 2 := flat_len (enc := spanV) (sz := 2) (fun _ => rfl) ps
theorem spans_get (qs : List (Nat × Nat)) (x : Nat × Nat) : ((qs ++ [x]).flatMap spanV)[qs.length * 2]? = some (.int .i64 x.1) ∧ ((qs ++ [x]).flatMap spanV)[qs.length * 2 + 1]? = some (.int .i64 x.2) := by
  constructor
  · have := flat_get (enc := spanV) (sz := 2) (fun _ => rfl) (qs ++ [x]) qs.length x 0 (.int .i64 x.1) (by simp) rfl
    simpa using this
  · exact flat_get (enc := spanV) (sz := 2) (fun _ => rfl) (qs ++ [x]) qs.length x 1 (.int .i64 x.2) (by simp) rfl
theorem spans_set (qs : List (Nat × Nat)) (a e e' : Nat) : ((qs ++ [(a, e)]).flatMap spanV).set (qs.length * 2 + 1) (.int .i64 e') = (qs ++ [(a, e')]).flatMap spanV := by
  rw [List.flatMap_append, List.flatMap_append, List.set_append, if_neg (by rw [spans_length]; omega), spans_length, show qs.length * 2 + 1 - qs.length * 2 = 1 by omega]
  rfl

end Go.Proofs.YtmgepckhdgoemaaDoor
