/- Chapter 45: Lines. -/
import Derived.Test.YtdmnnjpbndngeaaDoorK8
import Derived.Test.YtdmnnjpbndngeaaDoorV11
namespace Go.Proofs.YtdmnnjpbndngeaaDoor
open Go.RowKit Go.Shelf

theorem textB_size0 {l : List Gl} (hl : l.length ≤ 140) (h : ∀ g ∈ l, g.text.size ≤ 40) : (textB l).size ≤ 100000 := by
  have := textB_size l (fun g hg => by have := h g hg; omega) l.length (Nat.le_refl _)
  rw [List.take_length] at this
  omega
/-- The ways through the tests of Lines. -/
def LinWays (v : Vw) (a b : Int) : Prop :=
  ((v.err != 0) = true ∧ linE v a b = v.err ∧ linT v a b = ⟨#[]⟩) ∨
  (v.err = 0 ∧ a < 0 ∧ linE v a b = 2 ∧ linT v a b = ⟨#[]⟩) ∨
  (v.err = 0 ∧ 0 ≤ a ∧ b < a ∧ linE v a b = 2 ∧ linT v a b = ⟨#[]⟩) ∨
  (v.err = 0 ∧ 0 ≤ a ∧ a ≤ b ∧ v.height < b ∧ linE v a b = 2 ∧ linT v a b = ⟨#[]⟩) ∨
  (v.err = 0 ∧ 0 ≤ a ∧ a ≤ b ∧ b ≤ v.height ∧ linE v a b = 0)
theorem linWays (v : Vw) (a b : Int) : LinWays v a b := by
  have hT : linE v a b ≠ 0 → linT v a b = ⟨#[]⟩ := fun h => by unfold linT; rw [if_neg h]
  have e : linE v a b = linE v a b := rfl
  conv at e => rhs; unfold linE
  unfold LinWays
  by_cases h0 : v.err = 0
  · right
    rw [if_neg (by simp [h0])] at e
    by_cases h1 : a < 0
    · rw [if_pos h1] at e; exact .inl ⟨h0, h1, e, hT (by omega)⟩
    · right
      rw [if_neg h1] at e
      by_cases h2 : b < a
      · rw [if_pos h2] at e; exact .inl ⟨h0, by omega, h2, e, hT (by omega)⟩
      · right
        rw [if_neg h2] at e
        by_cases h3 : v.height < b
        · rw [if_pos h3] at e; exact .inl ⟨h0, by omega, by omega, h3, e, hT (by omega)⟩
        · rw [if_neg h3] at e; exact .inr ⟨h0, by omega, by omega, by omega, e⟩
  · rw [if_pos h0] at e
    exact .inl ⟨by simpa using h0, e, hT (by omega)⟩

end Go.Proofs.YtdmnnjpbndngeaaDoor
