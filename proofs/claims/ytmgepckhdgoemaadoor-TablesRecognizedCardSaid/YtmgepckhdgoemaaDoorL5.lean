/- The walk of the law TablesGutters. -/
import Derived.Test.YtmgepckhdgoemaaDoorL4
import Derived.Test.YtmgepckhdgoemaaDoorT14
namespace Go.Proofs.YtmgepckhdgoemaaDoor
open Go.RowKit

theorem gut_start (rows : List (List Gl)) (t c : Nat) : gut rows t t c = true := by unfold gut rowsIn allB; simp
theorem gut_snoc (rows : List (List Gl)) (t b : Nat) (ht : t ≤ b) (hb : b < rows.length) (c : Nat) : gut rows t (b + 1) c = (gut rows t b c && gut rows b (b + 1) c) := by
  have e : rowsIn rows t (b + 1) = rowsIn rows t b ++ rowsIn rows b (b + 1) := by
    unfold rowsIn
    rw [show b + 1 - t = (b - t) + 1 by omega, show b + 1 - b = 1 by omega]
    rw [List.take_succ_eq_append_getElem (by rw [List.length_drop]; omega), List.getElem_drop, List.drop_eq_getElem_cons hb]
    congr 1
    simp only [List.take_succ_cons, List.take_zero]
    congr 2
    omega
  unfold gut allB
  rw [e, List.all_append]
theorem gutT_yes {v : Vw} {W t b : Nat} (hok : v.ok = true) (hW : v.width = W) (h1 : t < b) (h2 : b ≤ v.rows.length) : gutT v t b = bits W (gut v.rows t b) := by
  unfold gutT
  rw [valid24_of hok h1 h2, if_pos rfl, hW]
  simp

theorem vb_cells {w : World} {b : Nat} {v0 v1 v2 v3 v4 v5 : Value} {t : TypeId} (h : w.heap[b]? = some (.cells #[v0, v1, v2, v3, v4, v5] t (0, 0))) : w.cell? ⟨b, 0, none⟩ = some v0 ∧ w.cell? ⟨b, 1, none⟩ = some v1 ∧
    w.cell? ⟨b, 2, none⟩ = some v2 ∧ w.cell? ⟨b, 3, none⟩ = some v3 ∧ w.cell? ⟨b, 4, none⟩ = some v4 ∧ w.cell? ⟨b, 5, none⟩ = some v5 :=
  ⟨cell_block h 0, cell_block h 1, cell_block h 2, cell_block h 3, cell_block h 4, cell_block h 5⟩
end Go.Proofs.YtmgepckhdgoemaaDoor
