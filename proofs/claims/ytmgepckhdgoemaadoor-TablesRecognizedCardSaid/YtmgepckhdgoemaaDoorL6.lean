/- The walk of the law TablesForm. -/
import Derived.Test.YtmgepckhdgoemaaDoorL5
import Derived.Test.YtmgepckhdgoemaaDoorP3
import Derived.Deep.RegionHeld3
namespace Go.Proofs.YtmgepckhdgoemaaDoor
open Go.RowKit

theorem rb_cells {w : World} {b : Nat} {v0 v1 v2 v3 v4 v5 v6 v7 : Value} {t : TypeId} (h : w.heap[b]? = some (.cells #[v0, v1, v2, v3, v4, v5, v6, v7] t (0, 0))) : w.cell? ⟨b, 0, none⟩ = some v0 ∧ w.cell? ⟨b, 1, none⟩ = some v1 ∧
    w.cell? ⟨b, 2, none⟩ = some v2 ∧ w.cell? ⟨b, 3, none⟩ = some v3 ∧ w.cell? ⟨b, 4, none⟩ = some v4 ∧ w.cell? ⟨b, 5, none⟩ = some v5 ∧ w.cell? ⟨b, 6, none⟩ = some v6 ∧ w.cell? ⟨b, 7, none⟩ = some v7 :=
  ⟨cell_block h 0, cell_block h 1, cell_block h 2, cell_block h 3, cell_block h 4, cell_block h 5, cell_block h 6, cell_block h 7⟩
theorem tabs_len {rows : List (List Gl)} {W : Nat} : ∀ {e : Nat} {l : List Rg}, TabsFrom rows W e l → l.length ≤ rows.length - e
  | _, [], _ => Nat.zero_le _
  | e, r :: l, ⟨t, b, h1, h2, h3, _, _, h6⟩ => by
    have := tabs_len h6
    simp only [List.length_cons]
    omega
theorem colsR_len_get {rows : List (List Gl)} {W t b k : Nat} {p : Nat × Nat} (h : (colsR rows W t b)[k]? = some (colR rows t b p)) : p ∈ partsTo (gut rows t b) W := by
  unfold colsR at h
  rw [List.getElem?_map] at h
  cases hp : (partsTo (gut rows t b) W)[k]? with
  | none => rw [hp] at h; cases h
  | some p' =>
    rw [hp] at h
    have h' : colR rows t b p' = colR rows t b p := by simpa using h
    have e1 : ((p'.1 : Nat) : Int) = p.1 := congrArg Rg.left h'
    have e2 : ((p'.2 : Nat) : Int) = p.2 := congrArg Rg.right h'
    have : p' = p := Prod.ext (by omega) (by omega)
    rw [← this]
    exact List.mem_of_getElem? hp
theorem colsT_yes {v : Vw} {W t b : Nat} {r : Rg} (hok : v.ok = true) (hW : v.width = W) (h1 : t < b) (h2 : b ≤ v.rows.length) (ht : r.top = t) (hb : r.bottom = b) : colsT v r = colsR v.rows W t b := by
  unfold colsT
  rw [ht, hb, valid24_of hok h1 h2, if_pos rfl, hW]
  simp

end Go.Proofs.YtmgepckhdgoemaaDoor
