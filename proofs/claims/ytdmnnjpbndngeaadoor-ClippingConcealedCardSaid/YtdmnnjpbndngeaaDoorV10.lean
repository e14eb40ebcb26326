/- Great views. -/
import Derived.Test.YtdmnnjpbndngeaaDoorV9
namespace Go.Proofs.YtdmnnjpbndngeaaDoor
open Go.RowKit

def rowGreat (l : List Gl) : Bool := decide (140 < l.length) || l.any fun g => decide (40 < g.text.size)
def Vw.great (v : Vw) : Bool := (decide (12 < v.rows.length) || (decide (40 < v.width) && decide (2 < v.rows.length))) || v.rows.any rowGreat

theorem any_at {α : Type} (p : α → Bool) (l : List α) (k : Nat) (hk : k < l.length) (h : p l[k] = true) : l.any p = true :=
  List.any_eq_true.2 ⟨_, List.getElem_mem hk, h⟩

end Go.Proofs.YtdmnnjpbndngeaaDoor
