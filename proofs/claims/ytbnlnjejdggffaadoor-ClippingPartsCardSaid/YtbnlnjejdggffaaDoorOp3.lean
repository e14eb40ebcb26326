/- A row's argument that is a place, opened to the words of the walks. -/
import Derived.Test.YtbnlnjejdggffaaDoorOpen
import Derived.Test.YtbnlnjejdggffaaDoorK7
namespace Go.Proofs.YtbnlnjejdggffaaDoor
open Go.ChangeShapes Go.WideShapes Go.Deep Go.Joins Go.RowKit

section
variable {H : Type} {enc : TypeId × Value → H} {w : World} {base : Nat} {spare : Nat → Bool} {held : Bool}
set_option maxRecDepth 100000 in
theorem open_place {r : Reach} {b0 : Nat} {v : Value} {d : DataW H} {p : List MemPlace} (hv : Value.okWide Tryd.prog w r b0 26 v) (h : DataW.Trod enc Tryd.prog w base spare held 26 v d p) : ∃ pl : Pl, v = pl.val := by
  obtain ⟨v0, v1, v2, y0, y1, y2, n, rfl, -, -, t0, t1, t2⟩ := open_agg3 Tryd.underlying26 (by kernel_rfl) (by kernel_rfl) hv h
  obtain ⟨z0, h0, -⟩ := DataW.trod_int Tryd.underlying3 t0
  obtain ⟨z1, h1, -⟩ := DataW.trod_int Tryd.underlying3 t1
  obtain ⟨z2, h2, -⟩ := DataW.trod_int Tryd.underlying3 t2
  cases h0
  cases h1
  cases h2
  exact ⟨⟨z0, z1, z2⟩, rfl⟩
end
end Go.Proofs.YtbnlnjejdggffaaDoor
