/- A row's argument that is a region, opened to the words of the walks. -/
import Derived.Test.YtmloijhdibicdaaDoorOpen
import Derived.Test.YtmloijhdibicdaaDoorReg
namespace Go.Proofs.YtmloijhdibicdaaDoor
open Go.ChangeShapes Go.WideShapes Go.Deep Go.Joins Go.RowKit

section
variable {H : Type} {enc : TypeId × Value → H} {P : Program} {w : World} {base : Nat} {spare : Nat → Bool} {held : Bool}
theorem open_agg8 {r : Reach} {b0 : Nat} {t : TypeId} {f0 f1 f2 f3 f4 f5 f6 f7 : Field} {v : Value} {d : DataW H} {p : List MemPlace} (hs : P.underlying t = some (.struct #[f0, f1, f2, f3, f4, f5, f6, f7])) (hone : oneCellFields P #[f0, f1, f2, f3, f4, f5, f6, f7] = true) (hC : P.cellsOf t = 8)
    (hv : Value.okWide P w r b0 t v) (h : DataW.Trod enc P w base spare held t v d p) :
    ∃ (v0 v1 v2 v3 v4 v5 v6 v7 : Value) (y0 y1 y2 y3 y4 y5 y6 y7 : DataW H × List MemPlace) (n : Nat), v = .agg #[v0, v1, v2, v3, v4, v5, v6, v7] ∧
      DataW.trod enc P w base spare held n f0.type [v0] = some y0 ∧ DataW.trod enc P w base spare held n f1.type [v1] = some y1 ∧ DataW.trod enc P w base spare held n f2.type [v2] = some y2 ∧ DataW.trod enc P w base spare held n f3.type [v3] = some y3 ∧ DataW.trod enc P w base spare held n f4.type [v4] = some y4 ∧ DataW.trod enc P w base spare held n f5.type [v5] = some y5 ∧
      DataW.trod enc P w base spare held n f6.type [v6] = some y6 ∧ DataW.trod enc P w base spare held n f7.type [v7] = some y7 := by
  obtain ⟨cs, rfl, hsz⟩ := okWide_struct hs hv
  obtain ⟨l⟩ := cs
  match l, hsz.trans hC with
  | [c0, c1, c2, c3, c4, c5, c6, c7], _ =>
    obtain ⟨fuel, hf⟩ := h
    obtain ⟨xs, n, _, hx, _, hlen, hg⟩ := DataW.trod_struct hs hf
    obtain ⟨o0, k0⟩ := hone_of hone 0 f0 rfl
    obtain ⟨o1, k1⟩ := hone_of hone 1 f1 rfl
    obtain ⟨o2, k2⟩ := hone_of hone 2 f2 rfl
    obtain ⟨o3, k3⟩ := hone_of hone 3 f3 rfl
    obtain ⟨o4, k4⟩ := hone_of hone 4 f4 rfl
    obtain ⟨o5, k5⟩ := hone_of hone 5 f5 rfl
    obtain ⟨o6, k6⟩ := hone_of hone 6 f6 rfl
    obtain ⟨o7, k7⟩ := hone_of hone 7 f7 rfl
    match xs, hlen with
    | [y0, y1, y2, y3, y4, y5, y6, y7], _ =>
      exact ⟨c0, c1, c2, c3, c4, c5, c6, c7, y0, y1, y2, y3, y4, y5, y6, y7, n, rfl, by simpa [Value.cells, o0, k0] using hg 0 f0 rfl, by simpa [Value.cells, o1, k1] using hg 1 f1 rfl, by simpa [Value.cells, o2, k2] using hg 2 f2 rfl, by simpa [Value.cells, o3, k3] using hg 3 f3 rfl, by simpa [Value.cells, o4, k4] using hg 4 f4 rfl, by simpa [Value.cells, o5, k5] using hg 5 f5 rfl, by simpa [Value.cells, o6, k6] using hg 6 f6 rfl, by simpa [Value.cells, o7, k7] using hg 7 f7 rfl⟩
end

section
variable {H : Type} {enc : TypeId × Value → H} {w : World} {base : Nat} {spare : Nat → Bool} {held : Bool}
set_option maxRecDepth 100000 in
theorem open_region {r : Reach} {b0 : Nat} {v : Value} {d : DataW H} {p : List MemPlace} (hv : Value.okWide Tryd.prog w r b0 74 v) (h : DataW.Trod enc Tryd.prog w base spare held 74 v d p) : ∃ rg : Rg, v = rg.val := by
  obtain ⟨v0, v1, v2, v3, v4, v5, v6, v7, y0, y1, y2, y3, y4, y5, y6, y7, n, rfl, t0, t1, t2, t3, t4, t5, t6, t7⟩ := open_agg8 Tryd.underlying74 (by kernel_rfl) (by kernel_rfl) hv h
  obtain ⟨z0, h0, -⟩ := DataW.trod_int Tryd.underlying3 t0
  obtain ⟨z1, h1, -⟩ := DataW.trod_int Tryd.underlying3 t1
  obtain ⟨z2, h2, -⟩ := DataW.trod_int Tryd.underlying3 t2
  obtain ⟨z3, h3, -⟩ := DataW.trod_int Tryd.underlying3 t3
  obtain ⟨z4, h4, -⟩ := DataW.trod_int Tryd.underlying3 t4
  obtain ⟨z5, h5, -⟩ := DataW.trod_int Tryd.underlying3 t5
  obtain ⟨z6, h6, -⟩ := DataW.trod_int Tryd.underlying3 t6
  obtain ⟨z7, h7, -⟩ := DataW.trod_string Tryd.underlying9 t7
  cases h0
  cases h1
  cases h2
  cases h3
  cases h4
  cases h5
  cases h6
  cases h7
  exact ⟨⟨z0, z1, z2, z3, z4, z5, z6, z7⟩, rfl⟩
end
end Go.Proofs.YtmloijhdibicdaaDoor
