/- A row's argument that is a key, and one that is a terminal's modes, opened to the words of the walks. -/
import Derived.Deep.Slices
import Derived.Deep.Fields
import Derived.ChangeSame
import Derived.Lib.SmallJoins
import Derived.Test.YtpilpchijmappaaDoorH1
namespace Go.Proofs.YtpilpchijmappaaDoor
open Go.ChangeShapes Go.WideShapes Go.Deep Go.Joins Go.RowKit

section
variable {H : Type} {enc : TypeId × Value → H} {P : Program} {w : World} {base : Nat} {spare : Nat → Bool} {held : Bool}
theorem open_agg5 {r : Reach} {b0 : Nat} {t : TypeId} {f0 f1 f2 f3 f4 : Field} {v : Value} {d : DataW H} {p : List MemPlace} (hs : P.underlying t = some (.struct #[f0, f1, f2, f3, f4])) (hone : oneCellFields P #[f0, f1, f2, f3, f4] = true) (hC : P.cellsOf t = 5)
    (hv : Value.okWide P w r b0 t v) (h : DataW.Trod enc P w base spare held t v d p) :
    ∃ (v0 v1 v2 v3 v4 : Value) (y0 y1 y2 y3 y4 : DataW H × List MemPlace) (n : Nat), v = .agg #[v0, v1, v2, v3, v4] ∧
      DataW.trod enc P w base spare held n f0.type [v0] = some y0 ∧ DataW.trod enc P w base spare held n f1.type [v1] = some y1 ∧ DataW.trod enc P w base spare held n f2.type [v2] = some y2 ∧ DataW.trod enc P w base spare held n f3.type [v3] = some y3 ∧ DataW.trod enc P w base spare held n f4.type [v4] = some y4 := by
  obtain ⟨cs, rfl, hsz⟩ := okWide_struct hs hv
  obtain ⟨l⟩ := cs
  match l, hsz.trans hC with
  | [c0, c1, c2, c3, c4], _ =>
    obtain ⟨fuel, hf⟩ := h
    obtain ⟨xs, n, _, hx, _, hlen, hg⟩ := DataW.trod_struct hs hf
    obtain ⟨o0, k0⟩ := hone_of hone 0 f0 rfl
    obtain ⟨o1, k1⟩ := hone_of hone 1 f1 rfl
    obtain ⟨o2, k2⟩ := hone_of hone 2 f2 rfl
    obtain ⟨o3, k3⟩ := hone_of hone 3 f3 rfl
    obtain ⟨o4, k4⟩ := hone_of hone 4 f4 rfl
    match xs, hlen with
    | [y0, y1, y2, y3, y4], _ =>
      exact ⟨c0, c1, c2, c3, c4, y0, y1, y2, y3, y4, n, rfl, by simpa [Value.cells, o0, k0] using hg 0 f0 rfl, by simpa [Value.cells, o1, k1] using hg 1 f1 rfl, by simpa [Value.cells, o2, k2] using hg 2 f2 rfl, by simpa [Value.cells, o3, k3] using hg 3 f3 rfl, by simpa [Value.cells, o4, k4] using hg 4 f4 rfl⟩
end

section
variable {H : Type} {enc : TypeId × Value → H} {w : World} {base : Nat} {spare : Nat → Bool} {held : Bool}
set_option maxRecDepth 100000 in
theorem open_key {r : Reach} {b0 : Nat} {v : Value} {d : DataW H} {p : List MemPlace} (hv : Value.okWide Tryd.prog w r b0 23 v) (h : DataW.Trod enc Tryd.prog w base spare held 23 v d p) : ∃ k : Key, v = k.val := by
  obtain ⟨v0, v1, v2, v3, v4, y0, y1, y2, y3, y4, n, rfl, t0, t1, t2, t3, t4⟩ := open_agg5 Tryd.underlying23 (by kernel_rfl) (by kernel_rfl) hv h
  obtain ⟨z0, h0, -⟩ := DataW.trod_string Tryd.underlying9 t0
  obtain ⟨z1, h1, -⟩ := DataW.trod_int Tryd.underlying21 t1
  obtain ⟨z2, h2, -⟩ := DataW.trod_bool Tryd.underlying4 t2
  obtain ⟨z3, h3, -⟩ := DataW.trod_bool Tryd.underlying4 t3
  obtain ⟨z4, h4, -⟩ := DataW.trod_bool Tryd.underlying4 t4
  cases h0
  cases h1
  cases h2
  cases h3
  cases h4
  exact ⟨⟨z0, z1, z2, z3, z4⟩, rfl⟩

set_option maxRecDepth 100000 in
set_option maxHeartbeats 1000000 in
theorem open_modes {r : Reach} {b0 : Nat} {v : Value} {d : DataW H} {p : List MemPlace} (hv : Value.okWide Tryd.prog w r b0 26 v) (h : DataW.Trod enc Tryd.prog w base spare held 26 v d p) : ∃ m : Md, v = m.val := by
  obtain ⟨cs, rfl, hsz⟩ := okWide_struct Tryd.underlying26 hv
  obtain ⟨l⟩ := cs
  match l, hsz.trans (show Tryd.prog.cellsOf 26 = 11 by kernel_rfl) with
  | [c0, c1, c2, c3, c4, c5, c6, c7, c8, c9, c10], _ =>
    obtain ⟨fuel, hf⟩ := h
    obtain ⟨xs, n, _, hx, _, hlen, hg⟩ := DataW.trod_struct Tryd.underlying26 hf
    have kb : Tryd.prog.cellsOf 4 = 1 := by kernel_rfl
    have ki : Tryd.prog.cellsOf 3 = 1 := by kernel_rfl
    have ka : Tryd.prog.cellsOf 24 = 2 := by kernel_rfl
    match xs, hlen with
    | [y0, y1, y2, y3, y4, y5, y6, y7, y8, y9], _ =>
      have g0 := hg 0 _ rfl
      have g1 := hg 1 _ rfl
      have g2 := hg 2 _ rfl
      have g3 := hg 3 _ rfl
      have g4 := hg 4 _ rfl
      have g5 := hg 5 _ rfl
      have g6 := hg 6 _ rfl
      have g7 := hg 7 _ rfl
      have g8 := hg 8 _ rfl
      have g9 := hg 9 _ rfl
      simp [Value.cells, kb, ki, ka] at g0 g1 g2 g3 g4 g5 g6 g7 g8 g9
      obtain ⟨zs, m, -, -, -, hzl, hz⟩ := DataW.trod_array Tryd.underlying24 g8
      have ku : Tryd.prog.cellsOf 5 = 1 := by kernel_rfl
      have a0 := hz 0 (by omega)
      have a1 := hz 1 (by omega)
      match zs, hzl with
      | [u0, u1], _ =>
        simp [ku] at a0 a1
        obtain ⟨z0, h0, -⟩ := DataW.trod_bool Tryd.underlying4 g0
        obtain ⟨z1, h1, -⟩ := DataW.trod_bool Tryd.underlying4 g1
        obtain ⟨z2, h2, -⟩ := DataW.trod_bool Tryd.underlying4 g2
        obtain ⟨z3, h3, -⟩ := DataW.trod_bool Tryd.underlying4 g3
        obtain ⟨z4, h4, -⟩ := DataW.trod_bool Tryd.underlying4 g4
        obtain ⟨z5, h5, -⟩ := DataW.trod_bool Tryd.underlying4 g5
        obtain ⟨z6, h6, -⟩ := DataW.trod_bool Tryd.underlying4 g6
        obtain ⟨z7, h7, -⟩ := DataW.trod_bool Tryd.underlying4 g7
        obtain ⟨z8, h8, -⟩ := DataW.trod_int Tryd.underlying5 a0
        obtain ⟨z9, h9, -⟩ := DataW.trod_int Tryd.underlying5 a1
        obtain ⟨z10, h10, -⟩ := DataW.trod_int Tryd.underlying3 g9
        cases h0
        cases h1
        cases h2
        cases h3
        cases h4
        cases h5
        cases h6
        cases h7
        cases h8
        cases h9
        cases h10
        exact ⟨⟨z0, z1, z2, z3, z4, z5, z6, z7, z8, z9, z10⟩, rfl⟩
end
end Go.Proofs.YtpilpchijmappaaDoor
