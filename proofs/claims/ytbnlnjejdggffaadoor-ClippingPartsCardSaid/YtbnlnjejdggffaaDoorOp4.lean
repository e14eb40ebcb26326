/- A row's argument that is a view and three places, opened to the words of the walks. -/
import Derived.Test.YtbnlnjejdggffaaDoorOp3
namespace Go.Proofs.YtbnlnjejdggffaaDoor
open Go.ChangeShapes Go.WideShapes Go.Deep Go.Joins Go.RowKit

section
variable {H : Type} {enc : TypeId × Value → H} {P : Program} {w : World} {base : Nat} {spare : Nat → Bool} {held : Bool}
theorem trod_fields6 {fuel : Nat} {t : TypeId} {f0 f1 f2 f3 f4 f5 : Field} {c0 c1 c2 c3 c4 c5 : Value} {x : DataW H × List MemPlace} (hs : P.underlying t = some (.struct #[f0, f1, f2, f3, f4, f5])) (hone : oneCellFields P #[f0, f1, f2, f3, f4, f5] = true)
    (h : DataW.trod enc P w base spare held fuel t [c0, c1, c2, c3, c4, c5] = some x) :
    ∃ (y0 y1 y2 y3 y4 y5 : DataW H × List MemPlace) (n : Nat), DataW.trod enc P w base spare held n f0.type [c0] = some y0 ∧ DataW.trod enc P w base spare held n f1.type [c1] = some y1 ∧ DataW.trod enc P w base spare held n f2.type [c2] = some y2 ∧ DataW.trod enc P w base spare held n f3.type [c3] = some y3 ∧ DataW.trod enc P w base spare held n f4.type [c4] = some y4 ∧ DataW.trod enc P w base spare held n f5.type [c5] = some y5 := by
  obtain ⟨xs, n, _, hx, _, hlen, hg⟩ := DataW.trod_struct hs h
  obtain ⟨o0, k0⟩ := hone_of hone 0 f0 rfl
  obtain ⟨o1, k1⟩ := hone_of hone 1 f1 rfl
  obtain ⟨o2, k2⟩ := hone_of hone 2 f2 rfl
  obtain ⟨o3, k3⟩ := hone_of hone 3 f3 rfl
  obtain ⟨o4, k4⟩ := hone_of hone 4 f4 rfl
  obtain ⟨o5, k5⟩ := hone_of hone 5 f5 rfl
  match xs, hlen with
  | [y0, y1, y2, y3, y4, y5], _ =>
    exact ⟨y0, y1, y2, y3, y4, y5, n, by simpa [o0, k0] using hg 0 f0 rfl, by simpa [o1, k1] using hg 1 f1 rfl, by simpa [o2, k2] using hg 2 f2 rfl, by simpa [o3, k3] using hg 3 f3 rfl, by simpa [o4, k4] using hg 4 f4 rfl, by simpa [o5, k5] using hg 5 f5 rfl⟩
theorem trod_fields3 {fuel : Nat} {t : TypeId} {f0 f1 f2 : Field} {c0 c1 c2 : Value} {x : DataW H × List MemPlace} (hs : P.underlying t = some (.struct #[f0, f1, f2])) (hone : oneCellFields P #[f0, f1, f2] = true)
    (h : DataW.trod enc P w base spare held fuel t [c0, c1, c2] = some x) :
    ∃ (y0 y1 y2 : DataW H × List MemPlace) (n : Nat), DataW.trod enc P w base spare held n f0.type [c0] = some y0 ∧ DataW.trod enc P w base spare held n f1.type [c1] = some y1 ∧ DataW.trod enc P w base spare held n f2.type [c2] = some y2 := by
  obtain ⟨xs, n, _, hx, _, hlen, hg⟩ := DataW.trod_struct hs h
  obtain ⟨o0, k0⟩ := hone_of hone 0 f0 rfl
  obtain ⟨o1, k1⟩ := hone_of hone 1 f1 rfl
  obtain ⟨o2, k2⟩ := hone_of hone 2 f2 rfl
  match xs, hlen with
  | [y0, y1, y2], _ =>
    exact ⟨y0, y1, y2, n, by simpa [o0, k0] using hg 0 f0 rfl, by simpa [o1, k1] using hg 1 f1 rfl, by simpa [o2, k2] using hg 2 f2 rfl⟩
end

section
variable {H : Type} {enc : TypeId × Value → H} {w : World} {base : Nat} {spare : Nat → Bool} {held : Bool}
set_option maxRecDepth 100000 in
theorem view_cells {fuel : Nat} {c0 c1 c2 c3 c4 c5 : Value} {x : DataW H × List MemPlace} (h : DataW.trod enc Tryd.prog w base spare held fuel 24 [c0, c1, c2, c3, c4, c5] = some x) :
    ∃ A c vw, Rows2 w w.heap.size A (Vw.rows vw) ∧ vw.rows.length ≤ c ∧ c0 = .int .i64 vw.width ∧ c1 = .int .i64 vw.height ∧ c2 = .slice A vw.rows.length c ∧ c3 = .int .i64 vw.row ∧ c4 = .int .i64 vw.col ∧ c5 = .bool vw.visible := by
  obtain ⟨y0, y1, y2, y3, y4, y5, n, t0, t1, t2, t3, t4, t5⟩ := trod_fields6 Tryd.underlying24 (by kernel_rfl) h
  obtain ⟨z0, h0, -⟩ := DataW.trod_int Tryd.underlying3 t0
  obtain ⟨z1, h1, -⟩ := DataW.trod_int Tryd.underlying3 t1
  obtain ⟨A, c, rows, h2, hc, hr⟩ := open_rows t2
  obtain ⟨z3, h3, -⟩ := DataW.trod_int Tryd.underlying3 t3
  obtain ⟨z4, h4, -⟩ := DataW.trod_int Tryd.underlying3 t4
  obtain ⟨z5, h5, -⟩ := DataW.trod_bool Tryd.underlying4 t5
  cases h0
  cases h1
  cases h2
  cases h3
  cases h4
  cases h5
  exact ⟨A, c, ⟨z0, z1, rows, z3, z4, z5⟩, hr, hc, rfl, rfl, rfl, rfl, rfl, rfl⟩
set_option maxRecDepth 100000 in
theorem place_cells {fuel : Nat} {c0 c1 c2 : Value} {x : DataW H × List MemPlace} (h : DataW.trod enc Tryd.prog w base spare held fuel 26 [c0, c1, c2] = some x) :
    ∃ pl : Pl, c0 = .int .i64 pl.upd ∧ c1 = .int .i64 pl.row ∧ c2 = .int .i64 pl.col := by
  obtain ⟨y0, y1, y2, n, t0, t1, t2⟩ := trod_fields3 Tryd.underlying26 (by kernel_rfl) h
  obtain ⟨z0, h0, -⟩ := DataW.trod_int Tryd.underlying3 t0
  obtain ⟨z1, h1, -⟩ := DataW.trod_int Tryd.underlying3 t1
  obtain ⟨z2, h2, -⟩ := DataW.trod_int Tryd.underlying3 t2
  cases h0
  cases h1
  cases h2
  exact ⟨⟨z0, z1, z2⟩, rfl, rfl, rfl⟩
set_option maxRecDepth 100000 in
theorem open_three {r : Reach} {b0 : Nat} {v : Value} {d : DataW H} {p : List MemPlace} (hv : Value.okWide Tryd.prog w r b0 28 v) (h : DataW.Trod enc Tryd.prog w base spare held 28 v d p) :
    ∃ A c vw p q r, v = .agg #[.int .i64 (Vw.width vw), .int .i64 vw.height, .slice A vw.rows.length c, .int .i64 vw.row, .int .i64 vw.col, .bool vw.visible, .int .i64 (Pl.upd p), .int .i64 p.row, .int .i64 p.col, .int .i64 (Pl.upd q), .int .i64 q.row, .int .i64 q.col, .int .i64 (Pl.upd r), .int .i64 r.row, .int .i64 r.col] ∧ Rows2 w w.heap.size A vw.rows := by
  obtain ⟨cs, rfl, hsz⟩ := okWide_struct Tryd.underlying28 hv
  have h15 : cs.size = 15 := hsz.trans (by kernel_rfl)
  obtain ⟨l⟩ := cs
  match l, h15 with
  | [c0, c1, c2, c3, c4, c5, c6, c7, c8, c9, c10, c11, c12, c13, c14], _ =>
    obtain ⟨fuel, hf⟩ := h
    obtain ⟨y0, y1, y2, y3, n, -, -, t0, t1, t2, t3⟩ := trod_struct4 Tryd.underlying28 hf
    have eV : Tryd.prog.cellsOf 24 = 6 := by kernel_rfl
    have eP : Tryd.prog.cellsOf 26 = 3 := by kernel_rfl
    dsimp only at t0 t1 t2 t3
    rw [eV] at t0
    rw [eP] at t1 t2 t3
    obtain ⟨A, c, vw, hr, -, rfl, rfl, rfl, rfl, rfl, rfl⟩ := view_cells (c0 := c0) (c1 := c1) (c2 := c2) (c3 := c3) (c4 := c4) (c5 := c5) t0
    obtain ⟨p, rfl, rfl, rfl⟩ := place_cells (c0 := c6) (c1 := c7) (c2 := c8) t1
    obtain ⟨q, rfl, rfl, rfl⟩ := place_cells (c0 := c9) (c1 := c10) (c2 := c11) t2
    obtain ⟨r, rfl, rfl, rfl⟩ := place_cells (c0 := c12) (c1 := c13) (c2 := c14) t3
    exact ⟨A, c, vw, p, q, r, rfl, hr⟩
end
end Go.Proofs.YtbnlnjejdggffaaDoor
