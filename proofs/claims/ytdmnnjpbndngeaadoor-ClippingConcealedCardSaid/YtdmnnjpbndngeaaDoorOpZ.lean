/- A row's argument that is a terminal, a place, a character and two places (the struct of ClippingConcealed), opened to the words of the walks. -/
import Derived.Test.YtdmnnjpbndngeaaDoorOpen
import Derived.Test.YtdmnnjpbndngeaaDoorK7
import Derived.Test.YtdmnnjpbndngeaaDoorQ13
import Derived.OpenShut
namespace Go.Proofs.YtdmnnjpbndngeaaDoor
open Go.ChangeShapes Go.WideShapes Go.Deep Go.Joins Go.RowKit

section
variable {H : Type} {enc : TypeId × Value → H} {w : World} {base : Nat} {spare : Nat → Bool} {held : Bool}
theorem leaf_int {c : Value} (h : ∃ n y, DataW.trod enc Tryd.prog w base spare held n 3 [c] = some y) : ∃ z, c = .int .i64 z := by
  obtain ⟨n, y, h⟩ := h
  obtain ⟨z, hz, -⟩ := DataW.trod_int Tryd.underlying3 h
  cases hz; exact ⟨z, rfl⟩
theorem leaf_u8 {c : Value} (h : ∃ n y, DataW.trod enc Tryd.prog w base spare held n 5 [c] = some y) : ∃ z, c = .int .u8 z ∧ 0 ≤ z ∧ z < 256 := by
  obtain ⟨n, y, h⟩ := h
  obtain ⟨z, hz, -, hw⟩ := DataW.trod_int Tryd.underlying5 h
  cases hz
  have : 0 ≤ z ∧ z ≤ 255 := by simpa [Lit.wf, IntKind.min, IntKind.max, IntKind.signed, IntKind.bits] using hw
  exact ⟨z, rfl, this.1, by omega⟩
theorem leaf_u16 {c : Value} (h : ∃ n y, DataW.trod enc Tryd.prog w base spare held n 39 [c] = some y) : ∃ z, c = .int .u16 z ∧ 0 ≤ z ∧ z < 65536 := by
  obtain ⟨n, y, h⟩ := h
  obtain ⟨z, hz, -, hw⟩ := DataW.trod_int Tryd.underlying39 h
  cases hz
  have : 0 ≤ z ∧ z ≤ 65535 := by simpa [Lit.wf, IntKind.min, IntKind.max, IntKind.signed, IntKind.bits] using hw
  exact ⟨z, rfl, this.1, by omega⟩
theorem leaf_bool {c : Value} (h : ∃ n y, DataW.trod enc Tryd.prog w base spare held n 4 [c] = some y) : ∃ z, c = .bool z := by
  obtain ⟨n, y, h⟩ := h
  obtain ⟨z, hz, -⟩ := DataW.trod_bool Tryd.underlying4 h
  cases hz; exact ⟨z, rfl⟩
theorem leaf_string {c : Value} (h : ∃ n y, DataW.trod enc Tryd.prog w base spare held n 9 [c] = some y) : ∃ z, c = .string z := by
  obtain ⟨n, y, h⟩ := h
  obtain ⟨z, hz, -⟩ := DataW.trod_string Tryd.underlying9 h
  cases hz; exact ⟨z, rfl⟩
theorem leaf_slice {t e : TypeId} {c : Value} (ht : Tryd.prog.underlying t = some (.slice e)) (h : ∃ n y, DataW.trod enc Tryd.prog w base spare held n t [c] = some y) : ∃ A l k, c = .slice A l k := by
  obtain ⟨n, y, h⟩ := h
  rcases open_slice ht h with ⟨hc, -⟩ | ⟨a, len, cap, m, n, D, Pl, hc, -⟩
  · cases hc; exact ⟨_, _, _, rfl⟩
  · cases hc; exact ⟨_, _, _, rfl⟩
theorem leaf_two {c d : Value} (h : ∃ n y, DataW.trod enc Tryd.prog w base spare held n 29 [c, d] = some y) : (∃ z, c = .int .u8 z) ∧ ∃ z, d = .int .u8 z := by
  obtain ⟨n, y, h⟩ := h
  obtain ⟨zs, m, -, -, -, hzl, hz⟩ := DataW.trod_array Tryd.underlying29 h
  have ku : Tryd.prog.cellsOf 5 = 1 := by kernel_rfl
  have a0 := hz 0 (by omega)
  have a1 := hz 1 (by omega)
  match zs, hzl with
  | [u0, u1], _ =>
    simp [ku] at a0 a1
    obtain ⟨z0, h0, -⟩ := leaf_u8 ⟨_, _, a0⟩
    obtain ⟨z1, h1, -⟩ := leaf_u8 ⟨_, _, a1⟩
    exact ⟨⟨z0, h0⟩, ⟨z1, h1⟩⟩

set_option maxRecDepth 100000 in
theorem split_attr {fuel : Nat} {c0 c1 c2 : Value} {x : DataW H × List MemPlace} (h : DataW.trod enc Tryd.prog w base spare held fuel 28 [c0, c1, c2] = some x) :
    (∃ n y, DataW.trod enc Tryd.prog w base spare held n 3 [c0] = some y) ∧ (∃ n y, DataW.trod enc Tryd.prog w base spare held n 3 [c1] = some y) ∧ (∃ n y, DataW.trod enc Tryd.prog w base spare held n 3 [c2] = some y) := by
  obtain ⟨xs, n, -, -, -, hlen, hg⟩ := DataW.trod_struct Tryd.underlying28 h
  have k_int : Tryd.prog.cellsOf 3 = 1 := by kernel_rfl
  have hl : xs.length = 3 := hlen
  have g0 : DataW.trod enc Tryd.prog w base spare held n 3 (([c0, c1, c2].drop 0).take (Tryd.prog.cellsOf 3)) = xs[0]? := by have := hg 0 _ rfl; exact this
  rw [k_int] at g0
  have g1 : DataW.trod enc Tryd.prog w base spare held n 3 (([c0, c1, c2].drop 1).take (Tryd.prog.cellsOf 3)) = xs[1]? := by have := hg 1 _ rfl; exact this
  rw [k_int] at g1
  have g2 : DataW.trod enc Tryd.prog w base spare held n 3 (([c0, c1, c2].drop 2).take (Tryd.prog.cellsOf 3)) = xs[2]? := by have := hg 2 _ rfl; exact this
  rw [k_int] at g2
  exact ⟨⟨n, _, g0.trans (List.getElem?_eq_getElem (by omega))⟩, ⟨n, _, g1.trans (List.getElem?_eq_getElem (by omega))⟩, ⟨n, _, g2.trans (List.getElem?_eq_getElem (by omega))⟩⟩
set_option maxRecDepth 100000 in
theorem split_cell {fuel : Nat} {c0 c1 c2 c3 c4 : Value} {x : DataW H × List MemPlace} (h : DataW.trod enc Tryd.prog w base spare held fuel 47 [c0, c1, c2, c3, c4] = some x) :
    (∃ n y, DataW.trod enc Tryd.prog w base spare held n 9 [c0] = some y) ∧ (∃ n y, DataW.trod enc Tryd.prog w base spare held n 3 [c1] = some y) ∧ (∃ n y, DataW.trod enc Tryd.prog w base spare held n 28 [c2, c3, c4] = some y) := by
  obtain ⟨xs, n, -, -, -, hlen, hg⟩ := DataW.trod_struct Tryd.underlying47 h
  have k_attr : Tryd.prog.cellsOf 28 = 3 := by kernel_rfl
  have k_int : Tryd.prog.cellsOf 3 = 1 := by kernel_rfl
  have k_string : Tryd.prog.cellsOf 9 = 1 := by kernel_rfl
  have hl : xs.length = 3 := hlen
  have g0 : DataW.trod enc Tryd.prog w base spare held n 9 (([c0, c1, c2, c3, c4].drop 0).take (Tryd.prog.cellsOf 9)) = xs[0]? := by have := hg 0 _ rfl; exact this
  rw [k_string] at g0
  have g1 : DataW.trod enc Tryd.prog w base spare held n 3 (([c0, c1, c2, c3, c4].drop 1).take (Tryd.prog.cellsOf 3)) = xs[1]? := by have := hg 1 _ rfl; exact this
  rw [k_int] at g1
  have g2 : DataW.trod enc Tryd.prog w base spare held n 28 (([c0, c1, c2, c3, c4].drop 2).take (Tryd.prog.cellsOf 28)) = xs[2]? := by have := hg 2 _ rfl; exact this
  rw [k_attr] at g2
  exact ⟨⟨n, _, g0.trans (List.getElem?_eq_getElem (by omega))⟩, ⟨n, _, g1.trans (List.getElem?_eq_getElem (by omega))⟩, ⟨n, _, g2.trans (List.getElem?_eq_getElem (by omega))⟩⟩
set_option maxRecDepth 100000 in
theorem split_grid {fuel : Nat} {c0 c1 c2 : Value} {x : DataW H × List MemPlace} (h : DataW.trod enc Tryd.prog w base spare held fuel 24 [c0, c1, c2] = some x) :
    (∃ n y, DataW.trod enc Tryd.prog w base spare held n 3 [c0] = some y) ∧ (∃ n y, DataW.trod enc Tryd.prog w base spare held n 3 [c1] = some y) ∧ (∃ n y, DataW.trod enc Tryd.prog w base spare held n 22 [c2] = some y) := by
  obtain ⟨xs, n, -, -, -, hlen, hg⟩ := DataW.trod_struct Tryd.underlying24 h
  have k_cell : Tryd.prog.cellsOf 22 = 1 := by kernel_rfl
  have k_int : Tryd.prog.cellsOf 3 = 1 := by kernel_rfl
  have hl : xs.length = 3 := hlen
  have g0 : DataW.trod enc Tryd.prog w base spare held n 3 (([c0, c1, c2].drop 0).take (Tryd.prog.cellsOf 3)) = xs[0]? := by have := hg 0 _ rfl; exact this
  rw [k_int] at g0
  have g1 : DataW.trod enc Tryd.prog w base spare held n 3 (([c0, c1, c2].drop 1).take (Tryd.prog.cellsOf 3)) = xs[1]? := by have := hg 1 _ rfl; exact this
  rw [k_int] at g1
  have g2 : DataW.trod enc Tryd.prog w base spare held n 22 (([c0, c1, c2].drop 2).take (Tryd.prog.cellsOf 22)) = xs[2]? := by have := hg 2 _ rfl; exact this
  rw [k_cell] at g2
  exact ⟨⟨n, _, g0.trans (List.getElem?_eq_getElem (by omega))⟩, ⟨n, _, g1.trans (List.getElem?_eq_getElem (by omega))⟩, ⟨n, _, g2.trans (List.getElem?_eq_getElem (by omega))⟩⟩
set_option maxRecDepth 100000 in
theorem split_cursor {fuel : Nat} {c0 c1 c2 : Value} {x : DataW H × List MemPlace} (h : DataW.trod enc Tryd.prog w base spare held fuel 26 [c0, c1, c2] = some x) :
    (∃ n y, DataW.trod enc Tryd.prog w base spare held n 3 [c0] = some y) ∧ (∃ n y, DataW.trod enc Tryd.prog w base spare held n 3 [c1] = some y) ∧ (∃ n y, DataW.trod enc Tryd.prog w base spare held n 4 [c2] = some y) := by
  obtain ⟨xs, n, -, -, -, hlen, hg⟩ := DataW.trod_struct Tryd.underlying26 h
  have k_bool : Tryd.prog.cellsOf 4 = 1 := by kernel_rfl
  have k_int : Tryd.prog.cellsOf 3 = 1 := by kernel_rfl
  have hl : xs.length = 3 := hlen
  have g0 : DataW.trod enc Tryd.prog w base spare held n 3 (([c0, c1, c2].drop 0).take (Tryd.prog.cellsOf 3)) = xs[0]? := by have := hg 0 _ rfl; exact this
  rw [k_int] at g0
  have g1 : DataW.trod enc Tryd.prog w base spare held n 3 (([c0, c1, c2].drop 1).take (Tryd.prog.cellsOf 3)) = xs[1]? := by have := hg 1 _ rfl; exact this
  rw [k_int] at g1
  have g2 : DataW.trod enc Tryd.prog w base spare held n 4 (([c0, c1, c2].drop 2).take (Tryd.prog.cellsOf 4)) = xs[2]? := by have := hg 2 _ rfl; exact this
  rw [k_bool] at g2
  exact ⟨⟨n, _, g0.trans (List.getElem?_eq_getElem (by omega))⟩, ⟨n, _, g1.trans (List.getElem?_eq_getElem (by omega))⟩, ⟨n, _, g2.trans (List.getElem?_eq_getElem (by omega))⟩⟩
set_option maxRecDepth 100000 in
theorem split_saved {fuel : Nat} {c0 c1 c2 c3 c4 c5 c6 c7 c8 c9 : Value} {x : DataW H × List MemPlace} (h : DataW.trod enc Tryd.prog w base spare held fuel 31 [c0, c1, c2, c3, c4, c5, c6, c7, c8, c9] = some x) :
    (∃ n y, DataW.trod enc Tryd.prog w base spare held n 26 [c0, c1, c2] = some y) ∧ (∃ n y, DataW.trod enc Tryd.prog w base spare held n 28 [c3, c4, c5] = some y) ∧ (∃ n y, DataW.trod enc Tryd.prog w base spare held n 4 [c6] = some y) ∧ (∃ n y, DataW.trod enc Tryd.prog w base spare held n 29 [c7, c8] = some y) ∧ (∃ n y, DataW.trod enc Tryd.prog w base spare held n 3 [c9] = some y) := by
  obtain ⟨xs, n, -, -, -, hlen, hg⟩ := DataW.trod_struct Tryd.underlying31 h
  have k_2uint8 : Tryd.prog.cellsOf 29 = 2 := by kernel_rfl
  have k_attr : Tryd.prog.cellsOf 28 = 3 := by kernel_rfl
  have k_cursor : Tryd.prog.cellsOf 26 = 3 := by kernel_rfl
  have k_bool : Tryd.prog.cellsOf 4 = 1 := by kernel_rfl
  have k_int : Tryd.prog.cellsOf 3 = 1 := by kernel_rfl
  have hl : xs.length = 5 := hlen
  have g0 : DataW.trod enc Tryd.prog w base spare held n 26 (([c0, c1, c2, c3, c4, c5, c6, c7, c8, c9].drop 0).take (Tryd.prog.cellsOf 26)) = xs[0]? := by have := hg 0 _ rfl; exact this
  rw [k_cursor] at g0
  have g1 : DataW.trod enc Tryd.prog w base spare held n 28 (([c0, c1, c2, c3, c4, c5, c6, c7, c8, c9].drop 3).take (Tryd.prog.cellsOf 28)) = xs[1]? := by have := hg 1 _ rfl; exact this
  rw [k_attr] at g1
  have g2 : DataW.trod enc Tryd.prog w base spare held n 4 (([c0, c1, c2, c3, c4, c5, c6, c7, c8, c9].drop 6).take (Tryd.prog.cellsOf 4)) = xs[2]? := by have := hg 2 _ rfl; exact this
  rw [k_bool] at g2
  have g3 : DataW.trod enc Tryd.prog w base spare held n 29 (([c0, c1, c2, c3, c4, c5, c6, c7, c8, c9].drop 7).take (Tryd.prog.cellsOf 29)) = xs[3]? := by have := hg 3 _ rfl; exact this
  rw [k_2uint8] at g3
  have g4 : DataW.trod enc Tryd.prog w base spare held n 3 (([c0, c1, c2, c3, c4, c5, c6, c7, c8, c9].drop 9).take (Tryd.prog.cellsOf 3)) = xs[4]? := by have := hg 4 _ rfl; exact this
  rw [k_int] at g4
  exact ⟨⟨n, _, g0.trans (List.getElem?_eq_getElem (by omega))⟩, ⟨n, _, g1.trans (List.getElem?_eq_getElem (by omega))⟩, ⟨n, _, g2.trans (List.getElem?_eq_getElem (by omega))⟩, ⟨n, _, g3.trans (List.getElem?_eq_getElem (by omega))⟩, ⟨n, _, g4.trans (List.getElem?_eq_getElem (by omega))⟩⟩
set_option maxRecDepth 100000 in
theorem split_modes {fuel : Nat} {c0 c1 c2 c3 c4 c5 c6 c7 c8 c9 c10 : Value} {x : DataW H × List MemPlace} (h : DataW.trod enc Tryd.prog w base spare held fuel 33 [c0, c1, c2, c3, c4, c5, c6, c7, c8, c9, c10] = some x) :
    (∃ n y, DataW.trod enc Tryd.prog w base spare held n 4 [c0] = some y) ∧ (∃ n y, DataW.trod enc Tryd.prog w base spare held n 4 [c1] = some y) ∧ (∃ n y, DataW.trod enc Tryd.prog w base spare held n 4 [c2] = some y) ∧ (∃ n y, DataW.trod enc Tryd.prog w base spare held n 4 [c3] = some y) ∧ (∃ n y, DataW.trod enc Tryd.prog w base spare held n 4 [c4] = some y) ∧ (∃ n y, DataW.trod enc Tryd.prog w base spare held n 4 [c5] = some y) ∧ (∃ n y, DataW.trod enc Tryd.prog w base spare held n 4 [c6] = some y) ∧ (∃ n y, DataW.trod enc Tryd.prog w base spare held n 4 [c7] = some y) ∧ (∃ n y, DataW.trod enc Tryd.prog w base spare held n 29 [c8, c9] = some y) ∧ (∃ n y, DataW.trod enc Tryd.prog w base spare held n 3 [c10] = some y) := by
  obtain ⟨xs, n, -, -, -, hlen, hg⟩ := DataW.trod_struct Tryd.underlying33 h
  have k_2uint8 : Tryd.prog.cellsOf 29 = 2 := by kernel_rfl
  have k_bool : Tryd.prog.cellsOf 4 = 1 := by kernel_rfl
  have k_int : Tryd.prog.cellsOf 3 = 1 := by kernel_rfl
  have hl : xs.length = 10 := hlen
  have g0 : DataW.trod enc Tryd.prog w base spare held n 4 (([c0, c1, c2, c3, c4, c5, c6, c7, c8, c9, c10].drop 0).take (Tryd.prog.cellsOf 4)) = xs[0]? := by have := hg 0 _ rfl; exact this
  rw [k_bool] at g0
  have g1 : DataW.trod enc Tryd.prog w base spare held n 4 (([c0, c1, c2, c3, c4, c5, c6, c7, c8, c9, c10].drop 1).take (Tryd.prog.cellsOf 4)) = xs[1]? := by have := hg 1 _ rfl; exact this
  rw [k_bool] at g1
  have g2 : DataW.trod enc Tryd.prog w base spare held n 4 (([c0, c1, c2, c3, c4, c5, c6, c7, c8, c9, c10].drop 2).take (Tryd.prog.cellsOf 4)) = xs[2]? := by have := hg 2 _ rfl; exact this
  rw [k_bool] at g2
  have g3 : DataW.trod enc Tryd.prog w base spare held n 4 (([c0, c1, c2, c3, c4, c5, c6, c7, c8, c9, c10].drop 3).take (Tryd.prog.cellsOf 4)) = xs[3]? := by have := hg 3 _ rfl; exact this
  rw [k_bool] at g3
  have g4 : DataW.trod enc Tryd.prog w base spare held n 4 (([c0, c1, c2, c3, c4, c5, c6, c7, c8, c9, c10].drop 4).take (Tryd.prog.cellsOf 4)) = xs[4]? := by have := hg 4 _ rfl; exact this
  rw [k_bool] at g4
  have g5 : DataW.trod enc Tryd.prog w base spare held n 4 (([c0, c1, c2, c3, c4, c5, c6, c7, c8, c9, c10].drop 5).take (Tryd.prog.cellsOf 4)) = xs[5]? := by have := hg 5 _ rfl; exact this
  rw [k_bool] at g5
  have g6 : DataW.trod enc Tryd.prog w base spare held n 4 (([c0, c1, c2, c3, c4, c5, c6, c7, c8, c9, c10].drop 6).take (Tryd.prog.cellsOf 4)) = xs[6]? := by have := hg 6 _ rfl; exact this
  rw [k_bool] at g6
  have g7 : DataW.trod enc Tryd.prog w base spare held n 4 (([c0, c1, c2, c3, c4, c5, c6, c7, c8, c9, c10].drop 7).take (Tryd.prog.cellsOf 4)) = xs[7]? := by have := hg 7 _ rfl; exact this
  rw [k_bool] at g7
  have g8 : DataW.trod enc Tryd.prog w base spare held n 29 (([c0, c1, c2, c3, c4, c5, c6, c7, c8, c9, c10].drop 8).take (Tryd.prog.cellsOf 29)) = xs[8]? := by have := hg 8 _ rfl; exact this
  rw [k_2uint8] at g8
  have g9 : DataW.trod enc Tryd.prog w base spare held n 3 (([c0, c1, c2, c3, c4, c5, c6, c7, c8, c9, c10].drop 10).take (Tryd.prog.cellsOf 3)) = xs[9]? := by have := hg 9 _ rfl; exact this
  rw [k_int] at g9
  exact ⟨⟨n, _, g0.trans (List.getElem?_eq_getElem (by omega))⟩, ⟨n, _, g1.trans (List.getElem?_eq_getElem (by omega))⟩, ⟨n, _, g2.trans (List.getElem?_eq_getElem (by omega))⟩, ⟨n, _, g3.trans (List.getElem?_eq_getElem (by omega))⟩, ⟨n, _, g4.trans (List.getElem?_eq_getElem (by omega))⟩, ⟨n, _, g5.trans (List.getElem?_eq_getElem (by omega))⟩, ⟨n, _, g6.trans (List.getElem?_eq_getElem (by omega))⟩, ⟨n, _, g7.trans (List.getElem?_eq_getElem (by omega))⟩, ⟨n, _, g8.trans (List.getElem?_eq_getElem (by omega))⟩, ⟨n, _, g9.trans (List.getElem?_eq_getElem (by omega))⟩⟩
set_option maxRecDepth 100000 in
theorem split_parser {fuel : Nat} {c0 c1 c2 : Value} {x : DataW H × List MemPlace} (h : DataW.trod enc Tryd.prog w base spare held fuel 36 [c0, c1, c2] = some x) :
    (∃ n y, DataW.trod enc Tryd.prog w base spare held n 3 [c0] = some y) ∧ (∃ n y, DataW.trod enc Tryd.prog w base spare held n 9 [c1] = some y) ∧ (∃ n y, DataW.trod enc Tryd.prog w base spare held n 9 [c2] = some y) := by
  obtain ⟨xs, n, -, -, -, hlen, hg⟩ := DataW.trod_struct Tryd.underlying36 h
  have k_int : Tryd.prog.cellsOf 3 = 1 := by kernel_rfl
  have k_string : Tryd.prog.cellsOf 9 = 1 := by kernel_rfl
  have hl : xs.length = 3 := hlen
  have g0 : DataW.trod enc Tryd.prog w base spare held n 3 (([c0, c1, c2].drop 0).take (Tryd.prog.cellsOf 3)) = xs[0]? := by have := hg 0 _ rfl; exact this
  rw [k_int] at g0
  have g1 : DataW.trod enc Tryd.prog w base spare held n 9 (([c0, c1, c2].drop 1).take (Tryd.prog.cellsOf 9)) = xs[1]? := by have := hg 1 _ rfl; exact this
  rw [k_string] at g1
  have g2 : DataW.trod enc Tryd.prog w base spare held n 9 (([c0, c1, c2].drop 2).take (Tryd.prog.cellsOf 9)) = xs[2]? := by have := hg 2 _ rfl; exact this
  rw [k_string] at g2
  exact ⟨⟨n, _, g0.trans (List.getElem?_eq_getElem (by omega))⟩, ⟨n, _, g1.trans (List.getElem?_eq_getElem (by omega))⟩, ⟨n, _, g2.trans (List.getElem?_eq_getElem (by omega))⟩⟩
set_option maxRecDepth 100000 in
theorem split_place {fuel : Nat} {c0 c1 c2 : Value} {x : DataW H × List MemPlace} (h : DataW.trod enc Tryd.prog w base spare held fuel 41 [c0, c1, c2] = some x) :
    (∃ n y, DataW.trod enc Tryd.prog w base spare held n 3 [c0] = some y) ∧ (∃ n y, DataW.trod enc Tryd.prog w base spare held n 3 [c1] = some y) ∧ (∃ n y, DataW.trod enc Tryd.prog w base spare held n 3 [c2] = some y) := by
  obtain ⟨xs, n, -, -, -, hlen, hg⟩ := DataW.trod_struct Tryd.underlying41 h
  have k_int : Tryd.prog.cellsOf 3 = 1 := by kernel_rfl
  have hl : xs.length = 3 := hlen
  have g0 : DataW.trod enc Tryd.prog w base spare held n 3 (([c0, c1, c2].drop 0).take (Tryd.prog.cellsOf 3)) = xs[0]? := by have := hg 0 _ rfl; exact this
  rw [k_int] at g0
  have g1 : DataW.trod enc Tryd.prog w base spare held n 3 (([c0, c1, c2].drop 1).take (Tryd.prog.cellsOf 3)) = xs[1]? := by have := hg 1 _ rfl; exact this
  rw [k_int] at g1
  have g2 : DataW.trod enc Tryd.prog w base spare held n 3 (([c0, c1, c2].drop 2).take (Tryd.prog.cellsOf 3)) = xs[2]? := by have := hg 2 _ rfl; exact this
  rw [k_int] at g2
  exact ⟨⟨n, _, g0.trans (List.getElem?_eq_getElem (by omega))⟩, ⟨n, _, g1.trans (List.getElem?_eq_getElem (by omega))⟩, ⟨n, _, g2.trans (List.getElem?_eq_getElem (by omega))⟩⟩
set_option maxRecDepth 100000 in
theorem split_terminal {fuel : Nat} {c0 c1 c2 c3 c4 c5 c6 c7 c8 c9 c10 c11 c12 c13 c14 c15 c16 c17 c18 c19 c20 c21 c22 c23 c24 c25 c26 c27 c28 c29 c30 c31 c32 c33 c34 c35 c36 c37 c38 c39 c40 c41 : Value} {x : DataW H × List MemPlace} (h : DataW.trod enc Tryd.prog w base spare held fuel 38 [c0, c1, c2, c3, c4, c5, c6, c7, c8, c9, c10, c11, c12, c13, c14, c15, c16, c17, c18, c19, c20, c21, c22, c23, c24, c25, c26, c27, c28, c29, c30, c31, c32, c33, c34, c35, c36, c37, c38, c39, c40, c41] = some x) :
    (∃ n y, DataW.trod enc Tryd.prog w base spare held n 24 [c0, c1, c2] = some y) ∧ (∃ n y, DataW.trod enc Tryd.prog w base spare held n 24 [c3, c4, c5] = some y) ∧ (∃ n y, DataW.trod enc Tryd.prog w base spare held n 26 [c6, c7, c8] = some y) ∧ (∃ n y, DataW.trod enc Tryd.prog w base spare held n 31 [c9, c10, c11, c12, c13, c14, c15, c16, c17, c18] = some y) ∧ (∃ n y, DataW.trod enc Tryd.prog w base spare held n 28 [c19, c20, c21] = some y) ∧ (∃ n y, DataW.trod enc Tryd.prog w base spare held n 33 [c22, c23, c24, c25, c26, c27, c28, c29, c30, c31, c32] = some y) ∧ (∃ n y, DataW.trod enc Tryd.prog w base spare held n 3 [c33] = some y) ∧ (∃ n y, DataW.trod enc Tryd.prog w base spare held n 3 [c34] = some y) ∧ (∃ n y, DataW.trod enc Tryd.prog w base spare held n 34 [c35] = some y) ∧ (∃ n y, DataW.trod enc Tryd.prog w base spare held n 22 [c36] = some y) ∧ (∃ n y, DataW.trod enc Tryd.prog w base spare held n 36 [c37, c38, c39] = some y) ∧ (∃ n y, DataW.trod enc Tryd.prog w base spare held n 9 [c40] = some y) ∧ (∃ n y, DataW.trod enc Tryd.prog w base spare held n 9 [c41] = some y) := by
  obtain ⟨xs, n, -, -, -, hlen, hg⟩ := DataW.trod_struct Tryd.underlying38 h
  have k_cell : Tryd.prog.cellsOf 22 = 1 := by kernel_rfl
  have k_bool : Tryd.prog.cellsOf 34 = 1 := by kernel_rfl
  have k_attr : Tryd.prog.cellsOf 28 = 3 := by kernel_rfl
  have k_cursor : Tryd.prog.cellsOf 26 = 3 := by kernel_rfl
  have k_grid : Tryd.prog.cellsOf 24 = 3 := by kernel_rfl
  have k_modes : Tryd.prog.cellsOf 33 = 11 := by kernel_rfl
  have k_parser : Tryd.prog.cellsOf 36 = 3 := by kernel_rfl
  have k_saved : Tryd.prog.cellsOf 31 = 10 := by kernel_rfl
  have k_int : Tryd.prog.cellsOf 3 = 1 := by kernel_rfl
  have k_string : Tryd.prog.cellsOf 9 = 1 := by kernel_rfl
  have hl : xs.length = 13 := hlen
  have g0 : DataW.trod enc Tryd.prog w base spare held n 24 (([c0, c1, c2, c3, c4, c5, c6, c7, c8, c9, c10, c11, c12, c13, c14, c15, c16, c17, c18, c19, c20, c21, c22, c23, c24, c25, c26, c27, c28, c29, c30, c31, c32, c33, c34, c35, c36, c37, c38, c39, c40, c41].drop 0).take (Tryd.prog.cellsOf 24)) = xs[0]? := by have := hg 0 _ rfl; exact this
  rw [k_grid] at g0
  have g1 : DataW.trod enc Tryd.prog w base spare held n 24 (([c0, c1, c2, c3, c4, c5, c6, c7, c8, c9, c10, c11, c12, c13, c14, c15, c16, c17, c18, c19, c20, c21, c22, c23, c24, c25, c26, c27, c28, c29, c30, c31, c32, c33, c34, c35, c36, c37, c38, c39, c40, c41].drop 3).take (Tryd.prog.cellsOf 24)) = xs[1]? := by have := hg 1 _ rfl; exact this
  rw [k_grid] at g1
  have g2 : DataW.trod enc Tryd.prog w base spare held n 26 (([c0, c1, c2, c3, c4, c5, c6, c7, c8, c9, c10, c11, c12, c13, c14, c15, c16, c17, c18, c19, c20, c21, c22, c23, c24, c25, c26, c27, c28, c29, c30, c31, c32, c33, c34, c35, c36, c37, c38, c39, c40, c41].drop 6).take (Tryd.prog.cellsOf 26)) = xs[2]? := by have := hg 2 _ rfl; exact this
  rw [k_cursor] at g2
  have g3 : DataW.trod enc Tryd.prog w base spare held n 31 (([c0, c1, c2, c3, c4, c5, c6, c7, c8, c9, c10, c11, c12, c13, c14, c15, c16, c17, c18, c19, c20, c21, c22, c23, c24, c25, c26, c27, c28, c29, c30, c31, c32, c33, c34, c35, c36, c37, c38, c39, c40, c41].drop 9).take (Tryd.prog.cellsOf 31)) = xs[3]? := by have := hg 3 _ rfl; exact this
  rw [k_saved] at g3
  have g4 : DataW.trod enc Tryd.prog w base spare held n 28 (([c0, c1, c2, c3, c4, c5, c6, c7, c8, c9, c10, c11, c12, c13, c14, c15, c16, c17, c18, c19, c20, c21, c22, c23, c24, c25, c26, c27, c28, c29, c30, c31, c32, c33, c34, c35, c36, c37, c38, c39, c40, c41].drop 19).take (Tryd.prog.cellsOf 28)) = xs[4]? := by have := hg 4 _ rfl; exact this
  rw [k_attr] at g4
  have g5 : DataW.trod enc Tryd.prog w base spare held n 33 (([c0, c1, c2, c3, c4, c5, c6, c7, c8, c9, c10, c11, c12, c13, c14, c15, c16, c17, c18, c19, c20, c21, c22, c23, c24, c25, c26, c27, c28, c29, c30, c31, c32, c33, c34, c35, c36, c37, c38, c39, c40, c41].drop 22).take (Tryd.prog.cellsOf 33)) = xs[5]? := by have := hg 5 _ rfl; exact this
  rw [k_modes] at g5
  have g6 : DataW.trod enc Tryd.prog w base spare held n 3 (([c0, c1, c2, c3, c4, c5, c6, c7, c8, c9, c10, c11, c12, c13, c14, c15, c16, c17, c18, c19, c20, c21, c22, c23, c24, c25, c26, c27, c28, c29, c30, c31, c32, c33, c34, c35, c36, c37, c38, c39, c40, c41].drop 33).take (Tryd.prog.cellsOf 3)) = xs[6]? := by have := hg 6 _ rfl; exact this
  rw [k_int] at g6
  have g7 : DataW.trod enc Tryd.prog w base spare held n 3 (([c0, c1, c2, c3, c4, c5, c6, c7, c8, c9, c10, c11, c12, c13, c14, c15, c16, c17, c18, c19, c20, c21, c22, c23, c24, c25, c26, c27, c28, c29, c30, c31, c32, c33, c34, c35, c36, c37, c38, c39, c40, c41].drop 34).take (Tryd.prog.cellsOf 3)) = xs[7]? := by have := hg 7 _ rfl; exact this
  rw [k_int] at g7
  have g8 : DataW.trod enc Tryd.prog w base spare held n 34 (([c0, c1, c2, c3, c4, c5, c6, c7, c8, c9, c10, c11, c12, c13, c14, c15, c16, c17, c18, c19, c20, c21, c22, c23, c24, c25, c26, c27, c28, c29, c30, c31, c32, c33, c34, c35, c36, c37, c38, c39, c40, c41].drop 35).take (Tryd.prog.cellsOf 34)) = xs[8]? := by have := hg 8 _ rfl; exact this
  rw [k_bool] at g8
  have g9 : DataW.trod enc Tryd.prog w base spare held n 22 (([c0, c1, c2, c3, c4, c5, c6, c7, c8, c9, c10, c11, c12, c13, c14, c15, c16, c17, c18, c19, c20, c21, c22, c23, c24, c25, c26, c27, c28, c29, c30, c31, c32, c33, c34, c35, c36, c37, c38, c39, c40, c41].drop 36).take (Tryd.prog.cellsOf 22)) = xs[9]? := by have := hg 9 _ rfl; exact this
  rw [k_cell] at g9
  have g10 : DataW.trod enc Tryd.prog w base spare held n 36 (([c0, c1, c2, c3, c4, c5, c6, c7, c8, c9, c10, c11, c12, c13, c14, c15, c16, c17, c18, c19, c20, c21, c22, c23, c24, c25, c26, c27, c28, c29, c30, c31, c32, c33, c34, c35, c36, c37, c38, c39, c40, c41].drop 37).take (Tryd.prog.cellsOf 36)) = xs[10]? := by have := hg 10 _ rfl; exact this
  rw [k_parser] at g10
  have g11 : DataW.trod enc Tryd.prog w base spare held n 9 (([c0, c1, c2, c3, c4, c5, c6, c7, c8, c9, c10, c11, c12, c13, c14, c15, c16, c17, c18, c19, c20, c21, c22, c23, c24, c25, c26, c27, c28, c29, c30, c31, c32, c33, c34, c35, c36, c37, c38, c39, c40, c41].drop 40).take (Tryd.prog.cellsOf 9)) = xs[11]? := by have := hg 11 _ rfl; exact this
  rw [k_string] at g11
  have g12 : DataW.trod enc Tryd.prog w base spare held n 9 (([c0, c1, c2, c3, c4, c5, c6, c7, c8, c9, c10, c11, c12, c13, c14, c15, c16, c17, c18, c19, c20, c21, c22, c23, c24, c25, c26, c27, c28, c29, c30, c31, c32, c33, c34, c35, c36, c37, c38, c39, c40, c41].drop 41).take (Tryd.prog.cellsOf 9)) = xs[12]? := by have := hg 12 _ rfl; exact this
  rw [k_string] at g12
  exact ⟨⟨n, _, g0.trans (List.getElem?_eq_getElem (by omega))⟩, ⟨n, _, g1.trans (List.getElem?_eq_getElem (by omega))⟩, ⟨n, _, g2.trans (List.getElem?_eq_getElem (by omega))⟩, ⟨n, _, g3.trans (List.getElem?_eq_getElem (by omega))⟩, ⟨n, _, g4.trans (List.getElem?_eq_getElem (by omega))⟩, ⟨n, _, g5.trans (List.getElem?_eq_getElem (by omega))⟩, ⟨n, _, g6.trans (List.getElem?_eq_getElem (by omega))⟩, ⟨n, _, g7.trans (List.getElem?_eq_getElem (by omega))⟩, ⟨n, _, g8.trans (List.getElem?_eq_getElem (by omega))⟩, ⟨n, _, g9.trans (List.getElem?_eq_getElem (by omega))⟩, ⟨n, _, g10.trans (List.getElem?_eq_getElem (by omega))⟩, ⟨n, _, g11.trans (List.getElem?_eq_getElem (by omega))⟩, ⟨n, _, g12.trans (List.getElem?_eq_getElem (by omega))⟩⟩
set_option maxRecDepth 100000 in
theorem split_concealed {fuel : Nat} {c0 c1 c2 c3 c4 c5 c6 c7 c8 c9 c10 c11 c12 c13 c14 c15 c16 c17 c18 c19 c20 c21 c22 c23 c24 c25 c26 c27 c28 c29 c30 c31 c32 c33 c34 c35 c36 c37 c38 c39 c40 c41 c42 c43 c44 c45 c46 c47 c48 c49 : Value} {x : DataW H × List MemPlace} (h : DataW.trod enc Tryd.prog w base spare held fuel 43 [c0, c1, c2, c3, c4, c5, c6, c7, c8, c9, c10, c11, c12, c13, c14, c15, c16, c17, c18, c19, c20, c21, c22, c23, c24, c25, c26, c27, c28, c29, c30, c31, c32, c33, c34, c35, c36, c37, c38, c39, c40, c41, c42, c43, c44, c45, c46, c47, c48, c49] = some x) :
    (∃ n y, DataW.trod enc Tryd.prog w base spare held n 38 [c0, c1, c2, c3, c4, c5, c6, c7, c8, c9, c10, c11, c12, c13, c14, c15, c16, c17, c18, c19, c20, c21, c22, c23, c24, c25, c26, c27, c28, c29, c30, c31, c32, c33, c34, c35, c36, c37, c38, c39, c40, c41] = some y) ∧ (∃ n y, DataW.trod enc Tryd.prog w base spare held n 39 [c42] = some y) ∧ (∃ n y, DataW.trod enc Tryd.prog w base spare held n 5 [c43] = some y) ∧ (∃ n y, DataW.trod enc Tryd.prog w base spare held n 41 [c44, c45, c46] = some y) ∧ (∃ n y, DataW.trod enc Tryd.prog w base spare held n 41 [c47, c48, c49] = some y) := by
  obtain ⟨xs, n, -, -, -, hlen, hg⟩ := DataW.trod_struct Tryd.underlying43 h
  have k_place : Tryd.prog.cellsOf 41 = 3 := by kernel_rfl
  have k_terminal : Tryd.prog.cellsOf 38 = 42 := by kernel_rfl
  have k_uint16 : Tryd.prog.cellsOf 39 = 1 := by kernel_rfl
  have k_uint8 : Tryd.prog.cellsOf 5 = 1 := by kernel_rfl
  have hl : xs.length = 5 := hlen
  have g0 : DataW.trod enc Tryd.prog w base spare held n 38 (([c0, c1, c2, c3, c4, c5, c6, c7, c8, c9, c10, c11, c12, c13, c14, c15, c16, c17, c18, c19, c20, c21, c22, c23, c24, c25, c26, c27, c28, c29, c30, c31, c32, c33, c34, c35, c36, c37, c38, c39, c40, c41, c42, c43, c44, c45, c46, c47, c48, c49].drop 0).take (Tryd.prog.cellsOf 38)) = xs[0]? := by have := hg 0 _ rfl; exact this
  rw [k_terminal] at g0
  have g1 : DataW.trod enc Tryd.prog w base spare held n 39 (([c0, c1, c2, c3, c4, c5, c6, c7, c8, c9, c10, c11, c12, c13, c14, c15, c16, c17, c18, c19, c20, c21, c22, c23, c24, c25, c26, c27, c28, c29, c30, c31, c32, c33, c34, c35, c36, c37, c38, c39, c40, c41, c42, c43, c44, c45, c46, c47, c48, c49].drop 42).take (Tryd.prog.cellsOf 39)) = xs[1]? := by have := hg 1 _ rfl; exact this
  rw [k_uint16] at g1
  have g2 : DataW.trod enc Tryd.prog w base spare held n 5 (([c0, c1, c2, c3, c4, c5, c6, c7, c8, c9, c10, c11, c12, c13, c14, c15, c16, c17, c18, c19, c20, c21, c22, c23, c24, c25, c26, c27, c28, c29, c30, c31, c32, c33, c34, c35, c36, c37, c38, c39, c40, c41, c42, c43, c44, c45, c46, c47, c48, c49].drop 43).take (Tryd.prog.cellsOf 5)) = xs[2]? := by have := hg 2 _ rfl; exact this
  rw [k_uint8] at g2
  have g3 : DataW.trod enc Tryd.prog w base spare held n 41 (([c0, c1, c2, c3, c4, c5, c6, c7, c8, c9, c10, c11, c12, c13, c14, c15, c16, c17, c18, c19, c20, c21, c22, c23, c24, c25, c26, c27, c28, c29, c30, c31, c32, c33, c34, c35, c36, c37, c38, c39, c40, c41, c42, c43, c44, c45, c46, c47, c48, c49].drop 44).take (Tryd.prog.cellsOf 41)) = xs[3]? := by have := hg 3 _ rfl; exact this
  rw [k_place] at g3
  have g4 : DataW.trod enc Tryd.prog w base spare held n 41 (([c0, c1, c2, c3, c4, c5, c6, c7, c8, c9, c10, c11, c12, c13, c14, c15, c16, c17, c18, c19, c20, c21, c22, c23, c24, c25, c26, c27, c28, c29, c30, c31, c32, c33, c34, c35, c36, c37, c38, c39, c40, c41, c42, c43, c44, c45, c46, c47, c48, c49].drop 47).take (Tryd.prog.cellsOf 41)) = xs[4]? := by have := hg 4 _ rfl; exact this
  rw [k_place] at g4
  exact ⟨⟨n, _, g0.trans (List.getElem?_eq_getElem (by omega))⟩, ⟨n, _, g1.trans (List.getElem?_eq_getElem (by omega))⟩, ⟨n, _, g2.trans (List.getElem?_eq_getElem (by omega))⟩, ⟨n, _, g3.trans (List.getElem?_eq_getElem (by omega))⟩, ⟨n, _, g4.trans (List.getElem?_eq_getElem (by omega))⟩⟩
theorem open_cerow {fuel : Nat} {cs : List Value} {x : DataW H × List MemPlace} (h : DataW.trod enc Tryd.prog w base spare held fuel 48 cs = some x) :
    ∃ A c l, cs = [.slice A l.length c] ∧ l.length ≤ c ∧ CeRow w w.heap.size A l := by
  rcases open_slice Tryd.underlying48 h with ⟨rfl, -⟩ | ⟨a, len, cap, m, n, D, Pl, rfl, hb, hl, hm, hmm, -, hi⟩
  · exact ⟨none, 0, [], rfl, Nat.le_refl _, Sl.nil rfl⟩
  · have hlm : len ≤ m := by rw [hmm]; split <;> omega
    have hC : Tryd.prog.cellsOf 47 = 5 := by kernel_rfl
    rw [hC] at hi
    have hall : ∀ i, i < len → ∃ e : Ce, w.cell? (a.add (i * 5)) = some (.string e.text) ∧ w.cell? (a.add (i * 5 + 1)) = some (.int .i64 e.width) ∧ w.cell? (a.add (i * 5 + 2)) = some (.int .i64 e.fore) ∧ w.cell? (a.add (i * 5 + 3)) = some (.int .i64 e.back) ∧ w.cell? (a.add (i * 5 + 4)) = some (.int .i64 e.flags) := fun i him => by
      obtain ⟨cs', hc, ht⟩ := hi i (by omega)
      obtain ⟨-, hcl, hat⟩ := World.cells?_some hc
      match cs', hcl with
      | [d0, d1, d2, d3, d4], _ =>
        obtain ⟨s0, s1, n2, y2, s2⟩ := split_cell ht
        obtain ⟨s2, s3, s4⟩ := split_attr s2
        obtain ⟨z0, rfl⟩ := leaf_string s0
        obtain ⟨z1, rfl⟩ := leaf_int s1
        obtain ⟨z2, rfl⟩ := leaf_int s2
        obtain ⟨z3, rfl⟩ := leaf_int s3
        obtain ⟨z4, rfl⟩ := leaf_int s4
        have h0 := hat 0 (by omega)
        have h1 := hat 1 (by omega)
        have h2 := hat 2 (by omega)
        have h3 := hat 3 (by omega)
        have h4 := hat 4 (by omega)
        rw [Go.Deep.add_add] at h0 h1 h2 h3 h4
        exact ⟨⟨z0, z1, z2, z3, z4⟩, h0, h1, h2, h3, h4⟩
    by_cases h0 : 0 < len
    · obtain ⟨e0, hv0, -⟩ := hall 0 h0
      rw [Nat.zero_mul] at hv0
      have hspot : a.spot = none := cell_spot (a := a) hv0
      have hblk := World.block_lt_of_cell? w a hv0
      obtain ⟨l, hll, hr⟩ := list_of len (R := fun i e => CeAt w a.block (a.off + i * 5) e) fun i him => by
        obtain ⟨e, e0, e1, e2, e3, e4⟩ := hall i him
        rw [add_plain hspot] at e0 e1 e2 e3 e4
        rw [← Nat.add_assoc] at e1 e2 e3 e4
        exact ⟨e, e0, e1, e2, e3, e4⟩
      subst hll
      obtain ⟨bl, of, sp⟩ := a
      dsimp only at hspot hblk hr
      subst hspot
      exact ⟨_, cap, l, rfl, hl, fun _ => ⟨bl, of, rfl, hblk, hr⟩⟩
    · obtain rfl : len = 0 := by omega
      exact ⟨_, cap, [], rfl, Nat.zero_le _, Sl.nil rfl⟩
theorem open_crows {fuel : Nat} {cs : List Value} {x : DataW H × List MemPlace} (h : DataW.trod enc Tryd.prog w base spare held fuel 22 cs = some x) :
    ∃ A c rows, cs = [.slice A rows.length c] ∧ CRows2 w w.heap.size A rows := by
  rcases open_slice Tryd.underlying22 h with ⟨rfl, -⟩ | ⟨a, len, cap, m, n, D, Pl, rfl, hb, hl, hm, hmm, -, hi⟩
  · exact ⟨none, 0, [], rfl, Sl.nil rfl⟩
  · have hlm : len ≤ m := by rw [hmm]; split <;> omega
    have hC : Tryd.prog.cellsOf 48 = 1 := by kernel_rfl
    rw [hC] at hi
    by_cases h0 : 0 < len
    · have hfirst : ∃ v, w.cell? a = some v := by
        obtain ⟨cs', hc, ht⟩ := hi 0 (by omega)
        obtain ⟨-, hcl, hat⟩ := World.cells?_some hc
        have h1 := hat 0 (by omega)
        rw [Nat.zero_mul] at h1
        exact ⟨cs'[0]'(by omega), h1.trans (List.getElem?_eq_getElem (by omega))⟩
      obtain ⟨v0, hv0⟩ := hfirst
      have hspot := cell_spot hv0
      have hblk := World.block_lt_of_cell? w a hv0
      obtain ⟨rows, hll, hr⟩ := list_of len (R := fun i r => CRowAt w.heap.size w a.block (a.off + i * 1) r) fun i him => by
        obtain ⟨cs', hc, ht⟩ := hi i (by omega)
        obtain ⟨-, hcl, hat⟩ := World.cells?_some hc
        obtain ⟨A, c, l, rfl, hlc, hgl⟩ := open_cerow ht
        have h1 := hat 0 (by omega)
        rw [add_plain hspot] at h1
        exact ⟨l, A, c, h1, hlc, hgl⟩
      subst hll
      obtain ⟨bl, of, sp⟩ := a
      dsimp only at hspot hblk hr
      subst hspot
      exact ⟨_, cap, rows, rfl, fun _ => ⟨bl, of, rfl, hblk, hr⟩⟩
    · obtain rfl : len = 0 := by omega
      exact ⟨_, cap, [], rfl, Sl.nil rfl⟩
set_option maxRecDepth 100000 in
set_option maxHeartbeats 2000000 in
theorem open_concealed {r : Reach} {b0 : Nat} {v : Value} {d : DataW H} {pl : List MemPlace} (hv : Value.okWide Tryd.prog w r b0 43 v) (h : DataW.Trod enc Tryd.prog w base spare held 43 v d pl) :
    ∃ A c t at_ ch p q, v = conV (Tm.cells t A c).toList at_ ch p q ∧ CRows2 w w.heap.size A t.rows ∧ (0 ≤ at_ ∧ at_ < 65536) ∧ (0 ≤ ch ∧ ch < 256) := by
  obtain ⟨cs, rfl, hsz⟩ := okWide_struct Tryd.underlying43 hv
  have h50 : cs.size = 50 := hsz.trans (by kernel_rfl)
  obtain ⟨l⟩ := cs
  match l, h50 with
  | c0 :: c1 :: c2 :: c3 :: c4 :: c5 :: c6 :: c7 :: c8 :: c9 :: c10 :: c11 :: c12 :: c13 :: c14 :: c15 :: c16 :: c17 :: c18 :: c19 :: c20 :: c21 :: c22 :: c23 :: c24 :: c25 :: c26 :: c27 :: c28 :: c29 :: c30 :: c31 :: c32 :: c33 :: c34 :: c35 :: c36 :: c37 :: c38 :: c39 :: c40 :: c41 :: c42 :: c43 :: c44 :: c45 :: c46 :: c47 :: c48 :: c49 :: [], _ =>
    obtain ⟨fuel, t⟩ := h
    clear hv hsz
    replace t : DataW.trod enc Tryd.prog w base spare held fuel 43 [c0, c1, c2, c3, c4, c5, c6, c7, c8, c9, c10, c11, c12, c13, c14, c15, c16, c17, c18, c19, c20, c21, c22, c23, c24, c25, c26, c27, c28, c29, c30, c31, c32, c33, c34, c35, c36, c37, c38, c39, c40, c41, c42, c43, c44, c45, c46, c47, c48, c49] = some (d, pl) := t
    obtain ⟨⟨nt_0, yt_0, t_0⟩, ⟨nt_1, yt_1, t_1⟩, ⟨nt_2, yt_2, t_2⟩, ⟨nt_3, yt_3, t_3⟩, ⟨nt_4, yt_4, t_4⟩⟩ := split_concealed t
    obtain ⟨⟨nt_0_0, yt_0_0, t_0_0⟩, ⟨nt_0_1, yt_0_1, t_0_1⟩, ⟨nt_0_2, yt_0_2, t_0_2⟩, ⟨nt_0_3, yt_0_3, t_0_3⟩, ⟨nt_0_4, yt_0_4, t_0_4⟩, ⟨nt_0_5, yt_0_5, t_0_5⟩, ⟨nt_0_6, yt_0_6, t_0_6⟩, ⟨nt_0_7, yt_0_7, t_0_7⟩, ⟨nt_0_8, yt_0_8, t_0_8⟩, ⟨nt_0_9, yt_0_9, t_0_9⟩, ⟨nt_0_10, yt_0_10, t_0_10⟩, ⟨nt_0_11, yt_0_11, t_0_11⟩, ⟨nt_0_12, yt_0_12, t_0_12⟩⟩ := split_terminal t_0
    obtain ⟨⟨nt_0_0_0, yt_0_0_0, t_0_0_0⟩, ⟨nt_0_0_1, yt_0_0_1, t_0_0_1⟩, ⟨nt_0_0_2, yt_0_0_2, t_0_0_2⟩⟩ := split_grid t_0_0
    obtain ⟨⟨nt_0_1_0, yt_0_1_0, t_0_1_0⟩, ⟨nt_0_1_1, yt_0_1_1, t_0_1_1⟩, ⟨nt_0_1_2, yt_0_1_2, t_0_1_2⟩⟩ := split_grid t_0_1
    obtain ⟨⟨nt_0_2_0, yt_0_2_0, t_0_2_0⟩, ⟨nt_0_2_1, yt_0_2_1, t_0_2_1⟩, ⟨nt_0_2_2, yt_0_2_2, t_0_2_2⟩⟩ := split_cursor t_0_2
    obtain ⟨⟨nt_0_3_0, yt_0_3_0, t_0_3_0⟩, ⟨nt_0_3_1, yt_0_3_1, t_0_3_1⟩, ⟨nt_0_3_2, yt_0_3_2, t_0_3_2⟩, ⟨nt_0_3_3, yt_0_3_3, t_0_3_3⟩, ⟨nt_0_3_4, yt_0_3_4, t_0_3_4⟩⟩ := split_saved t_0_3
    obtain ⟨⟨nt_0_3_0_0, yt_0_3_0_0, t_0_3_0_0⟩, ⟨nt_0_3_0_1, yt_0_3_0_1, t_0_3_0_1⟩, ⟨nt_0_3_0_2, yt_0_3_0_2, t_0_3_0_2⟩⟩ := split_cursor t_0_3_0
    obtain ⟨⟨nt_0_3_1_0, yt_0_3_1_0, t_0_3_1_0⟩, ⟨nt_0_3_1_1, yt_0_3_1_1, t_0_3_1_1⟩, ⟨nt_0_3_1_2, yt_0_3_1_2, t_0_3_1_2⟩⟩ := split_attr t_0_3_1
    obtain ⟨⟨nt_0_4_0, yt_0_4_0, t_0_4_0⟩, ⟨nt_0_4_1, yt_0_4_1, t_0_4_1⟩, ⟨nt_0_4_2, yt_0_4_2, t_0_4_2⟩⟩ := split_attr t_0_4
    obtain ⟨⟨nt_0_5_0, yt_0_5_0, t_0_5_0⟩, ⟨nt_0_5_1, yt_0_5_1, t_0_5_1⟩, ⟨nt_0_5_2, yt_0_5_2, t_0_5_2⟩, ⟨nt_0_5_3, yt_0_5_3, t_0_5_3⟩, ⟨nt_0_5_4, yt_0_5_4, t_0_5_4⟩, ⟨nt_0_5_5, yt_0_5_5, t_0_5_5⟩, ⟨nt_0_5_6, yt_0_5_6, t_0_5_6⟩, ⟨nt_0_5_7, yt_0_5_7, t_0_5_7⟩, ⟨nt_0_5_8, yt_0_5_8, t_0_5_8⟩, ⟨nt_0_5_9, yt_0_5_9, t_0_5_9⟩⟩ := split_modes t_0_5
    obtain ⟨⟨nt_0_10_0, yt_0_10_0, t_0_10_0⟩, ⟨nt_0_10_1, yt_0_10_1, t_0_10_1⟩, ⟨nt_0_10_2, yt_0_10_2, t_0_10_2⟩⟩ := split_parser t_0_10
    obtain ⟨⟨nt_3_0, yt_3_0, t_3_0⟩, ⟨nt_3_1, yt_3_1, t_3_1⟩, ⟨nt_3_2, yt_3_2, t_3_2⟩⟩ := split_place t_3
    obtain ⟨⟨nt_4_0, yt_4_0, t_4_0⟩, ⟨nt_4_1, yt_4_1, t_4_1⟩, ⟨nt_4_2, yt_4_2, t_4_2⟩⟩ := split_place t_4
    obtain ⟨z0, rfl⟩ := leaf_int ⟨nt_0_0_0, yt_0_0_0, t_0_0_0⟩
    obtain ⟨z1, rfl⟩ := leaf_int ⟨nt_0_0_1, yt_0_0_1, t_0_0_1⟩
    obtain ⟨A, c, rows, hrw, hr⟩ := open_crows t_0_0_2
    cases hrw
    obtain ⟨z3, rfl⟩ := leaf_int ⟨nt_0_1_0, yt_0_1_0, t_0_1_0⟩
    obtain ⟨z4, rfl⟩ := leaf_int ⟨nt_0_1_1, yt_0_1_1, t_0_1_1⟩
    obtain ⟨A5, l5, k5, rfl⟩ := leaf_slice Tryd.underlying22 ⟨nt_0_1_2, yt_0_1_2, t_0_1_2⟩
    obtain ⟨z6, rfl⟩ := leaf_int ⟨nt_0_2_0, yt_0_2_0, t_0_2_0⟩
    obtain ⟨z7, rfl⟩ := leaf_int ⟨nt_0_2_1, yt_0_2_1, t_0_2_1⟩
    obtain ⟨z8, rfl⟩ := leaf_bool ⟨nt_0_2_2, yt_0_2_2, t_0_2_2⟩
    obtain ⟨z9, rfl⟩ := leaf_int ⟨nt_0_3_0_0, yt_0_3_0_0, t_0_3_0_0⟩
    obtain ⟨z10, rfl⟩ := leaf_int ⟨nt_0_3_0_1, yt_0_3_0_1, t_0_3_0_1⟩
    obtain ⟨z11, rfl⟩ := leaf_bool ⟨nt_0_3_0_2, yt_0_3_0_2, t_0_3_0_2⟩
    obtain ⟨z12, rfl⟩ := leaf_int ⟨nt_0_3_1_0, yt_0_3_1_0, t_0_3_1_0⟩
    obtain ⟨z13, rfl⟩ := leaf_int ⟨nt_0_3_1_1, yt_0_3_1_1, t_0_3_1_1⟩
    obtain ⟨z14, rfl⟩ := leaf_int ⟨nt_0_3_1_2, yt_0_3_1_2, t_0_3_1_2⟩
    obtain ⟨z15, rfl⟩ := leaf_bool ⟨nt_0_3_2, yt_0_3_2, t_0_3_2⟩
    obtain ⟨⟨z16, rfl⟩, ⟨z17, rfl⟩⟩ := leaf_two ⟨nt_0_3_3, yt_0_3_3, t_0_3_3⟩
    obtain ⟨z18, rfl⟩ := leaf_int ⟨nt_0_3_4, yt_0_3_4, t_0_3_4⟩
    obtain ⟨z19, rfl⟩ := leaf_int ⟨nt_0_4_0, yt_0_4_0, t_0_4_0⟩
    obtain ⟨z20, rfl⟩ := leaf_int ⟨nt_0_4_1, yt_0_4_1, t_0_4_1⟩
    obtain ⟨z21, rfl⟩ := leaf_int ⟨nt_0_4_2, yt_0_4_2, t_0_4_2⟩
    obtain ⟨z22, rfl⟩ := leaf_bool ⟨nt_0_5_0, yt_0_5_0, t_0_5_0⟩
    obtain ⟨z23, rfl⟩ := leaf_bool ⟨nt_0_5_1, yt_0_5_1, t_0_5_1⟩
    obtain ⟨z24, rfl⟩ := leaf_bool ⟨nt_0_5_2, yt_0_5_2, t_0_5_2⟩
    obtain ⟨z25, rfl⟩ := leaf_bool ⟨nt_0_5_3, yt_0_5_3, t_0_5_3⟩
    obtain ⟨z26, rfl⟩ := leaf_bool ⟨nt_0_5_4, yt_0_5_4, t_0_5_4⟩
    obtain ⟨z27, rfl⟩ := leaf_bool ⟨nt_0_5_5, yt_0_5_5, t_0_5_5⟩
    obtain ⟨z28, rfl⟩ := leaf_bool ⟨nt_0_5_6, yt_0_5_6, t_0_5_6⟩
    obtain ⟨z29, rfl⟩ := leaf_bool ⟨nt_0_5_7, yt_0_5_7, t_0_5_7⟩
    obtain ⟨⟨z30, rfl⟩, ⟨z31, rfl⟩⟩ := leaf_two ⟨nt_0_5_8, yt_0_5_8, t_0_5_8⟩
    obtain ⟨z32, rfl⟩ := leaf_int ⟨nt_0_5_9, yt_0_5_9, t_0_5_9⟩
    obtain ⟨z33, rfl⟩ := leaf_int ⟨nt_0_6, yt_0_6, t_0_6⟩
    obtain ⟨z34, rfl⟩ := leaf_int ⟨nt_0_7, yt_0_7, t_0_7⟩
    obtain ⟨A35, l35, k35, rfl⟩ := leaf_slice Tryd.underlying34 ⟨nt_0_8, yt_0_8, t_0_8⟩
    obtain ⟨A36, l36, k36, rfl⟩ := leaf_slice Tryd.underlying22 ⟨nt_0_9, yt_0_9, t_0_9⟩
    obtain ⟨z37, rfl⟩ := leaf_int ⟨nt_0_10_0, yt_0_10_0, t_0_10_0⟩
    obtain ⟨z38, rfl⟩ := leaf_string ⟨nt_0_10_1, yt_0_10_1, t_0_10_1⟩
    obtain ⟨z39, rfl⟩ := leaf_string ⟨nt_0_10_2, yt_0_10_2, t_0_10_2⟩
    obtain ⟨z40, rfl⟩ := leaf_string ⟨nt_0_11, yt_0_11, t_0_11⟩
    obtain ⟨z41, rfl⟩ := leaf_string ⟨nt_0_12, yt_0_12, t_0_12⟩
    obtain ⟨z42, rfl, hat⟩ := leaf_u16 ⟨nt_1, yt_1, t_1⟩
    obtain ⟨z43, rfl, hch⟩ := leaf_u8 ⟨nt_2, yt_2, t_2⟩
    obtain ⟨z44, rfl⟩ := leaf_int ⟨nt_3_0, yt_3_0, t_3_0⟩
    obtain ⟨z45, rfl⟩ := leaf_int ⟨nt_3_1, yt_3_1, t_3_1⟩
    obtain ⟨z46, rfl⟩ := leaf_int ⟨nt_3_2, yt_3_2, t_3_2⟩
    obtain ⟨z47, rfl⟩ := leaf_int ⟨nt_4_0, yt_4_0, t_4_0⟩
    obtain ⟨z48, rfl⟩ := leaf_int ⟨nt_4_1, yt_4_1, t_4_1⟩
    obtain ⟨z49, rfl⟩ := leaf_int ⟨nt_4_2, yt_4_2, t_4_2⟩
    exact ⟨A, c, ⟨z0, z1, rows, z6, z7, z27, (fun i => ([z0, z1, 0, z3, z4, 0, z6, z7, 0, z9, z10, 0, z12, z13, z14, 0, z16, z17, z18, z19, z20, z21, 0, 0, 0, 0, 0, 0, 0, 0, z30, z31, z32, z33, z34, 0, 0, z37, 0, 0, 0, 0] : List _).getD i 0), (fun i => ([false, false, false, false, false, false, false, false, z8, false, false, z11, false, false, false, z15, false, false, false, false, false, false, z22, z23, z24, z25, z26, z27, z28, z29, false, false, false, false, false, false, false, false, false, false, false, false] : List _).getD i false), (fun i => ([⟨#[]⟩, ⟨#[]⟩, ⟨#[]⟩, ⟨#[]⟩, ⟨#[]⟩, ⟨#[]⟩, ⟨#[]⟩, ⟨#[]⟩, ⟨#[]⟩, ⟨#[]⟩, ⟨#[]⟩, ⟨#[]⟩, ⟨#[]⟩, ⟨#[]⟩, ⟨#[]⟩, ⟨#[]⟩, ⟨#[]⟩, ⟨#[]⟩, ⟨#[]⟩, ⟨#[]⟩, ⟨#[]⟩, ⟨#[]⟩, ⟨#[]⟩, ⟨#[]⟩, ⟨#[]⟩, ⟨#[]⟩, ⟨#[]⟩, ⟨#[]⟩, ⟨#[]⟩, ⟨#[]⟩, ⟨#[]⟩, ⟨#[]⟩, ⟨#[]⟩, ⟨#[]⟩, ⟨#[]⟩, ⟨#[]⟩, ⟨#[]⟩, ⟨#[]⟩, z38, z39, z40, z41] : List _).getD i ⟨#[]⟩), (fun i => ([none, none, none, none, none, A5, none, none, none, none, none, none, none, none, none, none, none, none, none, none, none, none, none, none, none, none, none, none, none, none, none, none, none, none, none, A35, A36, none, none, none, none, none] : List _).getD i none), (fun i => ([0, 0, 0, 0, 0, l5, 0, 0, 0, 0, 0, 0, 0, 0, 0, 0, 0, 0, 0, 0, 0, 0, 0, 0, 0, 0, 0, 0, 0, 0, 0, 0, 0, 0, 0, l35, l36, 0, 0, 0, 0, 0] : List _).getD i 0), (fun i => ([0, 0, 0, 0, 0, k5, 0, 0, 0, 0, 0, 0, 0, 0, 0, 0, 0, 0, 0, 0, 0, 0, 0, 0, 0, 0, 0, 0, 0, 0, 0, 0, 0, 0, 0, k35, k36, 0, 0, 0, 0, 0] : List _).getD i 0)⟩, z42, z43, ⟨z44, z45, z46⟩, ⟨z47, z48, z49⟩, rfl, hr, hat, hch⟩
end
end Go.Proofs.YtdmnnjpbndngeaaDoor
