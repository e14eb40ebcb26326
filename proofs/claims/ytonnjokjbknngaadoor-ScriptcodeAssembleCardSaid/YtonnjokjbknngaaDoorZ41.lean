/- The reference's line. -/
import Derived.Test.YtonnjokjbknngaaDoorZ40
namespace Go.Proofs.YtonnjokjbknngaaDoor
open Go.RowKit Go.Maps Go.Lib Go.Shelf

theorem lineR (w : World) (B : Nat) (v : Fld → Value) (st : St) (h : RefAt w B v st) (hlabs : st.labs.length ≤ 2000) (no : Int) (w0 : BS) (r : List BS) (N g c : Nat) (hN : r.length + 1 = N) (hg : g < w.heap.size) (hws : ∀ k x, (w0 :: r)[k]? = some x → w.cell? ⟨g, k, none⟩ = some (strV x)) (hz : ∀ x ∈ w0 :: r, x.length ≤ 1000)
    (hne : w0 ≠ []) (h35 : ¬ w0.head? = some 35) :
    Calls Tryd.prog 34 #[.pointer (some ⟨B, 0, none⟩), .int .i64 no, .slice (some ⟨g, 0, none⟩) N c] w (LineRetR B w v (lineF no (w0 :: r) st)) := by
  by_cases hl : r = [] ∧ w0.getLast? = some 58
  · obtain ⟨rfl, hl⟩ := hl
    obtain rfl : N = 1 := by simpa using hN.symm
    exact lineLabR w B v st h hlabs no w0 g c (hws 0 w0 rfl) (hz w0 (by simp)) hl h35
  · exact lineOpR w B v st h no w0 r N g c hN hg hws hz hne hl h35
end Go.Proofs.YtonnjokjbknngaaDoor
