/- A row's argument that is a slice of instructions, opened to the words of the walks. -/
import Derived.Test.YtonnjokjbknngaaDoorZ10
import Derived.Deep.Slices
import Derived.Deep.Fields
import Derived.ChangeSame
import Derived.Lib.SmallJoins
namespace Go.Proofs.YtonnjokjbknngaaDoor
open Go.ChangeShapes Go.WideShapes Go.Deep Go.Joins Go.RowKit

section
variable {H : Type} {enc : TypeId × Value → H} {P : Program} {w : World} {base : Nat} {spare : Nat → Bool} {held : Bool}
theorem open_slice_fields {t e : TypeId} {fs : Array Field} {fuel : Nat} {cs : List Value} {x : DataW H × List MemPlace} (ht : P.underlying t = some (.slice e)) (he : P.underlying e = some (.struct fs))
    (hone : oneCellFields P fs = true) (hC : P.cellsOf e = fs.size) (h : DataW.trod enc P w base spare held fuel t cs = some x) :
    (cs = [.slice none 0 0] ∧ x = (.nil, [])) ∨
    ∃ (a : Addr) (len cap m : Nat) (D : Nat → DataW H) (Pl : Nat → List MemPlace), cs = [.slice (some a) len cap] ∧ base ≤ a.block ∧ len ≤ cap ∧ cap ≤ maxLen ∧ m = (if spare a.block then cap else len) ∧
      x = (.slice ((List.range len).map D) ((List.range (m - len)).map fun j => D (len + j)), MemPlace.row a (m * fs.size) ++ (List.range m).flatMap Pl) ∧
      ∀ i, i < m → ∃ (ys : List (DataW H × List MemPlace)) (n : Nat), D i = .agg (ys.map (·.1)) ∧ Pl i = ys.flatMap (·.2) ∧ ys.length = fs.size ∧
        ∀ (j : Nat) (f : Field), fs[j]? = some f → ∃ (v : Value) (y : DataW H × List MemPlace), w.cell? (a.add (i * fs.size + j)) = some v ∧ ys[j]? = some y ∧ DataW.trod enc P w base spare held n f.type [v] = some y := by
  rcases open_slice ht h with h0 | ⟨a, len, cap, m, n, D, Pl, hcs, hb, hl, hm, hmm, hx, hi⟩
  · exact .inl h0
  · refine .inr ⟨a, len, cap, m, D, Pl, hcs, hb, hl, hm, hmm, by rw [hC] at hx; exact hx, fun i him => ?_⟩
    obtain ⟨cs', hc, ht'⟩ := hi i him
    rw [hC] at hc
    obtain ⟨ys, n', hn', hy, hlen, hyl, hf⟩ := DataW.trod_struct he ht'
    obtain ⟨_, hcl, hat⟩ := World.cells?_some hc
    simp only [Prod.mk.injEq] at hy
    refine ⟨ys, n', hy.1, hy.2, hyl, fun j f hj => ?_⟩
    obtain ⟨ho, hk⟩ := hone_of hone j f hj
    have hjl : j < fs.size := (Array.getElem?_eq_some_iff.1 hj).1
    have hcell := hat j hjl
    have hv : cs'[j]? = some (cs'[j]'(by omega)) := List.getElem?_eq_getElem (by omega)
    have h1 := hf j f hj
    rw [ho, hk] at h1
    have hone' : (cs'.drop j).take 1 = [cs'[j]'(by omega)] := by
      rw [List.drop_eq_getElem_cons (by omega)]
      rfl
    rw [hone'] at h1
    have hys : ys[j]? = some (ys[j]'(by omega)) := List.getElem?_eq_getElem (by omega)
    refine ⟨_, _, ?_, hys, h1.trans hys⟩
    rw [← Go.Deep.add_add, hcell, hv]

end
theorem list_of {α : Type} (n : Nat) {R : Nat → α → Prop} (h : ∀ i, i < n → ∃ x, R i x) : ∃ l : List α, l.length = n ∧ ∀ i x, l[i]? = some x → R i x := by
  induction n with
  | zero => exact ⟨[], rfl, fun i x h => by simp at h⟩
  | succ n ih =>
    obtain ⟨l, hl, hr⟩ := ih fun i hi => h i (by omega)
    obtain ⟨x, hx⟩ := h n (by omega)
    refine ⟨l ++ [x], by simp [hl], fun i y hy => ?_⟩
    by_cases hi : i < l.length
    · rw [List.getElem?_append_left hi] at hy; exact hr i y hy
    · rw [List.getElem?_append_right (by omega)] at hy
      have h0 : i - l.length = 0 := by
        have := (List.getElem?_eq_some_iff.1 hy).1
        simp at this; omega
      rw [h0] at hy
      simp at hy
      subst hy
      rwa [show i = n by omega]
theorem cell_spot {w : World} {a : Addr} {v : Value} (h : w.cell? a = some v) : a.spot = none := by
  unfold World.cell? at h
  split at h
  · split at h
    · cases h
    · rename_i hs; simpa using hs
  · cases h
theorem add_plain {a : Addr} (h : a.spot = none) (n : Nat) : a.add n = ⟨a.block, a.off + n, none⟩ := by
  obtain ⟨b, o, s⟩ := a
  dsimp only at h
  subst h
  unfold Addr.add
  split
  · simp_all
  · rfl

section
variable {H : Type} {enc : TypeId × Value → H} {w : World} {base : Nat} {spare : Nat → Bool} {held : Bool}
set_option maxRecDepth 100000 in
theorem open_inss {r : Reach} {b0 : Nat} {v : Value} {d : DataW H} {p : List MemPlace} (hv : Value.okWide Tryd.prog w r b0 23 v) (h : DataW.Trod enc Tryd.prog w base spare held 23 v d p) :
    ∃ (A : Option Addr) (c : Nat) (l : List Ins), v = .slice A l.length c ∧ l.length ≤ c ∧ InsRow w w.heap.size A l := by
  obtain ⟨a0, len0, cap0, rfl⟩ := okWide_slice Tryd.underlying23 hv
  obtain ⟨fuel, hf⟩ := h
  rcases open_slice_fields Tryd.underlying23 Tryd.underlying41 (by kernel_rfl) (by kernel_rfl) hf with ⟨hcs, -⟩ | ⟨a, len, cap, m, D, Pl, hcs, hb, hl, hm, hmm, -, hi⟩
  · simp [Value.cells] at hcs
    obtain ⟨rfl, rfl, rfl⟩ := hcs
    exact ⟨none, 0, [], rfl, Nat.le_refl _, Sl.nil rfl⟩
  · simp [Value.cells] at hcs
    obtain ⟨rfl, rfl, rfl⟩ := hcs
    have hlm : len0 ≤ m := by rw [hmm]; split <;> omega
    by_cases h0 : 0 < len0
    · have hspot : a.spot = none := by
        obtain ⟨ys, n, -, -, -, hf⟩ := hi 0 (by omega)
        obtain ⟨v0, y0, c0, -, -⟩ := hf 0 _ rfl
        rw [Nat.zero_mul] at c0
        exact cell_spot (a := a) c0
      have hblk : a.block < w.heap.size := by
        obtain ⟨ys, n, -, -, -, hf⟩ := hi 0 (by omega)
        obtain ⟨v0, y0, c0, -, -⟩ := hf 0 _ rfl
        rw [Nat.zero_mul] at c0
        exact World.block_lt_of_cell? w a c0
      obtain ⟨l, hll, hr⟩ := list_of len0 (R := fun i g => InsAt w a.block (a.off + i * 2) g) fun i him => by
        obtain ⟨ys, n, -, -, -, hf⟩ := hi i (by omega)
        obtain ⟨v0, y0, c0, -, t0⟩ := hf 0 _ rfl
        obtain ⟨v1, y1, c1, -, t1⟩ := hf 1 _ rfl
        obtain ⟨z0, e0, -⟩ := DataW.trod_int Tryd.underlying3 t0
        obtain ⟨z1, e1, -⟩ := DataW.trod_int Tryd.underlying3 t1
        cases e0
        cases e1
        rw [add_plain hspot] at c0 c1
        exact ⟨⟨z0, z1⟩, c0, c1⟩
      refine ⟨some a, cap0, l, by rw [hll], by omega, fun _ => ⟨a.block, a.off, ?_, hblk, hr⟩⟩
      obtain ⟨bl, of, sp⟩ := a
      dsimp only at hspot
      rw [hspot]
    · obtain rfl : len0 = 0 := by omega
      exact ⟨some a, cap0, [], rfl, by simp, Sl.nil rfl⟩
end
end Go.Proofs.YtonnjokjbknngaaDoor
