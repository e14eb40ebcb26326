/- A row's argument that is a view, or a region, opened to the words of the walks. -/
import Derived.Test.YtdkppdjonlldhaaGreatDoorMem
import Derived.Deep.Slices
import Derived.Deep.Fields
import Derived.ChangeSame
import Derived.Lib.SmallJoins
namespace Go.Proofs.YtdkppdjonlldhaaGreatDoor
open Go.ChangeShapes Go.WideShapes Go.Deep Go.Joins Go.RowKit

section
variable {H : Type} {enc : TypeId × Value → H} {P : Program} {w : World} {base : Nat} {spare : Nat → Bool} {held : Bool}
theorem open_slice_fields {t e : TypeId} {fs : Array Field} {fuel : Nat} {cs : List Value} {x : DataW H × List MemPlace} (ht : P.underlying t = some (.slice e)) (he : P.underlying e = some (.struct fs))
    (hone : oneCellFields P fs = true) (hC : P.cellsOf e = fs.size) (h : DataW.trod enc P w base spare held fuel t cs = some x) :
    (cs = [.slice none 0 0] ∧ x = (.nil, [])) ∨
    ∃ (a : Addr) (len cap m : Nat) (D : Nat → DataW H) (Pl : Nat → List MemPlace), cs = [.slice (some a) len cap] ∧ base ≤ a.block ∧ len ≤ cap ∧ cap ≤ maxLen ∧ m = (if spare a.block then cap else len) ∧
      x = (.slice ((List.range len).map D) ((List.range (m - len)).map fun j => D (len + j)), MemPlace.row a (m * fs.size) ++ (List.range m).flatMap Pl) ∧
      ∀ i, i < m → ∃ (ys : List (DataW H × List MemPlace)) (n : Nat), D i = .agg (ys.map (·.1)) ∧ Pl i = ys.flatMap (·.2) ∧ ys.length = fs.size ∧
        ∀ (j : Nat) (f : Field), fs[j]? = some f → ∃ (v : Value) (y : DataW H × List MemPlace), w.cell? (a.add (i * fs.size + j)) = some v ∧ ys[j]? = some y ∧ DataW.trod enc P w base spare held n f.type [v] = some y := by
  rcases open_slice ht h with h0 | ⟨a, len, cap, m, n, D, Pl, hcs, hb, hl, hm, hmm, hx, hi⟩
  · exact .inl h0
  · refine .inr ⟨a, len, cap, m, D, Pl, hcs, hb, hl, hm, hmm, by rw [hC] at hx; exact hx, fun i him => ?_⟩
    obtain ⟨cs', hc, ht'⟩ := hi i him
    rw [hC] at hc
    obtain ⟨ys, n', hn', hy, hlen, hyl, hf⟩ := DataW.trod_struct he ht'
    obtain ⟨_, hcl, hat⟩ := World.cells?_some hc
    simp only [Prod.mk.injEq] at hy
    refine ⟨ys, n', hy.1, hy.2, hyl, fun j f hj => ?_⟩
    obtain ⟨ho, hk⟩ := hone_of hone j f hj
    have hjl : j < fs.size := (Array.getElem?_eq_some_iff.1 hj).1
    have hcell := hat j hjl
    have hv : cs'[j]? = some (cs'[j]'(by omega)) := List.getElem?_eq_getElem (by omega)
    have h1 := hf j f hj
    rw [ho, hk] at h1
    have hone' : (cs'.drop j).take 1 = [cs'[j]'(by omega)] := by
      rw [List.drop_eq_getElem_cons (by omega)]
      rfl
    rw [hone'] at h1
    have hys : ys[j]? = some (ys[j]'(by omega)) := List.getElem?_eq_getElem (by omega)
    refine ⟨_, _, ?_, hys, h1.trans hys⟩
    rw [← Go.Deep.add_add, hcell, hv]

theorem open_agg6 {r : Reach} {b0 : Nat} {t : TypeId} {f0 f1 f2 f3 f4 f5 : Field} {v : Value} {d : DataW H} {p : List MemPlace} (hs : P.underlying t = some (.struct #[f0, f1, f2, f3, f4, f5])) (hone : oneCellFields P #[f0, f1, f2, f3, f4, f5] = true) (hC : P.cellsOf t = 6)
    (hv : Value.okWide P w r b0 t v) (h : DataW.Trod enc P w base spare held t v d p) :
    ∃ (v0 v1 v2 v3 v4 v5 : Value) (y0 y1 y2 y3 y4 y5 : DataW H × List MemPlace) (n : Nat), v = .agg #[v0, v1, v2, v3, v4, v5] ∧ d = .agg [y0.1, y1.1, y2.1, y3.1, y4.1, y5.1] ∧ p = y0.2 ++ (y1.2 ++ (y2.2 ++ (y3.2 ++ (y4.2 ++ y5.2)))) ∧
      DataW.trod enc P w base spare held n f0.type [v0] = some y0 ∧ DataW.trod enc P w base spare held n f1.type [v1] = some y1 ∧ DataW.trod enc P w base spare held n f2.type [v2] = some y2 ∧ DataW.trod enc P w base spare held n f3.type [v3] = some y3 ∧ DataW.trod enc P w base spare held n f4.type [v4] = some y4 ∧ DataW.trod enc P w base spare held n f5.type [v5] = some y5 := by
  obtain ⟨cs, rfl, hsz⟩ := okWide_struct hs hv
  obtain ⟨l⟩ := cs
  match l, hsz.trans hC with
  | [c0, c1, c2, c3, c4, c5], _ =>
    obtain ⟨fuel, hf⟩ := h
    obtain ⟨xs, n, _, hx, _, hlen, hg⟩ := DataW.trod_struct hs hf
    obtain ⟨o0, k0⟩ := hone_of hone 0 f0 rfl
    obtain ⟨o1, k1⟩ := hone_of hone 1 f1 rfl
    obtain ⟨o2, k2⟩ := hone_of hone 2 f2 rfl
    obtain ⟨o3, k3⟩ := hone_of hone 3 f3 rfl
    obtain ⟨o4, k4⟩ := hone_of hone 4 f4 rfl
    obtain ⟨o5, k5⟩ := hone_of hone 5 f5 rfl
    match xs, hlen with
    | [y0, y1, y2, y3, y4, y5], _ =>
      simp only [Prod.mk.injEq] at hx
      exact ⟨c0, c1, c2, c3, c4, c5, y0, y1, y2, y3, y4, y5, n, rfl, by simpa using hx.1, by simpa using hx.2, by simpa [Value.cells, o0, k0] using hg 0 f0 rfl, by simpa [Value.cells, o1, k1] using hg 1 f1 rfl, by simpa [Value.cells, o2, k2] using hg 2 f2 rfl, by simpa [Value.cells, o3, k3] using hg 3 f3 rfl, by simpa [Value.cells, o4, k4] using hg 4 f4 rfl, by simpa [Value.cells, o5, k5] using hg 5 f5 rfl⟩
end

theorem list_of {α : Type} (n : Nat) {R : Nat → α → Prop} (h : ∀ i, i < n → ∃ x, R i x) : ∃ l : List α, l.length = n ∧ ∀ i x, l[i]? = some x → R i x := by
  induction n with
  | zero => exact ⟨[], rfl, fun i x h => by simp at h⟩
  | succ n ih =>
    obtain ⟨l, hl, hr⟩ := ih fun i hi => h i (by omega)
    obtain ⟨x, hx⟩ := h n (by omega)
    refine ⟨l ++ [x], by simp [hl], fun i y hy => ?_⟩
    by_cases hi : i < l.length
    · rw [List.getElem?_append_left hi] at hy; exact hr i y hy
    · rw [List.getElem?_append_right (by omega)] at hy
      have h0 : i - l.length = 0 := by
        have := (List.getElem?_eq_some_iff.1 hy).1
        simp at this; omega
      rw [h0] at hy
      simp at hy
      subst hy
      rwa [show i = n by omega]
theorem cell_spot {w : World} {a : Addr} {v : Value} (h : w.cell? a = some v) : a.spot = none := by
  unfold World.cell? at h
  split at h
  · split at h
    · cases h
    · rename_i hs; simpa using hs
  · cases h
theorem add_plain {a : Addr} (h : a.spot = none) (n : Nat) : a.add n = ⟨a.block, a.off + n, none⟩ := by
  obtain ⟨b, o, s⟩ := a
  dsimp only at h
  subst h
  unfold Addr.add
  split
  · simp_all
  · rfl

section
variable {H : Type} {enc : TypeId × Value → H} {w : World} {base : Nat} {spare : Nat → Bool} {held : Bool}
theorem open_glrow {fuel : Nat} {cs : List Value} {x : DataW H × List MemPlace} (h : DataW.trod enc Tryz.prog w base spare held fuel 34 cs = some x) :
    ∃ A c l, cs = [.slice A l.length c] ∧ l.length ≤ c ∧ GlRow w w.heap.size A l := by
  rcases open_slice_fields Tryz.underlying34 Tryz.underlying42 (by kernel_rfl) (by kernel_rfl) h with ⟨rfl, -⟩ | ⟨a, len, cap, m, D, Pl, rfl, hb, hl, hm, hmm, -, hi⟩
  · exact ⟨none, 0, [], rfl, Nat.le_refl _, Sl.nil rfl⟩
  · have hlm : len ≤ m := by rw [hmm]; split <;> omega
    by_cases h0 : 0 < len
    · have hspot : a.spot = none := by
        obtain ⟨ys, n, -, -, -, hf⟩ := hi 0 (by omega)
        obtain ⟨v0, y0, c0, -, -⟩ := hf 0 _ rfl
        rw [Nat.zero_mul] at c0
        exact cell_spot (a := a) c0
      have hblk : a.block < w.heap.size := by
        obtain ⟨ys, n, -, -, -, hf⟩ := hi 0 (by omega)
        obtain ⟨v0, y0, c0, -, -⟩ := hf 0 _ rfl
        rw [Nat.zero_mul] at c0
        exact World.block_lt_of_cell? w a c0
      obtain ⟨l, hll, hr⟩ := list_of len (R := fun i g => GlAt w a.block (a.off + i * 3) g) fun i him => by
        obtain ⟨ys, n, -, -, -, hf⟩ := hi i (by omega)
        obtain ⟨v0, y0, c0, -, t0⟩ := hf 0 _ rfl
        obtain ⟨v1, y1, c1, -, t1⟩ := hf 1 _ rfl
        obtain ⟨v2, y2, c2, -, t2⟩ := hf 2 _ rfl
        obtain ⟨s, hs, -⟩ := DataW.trod_string Tryz.underlying9 t0
        obtain ⟨b, hb1, -⟩ := DataW.trod_bool Tryz.underlying4 t1
        obtain ⟨z, hz, -⟩ := DataW.trod_int Tryz.underlying3 t2
        cases hs
        cases hb1
        cases hz
        rw [add_plain hspot] at c0 c1 c2
        exact ⟨⟨s, b, z⟩, c0, by rw [← Nat.add_assoc] at c1; exact c1, by rw [← Nat.add_assoc] at c2; exact c2⟩
      subst hll
      obtain ⟨bl, of, sp⟩ := a
      dsimp only at hspot hblk hr
      subst hspot
      exact ⟨_, cap, l, rfl, hl, fun _ => ⟨bl, of, rfl, hblk, hr⟩⟩
    · obtain rfl : len = 0 := by omega
      exact ⟨_, cap, [], rfl, Nat.zero_le _, Sl.nil rfl⟩
theorem open_rows {fuel : Nat} {cs : List Value} {x : DataW H × List MemPlace} (h : DataW.trod enc Tryz.prog w base spare held fuel 22 cs = some x) :
    ∃ A c rows, cs = [.slice A rows.length c] ∧ rows.length ≤ c ∧ Rows2 w w.heap.size A rows := by
  rcases open_slice Tryz.underlying22 h with ⟨rfl, -⟩ | ⟨a, len, cap, m, n, D, Pl, rfl, hb, hl, hm, hmm, -, hi⟩
  · exact ⟨none, 0, [], rfl, Nat.le_refl _, Sl.nil rfl⟩
  · have hlm : len ≤ m := by rw [hmm]; split <;> omega
    have hC : Tryz.prog.cellsOf 34 = 1 := by kernel_rfl
    rw [hC] at hi
    by_cases h0 : 0 < len
    · have hfirst : ∃ v, w.cell? a = some v := by
        obtain ⟨cs', hc, ht⟩ := hi 0 (by omega)
        obtain ⟨-, hcl, hat⟩ := World.cells?_some hc
        have h1 := hat 0 (by omega)
        rw [Nat.zero_mul] at h1
        exact ⟨cs'[0]'(by omega), h1.trans (List.getElem?_eq_getElem (by omega))⟩
      obtain ⟨v0, hv0⟩ := hfirst
      have hspot := cell_spot hv0
      have hblk := World.block_lt_of_cell? w a hv0
      obtain ⟨rows, hll, hr⟩ := list_of len (R := fun i r => RowAt w.heap.size w a.block (a.off + i * 1) r) fun i him => by
        obtain ⟨cs', hc, ht⟩ := hi i (by omega)
        obtain ⟨-, hcl, hat⟩ := World.cells?_some hc
        obtain ⟨A, c, l, rfl, hlc, hgl⟩ := open_glrow ht
        have h1 := hat 0 (by omega)
        rw [add_plain hspot] at h1
        exact ⟨l, A, c, h1, hlc, hgl⟩
      subst hll
      obtain ⟨bl, of, sp⟩ := a
      dsimp only at hspot hblk hr
      subst hspot
      exact ⟨_, cap, rows, rfl, hl, fun _ => ⟨bl, of, rfl, hblk, hr⟩⟩
    · obtain rfl : len = 0 := by omega
      exact ⟨_, cap, [], rfl, Nat.zero_le _, Sl.nil rfl⟩
set_option maxRecDepth 100000 in
theorem open_view {r : Reach} {b0 : Nat} {v : Value} {d : DataW H} {p : List MemPlace} (hv : Value.okWide Tryz.prog w r b0 24 v) (h : DataW.Trod enc Tryz.prog w base spare held 24 v d p) :
    ∃ A c vw, v = Vw.val vw A c ∧ Rows2 w w.heap.size A vw.rows ∧ vw.rows.length ≤ c := by
  obtain ⟨v0, v1, v2, v3, v4, v5, y0, y1, y2, y3, y4, y5, n, rfl, -, -, t0, t1, t2, t3, t4, t5⟩ := open_agg6 Tryz.underlying24 (by kernel_rfl) (by kernel_rfl) hv h
  obtain ⟨z0, h0, -⟩ := DataW.trod_int Tryz.underlying3 t0
  obtain ⟨z1, h1, -⟩ := DataW.trod_int Tryz.underlying3 t1
  obtain ⟨A, c, rows, h2, hc, hr⟩ := open_rows t2
  obtain ⟨z3, h3, -⟩ := DataW.trod_int Tryz.underlying3 t3
  obtain ⟨z4, h4, -⟩ := DataW.trod_int Tryz.underlying3 t4
  obtain ⟨z5, h5, -⟩ := DataW.trod_bool Tryz.underlying4 t5
  cases h0
  cases h1
  cases h2
  cases h3
  cases h4
  cases h5
  exact ⟨A, c, ⟨z0, z1, rows, z3, z4, z5⟩, rfl, hr, hc⟩
end
end Go.Proofs.YtdkppdjonlldhaaGreatDoor
