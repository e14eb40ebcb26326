/- Append of a slice that may be nil or empty to a row of the call's own; rows of glyphs that the call has laid. -/
import Derived.Test.YtdkppdjonlldhaaGreatDoorApp2
import Derived.Laws.OwnMore
import Derived.Laws.AppendOwnNone
namespace Go.Proofs.YtdkppdjonlldhaaGreatDoor
open Go.RowKit

section
variable {P : Program} {ops : Array Oper} {rest : List Oper} {o : Oper} {a : Act} {Q : Exit → Act → World → Prop}
theorem run_append_owned_zero {w : World} (base : Nat) (t ty e : TypeId) (i : TypeInfo) (size : Nat) (ht : P.underlying t = some (.slice e)) (hi : P.info? e = some i)
    (v : Value) (n : Nat) (xs : List Value) (hown : w.ownsRow base e size v n xs) (A : Option Addr) (c : Nat) :
    (Builtin.append_ #[t, t] ty #[v, .slice A 0 c]).run P w = .ok v w := by
  cases A with
  | none =>
    rcases hown.2 with ⟨rfl, rfl⟩ | ⟨g, cap, cur, rfl, _, _, hnc, _⟩
    · simp [Builtin.append_, run_underlying ht, sizeOf, typeInfo, hi, Builtin.lenOf, Builtin.firstCells]
    · simp [Builtin.append_, run_underlying ht, sizeOf, typeInfo, hi, Builtin.lenOf, Builtin.firstCells, hnc, storeCells]
  | some ad =>
    rcases hown.2 with ⟨rfl, rfl⟩ | ⟨g, cap, cur, rfl, _, _, hnc, _⟩
    · simp [Builtin.append_, run_underlying ht, sizeOf, typeInfo, hi, Builtin.lenOf, Builtin.firstCells, loadCells, loadCellsFrom]
    · simp [Builtin.append_, run_underlying ht, sizeOf, typeInfo, hi, Builtin.lenOf, Builtin.firstCells, hnc, storeCells, loadCells, loadCellsFrom]
theorem wpList_append_zero {w : World} (hgd : o.guard = none) (s x : Operand) (t : TypeId)
    (ho : o.op = .call { callee := .builtin .append, args := #[s, x], argTypes := #[t, t] })
    (base : Nat) (e : TypeId) (i : TypeInfo) (size : Nat) (ht : P.underlying t = some (.slice e)) (hi : P.info? e = some i)
    (v : Value) (n : Nat) (xs : List Value) (hs : a.eval s = v) (hown : w.ownsRow base e size v n xs) (A : Option Addr) (c : Nat) (hx : a.eval x = .slice A 0 c)
    (h : wpList P ops Q rest (a.put o.dst v) w) : wpList P ops Q (o :: rest) a w := by
  refine wpList_plain hgd fun K hK => ?_
  have hrun := run_append_owned_zero (P := P) (w := w) base t o.type e i size ht hi v n xs hown A c
  unfold Oper.wp
  simp [execOp, ho, resolve, invoke, builtin, hs, hx, hrun, Result.andThen]
  exact hK _ _ h
/-- 's = append(s, row...)': s the call's own, the row a slice of glyphs, nil or not. -/
theorem wpList_gls (W : World) (s x : Operand) (t : TypeId) (hgd : o.guard = none)
    (ho : o.op = .call { callee := .builtin .append, args := #[s, x], argTypes := #[t, t] })
    {e : TypeId} {z : Value} {bytes : Nat} (hE : ElemOf P t e z 3 bytes) (base : Nat) (v : Value) (n : Nat) (xs : List Value) (hs : a.eval s = v) (hown : W.ownsRow base e 3 v n xs) (hbase : base ≤ W.heap.size)
    (A : Option Addr) (c B : Nat) (l : List Gl) (m : Nat) (hm : l.length = m) (hx : a.eval x = .slice A m c) (hsl : GlRow W B A l) (hbytes : (n + m) * bytes ≤ 140737488355328) (N : Nat) (hN : n + m = N)
    (h : ∀ v' w', w'.ownsRow base e 3 v' N (xs ++ l.flatMap Gl.enc) → W.grownBy w' v.ownBlock → wpList P ops Q rest (a.put o.dst v') w') : wpList P ops Q (o :: rest) a W := by
  subst hm hN
  obtain ⟨i, hi, hz, hsz, hby⟩ := info_parts hE.info
  by_cases h0 : l.length = 0
  · have hl : l = [] := List.eq_nil_of_length_eq_zero h0
    subst hl
    refine wpList_append_zero hgd s x t ho base e i 3 hE.slice hi v n xs hs hown A c hx ?_
    exact h v W (by simpa using hown) (World.grownBy.refl W _)
  · obtain ⟨b, off, rfl, hb, hc⟩ := hsl (by omega)
    exact wpList_apps W s x t hgd ho hE base v n xs hs hown hbase b off l.length c (l.flatMap Gl.enc) hx (flat_len (enc := Gl.enc) (sz := 3) (fun _ => rfl) l) (GlRow.cells hsl) (gl_one l) hbytes h
end

/-- The rows that have been made: their slices are the call's own, and so are their glyphs. -/
def MadeG (w : World) (base : Nat) (v : Value) (rows : List (List Gl)) : Prop :=
  ∃ xs : List Value, w.ownsRow base 34 1 v rows.length xs ∧ ∀ (k : Nat) r, rows[k]? = some r → ∃ u : Value, xs[k]? = some u ∧ w.ownsRow base 42 3 u r.length (r.flatMap Gl.enc)
theorem MadeG.nil (w : World) (base : Nat) : MadeG w base (.slice none 0 0) [] := ⟨[], World.ownsRow_nil _ _ _ _, fun k r h => by simp at h⟩
theorem MadeG.below {w w' : World} {base : Nat} {v : Value} {rows : List (List Gl)} (h : MadeG w base v rows) (hb : Below w.heap.size w w') : MadeG w' base v rows := by
  obtain ⟨xs, h1, h2⟩ := h
  refine ⟨xs, own_below h1 hb (Nat.le_refl _), fun k r hr => ?_⟩
  obtain ⟨u, hu, ho⟩ := h2 k r hr
  exact ⟨u, hu, own_below ho hb (Nat.le_refl _)⟩
theorem MadeG.reads {w : World} {base : Nat} {v : Value} {rows : List (List Gl)} (h : MadeG w base v rows) : ∃ A c, v = .slice A rows.length c ∧ rows.length ≤ c ∧ Rows2 w w.heap.size A rows := by
  obtain ⟨xs, hout, hins⟩ := h
  rcases hout.2 with ⟨rfl, h0⟩ | ⟨g, cap, cur, rfl, _, hh, hnc, _, _, htake⟩
  · exact ⟨none, 0, by rw [h0], by omega, Sl.nil h0⟩
  · refine ⟨some ⟨g, 0, none⟩, cap, rfl, hnc, fun _ => ⟨g, 0, rfl, block_lt hh, fun k r hr => ?_⟩⟩
    obtain ⟨u, hu, ho⟩ := hins k r hr
    obtain ⟨A', c', rfl, hc', hgl⟩ := Sl.of_own GlAt.lays ho
    refine ⟨A', c', ?_, hc', hgl⟩
    have hk := (List.getElem?_eq_some_iff.1 hr).1
    have h1 := hout.cellAt k (by omega)
    rw [hu] at h1
    rw [Nat.zero_add, Nat.mul_one]
    exact h1
theorem madeG_step {w5 w6 : World} {base : Nat} {A2 A5 : Option Addr} {k c2 c5 : Nat} {v6 : Value} {xs : List Value} {rows rows' : List (List Gl)} {r : List Gl} (hr : rows' = rows ++ [r]) (hout : w5.ownsRow base 34 1 (.slice A2 k c2) k xs)
    (hins : ∀ (j : Nat) r, rows[j]? = some r → ∃ u : Value, xs[j]? = some u ∧ w5.ownsRow base 42 3 u r.length (r.flatMap Gl.enc)) {b5 : Nat} (h5 : w5.ownsRow b5 42 3 (.slice A5 r.length c5) r.length (r.flatMap Gl.enc)) (hb5 : base ≤ b5)
    (h6 : w6.ownsRow base 34 1 v6 (k + 1) (xs ++ [.slice A5 r.length c5])) (hg : w5.grownBy w6 (Value.slice A2 k c2).ownBlock) (hk : rows.length = k) :
    MadeG w6 base v6 rows' := by
  subst hr
  have hxl : xs.length = k := by have := hout.1; simpa using this
  refine ⟨xs ++ [.slice A5 r.length c5], own_eq h6 (by simp [hk]) rfl, fun j x hx => ?_⟩
  by_cases hj : j < rows.length
  · rw [List.getElem?_append_left hj] at hx
    obtain ⟨u, hu, ho⟩ := hins j x hx
    exact ⟨u, by rw [List.getElem?_append_left (by omega)]; exact hu, own_other ho hout (by decide) hg⟩
  · rw [List.getElem?_append_right (by omega)] at hx
    have hj2 : j = rows.length := by
      have := (List.getElem?_eq_some_iff.1 hx).1
      simp at this
      omega
    subst hj2
    simp at hx
    subst hx
    exact ⟨_, by rw [List.getElem?_append_right (by omega), hxl, hk]; simp, own_other (own_more h5 hb5) hout (by decide) hg⟩
end Go.Proofs.YtdkppdjonlldhaaGreatDoor
