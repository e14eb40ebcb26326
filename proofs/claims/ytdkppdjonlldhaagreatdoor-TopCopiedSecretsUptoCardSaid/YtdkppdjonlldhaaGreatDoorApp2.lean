/- Append of another slice's elements, in a region that draws its order. -/
import Derived.Test.YtdkppdjonlldhaaGreatDoorApp
namespace Go.Proofs.YtdkppdjonlldhaaGreatDoor
open Go.RowKit

section
variable {P : Program}
/-- 's = append(s, t...)' in a region that draws its order: s the call's own, t a slice that lies in memory. -/
theorem step_apps {ops : Array Oper} {o : Oper} {a : Act} {K : Act → World → Prop} {Q : Exit → Act → World → Prop} {E : Prop} {t e : TypeId} {z : Value} {size bytes : Nat} (hE : ElemOf P t e z size bytes) (W : World) (s x : Operand) (hgd : o.guard = none)
    (ho : o.op = .call { callee := .builtin .append, args := #[s, x], argTypes := #[t, t] }) (base : Nat) (v : Value) (n : Nat) (xs : List Value) (hs : a.eval s = v)
    (hown : W.ownsRow base e size v n xs) (hbase : base ≤ W.heap.size) (b off m c : Nat) (news : List Value) (hx : a.eval x = .slice (some ⟨b, off, none⟩) m c) (hm : 0 < m) (hl : news.length = m * size)
    (hc : ∀ j u, news[j]? = some u → W.cell? ⟨b, off + j, none⟩ = some u) (h1 : ∀ u ∈ news, u.oneCell' = true) (hbytes : (n + m) * bytes ≤ 140737488355328) (N : Nat) (hN : n + m = N)
    (h : ∀ g cap w', w'.ownsRow base e size (.slice (some ⟨g, 0, none⟩) N cap) N (xs ++ news) → W.grownBy w' v.ownBlock → g < w'.heap.size → K (a.put o.dst (.slice (some ⟨g, 0, none⟩) N cap)) w') :
    if Region.wanted o (yielded ops a.tmps) = true then Oper.wp P o a W K Q else E := by
  subst hN
  obtain ⟨ti, hti, htz, htsz, htby⟩ := info_parts hE.info
  have h63 : n + m ≤ maxLen := by
    unfold maxLen
    have := Nat.le_mul_of_pos_right (n + m) hE.posb
    omega
  refine step_append_lies _ hgd s x t ho base e ti z size bytes hE.slice hti htz htsz htby hE.cells hE.pos v n xs hs hown ⟨b, off, none⟩ m c news hx hl ?_ h1 hm h63 hbytes hbase _ rfl ?_
  · intro j u hj
    have hplain : (⟨b, off, none⟩ : Addr).add j = ⟨b, off + j, none⟩ := by unfold Addr.add; split <;> simp_all
    rw [hplain]
    exact hc j u hj
  · intro g cap w' h1 h2 _ h4
    exact h g cap w' h1 h2 h4
end

/-- The headers of a slice of rows: the cells of its array, and the rows that they hold. -/
theorem Rows2.heads {w : World} {B b off : Nat} {rows : List (List Gl)} (h : Rows2 w B (some ⟨b, off, none⟩) rows) : ∃ xs : List Value, xs.length = rows.length ∧ (∀ (j : Nat) (u : Value), xs[j]? = some u → w.cell? ⟨b, off + j, none⟩ = some u) ∧
    ∀ (k : Nat) (r : List Gl), rows[k]? = some r → ∃ (A : Option Addr) (c : Nat), xs[k]? = some (Value.slice A r.length c) ∧ r.length ≤ c ∧ GlRow w B A r := by
  induction rows generalizing off with
  | nil => exact ⟨[], rfl, fun j u hj => by simp at hj, fun k r hk => by simp at hk⟩
  | cons r rows ih =>
    obtain ⟨b1, off1, he, hb1, A1, c1, e0, e1, e2⟩ := h.get1 (show 0 < (r :: rows).length by simp)
    cases he
    have hd := h.drop 1
    simp only [List.drop_succ_cons, List.drop_zero, Nat.one_mul] at hd
    obtain ⟨xs, h1, h2, h3⟩ := ih hd
    refine ⟨.slice A1 r.length c1 :: xs, by simp [h1], fun j u hj => ?_, fun k r' hk => ?_⟩
    · cases j with
      | zero => simp only [List.getElem?_cons_zero, Option.some.injEq] at hj; subst hj; simpa using e0
      | succ j => rw [List.getElem?_cons_succ] at hj; have := h2 j u hj; rwa [show off + (j + 1) = off + 1 + j by omega]
    · cases k with
      | zero => simp only [List.getElem?_cons_zero, Option.some.injEq] at hk; subst hk; exact ⟨A1, c1, rfl, e1, e2⟩
      | succ k => rw [List.getElem?_cons_succ] at hk; obtain ⟨A, c, e3⟩ := h3 k r' hk; exact ⟨A, c, by rw [List.getElem?_cons_succ]; exact e3⟩

/-- An array of row headers reads as the rows. -/
theorem Rows2.of_heads {w : World} {B base g n cap : Nat} {rows : List (List Gl)} {xs : List Value} (hown : w.ownsRow base 34 1 (.slice (some ⟨g, 0, none⟩) n cap) n xs) (hB : w.heap.size ≤ B) (hn : rows.length = n)
    (h : ∀ (k : Nat) (r : List Gl), rows[k]? = some r → ∃ (A : Option Addr) (c : Nat), xs[k]? = some (Value.slice A r.length c) ∧ r.length ≤ c ∧ GlRow w B A r) : Rows2 w B (some ⟨g, 0, none⟩) rows := fun h0 => by
  refine ⟨g, 0, rfl, Nat.lt_of_lt_of_le (hown.lt g rfl).2 hB, fun k r hk => ?_⟩
  obtain ⟨A, c, h1, h2, h3⟩ := h k r hk
  have hkl := (List.getElem?_eq_some_iff.1 hk).1
  refine ⟨A, c, ?_, h2, h3⟩
  rw [show (0 + k * 1 : Nat) = k by omega, hown.cellAt k (by omega)]
  exact h1
end Go.Proofs.YtdkppdjonlldhaaGreatDoor
