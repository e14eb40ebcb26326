/- The reference's state: an append to one of its rows. -/
import Derived.Test.YtonnjokjbknngaaDoorZ38
import Derived.Deep.AppendLies
namespace Go.Proofs.YtonnjokjbknngaaDoor
open Go.RowKit Go.Maps Go.Lib Go.Shelf

section
variable {B : Nat} {w0 W : World} {v0 v : Fld → Value} {bs : Array Value} {n : Fld → Nat} {x : Fld → List Value}
variable {ops : Array Oper} {rest : List Oper} {o : Oper} {a : Act} {K : Act → World → Prop} {Q : Exit → Act → World → Prop} {E : Prop}
/-- In a region whose order is fixed. -/
theorem list_r5 (h : R5 B w0 W v0 bs v n x) (i : Fld) (s y : Operand) {t : TypeId} (hgd : o.guard = none) (ho : o.op = .call { callee := .builtin .append, args := #[s, y], argTypes := #[t, t] })
    {z : Value} {bytes : Nat} (hE : ElemOf Tryd.prog t (ety i) z (esz i) bytes) (hb16 : bytes ≤ 16) (hn : n i ≤ 100000) (hs : a.eval s = v i) (news : Array Value) (c : Nat) (e' : TypeId) (g0 : Nat) (hy : a.eval y = .slice (some ⟨g0, 0, none⟩) 1 c) (hg0 : g0 = W.heap.size)
    (hl : news.size = esz i) (h1 : ∀ u ∈ news.toList, u.oneCell' = true)
    (hK : ∀ g cap w', R5 B w0 w' v0 bs (upd v i (.slice (some ⟨g, 0, none⟩) (n i + 1) cap)) (upd n i (n i + 1)) (upd x i (x i ++ news.toList)) → wpList Tryd.prog ops Q rest (a.put o.dst (.slice (some ⟨g, 0, none⟩) (n i + 1) cap)) w') :
    wpList Tryd.prog ops Q (o :: rest) a (W.alloc (.cells news e')) := by
  subst hg0
  obtain ⟨ti, hti, htz, htsz, htby⟩ := info_parts hE.info
  have hA := h.alloc (.cells news e')
  have hb : (n i + 1) * bytes ≤ 140737488355328 := Nat.le_trans (Nat.mul_le_mul_left _ hb16) (by omega)
  refine wpList_append_lies (w := W.alloc (.cells news e')) hgd s y t ho B (ety i) ti z (esz i) bytes hE.slice hti htz htsz htby hE.cells hE.pos (v i) (n i) (x i) hs (hA.own i) ⟨W.heap.size, 0, none⟩ 1 c news.toList hy (by simpa using hl)
    (World.news_of_block (block_new _ _)) h1 (by omega) (by unfold maxLen; omega) hb (Nat.le_of_lt hA.lt) _ rfl ?_
  intro g cap w' hown hg hgg _
  exact hK g cap w' (hA.app i hown hg hgg)
/-- In a region that draws its order. -/
theorem step_r5 (h : R5 B w0 W v0 bs v n x) (i : Fld) (s y : Operand) {t : TypeId} (hgd : o.guard = none) (ho : o.op = .call { callee := .builtin .append, args := #[s, y], argTypes := #[t, t] })
    {z : Value} {bytes : Nat} (hE : ElemOf Tryd.prog t (ety i) z (esz i) bytes) (hb16 : bytes ≤ 16) (hn : n i ≤ 100000) (hs : a.eval s = v i) (news : Array Value) (c : Nat) (e' : TypeId) (bk : Nat) (hy : a.eval y = .slice (some ⟨bk, 0, none⟩) 1 c) (hbk : W.heap[bk]? = some (.cells news e'))
    (hl : news.size = esz i) (h1 : ∀ u ∈ news.toList, u.oneCell' = true)
    (hK : ∀ g cap w', R5 B w0 w' v0 bs (upd v i (.slice (some ⟨g, 0, none⟩) (n i + 1) cap)) (upd n i (n i + 1)) (upd x i (x i ++ news.toList)) → K (a.put o.dst (.slice (some ⟨g, 0, none⟩) (n i + 1) cap)) w') :
    if Region.wanted o (yielded ops a.tmps) = true then Oper.wp Tryd.prog o a W K Q else E := by
  obtain ⟨ti, hti, htz, htsz, htby⟩ := info_parts hE.info
  have hb : (n i + 1) * bytes ≤ 140737488355328 := Nat.le_trans (Nat.mul_le_mul_left _ hb16) (by omega)
  refine step_append_lies W hgd s y t ho B (ety i) ti z (esz i) bytes hE.slice hti htz htsz htby hE.cells hE.pos (v i) (n i) (x i) hs (h.own i) ⟨bk, 0, none⟩ 1 c news.toList hy (by simpa using hl)
    (World.news_of_block hbk) h1 (by omega) (by unfold maxLen; omega) hb (Nat.le_of_lt h.lt) _ rfl ?_
  intro g cap w' hown hg hgg _
  exact hK g cap w' (h.app i hown hg hgg)
/-- Behind the append: the box's cell stored. -/
theorem box5_upd (v : Fld → Value) (i : Fld) (u : Value) : box5 (upd v i u) = (box5 v).setIfInBounds (match i with | .code => 0 | .lines => 1 | .tgts => 2 | .names => 3 | .vals => 4) u := by
  cases i <;> simp [box5, upd]
end
end Go.Proofs.YtonnjokjbknngaaDoor
