/- scriptcode's assembler: the two appends of an instruction. -/
import Derived.Test.YtonnjokjbknngaaDoorZ7
import Derived.Test.YtonnjokjbknngaaDoorMem2
import Derived.Deep.AppendLies
namespace Go.Proofs.YtonnjokjbknngaaDoor
open Go.RowKit Go.Maps Go.Lib Go.Shelf

theorem row_ne {w : World} {B : Nat} {e : TypeId} {sz n : Nat} {v : Value} {xs : List Value} (h : w.ownsRow B e sz v n xs) {k : Nat} {o : Obj} (ho : w.heap[k]? = some o) (hne : ∀ cs fr, o ≠ Obj.cells cs e fr) : some k ≠ v.ownBlock := by
  rcases h.2 with ⟨rfl, -⟩ | ⟨g, cap, cur, rfl, -, hh, -⟩
  · simp [Value.ownBlock]
  · simp only [Value.ownBlock, ne_eq, Option.some.injEq]
    rintro rfl
    rw [ho] at hh
    cases hh
    exact hne _ _ rfl

structure I38 (B bx : Nat) (w0 W : World) (o2 oT oL oX : Obj) (vc vl : Value) (n1 n2 : Nat) (cs ls : List Value) : Prop where
  box : W.heap[B + 2]? = some o2
  tgt : W.heap[B]? = some oT
  lab : W.heap[B + 1]? = some oL
  ins : W.heap[bx]? = some oX
  code : W.ownsRow B 41 2 vc n1 cs
  lines : W.ownsRow B 3 1 vl n2 ls
  bl : Below B w0 W
  sk : StrKept w0 W
  le : B ≤ W.heap.size
  ne : vc.ownBlock ≠ some bx

section
variable {B bx : Nat} {w0 W : World} {o2 oT oL oX : Obj} {vc vl : Value} {n1 n2 : Nat} {cs ls : List Value}
theorem I38.drew (h : I38 B bx w0 W o2 oT oL oX vc vl n1 n2 cs ls) : I38 B bx w0 W.drew o2 oT oL oX vc vl n1 n2 cs ls :=
  ⟨h.box, h.tgt, h.lab, h.ins, h.code, h.lines, h.bl.drew, h.sk, h.le, h.ne⟩
theorem I38.alloc (h : I38 B bx w0 W o2 oT oL oX vc vl n1 n2 cs ls) (o : Obj) : I38 B bx w0 (W.alloc o) o2 oT oL oX vc vl n1 n2 cs ls :=
  ⟨block_alloc h.box o, block_alloc h.tgt o, block_alloc h.lab o, block_alloc h.ins o, h.code.alloc o, h.lines.alloc o, h.bl.alloc h.le o, h.sk.trans (StrKept.of_below ((Below.refl _ _).alloc (Nat.le_refl _) o)), by rw [World.size_alloc]; have := h.le; omega, h.ne⟩

theorem I38.set {k : Nat} {u : Value} {cs2 : Array Value} {fr : Nat × Nat} (h : I38 B bx w0 W (.cells cs2 53 fr) oT oL oX vc vl n1 n2 cs ls) (hX : ∀ cs fr, oX ≠ Obj.cells cs 53 fr) :
    I38 B bx w0 (W.setCell ⟨B + 2, k, none⟩ u) (.cells (cs2.setIfInBounds k u) 53 fr) oT oL oX vc vl n1 n2 cs ls := by
  have hx : bx ≠ B + 2 := by
    intro he
    have h1 := h.box
    rw [← he, h.ins] at h1
    exact hX _ _ (Option.some.inj h1)
  refine ⟨by simp [World.setCell, Array.getElem?_modify, h.box], block_far h.tgt (by show B ≠ B + 2; omega) _, block_far h.lab (by show B + 1 ≠ B + 2; omega) _, block_far h.ins hx _, ?_, ?_, h.bl.setCell (by show B ≤ B + 2; omega) _, h.sk.trans (StrKept.of_set (p := ⟨B + 2, k, none⟩) h.box (by decide)), by simp [World.setCell]; exact h.le, h.ne⟩
  · exact h.code.kept (row := some (B + 2)) ⟨rfl, rfl, rfl, by simp [World.setCell], fun j _ hk => Below.heap_setCell W ⟨B + 2, k, none⟩ u j (fun he => hk (by rw [he]))⟩ (.inr (row_ne h.code h.box (by intro a b he; cases he)).symm)
  · exact h.lines.kept (row := some (B + 2)) ⟨rfl, rfl, rfl, by simp [World.setCell], fun j _ hk => Below.heap_setCell W ⟨B + 2, k, none⟩ u j (fun he => hk (by rw [he]))⟩ (.inr (row_ne h.lines h.box (by intro a b he; cases he)).symm)
theorem I38.cells {c0 c1 c2 c3 : Value} {t : TypeId} (h : I38 B bx w0 W (.cells #[c0, c1, c2, c3] t) oT oL oX vc vl n1 n2 cs ls) : W.cell? ⟨B + 2, 0, none⟩ = some c0 ∧ W.cell? ⟨B + 2, 1, none⟩ = some c1 ∧ W.frozen? ⟨B + 2, 0, none⟩ = false ∧ W.frozen? ⟨B + 2, 1, none⟩ = false :=
  ⟨cell_block h.box 0, cell_block h.box 1, frozen_block h.box 0, frozen_block h.box 1⟩
theorem I38.cellsX {c0 c1 : Value} {t : TypeId} (h : I38 B bx w0 W o2 oT oL (.cells #[c0, c1] t) vc vl n1 n2 cs ls) : W.cell? ⟨bx, 0, none⟩ = some c0 ∧ W.cell? ⟨bx, 1, none⟩ = some c1 :=
  ⟨cell_block h.ins 0, cell_block h.ins 1⟩
theorem I38.keep {c0 c1 c2 c3 x0 x1 : Value} {t t' : TypeId} (h : I38 B bx w0 W (.cells #[c0, c1, c2, c3] t) oT oL (.cells #[x0, x1] t') vc vl n1 n2 cs ls) : W.cell? ⟨B + 2, 0, none⟩ = some c0 ∧ W.cell? ⟨B + 2, 1, none⟩ = some c1 ∧ W.cell? ⟨bx, 0, none⟩ = some x0 ∧ W.cell? ⟨bx, 1, none⟩ = some x1 :=
  ⟨h.cells.1, h.cells.2.1, h.cellsX.1, h.cellsX.2⟩
theorem I38.asm {nt nb : Nat} {st : St} (h : I38 B bx w0 W (.cells #[vc, vl, .map (some B), .map (some (B + 1))] 53) oT oL oX vc vl n1 n2 cs ls) (h1 : n1 = st.code.length) (h2 : cs = st.code.flatMap Ins.enc) (h3 : n2 = st.lines.length) (h4 : ls = st.lines.map (Value.int .i64))
    (hT : ∀ w', w'.heap[B]? = some oT → TgtAt w' B nt st.tgts) (hL : ∀ w', w'.heap[B + 1]? = some oL → LabAt w' (B + 1) nb st.labs) (hl : st.lines.length = st.code.length) (ht : st.tgts.length = st.code.length) (hs : st.code.length ≤ 500) (hn : nt ≤ st.code.length) (hb : nb ≤ st.labs.length) (hd : (st.labs.map (·.1)).Nodup) : AsmAt W B vc vl nt nb st := by
  subst h1 h2 h3 h4
  exact ⟨h.box, h.code, h.lines, hT _ h.tgt, hL _ h.lab, hl, ht, hs, hn, hb, hd⟩

theorem block_new' {w : World} {o : Obj} {k : Nat} (h : k = w.heap.size) : (w.alloc o).heap[k]? = some o := by subst h; exact block_new w o
theorem I38.fin {c0 c1 c2 c3 u0 u1 : Value} (h : I38 B bx w0 W (.cells #[c0, c1, c2, c3] 53) oT oL oX vc vl n1 n2 cs ls) (hX : ∀ cs fr, oX ≠ Obj.cells cs 53 fr) :
    I38 B bx w0 ((W.setCell ⟨B + 2, 0, none⟩ u0).setCell ⟨B + 2, 1, none⟩ u1) (.cells #[u0, u1, c2, c3] 53) oT oL oX vc vl n1 n2 cs ls := (h.set (k := 0) (u := u0) hX).set (k := 1) (u := u1) hX
theorem I38.fin' {c0 c1 c2 c3 u0 u1 : Value} (h : I38 B bx w0 W (.cells #[c0, c1, c2, c3] 53) oT oL oX vc vl n1 n2 cs ls) (hX : ∀ cs fr, oX ≠ Obj.cells cs 53 fr) :
    I38 B bx w0 ((W.setCell ⟨B + 2, 1, none⟩ u1).setCell ⟨B + 2, 0, none⟩ u0) (.cells #[u0, u1, c2, c3] 53) oT oL oX vc vl n1 n2 cs ls := (h.set (k := 1) (u := u1) hX).set (k := 0) (u := u0) hX
def NotRow (o : Obj) : Prop := (∀ cs fr, o ≠ Obj.cells cs 41 fr) ∧ ∀ cs fr, o ≠ Obj.cells cs 3 fr

variable {ops : Array Oper} {o : Oper} {a : Act} {K : Act → World → Prop} {Q : Exit → Act → World → Prop} {E : Prop}
theorem step_code (hI : I38 B bx w0 W o2 oT oL oX vc vl n1 n2 cs ls) (s x : Operand) (hgd : o.guard = none) (ho : o.op = .call { callee := .builtin .append, args := #[s, x], argTypes := #[23, 23] })
    (hs : a.eval s = vc) (bk : Nat) (i1 i2 : Int) (hx : a.eval x = .slice (some ⟨bk, 0, none⟩) 1 1) (hbk : W.heap[bk]? = some (.cells #[.int .i64 i1, .int .i64 i2] 41))
    (hn : n1 ≤ 1000) (h2 : NotRow o2) (hT : NotRow oT) (hL : NotRow oL)
    (h : ∀ g cap w', I38 B bx w0 w' o2 oT oL oX (.slice (some ⟨g, 0, none⟩) (n1 + 1) cap) vl (n1 + 1) n2 (cs ++ [.int .i64 i1, .int .i64 i2]) ls → (∀ (k : Nat) (cs : Array Value) (fr : Nat × Nat), W.heap[k]? = some (Obj.cells cs 3 fr) → w'.heap[k]? = some (Obj.cells cs 3 fr)) → K (a.put o.dst (.slice (some ⟨g, 0, none⟩) (n1 + 1) cap)) w') :
    if Region.wanted o (yielded ops a.tmps) = true then Oper.wp Tryd.prog o a W K Q else E := by
  obtain ⟨ti, hti, htz, htsz, htby⟩ := info_parts el_ins.info
  refine step_append_lies _ hgd s x _ ho B _ ti _ 2 16 el_ins.slice hti htz htsz htby el_ins.cells el_ins.pos vc n1 cs hs hI.code ⟨bk, 0, none⟩ 1 1 [.int .i64 i1, .int .i64 i2] hx rfl
    (World.news_of_block hbk) (by simp [Value.oneCell']) (by omega) (by unfold maxLen; omega) (by omega) hI.le _ rfl ?_
  intro g cap w' hown hg hgg _
  have hk : ∀ k o', W.heap[k]? = some o' → (∀ cs fr, o' ≠ Obj.cells cs 41 fr) → w'.heap[k]? = some o' := fun k o' hk hne => (hg.block k (block_lt hk) (row_ne hI.code hk hne)).trans hk
  refine h g cap w' ⟨hk _ _ hI.box h2.1, hk _ _ hI.tgt hT.1, hk _ _ hI.lab hL.1, (hg.block bx (block_lt hI.ins) (fun he => hI.ne he.symm)).trans hI.ins, hown, own_other hI.lines hI.code (by decide) hg, below_own hI.bl hI.code hg (Nat.le_refl _) hI.le, hI.sk.trans (StrKept.of_row hI.code (by decide) hg), Nat.le_trans hI.le hg.size, ?_⟩ (fun k cs fr hh => hk _ _ hh (by intro cs fr he; cases he))
  intro he
  simp only [Value.ownBlock, Option.some.injEq] at he
  subst he
  rcases hgg with h1 | h1
  · exact hI.ne h1
  · have := block_lt hI.ins
    omega
theorem step_line (hI : I38 B bx w0 W o2 oT oL oX vc vl n1 n2 cs ls) (s x : Operand) (hgd : o.guard = none) (ho : o.op = .call { callee := .builtin .append, args := #[s, x], argTypes := #[51, 51] })
    (hs : a.eval s = vl) (bk : Nat) (i1 : Int) (hx : a.eval x = .slice (some ⟨bk, 0, none⟩) 1 1) (hbk : W.heap[bk]? = some (.cells #[.int .i64 i1] 3))
    (hn : n2 ≤ 1000) (h2 : NotRow o2) (hT : NotRow oT) (hL : NotRow oL) (hX : ∀ cs fr, oX ≠ Obj.cells cs 3 fr)
    (h : ∀ g cap w', I38 B bx w0 w' o2 oT oL oX vc (.slice (some ⟨g, 0, none⟩) (n2 + 1) cap) n1 (n2 + 1) cs (ls ++ [.int .i64 i1]) → (∀ (k : Nat) (cs : Array Value) (fr : Nat × Nat), W.heap[k]? = some (Obj.cells cs 41 fr) → w'.heap[k]? = some (Obj.cells cs 41 fr)) → K (a.put o.dst (.slice (some ⟨g, 0, none⟩) (n2 + 1) cap)) w') :
    if Region.wanted o (yielded ops a.tmps) = true then Oper.wp Tryd.prog o a W K Q else E := by
  obtain ⟨ti, hti, htz, htsz, htby⟩ := info_parts el_int.info
  refine step_append_lies _ hgd s x _ ho B _ ti _ 1 8 el_int.slice hti htz htsz htby el_int.cells el_int.pos vl n2 ls hs hI.lines ⟨bk, 0, none⟩ 1 1 [.int .i64 i1] hx rfl
    (World.news_of_block hbk) (by simp [Value.oneCell']) (by omega) (by unfold maxLen; omega) (by omega) hI.le _ rfl ?_
  intro g cap w' hown hg hgg _
  have hk : ∀ k o', W.heap[k]? = some o' → (∀ cs fr, o' ≠ Obj.cells cs 3 fr) → w'.heap[k]? = some o' := fun k o' hk hne => (hg.block k (block_lt hk) (row_ne hI.lines hk hne)).trans hk
  exact h g cap w' ⟨hk _ _ hI.box h2.2, hk _ _ hI.tgt hT.2, hk _ _ hI.lab hL.2, hk _ _ hI.ins hX, own_other hI.code hI.lines (by decide) hg, hown, below_own hI.bl hI.lines hg (Nat.le_refl _) hI.le, hI.sk.trans (StrKept.of_row hI.lines (by decide) hg), Nat.le_trans hI.le hg.size, hI.ne⟩ (fun k cs fr hh => hk _ _ hh (by intro cs fr he; cases he))
end
end Go.Proofs.YtonnjokjbknngaaDoor
