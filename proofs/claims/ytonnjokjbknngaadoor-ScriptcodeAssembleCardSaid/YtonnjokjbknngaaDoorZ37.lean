/- The reference's state in memory: a box and five rows of its own. -/
import Derived.Test.YtonnjokjbknngaaDoorZ36
import Derived.Test.YtonnjokjbknngaaDoorZ8
namespace Go.Proofs.YtonnjokjbknngaaDoor
open Go.RowKit Go.Maps Go.Lib Go.Shelf

inductive Fld where | code | lines | tgts | names | vals
  deriving DecidableEq
def ety : Fld → TypeId | .code => 41 | .lines => 3 | .tgts => 9 | .names => 9 | .vals => 3
def esz : Fld → Nat | .code => 2 | .lines => 1 | .tgts => 1 | .names => 1 | .vals => 1
def upd {α : Type} (f : Fld → α) (i : Fld) (a : α) : Fld → α := fun j => if j = i then a else f j
theorem upd_same {α : Type} (f : Fld → α) (i : Fld) (a : α) : upd f i a i = a := if_pos rfl
theorem upd_other {α : Type} (f : Fld → α) {i j : Fld} (a : α) (h : j ≠ i) : upd f i a j = f j := if_neg h
theorem ety_ne (i : Fld) : 60 ≠ ety i := by cases i <;> decide

/-- The box in block B holds o2; the rows are v, n long, and hold x. Since w0, where the rows were v0, nothing else has changed. -/
structure R5 (B : Nat) (w0 W : World) (v0 : Fld → Value) (bs : Array Value) (v : Fld → Value) (n : Fld → Nat) (x : Fld → List Value) : Prop where
  box : W.heap[B]? = some (.cells bs 60)
  own : ∀ i, W.ownsRow B (ety i) (esz i) (v i) (n i) (x i)
  dis : ∀ i j, i ≠ j → ∀ k, (v i).ownBlock = some k → (v j).ownBlock ≠ some k
  bl : Below B w0 W
  std : ∀ k, k < w0.heap.size → k ≠ B → (∀ i, (v0 i).ownBlock ≠ some k) → W.heap[k]? = w0.heap[k]?
  new : ∀ i k, (v i).ownBlock = some k → (∃ j, (v0 j).ownBlock = some k) ∨ w0.heap.size ≤ k

section
variable {B : Nat} {w0 W : World} {v0 v : Fld → Value} {bs : Array Value} {n : Fld → Nat} {x : Fld → List Value}
theorem R5.lt (h : R5 B w0 W v0 bs v n x) : B < W.heap.size := block_lt h.box
theorem R5.start (hbox : W.heap[B]? = some (.cells bs 60)) (hown : ∀ i, W.ownsRow B (ety i) (esz i) (v i) (n i) (x i)) (hdis : ∀ i j, i ≠ j → ∀ k, (v i).ownBlock = some k → (v j).ownBlock ≠ some k) : R5 B W W v bs v n x :=
  ⟨hbox, hown, hdis, Below.refl _ _, fun _ _ _ _ => rfl, fun i _ h => .inl ⟨i, h⟩⟩
theorem R5.again (h : R5 B w0 W v0 bs v n x) : R5 B W W v bs v n x := R5.start h.box h.own h.dis
theorem R5.below {W' : World} (h : R5 B w0 W v0 bs v n x) (hb : Below W.heap.size W W') : R5 B w0 W' v0 bs v n x :=
  ⟨(hb.block _ h.lt).trans h.box, fun i => own_below (h.own i) hb (Nat.le_refl _), h.dis, h.bl.trans (hb.mono (Nat.le_of_lt h.lt)), fun k hk hB hv => (hb.block k (Nat.lt_of_lt_of_le hk h.bl.size)).trans (h.std k hk hB hv), h.new⟩
theorem R5.alloc (h : R5 B w0 W v0 bs v n x) (o : Obj) : R5 B w0 (W.alloc o) v0 bs v n x := h.below ((Below.refl _ _).alloc (Nat.le_refl _) o)
theorem R5.drew (h : R5 B w0 W v0 bs v n x) : R5 B w0 W.drew v0 bs v n x := h.below (Below.refl _ _).drew
theorem R5.trans {W2 : World} {v2 : Fld → Value} {bs2 : Array Value} {n2 : Fld → Nat} {x2 : Fld → List Value} (h : R5 B w0 W v0 bs v n x) (h2 : R5 B W W2 v bs2 v2 n2 x2) : R5 B w0 W2 v0 bs2 v2 n2 x2 := by
  refine ⟨h2.box, h2.own, h2.dis, h.bl.trans h2.bl, fun k hk hB hv => ?_, fun i k hk => ?_⟩
  · refine (h2.std k (Nat.lt_of_lt_of_le hk h.bl.size) hB fun i hi => ?_).trans (h.std k hk hB hv)
    rcases h.new i k hi with ⟨j, hj⟩ | hj
    · exact hv j hj
    · omega
  · rcases h2.new i k hk with ⟨j, hj⟩ | hj
    · exact h.new j k hj
    · exact .inr (Nat.le_trans h.bl.size hj)
theorem R5.app (h : R5 B w0 W v0 bs v n x) (i : Fld) {W' : World} {g cap nx : Nat} {xs : List Value} (hown : W'.ownsRow B (ety i) (esz i) (.slice (some ⟨g, 0, none⟩) nx cap) nx xs)
    (hg : W.grownBy W' (v i).ownBlock) (hgg : (v i).ownBlock = some g ∨ g = W.heap.size) : R5 B w0 W' v0 bs (upd v i (.slice (some ⟨g, 0, none⟩) nx cap)) (upd n i nx) (upd x i xs) := by
  have hgd : ∀ j, j ≠ i → (v j).ownBlock ≠ some g := fun j hj he => by
    rcases hgg with h1 | h1
    · exact h.dis i j (fun e => hj e.symm) g h1 he
    · have := ((h.own j).lt g he).2
      omega
  refine ⟨(hg.block B h.lt (row_ne (h.own i) h.box (by intro cs fr he; injection he with _ h2; exact ety_ne i h2))).trans h.box, fun j => ?_, fun j k hjk b hb hb2 => ?_, below_own h.bl (h.own i) hg (Nat.le_refl _) (Nat.le_of_lt h.lt), fun k hk hB hv => ?_, fun j k hk => ?_⟩
  · by_cases hj : j = i
    · subst hj
      rw [upd_same, upd_same, upd_same]
      exact hown
    · rw [upd_other _ _ hj, upd_other _ _ hj, upd_other _ _ hj]
      refine (h.own j).kept hg ?_
      cases hv : (v j).ownBlock with
      | none => exact .inl rfl
      | some k => exact .inr (fun e => h.dis j i hj k hv e.symm)
  · by_cases hj : j = i
    · subst hj
      rw [upd_same] at hb
      rw [upd_other _ _ (fun e => hjk e.symm)] at hb2
      simp only [Value.ownBlock, Option.some.injEq] at hb
      subst hb
      exact hgd k (fun e => hjk e.symm) hb2
    · rw [upd_other _ _ hj] at hb
      by_cases hk : k = i
      · subst hk
        rw [upd_same] at hb2
        simp only [Value.ownBlock, Option.some.injEq] at hb2
        subst hb2
        exact hgd j hj hb
      · rw [upd_other _ _ hk] at hb2
        exact h.dis j k hjk b hb hb2
  · refine (hg.block k (Nat.lt_of_lt_of_le hk h.bl.size) fun he => ?_).trans (h.std k hk hB hv)
    rcases h.new i k he.symm with ⟨j, hj⟩ | hj
    · exact hv j hj
    · omega
  · by_cases hj : j = i
    · subst hj
      rw [upd_same] at hk
      simp only [Value.ownBlock, Option.some.injEq] at hk
      subst hk
      rcases hgg with h1 | h1
      · exact h.new j g h1
      · exact .inr (by rw [h1]; exact h.bl.size)
    · rw [upd_other _ _ hj] at hk
      exact h.new j k hk
theorem R5.set (h : R5 B w0 W v0 bs v n x) (k : Nat) (u : Value) : R5 B w0 (W.setCell ⟨B, k, none⟩ u) v0 (bs.setIfInBounds k u) v n x :=
  ⟨blk_set h.box u, fun i => own_set (h.own i) (p := ⟨B, k, none⟩) h.box (fun e => ety_ne i e.symm) u, h.dis, h.bl.setCell (by show B ≤ B; omega) _,
    fun j hj hB hv => (Below.heap_setCell W ⟨B, k, none⟩ u j hB).trans (h.std j hj hB hv), h.new⟩
end
end Go.Proofs.YtonnjokjbknngaaDoor
