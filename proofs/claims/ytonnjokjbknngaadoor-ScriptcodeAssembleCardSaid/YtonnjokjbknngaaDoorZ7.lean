/- The assembler's state in memory. -/
import Derived.Test.YtonnjokjbknngaaDoorZ6
import Derived.Maps.OwnSet
import Derived.Maps.OwnIn
namespace Go.Proofs.YtonnjokjbknngaaDoor
open Go.RowKit Go.Maps

def Ins.enc (x : Ins) : List Value := [.int .i64 x.op, .int .i64 x.arg]
theorem el_ins : ElemOf Tryd.prog 23 41 (.agg #[.int .i64 0, .int .i64 0]) 2 16 := ⟨Tryd.underlying23, by kernel_rfl, rfl, by decide, by decide⟩
theorem el_int : ElemOf Tryd.prog 51 3 (.int .i64 0) 1 8 := ⟨Tryd.underlying51, by kernel_rfl, rfl, by decide, by decide⟩

def labFrom (D : DataW Unit) (l : List (BS × Nat)) : DataW Unit := l.foldl (fun D p => D.put (.string p.1) (.lit (.int .i64 (p.2 : Int)))) D
def labD (l : List (BS × Nat)) : DataW Unit := labFrom (.map []) l
def tgtFrom (D : DataW Unit) : Nat → List BS → DataW Unit
  | _, [] => D
  | i, t :: r => tgtFrom (if t = [] then D else D.put (.int .i64 (i : Int)) (.lit (.string t))) (i + 1) r
def tgtD (l : List BS) : DataW Unit := tgtFrom (.map []) 0 l
theorem labD_snoc (l : List (BS × Nat)) (p : BS × Nat) : labD (l ++ [p]) = (labD l).put (.string p.1) (.lit (.int .i64 (p.2 : Int))) := by simp [labD, labFrom]
theorem tgtFrom_snoc : ∀ (l : List BS) (D : DataW Unit) (i : Nat) (t : BS), tgtFrom D i (l ++ [t]) = if t = [] then tgtFrom D i l else (tgtFrom D i l).put (.int .i64 ((i + l.length : Nat) : Int)) (.lit (.string t))
  | [], D, i, t => by simp [tgtFrom]
  | x :: l, D, i, t => by
    rw [List.cons_append, tgtFrom, tgtFrom, tgtFrom_snoc l _ (i + 1) t, List.length_cons, show i + 1 + l.length = i + (l.length + 1) by omega]
theorem tgtD_none (l : List BS) : tgtD (l ++ [[]]) = tgtD l := by unfold tgtD; rw [tgtFrom_snoc, if_pos rfl]
theorem tgtD_snoc (l : List BS) {t : BS} (h : t ≠ []) : tgtD (l ++ [t]) = (tgtD l).put (.int .i64 (l.length : Int)) (.lit (.string t)) := by unfold tgtD; rw [tgtFrom_snoc, if_neg h, Nat.zero_add]

theorem lab_isMap : ∀ (l : List (BS × Nat)) (D : DataW Unit), IsMap D → IsMap (labFrom D l)
  | [], _, h => h
  | _ :: l, _, h => lab_isMap l _ (h.put _ _)
theorem tgt_isMap : ∀ (l : List BS) (D : DataW Unit) (i : Nat), IsMap D → IsMap (tgtFrom D i l)
  | [], _, _, h => h
  | t :: l, D, i, h => by
    unfold tgtFrom
    by_cases ht : t = []
    · rw [if_pos ht]; exact tgt_isMap l D _ h
    · rw [if_neg ht]; exact tgt_isMap l _ _ (h.put _ _)
theorem lab_has (n : BS) : ∀ (l : List (BS × Nat)) (D : DataW Unit), IsMap D → has (labFrom D l) (.string n) = ((findL n l).isSome || has D (.string n))
  | [], D, _ => by simp [labFrom, findL]
  | x :: l, D, h => by
    show has (labFrom (D.put (.string x.1) (.lit (.int .i64 (x.2 : Int)))) l) (.string n) = _
    rw [lab_has n l _ (h.put _ _), findL]
    by_cases hx : x.1 = n
    · rw [if_pos hx, hx, has_put_same h (by trivial)]; simp
    · rw [if_neg hx, has_put_other (fun e => hx (by simpa using e.symm))]
theorem labD_has (n : BS) (l : List (BS × Nat)) : has (labD l) (.string n) = (findL n l).isSome := by
  unfold labD
  rw [lab_has n l _ isMap_empty]
  simp [has]
theorem findL_none {n : BS} : ∀ {l : List (BS × Nat)}, n ∉ l.map (·.1) → findL n l = none
  | [], _ => rfl
  | x :: l, h => by
    simp only [List.map_cons, List.mem_cons, not_or] at h
    rw [findL, if_neg (fun e => h.1 e.symm)]
    exact findL_none h.2
theorem findL_mem {n : BS} : ∀ {l : List (BS × Nat)}, findL n l = none → n ∉ l.map (·.1)
  | [], _ => by simp
  | x :: l, h => by
    unfold findL at h
    by_cases hx : x.1 = n
    · rw [if_pos hx] at h; cases h
    · rw [if_neg hx] at h
      simp only [List.map_cons, List.mem_cons, not_or]
      exact ⟨fun e => hx e.symm, findL_mem h⟩
theorem lab_at (n : BS) (z : DataW Unit) : ∀ (l : List (BS × Nat)) (D : DataW Unit), IsMap D → (l.map (·.1)).Nodup → (labFrom D l).atKey (.string n) z = match findL n l with | some v => .lit (.int .i64 (v : Int)) | none => D.atKey (.string n) z
  | [], D, _, _ => rfl
  | x :: l, D, h, hn => by
    show (labFrom (D.put (.string x.1) (.lit (.int .i64 (x.2 : Int)))) l).atKey (.string n) z = _
    rw [List.map_cons, List.nodup_cons] at hn
    rw [lab_at n z l _ (h.put _ _) hn.2]
    by_cases hx : x.1 = n
    · rw [findL, if_pos hx, findL_none (by rw [← hx]; exact hn.1), hx]
      exact atKey_put_same h (by trivial) _ _
    · rw [findL, if_neg hx]
      cases findL n l with
      | some v => rfl
      | none => exact atKey_put_other (fun e => hx (by simpa using e.symm)) _ _
theorem tgt_has (k : Nat) : ∀ (l : List BS) (D : DataW Unit) (i : Nat), IsMap D → i ≤ k → has (tgtFrom D i l) (.int .i64 (k : Int)) = (decide (k - i < l.length ∧ l.getD (k - i) [] ≠ []) || has D (.int .i64 (k : Int)))
  | [], D, i, _, _ => by simp [tgtFrom]
  | t :: l, D, i, h, hi => by
    unfold tgtFrom
    by_cases hk : k = i
    · subst hk
      have hlater : ∀ (l : List BS) (D : DataW Unit) (j : Nat), k < j → has (tgtFrom D j l) (.int .i64 (k : Int)) = has D (.int .i64 (k : Int)) := by
        intro l
        induction l with
        | nil => intro D j _; rfl
        | cons x l ih =>
          intro D j hj
          unfold tgtFrom
          rw [ih _ _ (by omega)]
          by_cases hx : x = []
          · rw [if_pos hx]
          · rw [if_neg hx, has_put_other (fun e => by simp at e; omega)]
      rw [hlater _ _ _ (by omega), Nat.sub_self]
      by_cases ht : t = []
      · rw [if_pos ht]; simp [ht]
      · rw [if_neg ht, has_put_same h (by trivial)]; simp [ht]
    · have := tgt_has k l (if t = [] then D else D.put (.int .i64 (i : Int)) (.lit (.string t))) (i + 1) (by split; exact h; exact h.put _ _) (by omega)
      rw [this]
      obtain ⟨d, rfl⟩ : ∃ d, k = i + 1 + d := ⟨k - i - 1, by omega⟩
      rw [show i + 1 + d - (i + 1) = d by omega, show i + 1 + d - i = d + 1 by omega]
      have e2 : has (if t = [] then D else D.put (.int .i64 (i : Int)) (.lit (.string t))) (.int .i64 ((i + 1 + d : Nat) : Int)) = has D (.int .i64 ((i + 1 + d : Nat) : Int)) := by
        by_cases ht : t = []
        · rw [if_pos ht]
        · rw [if_neg ht, has_put_other (fun e => by simp at e; omega)]
      rw [e2]
      simp
theorem tgtD_has (l : List BS) (k : Nat) (hk : k < l.length) : has (tgtD l) (.int .i64 (k : Int)) = decide (l.getD k [] ≠ []) := by
  unfold tgtD
  rw [tgt_has k l _ 0 isMap_empty (Nat.zero_le _)]
  simp [has, hk]
theorem tgt_at (k : Nat) (z : DataW Unit) : ∀ (l : List BS) (D : DataW Unit) (i : Nat), IsMap D → i ≤ k → k - i < l.length → l.getD (k - i) [] ≠ [] → (tgtFrom D i l).atKey (.int .i64 (k : Int)) z = .lit (.string (l.getD (k - i) []))
  | [], D, i, _, _, h1, _ => by simp at h1
  | t :: l, D, i, h, hi, h1, h2 => by
    unfold tgtFrom
    by_cases hk : k = i
    · subst hk
      have hlater : ∀ (l : List BS) (D : DataW Unit) (j : Nat), k < j → (tgtFrom D j l).atKey (.int .i64 (k : Int)) z = D.atKey (.int .i64 (k : Int)) z := by
        intro l
        induction l with
        | nil => intro D j _; rfl
        | cons x l ih =>
          intro D j hj
          unfold tgtFrom
          rw [ih _ _ (by omega)]
          by_cases hx : x = []
          · rw [if_pos hx]
          · rw [if_neg hx, atKey_put_other (fun e => by simp at e; omega)]
      rw [Nat.sub_self] at h2 ⊢
      rw [hlater _ _ _ (by omega)]
      simp only [List.getD_cons_zero] at h2 ⊢
      rw [if_neg h2, atKey_put_same h (by trivial)]
    · obtain ⟨d, rfl⟩ : ∃ d, k = i + 1 + d := ⟨k - i - 1, by omega⟩
      rw [show i + 1 + d - i = d + 1 by omega] at h1 h2 ⊢
      have := tgt_at (i + 1 + d) z l (if t = [] then D else D.put (.int .i64 (i : Int)) (.lit (.string t))) (i + 1) (by split; exact h; exact h.put _ _) (by omega) (by simp at h1; omega) (by rw [show i + 1 + d - (i + 1) = d by omega]; simpa using h2)
      rw [this, show i + 1 + d - (i + 1) = d by omega]
      simp
theorem tgtD_at (l : List BS) (k : Nat) (z : DataW Unit) (hk : k < l.length) (h : l.getD k [] ≠ []) : (tgtD l).atKey (.int .i64 (k : Int)) z = .lit (.string (l.getD k [])) := by
  have := tgt_at k z l (.map []) 0 isMap_empty (Nat.zero_le _) (by omega) (by rw [Nat.sub_zero]; exact h)
  rwa [Nat.sub_zero] at this

/-! ### the state -/
abbrev OwnIns (w : World) (B : Nat) (v : Value) (l : List Ins) : Prop := w.ownsRow B 41 2 v l.length (l.flatMap Ins.enc)
abbrev OwnInts (w : World) (B : Nat) (v : Value) (l : List Int) : Prop := w.ownsRow B 3 1 v l.length (l.map (Value.int .i64))
/-- The jumps' labels by their instruction; the labels. -/
def TgtAt (w : World) (b : Nat) (n : Nat) (ts : List BS) : Prop := w.ownsMap Tryd.prog 3 (plainElem (H := Unit) Tryd.prog 9) b n (tgtD ts)
def LabAt (w : World) (b : Nat) (n : Nat) (ls : List (BS × Nat)) : Prop := w.ownsMap Tryd.prog 9 (plainElem (H := Unit) Tryd.prog 3) b n (labD ls)
/-- The state: the two maps in blocks B and B + 1, the box in B + 2. -/
structure AsmAt (w : World) (B : Nat) (vc vl : Value) (nt nb : Nat) (st : St) : Prop where
  box : w.heap[B + 2]? = some (.cells #[vc, vl, .map (some B), .map (some (B + 1))] 53)
  code : OwnIns w B vc st.code
  lines : OwnInts w B vl st.lines
  tgt : TgtAt w B nt st.tgts
  lab : LabAt w (B + 1) nb st.labs
  llen : st.lines.length = st.code.length
  tlen : st.tgts.length = st.code.length
  small : st.code.length ≤ 500
  nt : nt ≤ st.code.length
  nb : nb ≤ st.labs.length
  nodup : (st.labs.map (·.1)).Nodup
theorem AsmAt.lt {w : World} {B : Nat} {vc vl : Value} {nt nb : Nat} {st : St} (h : AsmAt w B vc vl nt nb st) : B + 2 < w.heap.size := block_lt h.box
theorem map_block {w w' : World} {P : Program} {k : TypeId} {R : Value → Option (DataW Unit × List MemPlace)} {b n : Nat} {D : DataW Unit} (h : w.ownsMap P k R b n D) (hb : w'.heap[b]? = w.heap[b]?) : w'.ownsMap P k R b n D := by
  obtain ⟨es, clock, h1, h2⟩ := h
  exact ⟨es, clock, hb.trans h1, h2⟩
theorem AsmAt.below {w w' : World} {B : Nat} {vc vl : Value} {nt nb : Nat} {st : St} (h : AsmAt w B vc vl nt nb st) (hb : Below w.heap.size w w') : AsmAt w' B vc vl nt nb st :=
  ⟨(hb.block _ h.lt).trans h.box, own_below h.code hb (Nat.le_refl _), own_below h.lines hb (Nat.le_refl _), map_block h.tgt (hb.block _ (by have := h.lt; omega)), map_block h.lab (hb.block _ (by have := h.lt; omega)), h.llen, h.tlen, h.small, h.nt, h.nb, h.nodup⟩
theorem AsmAt.cells {w : World} {B : Nat} {vc vl : Value} {nt nb : Nat} {st : St} (h : AsmAt w B vc vl nt nb st) : w.cell? ⟨B + 2, 0, none⟩ = some vc ∧ w.cell? ⟨B + 2, 1, none⟩ = some vl ∧ w.cell? ⟨B + 2, 2, none⟩ = some (.map (some B)) ∧ w.cell? ⟨B + 2, 3, none⟩ = some (.map (some (B + 1))) :=
  ⟨cell_block h.box 0, cell_block h.box 1, cell_block h.box 2, cell_block h.box 3⟩

/-- Blocks of strings stand as they were. -/
def StrKept (w w' : World) : Prop := w.heap.size ≤ w'.heap.size ∧ ∀ (k : Nat) (cs : Array Value) (fr : Nat × Nat), w.heap[k]? = some (Obj.cells cs 9 fr) → w'.heap[k]? = some (Obj.cells cs 9 fr)
theorem StrKept.refl (w : World) : StrKept w w := ⟨Nat.le_refl _, fun _ _ _ h => h⟩
theorem StrKept.trans {w w' w'' : World} (h : StrKept w w') (h' : StrKept w' w'') : StrKept w w'' := ⟨Nat.le_trans h.1 h'.1, fun k cs fr hk => h'.2 k cs fr (h.2 k cs fr hk)⟩
theorem StrKept.of_below {w w' : World} (h : Below w.heap.size w w') : StrKept w w' := ⟨h.size, fun k _ _ hk => (h.block k (block_lt hk)).trans hk⟩
theorem StrKept.of_map {w w' : World} {P : Program} {t : TypeId} {R : Value → Option (DataW Unit × List MemPlace)} {b n : Nat} {D : DataW Unit} (h : w.ownsMap P t R b n D) (hg : w.grownBy w' (some b)) : StrKept w w' := by
  obtain ⟨es, clock, h1, -⟩ := h
  refine ⟨hg.size, fun k cs fr hk => (hg.block k (block_lt hk) ?_).trans hk⟩
  intro he
  cases he
  rw [h1] at hk; cases hk
theorem StrKept.of_row {w w' : World} {b : Nat} {e : TypeId} {sz n : Nat} {v : Value} {xs : List Value} (h : w.ownsRow b e sz v n xs) (hne : e ≠ 9) (hg : w.grownBy w' v.ownBlock) : StrKept w w' := by
  refine ⟨hg.size, fun k cs fr hk => (hg.block k (block_lt hk) ?_).trans hk⟩
  intro he
  rcases h.2 with ⟨rfl, -⟩ | ⟨g, cap, cur, rfl, -, hh, -⟩
  · simp [Value.ownBlock] at he
  · simp only [Value.ownBlock, Option.some.injEq] at he
    subst he
    rw [hk] at hh
    cases hh
    exact hne rfl
theorem StrKept.of_set {w : World} {p : Addr} {u : Value} {cs : Array Value} {t : TypeId} {fr : Nat × Nat} (h : w.heap[p.block]? = some (.cells cs t fr)) (hne : t ≠ 9) : StrKept w (w.setCell p u) := by
  refine ⟨by simp [World.setCell], fun k cs' fr' hk => ?_⟩
  have : k ≠ p.block := by
    rintro rfl
    rw [h] at hk
    cases hk
    exact hne rfl
  exact (Below.heap_setCell w p u k this).trans hk
end Go.Proofs.YtonnjokjbknngaaDoor
