/- Source texts of scripts: bounds of lines and words, what the lines leave, the jumps; in plain words. -/
import Derived.Test.YtonnjokjbknngaaDoorZ7
namespace Go.Proofs.YtonnjokjbknngaaDoor

theorem words_bd : ∀ (l cur : BS), (∀ w ∈ wordsG l cur, w.length ≤ l.length + cur.length) ∧ (wordsG l cur).length ≤ l.length + 1
  | [], cur => by
    unfold wordsG
    split
    · simp
    · refine ⟨fun w h => ?_, by simp⟩
      rw [List.mem_singleton] at h
      subst h; simp
  | c :: t, cur => by
    unfold wordsG
    obtain ⟨h1, h2⟩ := words_bd t []
    obtain ⟨h3, h4⟩ := words_bd t (cur ++ [c])
    split
    · split
      · refine ⟨fun w h => ?_, by simp; omega⟩
        have := h1 w h
        simp at this ⊢; omega
      · refine ⟨fun w h => ?_, by simp; omega⟩
        rcases List.mem_cons.1 h with rfl | h
        · simp
        · have := h1 w h
          simp at this ⊢; omega
    · refine ⟨fun w h => ?_, by simp; omega⟩
      have := h3 w h
      simp at this ⊢; omega
theorem lines_bd : ∀ (l cur : BS), (∀ w ∈ linesG l cur, w.length ≤ l.length + cur.length) ∧ (linesG l cur).length ≤ l.length + 1
  | [], cur => by unfold linesG; exact ⟨fun w h => by rw [List.mem_singleton] at h; subst h; simp, by simp⟩
  | c :: t, cur => by
    unfold linesG
    obtain ⟨h1, h2⟩ := lines_bd t []
    obtain ⟨h3, h4⟩ := lines_bd t (cur ++ [c])
    split
    · refine ⟨fun w h => ?_, by simp; omega⟩
      rcases List.mem_cons.1 h with rfl | h
      · simp
      · have := h1 w h
        simp at this ⊢; omega
    · refine ⟨fun w h => ?_, by simp; omega⟩
      have := h3 w h
      simp at this ⊢; omega

/-- A jump names a label, and nothing else does. -/
def JOk (st : St) : Prop := st.tgts.length = st.code.length ∧ ∀ (k : Nat) (x : Ins) (t : BS), st.code[k]? = some x → st.tgts[k]? = some t → (t ≠ [] ↔ (x.op = 17 ∨ x.op = 18))
theorem jok_zero : JOk St.zero := ⟨rfl, fun k x t h => by simp [St.zero] at h⟩
theorem jok_snoc {st : St} (h : JOk st) {x : Ins} {t : BS} (no : Int) (hx : t ≠ [] ↔ (x.op = 17 ∨ x.op = 18)) : JOk ⟨st.code ++ [x], st.lines ++ [no], st.labs, st.tgts ++ [t]⟩ := by
  refine ⟨by simp [h.1], fun k y u hy hu => ?_⟩
  dsimp only at hy hu
  by_cases hk : k < st.code.length
  · rw [List.getElem?_append_left hk] at hy
    rw [List.getElem?_append_left (by rw [h.1]; exact hk)] at hu
    exact h.2 k y u hy hu
  · have hk2 := (List.getElem?_eq_some_iff.1 hy).1
    simp at hk2
    obtain rfl : k = st.code.length := by omega
    rw [List.getElem?_append_right (Nat.le_refl _)] at hy
    rw [List.getElem?_append_right (by rw [h.1]; exact Nat.le_refl _), h.1] at hu
    simp at hy hu
    subst hy hu
    exact hx
theorem add_ok {st : St} (h : JOk st) {no : Int} {x : Ins} {t : BS} (hx : t ≠ [] ↔ (x.op = 17 ∨ x.op = 18)) (h0 : (st.add no x t).1 = 0) : JOk (st.add no x t).2 ∧ (st.add no x t).2.labs = st.labs := by
  unfold St.add at h0 ⊢
  by_cases h5 : st.code.length = 500
  · rw [if_pos h5] at h0; simp at h0
  · rw [if_neg h5]
    exact ⟨jok_snoc h no hx, rfl⟩
/-- What a line leaves. -/
theorem lineF_ok {no : Int} {ws : List BS} {st : St} (h : JOk st) (h0 : (lineF no ws st).1 = 0) : JOk (lineF no ws st).2 ∧ (lineF no ws st).2.labs.length ≤ st.labs.length + 1 := by
  have hadd : ∀ (x : Ins) (t : BS), (t ≠ [] ↔ (x.op = 17 ∨ x.op = 18)) → (st.add no x t).1 = 0 → JOk (st.add no x t).2 ∧ (st.add no x t).2.labs.length ≤ st.labs.length + 1 := fun x t hx h0 => by
    obtain ⟨h1, h2⟩ := add_ok h hx h0
    exact ⟨h1, by rw [h2]; omega⟩
  match ws with
  | [] => exact ⟨h, Nat.le_succ _⟩
  | w :: r =>
    unfold lineF at h0 ⊢
    dsimp only at h0 ⊢
    by_cases c1 : w.head? = some 35
    · rw [if_pos c1]; exact ⟨h, Nat.le_succ _⟩
    rw [if_neg c1] at h0 ⊢
    by_cases c2 : r = [] ∧ w.getLast? = some 58
    · rw [if_pos c2] at h0 ⊢
      by_cases c3 : labB w.dropLast = false
      · rw [if_pos c3] at h0; simp at h0
      rw [if_neg c3] at h0 ⊢
      by_cases c4 : (findL w.dropLast st.labs).isSome
      · rw [if_pos c4] at h0; simp at h0
      rw [if_neg c4]
      exact ⟨⟨h.1, h.2⟩, by simp⟩
    rw [if_neg c2] at h0 ⊢
    by_cases c5 : opOf w = -1
    · rw [if_pos c5] at h0; simp at h0
    rw [if_neg c5] at h0 ⊢
    by_cases c6 : opOf w = 1
    · rw [if_pos c6] at h0 ⊢
      match r with
      | [] => simp at h0
      | _ :: _ :: _ => simp at h0
      | [a] =>
        dsimp only at h0 ⊢
        cases hn : numOf 1000000000 a with
        | none => rw [hn] at h0; simp at h0
        | some n =>
          rw [hn] at h0
          dsimp only at h0 ⊢
          by_cases c7 : n < -999999999 ∨ 999999999 < n
          · rw [if_pos c7] at h0; simp at h0
          rw [if_neg c7] at h0 ⊢
          exact hadd _ _ (by simp) h0
    rw [if_neg c6] at h0 ⊢
    by_cases c8 : opOf w = 17 ∨ opOf w = 18
    · rw [if_pos c8] at h0 ⊢
      match r with
      | [] => simp at h0
      | _ :: _ :: _ => simp at h0
      | [a] =>
        dsimp only at h0 ⊢
        by_cases c9 : labB a = true
        · rw [if_pos c9] at h0 ⊢
          refine hadd _ _ ⟨fun _ => c8, fun _ => ?_⟩ h0
          rintro rfl
          cases c9
        · rw [if_neg c9] at h0; simp at h0
    rw [if_neg c8] at h0 ⊢
    by_cases c10 : r = []
    · rw [if_pos c10] at h0 ⊢
      exact hadd _ _ ⟨fun h => absurd rfl h, fun h => absurd h c8⟩ h0
    · rw [if_neg c10] at h0; simp at h0

theorem linesF_cons (no : Nat) (ws : List BS) (r : List (List BS)) (st : St) : linesF no (ws :: r) st = if (lineF ((no : Int) + 1) ws st).1 = 0 then linesF (no + 1) r (lineF ((no : Int) + 1) ws st).2 else ((lineF ((no : Int) + 1) ws st).1, (no : Int) + 1, st) := rfl
theorem asm_err {src : BS} {e no : Int} {st : St} (h : linesF 0 ((linesB src).map wordsB) St.zero = (e, no, st)) (he : e ≠ 0) : asmF src = (e, no, []) := by
  unfold asmF
  rw [h]
  dsimp only
  rw [if_neg he]
theorem asm_ok {src : BS} {st : St} {no : Int} (h : linesF 0 ((linesB src).map wordsB) St.zero = (0, no, st)) : asmF src = if (jumpsF st.labs 0 st.code st.lines st.tgts).1 = 0 then (0, 0, (jumpsF st.labs 0 st.code st.lines st.tgts).2.2) else ((jumpsF st.labs 0 st.code st.lines st.tgts).1, (jumpsF st.labs 0 st.code st.lines st.tgts).2.1, []) := by
  unfold asmF
  rw [h]
  dsimp only
  rw [if_pos rfl]

/-- The jumps behind the first instructions. -/
def JumpsAt (st : St) (k : Nat) (done : List Ins) : Prop := done.length = k ∧
  jumpsF st.labs 0 st.code st.lines st.tgts = ((jumpsF st.labs k (st.code.drop k) (st.lines.drop k) (st.tgts.drop k)).1, (jumpsF st.labs k (st.code.drop k) (st.lines.drop k) (st.tgts.drop k)).2.1, done ++ (jumpsF st.labs k (st.code.drop k) (st.lines.drop k) (st.tgts.drop k)).2.2)
theorem jumpsAt_zero (st : St) : JumpsAt st 0 [] := ⟨rfl, by simp⟩
theorem drop_head {α : Type} {l : List α} {k : Nat} {x : α} (h : l[k]? = some x) : l.drop k = x :: l.drop (k + 1) := by
  obtain ⟨hk, rfl⟩ := List.getElem?_eq_some_iff.1 h
  exact List.drop_eq_getElem_cons hk
section
variable {st : St} {k : Nat} {done : List Ins} {x : Ins} {ln : Int} {t : BS}
theorem jumps_skip (h : JumpsAt st k done) (hx : st.code[k]? = some x) (hl : st.lines[k]? = some ln) (ht : st.tgts[k]? = some t) (hno : ¬ (x.op = 17 ∨ x.op = 18)) : JumpsAt st (k + 1) (done ++ [x]) := by
  obtain ⟨h1, h2⟩ := h
  refine ⟨by simp [h1], ?_⟩
  rw [h2, drop_head hx, drop_head hl, drop_head ht, jumpsF, if_neg hno]
  simp
theorem jumps_name (h : JumpsAt st k done) (hx : st.code[k]? = some x) (hl : st.lines[k]? = some ln) (ht : st.tgts[k]? = some t) (hj : x.op = 17 ∨ x.op = 18) (hf : findL t st.labs = none) :
    ∃ r, jumpsF st.labs 0 st.code st.lines st.tgts = (6, ln, r) := by
  obtain ⟨h1, h2⟩ := h
  rw [h2, drop_head hx, drop_head hl, drop_head ht, jumpsF, if_pos hj]
  simp [hf]
theorem jumps_range (h : JumpsAt st k done) (hx : st.code[k]? = some x) (hl : st.lines[k]? = some ln) (ht : st.tgts[k]? = some t) (hj : x.op = 17 ∨ x.op = 18) {a : Nat} (hf : findL t st.labs = some a) (ha : a ≤ k) :
    ∃ r, jumpsF st.labs 0 st.code st.lines st.tgts = (2, ln, r) := by
  obtain ⟨h1, h2⟩ := h
  rw [h2, drop_head hx, drop_head hl, drop_head ht, jumpsF, if_pos hj]
  simp [hf, ha]
theorem jumps_set (h : JumpsAt st k done) (hx : st.code[k]? = some x) (hl : st.lines[k]? = some ln) (ht : st.tgts[k]? = some t) (hj : x.op = 17 ∨ x.op = 18) {a : Nat} (hf : findL t st.labs = some a) (ha : ¬ a ≤ k) : JumpsAt st (k + 1) (done ++ [⟨x.op, a⟩]) := by
  obtain ⟨h1, h2⟩ := h
  refine ⟨by simp [h1], ?_⟩
  rw [h2, drop_head hx, drop_head hl, drop_head ht, jumpsF, if_pos hj]
  simp [hf, ha]
theorem jumps_end (h : JumpsAt st k done) (hk : st.code.length ≤ k) : jumpsF st.labs 0 st.code st.lines st.tgts = (0, 0, done) := by
  obtain ⟨h1, h2⟩ := h
  rw [h2, List.drop_of_length_le hk, jumpsF]
  simp
theorem flat_set : ∀ (done : List Ins) (x : Ins) (r : List Ins) (a : Int), ((done ++ x :: r).flatMap Ins.enc).set (done.length * 2 + 1) (.int .i64 a) = (done ++ ⟨x.op, a⟩ :: r).flatMap Ins.enc
  | [], x, r, a => by simp [Ins.enc]
  | d :: done, x, r, a => by
    have ih := flat_set done x r a
    simp only [List.cons_append, List.flatMap_cons, List.length_cons]
    rw [← ih, show (done.length + 1) * 2 + 1 = (done.length * 2 + 1) + 1 + 1 by omega]
    simp [Ins.enc]
end
end Go.Proofs.YtonnjokjbknngaaDoor
