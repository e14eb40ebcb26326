/- Comments, empty lines and spaces: what they do to a script; in plain words. -/
import Derived.Test.YtonnjokjbknngaaDoorZ9a
import Derived.Test.YtonnjokjbknngaaDoorZ3
namespace Go.Proofs.YtonnjokjbknngaaDoor

/-- Each space made three. -/
def replB : BS → BS
  | [] => []
  | c :: t => if c = 32 then 32 :: 32 :: 32 :: replB t else c :: replB t
def wideB (cm : BS) : List BS → BS
  | [] => []
  | x :: r => [32, 32, 35, 32] ++ cm ++ [10, 32, 32, 32] ++ replB x ++ [32, 32, 10] ++ wideB cm r
theorem wideB_snoc (cm : BS) : ∀ (l : List BS) (x : BS), wideB cm (l ++ [x]) = wideB cm l ++ [32, 32, 35, 32] ++ cm ++ [10, 32, 32, 32] ++ replB x ++ [32, 32, 10]
  | [], x => by simp [wideB]
  | y :: l, x => by simp [wideB, wideB_snoc cm l x]
theorem replB_mem : ∀ (x : BS), (∀ c ∈ x, c ≠ 10) → ∀ c ∈ replB x, c ≠ 10
  | [], _ => by simp [replB]
  | d :: t, h => by
    have ih := replB_mem t (fun c hc => h c (by simp [hc]))
    unfold replB
    intro c hc
    split at hc
    · simp only [List.mem_cons] at hc
      rcases hc with rfl | rfl | rfl | hc
      · decide
      · decide
      · decide
      · exact ih c hc
    · rcases List.mem_cons.1 hc with rfl | hc
      · exact h _ (by simp)
      · exact ih c hc
theorem replB_len : ∀ x : BS, (replB x).length ≤ 3 * x.length
  | [] => by simp [replB]
  | c :: t => by
    have := replB_len t
    unfold replB
    split <;> simp <;> omega
theorem wordsG_repl : ∀ (x cur : BS), wordsG (replB x ++ [32, 32]) cur = wordsG x cur
  | [], cur => by
    simp only [replB, List.nil_append, wordsG]
    by_cases h : cur = [] <;> simp [h]
  | c :: t, cur => by
    unfold replB
    by_cases h : c = 32
    · rw [if_pos h, h]
      simp only [List.cons_append, wordsG, if_true]
      rw [wordsG_repl t []]
    · rw [if_neg h]
      simp only [List.cons_append, wordsG, if_neg h]
      exact wordsG_repl t _
theorem words_wide (x : BS) : wordsB ([32, 32, 32] ++ replB x ++ [32, 32]) = wordsB x := by
  unfold wordsB
  rw [List.append_assoc]
  simp only [List.cons_append, List.nil_append, wordsG, if_true]
  exact wordsG_repl x []
theorem words_rem (cm : BS) : wordsB ([32, 32, 35, 32] ++ cm) = [35] :: wordsB cm := by
  unfold wordsB
  simp [wordsG]

theorem lines_nonl : ∀ (l cur : BS), (∀ c ∈ cur, c ≠ 10) → ∀ x ∈ linesG l cur, ∀ c ∈ x, c ≠ 10
  | [], cur, h => fun x hx => by
    unfold linesG at hx
    rw [List.mem_singleton] at hx
    subst hx
    exact h
  | d :: t, cur, h => fun x hx => by
    unfold linesG at hx
    split at hx
    · rcases List.mem_cons.1 hx with rfl | hx
      · exact h
      · exact lines_nonl t [] (by simp) x hx
    · rename_i hd
      exact lines_nonl t (cur ++ [d]) (fun c hc => by
        rcases List.mem_append.1 hc with hc | hc
        · exact h c hc
        · rw [List.mem_singleton] at hc; rw [hc]; exact hd) x hx
theorem lines_wide {cm : BS} (hcm : ∀ c ∈ cm, c ≠ 10) : ∀ (l : List BS), (∀ x ∈ l, ∀ c ∈ x, c ≠ 10) → (linesB (wideB cm l)).map wordsB = (l.map wordsB).flatMap (fun ws => [[35] :: wordsB cm, ws]) ++ [[]]
  | [], _ => rfl
  | x :: r, h => by
    have ih := lines_wide hcm r (fun y hy => h y (by simp [hy]))
    have hx := h x (by simp)
    have e : wideB cm (x :: r) = ([32, 32, 35, 32] ++ cm) ++ 10 :: (([32, 32, 32] ++ replB x ++ [32, 32]) ++ 10 :: wideB cm r) := by
      simp [wideB]
    have n1 : ∀ c ∈ ([32, 32, 35, 32] : BS), c ≠ 10 := by decide
    have n2 : ∀ c ∈ ([32, 32, 32] : BS), c ≠ 10 := by decide
    have n3 : ∀ c ∈ ([32, 32] : BS), c ≠ 10 := by decide
    rw [e, linesB_cut _ (by
      intro c hc
      rcases List.mem_append.1 hc with hc | hc
      · exact n1 c hc
      · exact hcm c hc), linesB_cut _ (by
      intro c hc
      rcases List.mem_append.1 hc with hc | hc
      · rcases List.mem_append.1 hc with hc | hc
        · exact n2 c hc
        · exact replB_mem x hx c hc
      · exact n3 c hc)]
    simp only [List.map_cons, words_wide, words_rem, ih, List.flatMap_cons]
    rfl

def St.dbl (st : St) : St := ⟨st.code, st.lines.map (2 * ·), st.labs, st.tgts⟩
theorem add_dbl (st : St) (no : Int) (x : Ins) (t : BS) : st.dbl.add (2 * no) x t = ((st.add no x t).1, (st.add no x t).2.dbl) := by
  unfold St.add St.dbl
  dsimp only
  by_cases h : st.code.length = 500
  · rw [if_pos h, if_pos h]
  · rw [if_neg h, if_neg h]; simp
theorem lineF_dbl (no : Int) (ws : List BS) (st : St) : lineF (2 * no) ws st.dbl = ((lineF no ws st).1, (lineF no ws st).2.dbl) := by
  match ws with
  | [] => rfl
  | w :: r =>
    unfold lineF
    dsimp only
    by_cases c1 : w.head? = some 35
    · rw [if_pos c1, if_pos c1]
    rw [if_neg c1, if_neg c1]
    by_cases c2 : r = [] ∧ w.getLast? = some 58
    · rw [if_pos c2, if_pos c2]
      by_cases c3 : labB w.dropLast = false
      · rw [if_pos c3, if_pos c3]
      rw [if_neg c3, if_neg c3]
      by_cases c4 : (findL w.dropLast st.labs).isSome
      · rw [if_pos (show (findL w.dropLast st.dbl.labs).isSome from c4), if_pos c4]
      rw [if_neg (show ¬ (findL w.dropLast st.dbl.labs).isSome from c4), if_neg c4]; rfl
    rw [if_neg c2, if_neg c2]
    by_cases c5 : opOf w = -1
    · rw [if_pos c5, if_pos c5]
    rw [if_neg c5, if_neg c5]
    by_cases c6 : opOf w = 1
    · rw [if_pos c6, if_pos c6]
      match r with
      | [] => rfl
      | _ :: _ :: _ => rfl
      | [a] =>
        dsimp only
        cases hn : numOf 1000000000 a with
        | none => rfl
        | some n =>
          dsimp only
          by_cases c7 : n < -999999999 ∨ 999999999 < n
          · rw [if_pos c7, if_pos c7]
          rw [if_neg c7, if_neg c7]
          exact add_dbl st no _ _
    rw [if_neg c6, if_neg c6]
    by_cases c8 : opOf w = 17 ∨ opOf w = 18
    · rw [if_pos c8, if_pos c8]
      match r with
      | [] => rfl
      | _ :: _ :: _ => rfl
      | [a] =>
        dsimp only
        by_cases c9 : labB a = true
        · rw [if_pos c9, if_pos c9]; exact add_dbl st no _ _
        · rw [if_neg c9, if_neg c9]
    rw [if_neg c8, if_neg c8]
    by_cases c10 : r = []
    · rw [if_pos c10, if_pos c10]; exact add_dbl st no _ _
    · rw [if_neg c10, if_neg c10]
theorem linesF_dbl (cw : List BS) : ∀ (r : List (List BS)) (k : Nat) (st : St), linesF (2 * k) (r.flatMap (fun ws => [[35] :: cw, ws]) ++ [[]]) st.dbl = ((linesF k r st).1, 2 * (linesF k r st).2.1, (linesF k r st).2.2.dbl)
  | [], k, st => rfl
  | ws :: r, k, st => by
    have ih := linesF_dbl cw r (k + 1)
    simp only [List.flatMap_cons, List.cons_append, List.nil_append]
    rw [linesF_cons, show lineF (((2 * k : Nat) : Int) + 1) ([35] :: cw) st.dbl = (0, st.dbl) from rfl]
    dsimp only
    rw [if_pos rfl, linesF_cons, linesF_cons, show (((2 * k + 1 : Nat) : Int) + 1) = 2 * ((k : Int) + 1) by omega, lineF_dbl]
    dsimp only
    by_cases h : (lineF ((k : Int) + 1) ws st).1 = 0
    · rw [if_pos h, if_pos h, show 2 * k + 1 + 1 = 2 * (k + 1) by omega]
      exact ih _
    · rw [if_neg h, if_neg h]
theorem jumpsF_dbl (labs : List (BS × Nat)) : ∀ (l : List Ins) (i : Nat) (ls : List Int) (ts : List BS), jumpsF labs i l (ls.map (2 * ·)) ts = ((jumpsF labs i l ls ts).1, 2 * (jumpsF labs i l ls ts).2.1, (jumpsF labs i l ls ts).2.2)
  | [], _, _, _ => rfl
  | x :: l, i, ls, ts => by
    have hh : (ls.map (2 * ·)).headD 0 = 2 * ls.headD 0 := by cases ls <;> simp
    have ht : (ls.map (2 * ·)).tail = ls.tail.map (2 * ·) := by cases ls <;> simp
    unfold jumpsF
    dsimp only
    rw [hh, ht, jumpsF_dbl labs l (i + 1) ls.tail ts.tail]
    by_cases hx : x.op = 17 ∨ x.op = 18
    · rw [if_pos hx, if_pos hx]
      cases findL (ts.headD []) labs with
      | none => rfl
      | some k =>
        dsimp only
        by_cases hk : k ≤ i
        · rw [if_pos hk, if_pos hk]
        · rw [if_neg hk, if_neg hk]
    · rw [if_neg hx, if_neg hx]
/-- The wide text's script. -/
theorem asm_wide (src : BS) {cm : BS} (hcm : ∀ c ∈ cm, c ≠ 10) : asmF (wideB cm (linesB src)) = ((asmF src).1, 2 * (asmF src).2.1, (asmF src).2.2) := by
  have hl := lines_wide hcm (linesB src) (lines_nonl src [] (by simp))
  have hF := linesF_dbl (wordsB cm) ((linesB src).map wordsB) 0 St.zero
  rw [← hl] at hF
  obtain ⟨e, no, st, h⟩ : ∃ e no st, linesF 0 ((linesB src).map wordsB) St.zero = (e, no, st) := ⟨_, _, _, rfl⟩
  rw [h] at hF
  dsimp only at hF
  by_cases he : e = 0
  · subst he
    rw [asm_ok (no := no) h, asm_ok (no := 2 * no) (st := st.dbl) hF]
    have hj := jumpsF_dbl st.labs st.code 0 st.lines st.tgts
    have hj2 : jumpsF st.dbl.labs 0 st.dbl.code st.dbl.lines st.dbl.tgts = _ := hj
    rw [hj2]
    dsimp only
    by_cases h0 : (jumpsF st.labs 0 st.code st.lines st.tgts).1 = 0
    · rw [if_pos h0, if_pos h0]; rfl
    · rw [if_neg h0, if_neg h0]
  · rw [asm_err h he, asm_err (no := 2 * no) (st := st.dbl) hF he]
end Go.Proofs.YtonnjokjbknngaaDoor
