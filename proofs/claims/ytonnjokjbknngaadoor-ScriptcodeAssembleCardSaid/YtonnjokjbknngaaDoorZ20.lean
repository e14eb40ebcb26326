/- A jump over some instructions: what its lines come to; in plain words. -/
import Derived.Test.YtonnjokjbknngaaDoorZ18
namespace Go.Proofs.YtonnjokjbknngaaDoor

theorem wordsG_end (x cur : BS) (h : ∀ c ∈ x, c ≠ 32) : wordsG x cur = wordsG [] (cur ++ x) := by
  have := wordsG_app x [] cur h
  rwa [List.append_nil] at this
theorem words_one {x : BS} (h : ∀ c ∈ x, c ≠ 32) (h0 : x ≠ []) : wordsB x = [x] := by
  unfold wordsB
  rw [wordsG_end x [] h, List.nil_append, wordsG, if_neg h0]
theorem words_two {x y : BS} (hx : ∀ c ∈ x, c ≠ 32) (hx0 : x ≠ []) (hy : ∀ c ∈ y, c ≠ 32) (hy0 : y ≠ []) : wordsB (x ++ 32 :: y) = [x, y] := by
  unfold wordsB
  rw [wordsG_app x _ _ hx, List.nil_append, wordsG, if_pos rfl, if_neg hx0, wordsG_end y [] hy, List.nil_append, wordsG, if_neg hy0]

theorem lab_spec {s : BS} (h : labB s = true) : s ≠ [] ∧ s.length ≤ 16 ∧ (∀ c, s.head? = some c → lowB c = true) ∧ ∀ c ∈ s, (lowB c || digB c) = true := by
  match s, h with
  | c :: t, h =>
    unfold labB at h
    simp only [Bool.and_eq_true, decide_eq_true_eq] at h
    obtain ⟨⟨h1, h2⟩, h3⟩ := h
    refine ⟨by simp, by simpa using h1, fun d hd => ?_, fun d hd => List.all_eq_true.1 h3 d hd⟩
    simp at hd
    subst hd
    exact h2
theorem lab_ne {s : BS} (h : labB s = true) (b : UInt8) (hb : (lowB b || digB b) = false) : ∀ c ∈ s, c ≠ b := fun c hc he => by
  have := (lab_spec h).2.2.2 c hc
  rw [he, hb] at this
  cases this
theorem lab_line {s : BS} (h : labB s = true) (no : Int) (st : St) (hf : findL s st.labs = none) : lineF no [s ++ [58]] st = (0, ⟨st.code, st.lines, st.labs ++ [(s, st.code.length)], st.tgts⟩) := by
  have h35 : ¬ (s ++ [58]).head? = some 35 := by
    intro he
    have h0 := (lab_spec h).1
    match s, h0, he, h with
    | c :: t, _, he, h =>
      simp at he
      exact lab_ne h 35 (by decide) c (by simp) he
  unfold lineF
  dsimp only
  rw [if_neg h35, if_pos ⟨rfl, by simp⟩, List.dropLast_concat, if_neg (by rw [h]; simp), hf, if_neg (by simp)]

def dropW : BS := [100, 114, 111, 112]
def swapW : BS := [115, 119, 97, 112]
def jumpW (z : Bool) : BS := if z then [106, 117, 109, 112, 122, 101, 114, 111] else [106, 117, 109, 112]
def jumpN (z : Bool) : Int := if z then 18 else 17
theorem jump10 (z : Bool) : ∀ c ∈ jumpW z, c ≠ 10 := by cases z <;> decide
theorem drop_line (no : Int) (st : St) : lineF no [dropW] st = st.add no ⟨15, 0⟩ [] := rfl
theorem swap_line (no : Int) (st : St) : lineF no [swapW] st = st.add no ⟨16, 0⟩ [] := rfl
theorem jump_line (z : Bool) (no : Int) (st : St) {s : BS} (h : labB s = true) : lineF no [jumpW z, s] st = st.add no ⟨jumpN z, 0⟩ s := by
  cases z
  · show (if labB s then st.add no ⟨17, 0⟩ s else (3, st)) = _
    rw [if_pos h]; rfl
  · show (if labB s then st.add no ⟨18, 0⟩ s else (3, st)) = _
    rw [if_pos h]; rfl

def labelSrc (b s a : Nat) (z : Bool) (nm : BS) : BS := repB dupW b ++ (jumpW z ++ [32]) ++ nm ++ [10] ++ repB dropW s ++ nm ++ [58, 10] ++ repB swapW a
def labelIns (b s a : Nat) (z : Bool) : List Ins := List.replicate b ⟨14, 0⟩ ++ (⟨jumpN z, ((b + 1 + s : Nat) : Int)⟩ :: (List.replicate s ⟨15, 0⟩ ++ List.replicate a ⟨16, 0⟩))
theorem labelIns_len (b s a : Nat) (z : Bool) : (labelIns b s a z).length = b + 1 + s + a := by simp [labelIns]; omega
theorem labelIns_at (b s a : Nat) (z : Bool) : (labelIns b s a z)[b]? = some ⟨jumpN z, ((b + 1 + s : Nat) : Int)⟩ := by
  unfold labelIns
  rw [List.getElem?_append_right (by simp)]
  simp
theorem findL_one (nm : BS) (k : Nat) : findL nm [(nm, k)] = some k := by simp [findL]

theorem asm_labels (b s a : Nat) (z : Bool) {nm : BS} (hb : b < 100) (hs : s < 100) (ha : a < 100) (hnm : labB nm = true) : asmF (labelSrc b s a z nm) = (0, 0, labelIns b s a z) := by
  have h10 := lab_ne hnm 10 (by decide)
  have h32 := lab_ne hnm 32 (by decide)
  have hj10 : ∀ c ∈ jumpW z ++ 32 :: nm, c ≠ 10 := fun c hc => by
    rcases List.mem_append.1 hc with h | h
    · exact jump10 z c h
    · rcases List.mem_cons.1 h with rfl | h
      · decide
      · exact h10 c h
  have hn10 : ∀ c ∈ nm ++ [58], c ≠ 10 := fun c hc => by
    rcases List.mem_append.1 hc with h | h
    · exact h10 c h
    · rw [List.mem_singleton] at h; rw [h]; decide
  have hn32 : ∀ c ∈ nm ++ [58], c ≠ 32 := fun c hc => by
    rcases List.mem_append.1 hc with h | h
    · exact h32 c h
    · rw [List.mem_singleton] at h; rw [h]; decide
  have hl : (linesB (labelSrc b s a z nm)).map wordsB = List.replicate b [dupW] ++ ([jumpW z, nm] :: (List.replicate s [dropW] ++ ([nm ++ [58]] :: (List.replicate a [swapW] ++ [[]])))) := by
    have e : labelSrc b s a z nm = repB dupW b ++ ((jumpW z ++ 32 :: nm) ++ 10 :: (repB dropW s ++ ((nm ++ [58]) ++ 10 :: (repB swapW a ++ [])))) := by
      unfold labelSrc; simp [List.append_assoc]
    rw [e, linesB_rep dup_nl, linesB_cut _ hj10, linesB_rep (by decide), linesB_cut _ hn10, linesB_rep (by decide)]
    simp only [List.map_cons, List.map_append, List.map_replicate, dup_words]
    rw [words_two (by cases z <;> decide) (by cases z <;> decide) h32 (lab_spec hnm).1, words_one hn32 (by simp)]
    rfl
  have hF : ∃ st, linesF 0 ((linesB (labelSrc b s a z nm)).map wordsB) St.zero = (0, 0, st) ∧ st.code = List.replicate b ⟨14, 0⟩ ++ [⟨jumpN z, 0⟩] ++ List.replicate s ⟨15, 0⟩ ++ List.replicate a ⟨16, 0⟩ ∧ st.labs = [(nm, b + 1 + s)] ∧ st.tgts = List.replicate b [] ++ [nm] ++ List.replicate s [] ++ List.replicate a [] := by
    rw [hl, linesF_rep dup_line _ b 0 _ (by simp [St.zero]; omega), linesF_cons, jump_line z _ _ hnm, add_yes (by simp [St.addN, St.zero]; omega)]
    dsimp only
    rw [if_pos rfl, linesF_rep drop_line _ s _ _ (by simp [St.addN, St.zero]; omega), linesF_cons, lab_line hnm _ _ rfl]
    dsimp only
    rw [if_pos rfl, linesF_rep swap_line _ a _ _ (by simp [St.addN, St.zero]; omega), linesF_cons, show ∀ no st, lineF no [] st = (0, st) from fun _ _ => rfl]
    dsimp only
    rw [if_pos rfl]
    unfold linesF St.addN St.zero
    exact ⟨_, rfl, by simp, by simp; omega, by simp⟩
  obtain ⟨st, hF, hc, hlb, htg⟩ := hF
  rw [asm_ok hF, hc, hlb, htg]
  obtain ⟨L, hL⟩ : ∃ L, st.lines = L := ⟨_, rfl⟩
  rw [hL]
  have hq : jumpsF [(nm, b + 1 + s)] 0 (List.replicate b ⟨14, 0⟩ ++ [⟨jumpN z, 0⟩] ++ List.replicate s ⟨15, 0⟩ ++ List.replicate a ⟨16, 0⟩) L (List.replicate b [] ++ [nm] ++ List.replicate s [] ++ List.replicate a []) = (0, 0, labelIns b s a z) := by
    have e1 : (List.replicate b ([] : BS) ++ [nm] ++ List.replicate s [] ++ List.replicate a []).drop b = nm :: (List.replicate s [] ++ List.replicate a []) := by
      rw [List.append_assoc, List.append_assoc, List.drop_left' (by simp)]; rfl
    rw [List.append_assoc, List.append_assoc, jumpsF_rep _ (by decide), e1]
    have hj : (⟨jumpN z, 0⟩ : Ins).op = 17 ∨ (⟨jumpN z, 0⟩ : Ins).op = 18 := by cases z <;> decide
    have e2 : jumpsF [(nm, b + 1 + s)] (0 + b) ([⟨jumpN z, 0⟩] ++ (List.replicate s ⟨15, 0⟩ ++ List.replicate a ⟨16, 0⟩)) (L.drop b) (nm :: (List.replicate s [] ++ List.replicate a [])) = (0, 0, ⟨jumpN z, ((b + 1 + s : Nat) : Int)⟩ :: (List.replicate s ⟨15, 0⟩ ++ List.replicate a ⟨16, 0⟩)) := by
      rw [List.singleton_append, jumpsF, if_pos hj]
      simp only [List.headD_cons, findL_one]
      rw [if_neg (by omega), jumpsF_rep _ (by decide)]
      have e3 : List.replicate a (⟨16, 0⟩ : Ins) = List.replicate a ⟨16, 0⟩ ++ [] := by simp
      rw [e3, jumpsF_rep _ (by decide)]
      simp [jumpsF]
    rw [e2]
    simp [labelIns]
  rw [hq, if_pos rfl]
end Go.Proofs.YtonnjokjbknngaaDoor
