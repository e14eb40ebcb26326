/- Scripts of repeated lines: what their lines and jumps come to; in plain words. -/
import Derived.Test.YtonnjokjbknngaaDoorZ9a
import Derived.Test.YtonnjokjbknngaaDoorZ3
import Derived.Lib.Repeat
namespace Go.Proofs.YtonnjokjbknngaaDoor

/-- A line n times. -/
def repB (l : BS) : Nat → BS
  | 0 => []
  | n + 1 => l ++ 10 :: repB l n
theorem repB_lib (l : BS) : ∀ n, Lib.repeatL (l ++ [10]) n = repB l n
  | 0 => rfl
  | n + 1 => by
    have := repB_lib l n
    unfold repB
    rw [← this]
    simp [Lib.repeatL]
theorem repB_len (l : BS) : ∀ n, (repB l n).length = n * (l.length + 1)
  | 0 => by simp [repB]
  | n + 1 => by
    unfold repB
    rw [List.length_append, List.length_cons, repB_len l n, Nat.add_mul]; omega
theorem linesB_rep {l : BS} (h : ∀ c ∈ l, c ≠ 10) (t : BS) : ∀ n, linesB (repB l n ++ t) = List.replicate n l ++ linesB t
  | 0 => by simp [repB]
  | n + 1 => by
    have ih := linesB_rep h t n
    unfold repB
    rw [List.append_assoc, List.cons_append, linesB_cut _ h, ih, List.replicate_succ]; rfl

/-- The state with one instruction more, n times. -/
def St.addN (st : St) (no n : Nat) (op : Int) : St := ⟨st.code ++ List.replicate n ⟨op, 0⟩, st.lines ++ (List.range n).map (fun (i : Nat) => (no : Int) + (i : Int) + 1), st.labs, st.tgts ++ List.replicate n []⟩
theorem add_yes {st : St} {no : Int} {x : Ins} {t : BS} (h : st.code.length ≠ 500) : st.add no x t = (0, ⟨st.code ++ [x], st.lines ++ [no], st.labs, st.tgts ++ [t]⟩) := if_neg h
theorem linesF_rep {w : BS} {op : Int} (hw : ∀ no st, lineF no [w] st = st.add no ⟨op, 0⟩ []) (r : List (List BS)) : ∀ (n no : Nat) (st : St), st.code.length + n ≤ 500 → linesF no (List.replicate n [w] ++ r) st = linesF (no + n) r (st.addN no n op)
  | 0, no, st, _ => by simp [St.addN]
  | n + 1, no, st, h => by
    rw [List.replicate_succ, List.cons_append, linesF_cons, hw]
    rw [add_yes (by omega)]
    dsimp only
    rw [if_pos rfl, linesF_rep hw r n (no + 1) _ (by simp; omega)]
    rw [show no + 1 + n = no + (n + 1) by omega]
    congr 1
    unfold St.addN
    simp only [List.append_assoc]
    congr 2
    rw [List.range_succ_eq_map, List.map_cons, List.map_map]
    simp only [List.singleton_append]
    congr 1
    simp
    intro a _
    omega
theorem jumpsF_rep (labs : List (BS × Nat)) {x : Ins} (hx : ¬ (x.op = 17 ∨ x.op = 18)) (l : List Ins) : ∀ (n i : Nat) (ls : List Int) (ts : List BS),
    jumpsF labs i (List.replicate n x ++ l) ls ts = ((jumpsF labs (i + n) l (ls.drop n) (ts.drop n)).1, (jumpsF labs (i + n) l (ls.drop n) (ts.drop n)).2.1, List.replicate n x ++ (jumpsF labs (i + n) l (ls.drop n) (ts.drop n)).2.2)
  | 0, i, ls, ts => by simp
  | n + 1, i, ls, ts => by
    rw [List.replicate_succ, List.cons_append, jumpsF, if_neg hx, jumpsF_rep labs hx l n (i + 1) ls.tail ts.tail, show i + 1 + n = i + (n + 1) by omega]
    simp [List.drop_tail]

def dupW : BS := [100, 117, 112]
theorem dup_line (no : Int) (st : St) : lineF no [dupW] st = st.add no ⟨14, 0⟩ [] := rfl
theorem dup_words : wordsB dupW = [dupW] := rfl
theorem dup_nl : ∀ c ∈ dupW, c ≠ 10 := by decide

def back1 (n : Nat) : BS := [120, 58, 10] ++ repB dupW n ++ [106, 117, 109, 112, 32, 120]
def back2 (n : Nat) : BS := repB dupW n ++ [106, 117, 109, 112, 122, 101, 114, 111, 32, 121, 10, 120, 58]
def back3 (n : Nat) : BS := [120, 58, 10] ++ repB dupW n ++ [120, 58, 10]

theorem asm_back1 (n : Nat) (hn : n < 100) : asmF (back1 n) = (2, (n : Int) + 2, []) := by
  have hl : (linesB (back1 n)).map wordsB = [[120, 58]] :: (List.replicate n [dupW] ++ [[[106, 117, 109, 112], [120]]]) := by
    unfold back1
    rw [List.append_assoc, show ([120, 58, 10] : BS) ++ (repB dupW n ++ [106, 117, 109, 112, 32, 120]) = [120, 58] ++ 10 :: (repB dupW n ++ [106, 117, 109, 112, 32, 120]) from rfl,
      linesB_cut _ (by decide), linesB_rep dup_nl, linesB_one (by decide)]
    simp only [List.map_cons, List.map_append, List.map_replicate, dup_words, List.map_nil]
    rfl
  have hF : linesF 0 ((linesB (back1 n)).map wordsB) St.zero = (0, 0, ⟨List.replicate n ⟨14, 0⟩ ++ [⟨17, 0⟩], (List.range n).map (fun (i : Nat) => ((1 : Nat) : Int) + (i : Int) + 1) ++ [(n : Int) + 2], [([120], 0)], List.replicate n [] ++ [[120]]⟩) := by
    rw [hl, linesF_cons, show lineF (((0 : Nat) : Int) + 1) [[120, 58]] St.zero = (0, ⟨[], [], [([120], 0)], []⟩) from rfl]
    dsimp only
    rw [if_pos rfl, linesF_rep dup_line _ n (0 + 1) _ (by simp; omega), linesF_cons]
    have hx : ∀ no st, lineF no [[106, 117, 109, 112], [120]] st = st.add no ⟨17, 0⟩ [120] := fun _ _ => rfl
    rw [hx, add_yes (by simp [St.addN]; omega)]
    dsimp only
    rw [if_pos rfl]
    unfold linesF St.addN
    simp only [List.nil_append]
    congr 4
    rw [show (((0 + 1 + n : Nat) : Int) + 1) = (n : Int) + 2 by omega]
  rw [asm_ok hF]
  dsimp only
  rw [jumpsF_rep _ (by decide)]
  have e1 : ((List.range n).map (fun (i : Nat) => ((1 : Nat) : Int) + (i : Int) + 1) ++ [(n : Int) + 2]).drop n = [(n : Int) + 2] := List.drop_left' (by simp)
  have e2 : (List.replicate n ([] : BS) ++ [[120]]).drop n = [[120]] := List.drop_left' (by simp)
  rw [e1, e2]
  rfl
theorem asm_back2 (n : Nat) (hn : n < 100) : asmF (back2 n) = (6, (n : Int) + 1, []) := by
  have hl : (linesB (back2 n)).map wordsB = List.replicate n [dupW] ++ [[[106, 117, 109, 112, 122, 101, 114, 111], [121]], [[120, 58]]] := by
    unfold back2
    rw [linesB_rep dup_nl, show ([106, 117, 109, 112, 122, 101, 114, 111, 32, 121, 10, 120, 58] : BS) = [106, 117, 109, 112, 122, 101, 114, 111, 32, 121] ++ 10 :: [120, 58] from rfl, linesB_cut _ (by decide), linesB_one (by decide)]
    simp only [List.map_cons, List.map_append, List.map_replicate, dup_words, List.map_nil]
    rfl
  have hF : linesF 0 ((linesB (back2 n)).map wordsB) St.zero = (0, 0, ⟨List.replicate n ⟨14, 0⟩ ++ [⟨18, 0⟩], (List.range n).map (fun (i : Nat) => ((0 : Nat) : Int) + (i : Int) + 1) ++ [(n : Int) + 1], [([120], n + 1)], List.replicate n [] ++ [[121]]⟩) := by
    rw [hl, linesF_rep dup_line _ n 0 _ (by simp [St.zero]; omega), linesF_cons]
    have hx : ∀ no st, lineF no [[106, 117, 109, 112, 122, 101, 114, 111], [121]] st = st.add no ⟨18, 0⟩ [121] := fun _ _ => rfl
    rw [hx, add_yes (by simp [St.addN, St.zero]; omega)]
    dsimp only
    rw [if_pos rfl, linesF_cons]
    have hy : ∀ no (st : St), st.labs = [] → lineF no [[120, 58]] st = (0, ⟨st.code, st.lines, st.labs ++ [([120], st.code.length)], st.tgts⟩) := fun no st h => by
      show (if labB [120] = false then (3, st) else if (findL [120] st.labs).isSome then (7, st) else (0, ⟨st.code, st.lines, st.labs ++ [([120], st.code.length)], st.tgts⟩)) = _
      rw [h]; rfl
    rw [hy _ _ rfl]
    dsimp only
    rw [if_pos rfl]
    unfold linesF St.addN St.zero
    simp only [List.nil_append]
    congr 4
    · rw [show (((0 + n : Nat) : Int) + 1) = (n : Int) + 1 by omega]
    · simp
  rw [asm_ok hF]
  dsimp only
  rw [jumpsF_rep _ (by decide)]
  have e1 : ((List.range n).map (fun (i : Nat) => ((0 : Nat) : Int) + (i : Int) + 1) ++ [(n : Int) + 1]).drop n = [(n : Int) + 1] := List.drop_left' (by simp)
  have e2 : (List.replicate n ([] : BS) ++ [[121]]).drop n = [[121]] := List.drop_left' (by simp)
  rw [e1, e2]
  rfl
theorem asm_back3 (n : Nat) (hn : n < 100) : asmF (back3 n) = (7, (n : Int) + 2, []) := by
  have hl : (linesB (back3 n)).map wordsB = [[120, 58]] :: (List.replicate n [dupW] ++ [[[120, 58]], []]) := by
    unfold back3
    rw [List.append_assoc, show ([120, 58, 10] : BS) ++ (repB dupW n ++ [120, 58, 10]) = [120, 58] ++ 10 :: (repB dupW n ++ ([120, 58] ++ 10 :: [])) from rfl,
      linesB_cut _ (by decide), linesB_rep dup_nl, linesB_cut _ (by decide)]
    simp only [List.map_cons, List.map_append, List.map_replicate, dup_words]
    rfl
  refine asm_err (st := (St.addN ⟨[], [], [([120], 0)], []⟩ (0 + 1) n 14)) ?_ (by decide)
  rw [hl, linesF_cons, show lineF (((0 : Nat) : Int) + 1) [[120, 58]] St.zero = (0, ⟨[], [], [([120], 0)], []⟩) from rfl]
  dsimp only
  rw [if_pos rfl, linesF_rep dup_line _ n (0 + 1) _ (by simp; omega), linesF_cons]
  have hy : ∀ no (st : St), st.labs = [([120], 0)] → lineF no [[120, 58]] st = (7, st) := fun no st h => by
    show (if labB [120] = false then (3, st) else if (findL [120] st.labs).isSome then (7, st) else (0, ⟨st.code, st.lines, st.labs ++ [([120], st.code.length)], st.tgts⟩)) = _
    rw [h]; rfl
  rw [hy _ _ rfl]
  dsimp only
  rw [if_neg (by decide), show (((0 + 1 + n : Nat) : Int) + 1) = (n : Int) + 2 by omega]
end Go.Proofs.YtonnjokjbknngaaDoor
