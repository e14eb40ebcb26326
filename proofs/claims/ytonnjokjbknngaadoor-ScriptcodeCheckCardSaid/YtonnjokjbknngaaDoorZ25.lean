/- The canonical source text assembles to its script; in plain words. -/
import Derived.Test.YtonnjokjbknngaaDoorZ24
namespace Go.Proofs.YtonnjokjbknngaaDoor
open Go.Lib

def strip (x : Ins) : Ins := if x.op = 17 ∨ x.op = 18 then ⟨x.op, 0⟩ else x
def tgW (x : Ins) : BS := if x.op = 17 ∨ x.op = 18 then 108 :: itoa x.arg else []
def labsTo (l : List Ins) : Nat → List (BS × Nat)
  | 0 => []
  | m + 1 => labsTo l m ++ if isT l m then [(labW m, m)] else []
theorem findL_app (n : BS) : ∀ (a b : List (BS × Nat)), findL n (a ++ b) = match findL n a with | some k => some k | none => findL n b
  | [], _ => rfl
  | x :: a, b => by
    rw [List.cons_append, findL, findL]
    by_cases h : x.1 = n
    · rw [if_pos h, if_pos h]
    · rw [if_neg h, if_neg h, findL_app n a b]
theorem findL_labs (l : List Ins) (k : Nat) : ∀ m, findL (labW k) (labsTo l m) = if k < m ∧ isT l k = true then some k else none
  | 0 => by simp [labsTo, findL]
  | m + 1 => by
    rw [labsTo, findL_app, findL_labs l k m]
    by_cases h1 : k < m ∧ isT l k = true
    · rw [if_pos h1, if_pos (show k < m + 1 ∧ isT l k = true from ⟨by omega, h1.2⟩)]
    · rw [if_neg h1]
      dsimp only
      by_cases hm : isT l m = true
      · rw [if_pos hm, findL]
        by_cases hk : m = k
        · subst hk
          rw [if_pos rfl, if_pos ⟨by omega, hm⟩]
        · rw [if_neg (fun h => hk (labW_inj h)), findL, if_neg (fun h => h1 ⟨by omega, h.2⟩)]
      · rw [if_neg hm, findL]
        by_cases hk : k = m
        · subst hk
          rw [if_neg (fun h => hm h.2)]
        · rw [if_neg (fun h => h1 ⟨by omega, h.2⟩)]

theorem push_line (no : Int) (st : St) (z : Int) (h1 : -999999999 ≤ z) (h2 : z ≤ 999999999) : lineF no [opW 1, itoa z] st = st.add no ⟨1, z⟩ [] := by
  show (match numOf 1000000000 (itoa z) with
    | none => (3, st)
    | some n => if n < -999999999 ∨ 999999999 < n then (2, st) else st.add no ⟨1, n⟩ []) = _
  rw [num_itoa z h1 h2]
  dsimp only
  rw [if_neg (by omega)]
theorem jump_line' (no : Int) (st : St) (z : Int) (hz : z = 17 ∨ z = 18) {s : BS} (h : labB s = true) : lineF no [opW z, s] st = st.add no ⟨z, 0⟩ s := by
  rcases hz with rfl | rfl
  · show (if labB s then st.add no ⟨17, 0⟩ s else (3, st)) = _
    rw [if_pos h]
  · show (if labB s then st.add no ⟨18, 0⟩ s else (3, st)) = _
    rw [if_pos h]
theorem op_line (no : Int) (st : St) (z : Int) (h0 : 0 ≤ z) (h1 : z ≤ 20) (hn : z ≠ 1 ∧ z ≠ 17 ∧ z ≠ 18) : lineF no [opW z] st = st.add no ⟨z, 0⟩ [] := by
  rcases (show z = 0 ∨ z = 2 ∨ z = 3 ∨ z = 4 ∨ z = 5 ∨ z = 6 ∨ z = 7 ∨ z = 8 ∨ z = 9 ∨ z = 10 ∨ z = 11 ∨ z = 12 ∨ z = 13 ∨ z = 14 ∨ z = 15 ∨ z = 16 ∨ z = 19 ∨ z = 20 by omega) with rfl | rfl | rfl | rfl | rfl | rfl | rfl | rfl | rfl | rfl | rfl | rfl | rfl | rfl | rfl | rfl | rfl | rfl
  all_goals rfl
theorem ins_line (no : Int) (st : St) {n i : Nat} {x : Ins} (h : insErr n i x = 0) (hn : n ≤ 1000) : lineF no (insW x) st = st.add no (strip x) (tgW x) := by
  obtain ⟨h1, h2, h3, h4⟩ := ins_ok_op h
  obtain ⟨op, arg⟩ := x
  unfold insW strip tgW
  unfold loA at h3
  unfold hiA at h4
  dsimp only at *
  by_cases c1 : op = 1
  · subst c1
    rw [if_pos rfl] at h3 h4
    rw [if_pos rfl, if_neg (by decide), if_neg (by decide)]
    exact push_line no st arg h3 h4
  rw [if_neg c1] at h3 h4 ⊢
  by_cases c2 : op = 17 ∨ op = 18
  · rw [if_pos c2] at h3 h4
    rw [if_pos c2, if_pos c2, if_pos c2]
    obtain ⟨u, rfl⟩ : ∃ u : Nat, arg = u := ⟨arg.toNat, by omega⟩
    have hi : (108 : UInt8) :: itoa (u : Int) = labW u := by unfold itoa labW; rw [if_neg (by omega), Int.toNat_natCast]
    rw [hi]
    exact jump_line' no st op c2 (labW_ok u (by omega))
  · rw [if_neg c2] at h3 h4
    rw [if_neg c2, if_neg c2, if_neg c2]
    have ha : arg = 0 := by omega
    subst ha
    exact op_line no st op h1 h2 ⟨c1, by omega, by omega⟩

/-- The state behind the first i instructions. -/
structure DisAt (l : List Ins) (i m : Nat) (st : St) : Prop where
  code : st.code = (l.take i).map strip
  labs : st.labs = labsTo l m
  tgts : st.tgts = (l.take i).map tgW
theorem labs_step {l : List Ins} {i : Nat} {st : St} (h : DisAt l i i st) (hi : i ≤ l.length) (hl : l.length ≤ 500) (no : Nat) (r : List (List BS)) : ∃ no' st', DisAt l i (i + 1) st' ∧ linesF no (labWs l i ++ r) st = linesF no' r st' := by
  by_cases ht : isT l i = true
  · refine ⟨no + 1, ⟨st.code, st.lines, st.labs ++ [(labW i, st.code.length)], st.tgts⟩, ⟨h.code, ?_, h.tgts⟩, ?_⟩
    · show st.labs ++ [(labW i, st.code.length)] = _
      have hc : st.code.length = i := by rw [h.code, List.length_map, List.length_take]; omega
      rw [hc, h.labs, labsTo, if_pos ht]
    · unfold labWs
      rw [if_pos ht, List.singleton_append, linesF_cons, lab_line (labW_ok i (by omega)) _ _ (by rw [h.labs, findL_labs, if_neg (by omega)])]
      dsimp only
      rw [if_pos rfl]
  · refine ⟨no, st, ⟨h.code, ?_, h.tgts⟩, ?_⟩
    · rw [h.labs, labsTo, if_neg ht, List.append_nil]
    · unfold labWs
      rw [if_neg ht, List.nil_append]
theorem dis_lines {l : List Ins} (hl : l.length ≤ 500) (hok : ∀ k x, l[k]? = some x → insErr l.length k x = 0) : ∀ (r : List Ins) (i : Nat) (st : St) (no : Nat), r = l.drop i → i ≤ l.length → DisAt l i i st → ∃ st', DisAt l l.length (l.length + 1) st' ∧ linesF no (wordsOf l i r) st = (0, 0, st')
  | [], i, st, no, hr, hi, h => by
    have hil : i = l.length := by
      have := congrArg List.length hr
      rw [List.length_drop] at this
      simp at this; omega
    subst hil
    obtain ⟨no', st', h1, h2⟩ := labs_step h hi hl no [[]]
    refine ⟨st', h1, ?_⟩
    unfold wordsOf
    rw [h2]; rfl
  | x :: r, i, st, no, hr, hi, h => by
    have hlt : i < l.length := by
      have := congrArg List.length hr
      rw [List.length_drop] at this
      simp at this; omega
    have hx : l[i]? = some x := by
      have := congrArg (fun y => y[0]?) hr
      simpa using this.symm
    have hr2 : r = l.drop (i + 1) := by
      have := congrArg List.tail hr
      simpa using this
    obtain ⟨no', st', h1, h2⟩ := labs_step h hi hl no (insW x :: wordsOf l (i + 1) r)
    have hlen : st'.code.length = i := by rw [h1.code, List.length_map, List.length_take]; omega
    unfold wordsOf
    rw [h2, linesF_cons, ins_line _ _ (hok i x hx) (by omega), add_yes (by omega)]
    dsimp only
    rw [if_pos rfl]
    have htk : l.take (i + 1) = l.take i ++ [x] := by
      rw [List.take_succ_eq_append_getElem hlt]
      congr 2
      rw [List.getElem?_eq_getElem hlt] at hx
      exact Option.some.inj hx
    exact dis_lines hl hok r (i + 1) _ _ hr2 (by omega) ⟨by show st'.code ++ [strip x] = _; rw [h1.code, htk]; simp, h1.labs, by show st'.tgts ++ [tgW x] = _; rw [h1.tgts, htk]; simp⟩
theorem dis_jumps {l : List Ins} (hok : ∀ k x, l[k]? = some x → insErr l.length k x = 0) (labs : List (BS × Nat)) (hlabs : labs = labsTo l (l.length + 1)) : ∀ (r : List Ins) (i : Nat) (ls : List Int), r = l.drop i → jumpsF labs i (r.map strip) ls (r.map tgW) = (0, 0, r)
  | [], _, _, _ => rfl
  | x :: r, i, ls, hr => by
    have hlt : i < l.length := by
      have := congrArg List.length hr
      rw [List.length_drop] at this
      simp at this; omega
    have hx : l[i]? = some x := by
      have := congrArg (fun y => y[0]?) hr
      simpa using this.symm
    have hr2 : r = l.drop (i + 1) := by
      have := congrArg List.tail hr
      simpa using this
    have ih := dis_jumps hok labs hlabs r (i + 1) ls.tail hr2
    obtain ⟨h1, h2, h3, h4⟩ := ins_ok_op (hok i x hx)
    rw [List.map_cons, List.map_cons, jumpsF]
    by_cases c2 : x.op = 17 ∨ x.op = 18
    · have hs : strip x = ⟨x.op, 0⟩ := by unfold strip; rw [if_pos c2]
      unfold loA at h3
      unfold hiA at h4
      have c1 : ¬ x.op = 1 := by omega
      rw [if_neg c1, if_pos c2] at h3 h4
      obtain ⟨u, hu⟩ : ∃ u : Nat, x.arg = u := ⟨x.arg.toNat, by omega⟩
      have ht : tgW x = labW u := by unfold tgW itoa labW; rw [if_pos c2, hu, if_neg (by omega), Int.toNat_natCast]
      have hT : isT l u = true := by
        unfold isT
        rw [List.any_eq_true]
        exact ⟨x, List.mem_of_getElem? hx, by unfold isJ; rw [decide_eq_true c2, decide_eq_true hu]; rfl⟩
      rw [hs, if_pos c2, List.headD_cons, ht, hlabs, findL_labs, if_pos ⟨by omega, hT⟩]
      dsimp only
      rw [if_neg (by omega), List.tail_cons, ← hlabs, ih]
      have : (⟨x.op, (u : Int)⟩ : Ins) = x := ins_ext rfl hu.symm
      rw [this]
    · have hs : strip x = x := by unfold strip; rw [if_neg c2]
      rw [hs, if_neg c2, List.tail_cons]
      dsimp only
      rw [ih]
/-- P46.2: assembling the canonical text of a script. -/
theorem asm_dis {l : List Ins} (h : codeErr l = 0) : asmF (disB l) = (0, 0, l) := by
  have hlen : l.length ≤ 500 := by
    unfold codeErr at h
    by_cases h1 : 500 < l.length
    · rw [if_pos h1] at h; omega
    · omega
  have hv := h
  unfold codeErr at hv
  rw [if_neg (by omega)] at hv
  have hok : ∀ k x, l[k]? = some x → insErr l.length k x = 0 := fun k x hx => by simpa using errFrom_ok hv k x hx
  have hops : ∀ x ∈ l, 0 ≤ x.op ∧ x.op ≤ 20 := fun x hx => by
    obtain ⟨k, hk, rfl⟩ := List.getElem_of_mem hx
    have := ins_ok_op (hok k _ (List.getElem?_eq_getElem hk))
    exact ⟨this.1, this.2.1⟩
  have hw := lines_dis l l 0 (by omega) hops
  obtain ⟨st', h1, h2⟩ := dis_lines hlen hok l 0 St.zero 0 rfl (Nat.zero_le _) ⟨rfl, rfl, rfl⟩
  rw [← hw] at h2
  have hF : linesF 0 ((linesB (disB l)).map wordsB) St.zero = (0, 0, st') := h2
  rw [asm_ok hF, h1.code, h1.tgts, List.take_of_length_le (Nat.le_refl _), dis_jumps hok st'.labs h1.labs l 0 st'.lines rfl]
  rfl
end Go.Proofs.YtonnjokjbknngaaDoor
