/- strings.Contains, strings.ReplaceAll; the walk of the law ScriptcodeLayout. -/
import Derived.Test.YtonnjokjbknngaaDoorZ12
import Derived.Test.YtonnjokjbknngaaDoorZ19
import Derived.Test.YtonnjokjbknngaaDoorZ22
import Derived.Shelf.Strings.Search3
import Derived.Shelf.Strings.Replace
namespace Go.Proofs.YtonnjokjbknngaaDoor
open Go.RowKit Go.Lib Go.Shelf

def laysCont_ren : Go.Shelf.Ren := ⟨fun | 143 => 39 | 144 => 18 | 217 => 74 | 219 => 60 | 224 => 76 | 225 => 75 | 266 => 87 | 267 => 77 | 314 => 88 | n => n, fun | 3 => 3 | 4 => 4 | 5 => 5 | 9 => 9 | 46 => 65 | 51 => 94 | 146 => 95 | n => n, fun | 1 => 0 | n => n⟩
theorem laysCont : Go.Proofs.Lays.n144 Tryd.prog laysCont_ren := { mixed := by kernel_rfl, f143 := Tryd.func39.trans (congrArg some (by kernel_rfl)), f144 := Tryd.func18.trans (congrArg some (by kernel_rfl)), f217 := Tryd.func74.trans (congrArg some (by kernel_rfl)), f219 := Tryd.func60.trans (congrArg some (by kernel_rfl)), f224 := Tryd.func76.trans (congrArg some (by kernel_rfl)), f225 := Tryd.func75.trans (congrArg some (by kernel_rfl)), f266 := Tryd.func87.trans (congrArg some (by kernel_rfl)), f267 := Tryd.func77.trans (congrArg some (by kernel_rfl)), f314 := Tryd.func88.trans (congrArg some (by kernel_rfl)), t3 := Tryd.underlying3, a3 := Tryd.isAgg3, z3 := Tryd.sizeOf3, v3 := Tryd.zeroValue3, t4 := Tryd.underlying4, a4 := Tryd.isAgg4, z4 := Tryd.sizeOf4, v4 := Tryd.zeroValue4, t5 := Tryd.underlying5, a5 := Tryd.isAgg5, z5 := Tryd.sizeOf5, v5 := Tryd.zeroValue5, t9 := Tryd.underlying9, a9 := Tryd.isAgg9, z9 := Tryd.sizeOf9, v9 := Tryd.zeroValue9, t46 := Tryd.underlying65, a46 := Tryd.isAgg65, z46 := Tryd.sizeOf65, v46 := Tryd.zeroValue65, t51 := Tryd.underlying94, a51 := Tryd.isAgg94, z51 := Tryd.sizeOf94, v51 := Tryd.zeroValue94, t146 := Tryd.underlying95, a146 := Tryd.isAgg95, z146 := Tryd.sizeOf95, v146 := Tryd.zeroValue95, g1 := by kernel_rfl }
def laysRepl_ren : Go.Shelf.Ren := ⟨fun | 138 => 62 | 143 => 39 | 154 => 41 | 155 => 20 | 165 => 44 | 166 => 45 | 169 => 47 | 195 => 78 | 197 => 63 | 217 => 74 | 218 => 79 | 219 => 60 | 224 => 76 | 225 => 75 | 240 => 67 | 241 => 68 | 260 => 80 | 266 => 87 | 267 => 77 | 276 => 81 | 277 => 82 | 314 => 88 | n => n, fun | 0 => 0 | 3 => 3 | 4 => 4 | 5 => 5 | 9 => 9 | 20 => 20 | 21 => 21 | 37 => 64 | 46 => 65 | 51 => 94 | 70 => 72 | 72 => 74 | 75 => 77 | 76 => 78 | 80 => 81 | 105 => 92 | 119 => 113 | 127 => 100 | 138 => 115 | 139 => 116 | 146 => 95 | 164 => 107 | n => n, fun | 1 => 0 | 3 => 1 | 4 => 2 | n => n⟩
theorem laysRepl : Go.Proofs.Lays.n155 Tryd.prog laysRepl_ren := { mixed := by kernel_rfl, f138 := Tryd.func62.trans (congrArg some (by kernel_rfl)), f143 := Tryd.func39.trans (congrArg some (by kernel_rfl)), f154 := Tryd.func41.trans (congrArg some (by kernel_rfl)), f155 := Tryd.func20.trans (congrArg some (by kernel_rfl)), f165 := Tryd.func44.trans (congrArg some (by kernel_rfl)), f166 := Tryd.func45.trans (congrArg some (by kernel_rfl)), f169 := Tryd.func47.trans (congrArg some (by kernel_rfl)), f195 := Tryd.func78.trans (congrArg some (by kernel_rfl)), f197 := Tryd.func63.trans (congrArg some (by kernel_rfl)), f217 := Tryd.func74.trans (congrArg some (by kernel_rfl)), f218 := Tryd.func79.trans (congrArg some (by kernel_rfl)), f219 := Tryd.func60.trans (congrArg some (by kernel_rfl)), f224 := Tryd.func76.trans (congrArg some (by kernel_rfl)), f225 := Tryd.func75.trans (congrArg some (by kernel_rfl)), f240 := Tryd.func67.trans (congrArg some (by kernel_rfl)), f241 := Tryd.func68.trans (congrArg some (by kernel_rfl)), f260 := Tryd.func80.trans (congrArg some (by kernel_rfl)), f266 := Tryd.func87.trans (congrArg some (by kernel_rfl)), f267 := Tryd.func77.trans (congrArg some (by kernel_rfl)), f276 := Tryd.func81.trans (congrArg some (by kernel_rfl)), f277 := Tryd.func82.trans (congrArg some (by kernel_rfl)), f314 := Tryd.func88.trans (congrArg some (by kernel_rfl)), t0 := Tryd.underlying0, a0 := Tryd.isAgg0, z0 := Tryd.sizeOf0, v0 := Tryd.zeroValue0, t3 := Tryd.underlying3, a3 := Tryd.isAgg3, z3 := Tryd.sizeOf3, v3 := Tryd.zeroValue3, t4 := Tryd.underlying4, a4 := Tryd.isAgg4, z4 := Tryd.sizeOf4, v4 := Tryd.zeroValue4, t5 := Tryd.underlying5, a5 := Tryd.isAgg5, z5 := Tryd.sizeOf5, v5 := Tryd.zeroValue5, t9 := Tryd.underlying9, a9 := Tryd.isAgg9, z9 := Tryd.sizeOf9, v9 := Tryd.zeroValue9, t20 := Tryd.underlying20, a20 := Tryd.isAgg20, z20 := Tryd.sizeOf20, v20 := Tryd.zeroValue20, t21 := Tryd.underlying21, a21 := Tryd.isAgg21, z21 := Tryd.sizeOf21, v21 := Tryd.zeroValue21, t37 := Tryd.underlying64, a37 := Tryd.isAgg64, z37 := Tryd.sizeOf64, v37 := Tryd.zeroValue64, t46 := Tryd.underlying65, a46 := Tryd.isAgg65, z46 := Tryd.sizeOf65, v46 := Tryd.zeroValue65, t51 := Tryd.underlying94, a51 := Tryd.isAgg94, z51 := Tryd.sizeOf94, v51 := Tryd.zeroValue94, t70 := Tryd.underlying72, a70 := Tryd.isAgg72, z70 := Tryd.sizeOf72, v70 := Tryd.zeroValue72, t72 := Tryd.underlying74, a72 := Tryd.isAgg74, z72 := Tryd.sizeOf74, v72 := Tryd.zeroValue74, t75 := Tryd.underlying77, a75 := Tryd.isAgg77, z75 := Tryd.sizeOf77, v75 := Tryd.zeroValue77, t76 := Tryd.underlying78, a76 := Tryd.isAgg78, z76 := Tryd.sizeOf78, v76 := Tryd.zeroValue78, t105 := Tryd.underlying92, a105 := Tryd.isAgg92, z105 := Tryd.sizeOf92, v105 := Tryd.zeroValue92, t119 := Tryd.underlying113, a119 := Tryd.isAgg113, z119 := Tryd.sizeOf113, t127 := Tryd.underlying100, a127 := Tryd.isAgg100, z127 := Tryd.sizeOf100, v127 := Tryd.zeroValue100, t138 := Tryd.underlying115, a138 := Tryd.isAgg115, z138 := Tryd.sizeOf115, v138 := Tryd.zeroValue115, t139 := Tryd.underlying116, a139 := Tryd.isAgg116, z139 := Tryd.sizeOf116, v139 := Tryd.zeroValue116, t146 := Tryd.underlying95, a146 := Tryd.isAgg95, z146 := Tryd.sizeOf95, v146 := Tryd.zeroValue95, t164 := Tryd.underlying107, a164 := Tryd.isAgg107, z164 := Tryd.sizeOf107, v164 := Tryd.zeroValue107, g1 := by kernel_rfl, g3 := by kernel_rfl, g4 := by kernel_rfl }
theorem replX : Builder.Extra Tryd.prog laysRepl_ren := { sizeBuilder := by kernel_rfl, liesBuilder := by kernel_rfl, t5 := Tryd.underlying5, a5 := Tryd.isAgg5, z5 := Tryd.sizeOf5, v5 := Tryd.zeroValue5, infoByte := by kernel_rfl, cellsByte := by kernel_rfl, sizeByte := by kernel_rfl, neB5 := by decide }

theorem sp_none : ∀ {l : BS}, (∀ c ∈ l, c ≠ 32) → index l [32] = -1
  | [], _ => rfl
  | c :: l, h => by
    have ih := sp_none (l := l) fun d hd => h d (by simp [hd])
    unfold index
    have hc : ([32] : BS).isPrefixOf (c :: l) = false := by
      simp only [List.isPrefixOf, Bool.and_true, beq_eq_false_iff_ne]
      exact fun e => h c (by simp) e.symm
    rw [hc, ih]; rfl
theorem sp_at : ∀ {a : BS} (b : BS), (∀ c ∈ a, c ≠ 32) → index (a ++ 32 :: b) [32] = a.length
  | [], b, _ => by
    unfold index
    simp [List.isPrefixOf]
  | c :: a, b, h => by
    have ih := sp_at (a := a) b fun d hd => h d (by simp [hd])
    rw [List.cons_append]
    unfold index
    have hc : ([32] : BS).isPrefixOf (c :: (a ++ 32 :: b)) = false := by
      simp only [List.isPrefixOf, Bool.and_true, beq_eq_false_iff_ne]
      exact fun e => h c (by simp) e.symm
    rw [hc, ih]
    have h2 : (((a.length : Nat) : Int) == -1) = false := by rw [beq_eq_false_iff_ne]; omega
    rw [h2]
    simp
theorem sp_split : ∀ (l : BS), (∀ c ∈ l, c ≠ 32) ∨ ∃ a b, l = a ++ 32 :: b ∧ ∀ c ∈ a, c ≠ 32
  | [] => .inl fun c h => by cases h
  | c :: l => by
    by_cases hc : c = 32
    · exact .inr ⟨[], l, by rw [hc]; rfl, fun d h => by cases h⟩
    · rcases sp_split l with h | ⟨a, b, rfl, h⟩
      · left
        intro d hd
        rcases List.mem_cons.1 hd with rfl | hd
        · exact hc
        · exact h d hd
      · right
        refine ⟨c :: a, b, rfl, fun d hd => ?_⟩
        rcases List.mem_cons.1 hd with rfl | hd
        · exact hc
        · exact h d hd
theorem replB_none : ∀ {l : BS} (t : BS), (∀ c ∈ l, c ≠ 32) → replB (l ++ t) = l ++ replB t
  | [], _, _ => rfl
  | c :: l, t, h => by
    rw [List.cons_append, replB, if_neg (h c (by simp)), replB_none t (fun d hd => h d (by simp [hd]))]
    rfl
theorem replK_eq : ∀ (n : Nat) (l : BS), l.length ≤ n → replaceK [32] [32, 32, 32] (count l [32]) l = replB l := by
  intro n
  induction n with
  | zero =>
    intro l hl
    have : l = [] := List.eq_nil_of_length_eq_zero (by omega)
    subst this
    rw [count_miss rfl]
    rfl
  | succ n ih =>
    intro l hl
    rcases sp_split l with h | ⟨a, b, rfl, h⟩
    · rw [count_miss (sp_none h)]
      have := replB_none [] h
      rw [List.append_nil] at this
      rw [this, replB, List.append_nil]; rfl
    · have hi := sp_at b h
      have hd : (a ++ 32 :: b).drop (a.length + ([32] : BS).length) = b := by
        rw [show ([32] : BS).length = 1 from rfl, ← List.drop_drop, List.drop_left' rfl]; rfl
      rw [count_hit (by simp) hi, hd, Nat.add_comm 1, replaceK_hit _ _ _ _ a.length hi, hd, ih b (by simp at hl; omega), List.take_left' rfl, replB_none _ h, replB, if_pos rfl]
      simp
theorem repl_all (l : BS) : replaceAll l [32] [32, 32, 32] = replB l := by
  unfold replaceAll replace
  rw [if_neg (by decide)]
  unfold replaceNum
  rw [if_pos (.inl (by decide))]
  exact replK_eq _ l (Nat.le_refl _)
theorem replaceP (w : World) (s : ByteArray) (hs : s.size ≤ 1000) (hm : Mx w) : Calls Tryd.prog 20 #[.string s, .string ⟨#[32]⟩, .string ⟨#[32, 32, 32]⟩] w fun e w' => e = .returned (.string ⟨(replB s.data.toList).toArray⟩) ∧ Below w.heap.size w w' := by
  obtain ⟨-, m, hm1⟩ := hm
  have hc := Lib.countB_mul_le ⟨#[32]⟩ (by decide) s.size s (Nat.le_refl _)
  have h1 : (⟨#[32]⟩ : ByteArray).size = 1 := rfl
  have h3 : (⟨#[32, 32, 32]⟩ : ByteArray).size = 3 := rfl
  rw [h1] at hc
  have h := Any.strings_ReplaceAll laysRepl replX s ⟨#[32]⟩ ⟨#[32, 32, 32]⟩ m w (by omega) hm1 (by decide) (by rw [h3]; omega)
  rw [show replaceAll s.data.toList (⟨#[32]⟩ : ByteArray).data.toList (⟨#[32, 32, 32]⟩ : ByteArray).data.toList = replB s.data.toList from repl_all _] at h
  exact h
theorem hasNl (l : BS) : decide (0 ≤ indexByte l 10) = true ∨ (decide (0 ≤ indexByte l 10) = false ∧ ∀ c ∈ l, c ≠ 10) := by
  by_cases h : 0 ≤ indexByte l 10
  · exact .inl (decide_eq_true h)
  · refine .inr ⟨decide_eq_false h, fun c hc he => ?_⟩
    have h1 : indexByte l 10 = -1 := by have := indexByte_ge l 10; omega
    obtain ⟨k, hk, rfl⟩ := List.getElem_of_mem hc
    exact indexByte_none h1 k (by rw [List.getElem?_eq_getElem hk, he])

theorem wideB_len (cm : BS) : ∀ l : List BS, (wideB cm l).length ≤ l.length * (cm.length + 11) + 3 * l.flatten.length
  | [] => by simp [wideB]
  | x :: r => by
    have h1 := wideB_len cm r
    have h2 := replB_len x
    simp only [wideB, List.length_append, List.length_cons, List.length_nil, List.flatten_cons, Nat.add_mul]
    omega
theorem take_flat (k : Nat) (l : List BS) : (l.take k).flatten.length ≤ l.flatten.length := by
  have h := congrArg (fun x => (List.flatten x).length) (List.take_append_drop k l)
  simp only [List.flatten_append, List.length_append] at h
  omega
theorem lines_flat : ∀ (l cur : BS), (linesG l cur).flatten.length ≤ l.length + cur.length
  | [], cur => by unfold linesG; simp
  | c :: t, cur => by
    unfold linesG
    split
    · have := lines_flat t []
      simp at this ⊢; omega
    · have := lines_flat t (cur ++ [c])
      simp at this ⊢; omega
theorem jumpsF_len (labs : List (BS × Nat)) : ∀ (l : List Ins) (i : Nat) (ls : List Int) (ts : List BS), (jumpsF labs i l ls ts).2.2.length ≤ l.length
  | [], _, _, _ => by simp [jumpsF]
  | x :: l, i, ls, ts => by
    have ih := jumpsF_len labs l (i + 1) ls.tail ts.tail
    unfold jumpsF
    dsimp only
    split
    · split
      · simp
      · split
        · simp
        · simp; exact ih
    · simp; exact ih
theorem lineF_len {no : Int} {ws : List BS} {st : St} (h : st.code.length ≤ 500) (h0 : (lineF no ws st).1 = 0) : (lineF no ws st).2.code.length ≤ 500 := by
  have hadd : ∀ (x : Ins) (t : BS), (st.add no x t).1 = 0 → (st.add no x t).2.code.length ≤ 500 := fun x t h0 => by
    unfold St.add at h0 ⊢
    by_cases h5 : st.code.length = 500
    · rw [if_pos h5] at h0; simp at h0
    · rw [if_neg h5]; simp; omega
  match ws with
  | [] => exact h
  | w :: r =>
    unfold lineF at h0 ⊢
    dsimp only at h0 ⊢
    by_cases c1 : w.head? = some 35
    · rw [if_pos c1]; exact h
    rw [if_neg c1] at h0 ⊢
    by_cases c2 : r = [] ∧ w.getLast? = some 58
    · rw [if_pos c2] at h0 ⊢
      by_cases c3 : labB w.dropLast = false
      · rw [if_pos c3] at h0; simp at h0
      rw [if_neg c3] at h0 ⊢
      by_cases c4 : (findL w.dropLast st.labs).isSome
      · rw [if_pos c4] at h0; simp at h0
      rw [if_neg c4]
      exact h
    rw [if_neg c2] at h0 ⊢
    by_cases c5 : opOf w = -1
    · rw [if_pos c5] at h0; simp at h0
    rw [if_neg c5] at h0 ⊢
    by_cases c6 : opOf w = 1
    · rw [if_pos c6] at h0 ⊢
      match r with
      | [] => simp at h0
      | _ :: _ :: _ => simp at h0
      | [a] =>
        dsimp only at h0 ⊢
        cases hn : numOf 1000000000 a with
        | none => rw [hn] at h0; simp at h0
        | some n =>
          rw [hn] at h0
          dsimp only at h0 ⊢
          by_cases c7 : n < -999999999 ∨ 999999999 < n
          · rw [if_pos c7] at h0; simp at h0
          rw [if_neg c7] at h0 ⊢
          exact hadd _ _ h0
    rw [if_neg c6] at h0 ⊢
    by_cases c8 : opOf w = 17 ∨ opOf w = 18
    · rw [if_pos c8] at h0 ⊢
      match r with
      | [] => simp at h0
      | _ :: _ :: _ => simp at h0
      | [a] =>
        dsimp only at h0 ⊢
        by_cases c9 : labB a = true
        · rw [if_pos c9] at h0 ⊢
          exact hadd _ _ h0
        · rw [if_neg c9] at h0; simp at h0
    rw [if_neg c8] at h0 ⊢
    by_cases c10 : r = []
    · rw [if_pos c10] at h0 ⊢
      exact hadd _ _ h0
    · rw [if_neg c10] at h0; simp at h0


theorem linesF_len : ∀ (r : List (List BS)) (k : Nat) (st : St), st.code.length ≤ 500 → (linesF k r st).1 = 0 → (linesF k r st).2.2.code.length ≤ 500
  | [], _, _, h, _ => h
  | ws :: r, k, st, h, h0 => by
    rw [linesF_cons] at h0 ⊢
    by_cases he : (lineF ((k : Int) + 1) ws st).1 = 0
    · rw [if_pos he] at h0 ⊢
      exact linesF_len r _ _ (lineF_len h he) h0
    · rw [if_neg he] at h0
      exact absurd h0 he
theorem asm_short (src : BS) : (asmF src).2.2.length ≤ 500 := by
  obtain ⟨e, no, st, h⟩ : ∃ e no st, linesF 0 ((linesB src).map wordsB) St.zero = (e, no, st) := ⟨_, _, _, rfl⟩
  by_cases he : e = 0
  · subst he
    have hl := linesF_len ((linesB src).map wordsB) 0 St.zero (by simp [St.zero]) (by rw [h])
    rw [h] at hl
    rw [asm_ok (no := no) h]
    split
    · exact Nat.le_trans (jumpsF_len _ _ _ _ _) hl
    · simp
  · rw [asm_err h he]; simp

theorem lineF_lines (no : Int) (ws : List BS) (st : St) : ∀ x ∈ (lineF no ws st).2.lines, x ∈ st.lines ∨ x = no := by
  have hadd : ∀ (y : Ins) (t : BS) x, x ∈ (st.add no y t).2.lines → x ∈ st.lines ∨ x = no := by
    intro y t x hx
    unfold St.add at hx
    split at hx
    · exact .inl hx
    · simpa using hx
  match ws with
  | [] => exact fun x hx => .inl hx
  | w :: r =>
    unfold lineF
    dsimp only
    intro x hx
    repeat' split at hx
    all_goals first | exact .inl hx | exact hadd _ _ x hx
theorem linesF_no (N : Int) : ∀ (r : List (List BS)) (k : Nat) (st : St), (k : Int) + r.length ≤ N → (∀ x ∈ st.lines, 0 ≤ x ∧ x ≤ N) → (0 ≤ (linesF k r st).2.1 ∧ (linesF k r st).2.1 ≤ N) ∧ ∀ x ∈ (linesF k r st).2.2.lines, 0 ≤ x ∧ x ≤ N
  | [], k, st, h, hl => ⟨⟨Int.le_refl _, by show (0 : Int) ≤ N; simp at h; omega⟩, hl⟩
  | ws :: r, k, st, h, hl => by
    rw [linesF_cons]
    simp only [List.length_cons] at h
    by_cases he : (lineF ((k : Int) + 1) ws st).1 = 0
    · rw [if_pos he]
      refine linesF_no N r (k + 1) _ (by omega) fun x hx => ?_
      rcases lineF_lines _ _ _ x hx with h1 | h1
      · exact hl x h1
      · omega
    · rw [if_neg he]
      exact ⟨⟨by dsimp only; omega, by dsimp only; omega⟩, hl⟩
theorem jumpsF_no (labs : List (BS × Nat)) (N : Int) (hN : 0 ≤ N) : ∀ (l : List Ins) (i : Nat) (ls : List Int) (ts : List BS), (∀ x ∈ ls, 0 ≤ x ∧ x ≤ N) → 0 ≤ (jumpsF labs i l ls ts).2.1 ∧ (jumpsF labs i l ls ts).2.1 ≤ N
  | [], _, _, _, _ => ⟨Int.le_refl _, hN⟩
  | x :: l, i, ls, ts, h => by
    have ih := jumpsF_no labs N hN l (i + 1) ls.tail ts.tail (fun y hy => h y (List.mem_of_mem_tail hy))
    have hh : 0 ≤ ls.headD 0 ∧ ls.headD 0 ≤ N := by
      match ls, h with
      | [], _ => exact ⟨Int.le_refl _, hN⟩
      | y :: _, h => exact h y (by simp)
    unfold jumpsF
    dsimp only
    split
    · split
      · exact hh
      · split
        · exact hh
        · exact ih
    · exact ih
theorem asm_no (src : BS) : 0 ≤ (asmF src).2.1 ∧ (asmF src).2.1 ≤ (linesB src).length := by
  obtain ⟨e, no, st, h⟩ : ∃ e no st, linesF 0 ((linesB src).map wordsB) St.zero = (e, no, st) := ⟨_, _, _, rfl⟩
  have hl := linesF_no (linesB src).length ((linesB src).map wordsB) 0 St.zero (by simp) (by simp [St.zero])
  rw [h] at hl
  dsimp only at hl
  by_cases he : e = 0
  · subst he
    rw [asm_ok (no := no) h]
    have hj := jumpsF_no st.labs (linesB src).length (by omega) st.code 0 st.lines st.tgts hl.2
    split
    · exact ⟨Int.le_refl _, by show (0 : Int) ≤ _; omega⟩
    · exact hj
  · rw [asm_err h he]; exact hl.1

set_option maxRecDepth 100000 in
set_option maxHeartbeats 2000000 in
theorem layoutLawP (w : World) (s cm : ByteArray) (hm : Mx w) : Calls Tryd.prog 6 #[.string s, .string cm] w fun e w' => e = .returned (.bool true) ∧ Below w.heap.size w w' := by
  have HA := hide (fun (W : World) (hb : Below w.heap.size w W) => awakeP W (hm.below hb))
  have hrf := Below.refl w.heap.size w
  have HA0 := hide (HA.out w hrf)
  have HCo := hide (Any.strings_Contains_one laysCont cm 10 w)
  by_cases hz : 1000 < s.size
  · have hq : decide ((1000 : Int) < (s.size : Int)) = true := decide_eq_true (by omega)
    clear HA hm hz HCo
    go_enter Tryd.func6, Tryd.ntmps6
    go_wp2_with (go_at_call 11; refine HA0.out.mono ?_; rintro e w1 ⟨rfl, hb1⟩)
    go_ret
    exact ⟨rfl, hb1⟩
  have hq : decide ((1000 : Int) < (s.size : Int)) = false := decide_eq_false (by omega)
  by_cases hz2 : 50 < cm.size
  · have hq2 : decide ((50 : Int) < (cm.size : Int)) = true := decide_eq_true (by omega)
    clear HA hm hz HCo hz2
    go_enter Tryd.func6, Tryd.ntmps6
    go_wp2_with (go_at_call 11; refine HA0.out.mono ?_; rintro e w1 ⟨rfl, hb1⟩)
    go_ret
    exact ⟨rfl, hb1⟩
  have hq2 : decide ((50 : Int) < (cm.size : Int)) = false := decide_eq_false (by omega)
  rcases hasNl cm.data.toList with hnl | ⟨hnl, hcm⟩
  · rw [hnl] at HCo
    clear HA hm hz hz2 hnl
    go_enter Tryd.func6, Tryd.ntmps6
    go_wp2_with (first
      | (go_at_call 18; refine HCo.out.mono ?_; rintro e w1 ⟨rfl, hw⟩; rw [hw]; clear hw)
      | (go_at_call 11; refine HA0.out.mono ?_; rintro e w1 ⟨rfl, hb1⟩)
      | fail)
    go_ret
    exact ⟨rfl, hb1⟩
  rw [hnl] at HCo
  have hs1 : s.size ≤ 1000 := by omega
  have hc1 : cm.size ≤ 50 := by omega
  obtain ⟨WS, hWS⟩ : ∃ l, linesB s.data.toList = l := ⟨_, rfl⟩
  obtain ⟨n, hn⟩ : ∃ n, WS.length = n := ⟨_, rfl⟩
  have hlb := lines_bd s.data.toList []
  have hfl := lines_flat s.data.toList []
  have hsl : s.data.toList.length = s.size := rfl
  have hcl : cm.data.toList.length = cm.size := rfl
  have Hlsz := hide (show ∀ x ∈ WS, x.length ≤ 1000 from fun x hx => by
    have := hlb.1 x (by rw [← hWS] at hx; exact hx)
    simp at this; omega)
  have hn2 : n ≤ 1001 := by
    have := hlb.2
    rw [← hn, ← hWS]
    show (linesG s.data.toList []).length ≤ _
    omega
  have Hwz := hide (fun k => (show (wideB cm.data.toList (WS.take k)).length ≤ 65000 by
    have h1 := wideB_len cm.data.toList (WS.take k)
    have h2 : (WS.take k).length ≤ 1001 := by rw [List.length_take]; omega
    have h3 : (WS.take k).flatten.length ≤ WS.flatten.length := take_flat k WS
    have h4 : WS.flatten.length ≤ 1000 := by rw [← hWS]; show (linesG s.data.toList []).flatten.length ≤ _; simp only [List.length_nil] at hfl; omega
    have h5 : (WS.take k).length * (cm.data.toList.length + 11) ≤ 1001 * 61 := Nat.mul_le_mul h2 (by omega)
    omega))
  have HSp := hide (splitQ w s (by omega) hm n (by rw [hWS]; exact hn))
  have Hasm := hide (asm_wide s.data.toList hcm)
  have hsh := asm_short s.data.toList
  have hno := asm_no s.data.toList
  obtain ⟨er, no, ins, hE⟩ : ∃ er no ins, asmF s.data.toList = (er, no, ins) := ⟨_, _, _, rfl⟩
  simp only [hWS] at HSp
  rw [hWS, hE] at Hasm
  rw [hE] at hsh hno
  dsimp only at Hasm hsh hno
  rw [hWS, hn] at hno
  obtain ⟨hno1, hno2⟩ := hno
  have hno3 : no ≤ 2000 := by omega
  clear hno2
  have H1 := hide (fun (W : World) (hb : Below w.heap.size w W) => asmK W s _ rfl (by omega) (hm.below hb) hE)
  have HRl := hide (fun (W : World) (hb : Below w.heap.size w W) (x : ByteArray) (hx : x.size ≤ 1000) => replaceP W x hx (hm.below hb))
  have HAk := hide (fun (W : World) (hb : Below w.heap.size w W) (x : ByteArray) (hx : x.data.toList = wideB cm.data.toList WS) => asmK W x _ hx (by have := Hwz.out n; rw [List.take_of_length_le (by omega)] at this; omega) (hm.below hb) Hasm.out)
  obtain ⟨NI, hNI⟩ : ∃ n, ins.length = n := ⟨_, rfl⟩
  have HS := hide (fun (W : World) (A A' : Option Addr) (c c' : Nat) (h : InsRow W W.heap.size A ins) (h' : InsRow W W.heap.size A' ins) => sameP W A A' c c' ins (by omega) h h')
  rw [hNI] at HS
  have HNI := hide hNI
  have Hn := hide hn
  have HWS := hide hWS
  clear hm hz hz2 hnl hcm hWS hn hlb hfl hsl hcl hE hsh hNI HA0
  go_enter Tryd.func6, Tryd.ntmps6
  go_wp2_with (first
    | (go_at_call 18; refine HCo.out.mono ?_; rintro e w1 ⟨rfl, hw⟩; rw [hw]; clear hw)
    | (go_at_call 19; (with_reducible refine HSp.out.mono ?_); rintro e w2 ⟨g, cs, rfl, -, hblk, hcs, hb2⟩)
    | fail)
  have Hcs := hide hcs
  clear hcs HSp HCo
  go_loopw [30, 5] (fun i wv wr => ∃ (k : Nat) (WB : ByteArray), k ≤ n ∧ i = .int .i64 k ∧ wv = .string WB ∧ WB.data.toList = wideB cm.data.toList (WS.take k) ∧ wr.heap[g]? = some (.cells cs 9) ∧ Below w.heap.size w wr) (fun i _ _ => n - (intOf i).toNat)
  case atStart => exact ⟨0, ⟨#[]⟩, Nat.zero_le _, rfl, rfl, rfl, hblk, hb2⟩
  case round =>
    clear hblk hb2
    obtain ⟨k, WB, hk, rfl, rfl, hwb, hblk, hbr⟩ := hrel
    rename World => wo
    have Hblk := hide hblk
    have HB := hide hbr
    have Hwb := hide hwb
    have hwz : WB.size ≤ 65000 := by have h1 := Hwz.out k; rw [← hwb] at h1; exact h1
    by_cases hlt : k < n
    · have hltI : (k : Int) < (n : Int) := by omega
      have hkW : k < WS.length := by rw [Hn.out]; exact hlt
      obtain ⟨x, hx⟩ : ∃ x, WS[k]? = some x := ⟨_, List.getElem?_eq_getElem hkW⟩
      have hc : wo.cell? ⟨g, k, none⟩ = some (strV x) := (cell_block hblk k).trans (Hcs.out k x hx)
      have hxz := Hlsz.out x (List.mem_of_getElem? hx)
      obtain ⟨sk, hsk⟩ : ∃ s : ByteArray, (⟨x.toArray⟩ : ByteArray) = s := ⟨_, rfl⟩
      have hskl : sk.data.toList = x := by rw [← hsk]
      unfold strV at hc
      rw [hsk] at hc
      have hskz : sk.size ≤ 1000 := by rw [← hskl] at hxz; exact hxz
      have hRp := HRl.out wo hbr sk hskz
      rw [hskl] at hRp
      obtain ⟨RP, hRP⟩ : ∃ s : ByteArray, (⟨(replB x).toArray⟩ : ByteArray) = s := ⟨_, rfl⟩
      have hRPl : RP.data.toList = replB x := by rw [← hRP]
      have hRPz : RP.size ≤ 3000 := by
        have h1 : RP.size = (replB x).length := by rw [← hRPl]; rfl
        have := replB_len x
        omega
      rw [hRP] at hRp
      have HRp := hide hRp
      have Htk := hide (show wideB cm.data.toList (WS.take (k + 1)) = WB.data.toList ++ [32, 32, 35, 32] ++ cm.data.toList ++ [10, 32, 32, 32] ++ RP.data.toList ++ [32, 32, 10] by
        have h1 : WS.take (k + 1) = WS.take k ++ [x] := by
          rw [List.take_succ_eq_append_getElem hkW]
          congr 2
          rw [List.getElem?_eq_getElem hkW] at hx
          exact Option.some.inj hx
        rw [h1, wideB_snoc, hRPl, hwb])
      have zz : WB.size + 4 + cm.size + 4 + RP.size + 3 ≤ 9223372036854775807 := by omega
      clear hx hsk hskl hRp hRP hRPl hwb hblk hbr
      go_wp2_with (first
        | (go_at_call 20; (with_reducible refine HRp.out.mono ?_); rintro e w3 ⟨rfl, hb3⟩; have Hb3 := hide hb3; clear hb3)
        | fail)
      go_roundw
      case rel => exact ⟨k + 1, _, by omega, by go_num, rfl, by rw [Htk.out]; simp, (Hb3.out.block _ (block_lt Hblk.out)).trans Hblk.out, HB.out.trans (Hb3.out.mono HB.out.size)⟩
      case measure => simp [intOf]; omega
    · obtain rfl : k = n := by omega
      rw [List.take_of_length_le (by rw [Hn.out]; exact Nat.le_refl _)] at hwb
      have H2 := hide (fun (W : World) (hb : Below w.heap.size w W) => HAk.out W hb WB hwb)
      clear hwb hblk hbr Hblk
      go_wp2_with (first
        | (go_at_call 12; (with_reducible refine (H2.out _ Hb4.out).mono ?_); rintro e w5 ⟨v5, rfl, hown5, hb5⟩; obtain ⟨A5, c5, rfl, -, hr5⟩ := InsRow.of_own hown5; rw [HNI.out]; have Hr5 := hide hr5; have Hb5 := hide hb5; clear hown5 hr5 hb5)
        | (go_at_call 12; (with_reducible refine (H1.out _ HB.out).mono ?_); rintro e w4 ⟨v4, rfl, hown4, hb4⟩; obtain ⟨A4, c4, rfl, -, hr4⟩ := InsRow.of_own hown4; rw [HNI.out]; have Hr4 := hide hr4; have Hb4 := hide (HB.out.trans (hb4.mono HB.out.size)); clear hown4 hr4 hb4)
        | (go_at_call 14; (with_reducible refine (HS.out w5 A4 A5 c4 c5 ((Hr4.out.below (InsAt.stays _) Hb5.out).more Hb5.out.size) Hr5.out).mono ?_); rintro e w6 ⟨rfl, hb6⟩; have Hb6 := hide ((Hb4.out.trans (Hb5.out.mono Hb4.out.size)).trans (hb6.mono (Nat.le_trans Hb4.out.size Hb5.out.size))); clear hb6)
        | (go_at_call 11; refine (HA.out _ Hb6.out).mono ?_; rintro e w7 ⟨rfl, hb7⟩)
        | fail)
      go_ret
      exact ⟨rfl, Hb6.out.trans (hb7.mono Hb6.out.size)⟩
end Go.Proofs.YtonnjokjbknngaaDoor
