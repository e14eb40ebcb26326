/- Words of a row, in plain words. -/
import Derived.Test.YtdkppdjonlldhaaGreatDoorK1
import Derived.Lib.IndexMore
namespace Go.Proofs.YtdkppdjonlldhaaGreatDoor

def letterB (c : UInt8) : Bool := ((((decide (128 ≤ c.toNat) || c == 95) || (decide (48 ≤ c.toNat) && decide (c.toNat ≤ 57))) || (decide (65 ≤ c.toNat) && decide (c.toNat ≤ 90))) || (decide (97 ≤ c.toNat) && decide (c.toNat ≤ 122)))
/-- The kind of a text: 0 blank, 1 letter, 2 sign. -/
def kindT (t : ByteArray) : Nat := match t.data.toList with
  | [] => 0
  | c :: r => if c = 32 ∧ r = [] then 0 else if letterB c then 1 else 2
def kindAt (l : List Gl) (k : Nat) : Nat := match l[k]? with | some g => kindT g.text | none => 0
def wordStep (kd : Nat → Nat) (ws : List (Nat × Nat)) (k : Nat) : List (Nat × Nat) :=
  if kd k = 0 then ws else if 0 < k ∧ kd (k - 1) = kd k then (match ws.getLast? with | some p => ws.dropLast ++ [(p.1, k + 1)] | none => ws) else ws ++ [(k, k + 1)]
/-- The words of the first n glyphs. -/
def wordsTo (kd : Nat → Nat) : Nat → List (Nat × Nat)
  | 0 => []
  | n + 1 => wordStep kd (wordsTo kd n) n
theorem word_blank {kd : Nat → Nat} {ws : List (Nat × Nat)} {k : Nat} (h : kd k = 0) : wordStep kd ws k = ws := by unfold wordStep; rw [if_pos h]
theorem word_on {kd : Nat → Nat} {qs : List (Nat × Nat)} {a e k : Nat} (h : kd k ≠ 0) (h0 : 0 < k) (h1 : kd (k - 1) = kd k) : wordStep kd (qs ++ [(a, e)]) k = qs ++ [(a, k + 1)] := by
  unfold wordStep; rw [if_neg h, if_pos ⟨h0, h1⟩]; simp
theorem word_new {kd : Nat → Nat} {ws : List (Nat × Nat)} {k : Nat} (h : kd k ≠ 0) (h1 : k = 0 ∨ kd (k - 1) ≠ kd k) : wordStep kd ws k = ws ++ [(k, k + 1)] := by
  unfold wordStep; rw [if_neg h, if_neg (by omega)]
theorem words_last (kd : Nat → Nat) : ∀ n, kd n ≠ 0 → ∃ qs a, wordsTo kd (n + 1) = qs ++ [(a, n + 1)] ∧ a ≤ n
  | 0, h => ⟨[], 0, by show wordStep kd [] 0 = _; rw [word_new h (.inl rfl)], Nat.le_refl _⟩
  | n + 1, h => by
    show ∃ qs a, wordStep kd (wordsTo kd (n + 1)) (n + 1) = _ ∧ _
    by_cases h1 : kd n = kd (n + 1)
    · obtain ⟨qs, a, hq, ha⟩ := words_last kd n (by omega)
      exact ⟨qs, a, by rw [hq, word_on h (by omega) h1], by omega⟩
    · exact ⟨_, n + 1, word_new h (.inr h1), Nat.le_refl _⟩
theorem words_bd (kd : Nat → Nat) : ∀ n, (wordsTo kd n).length ≤ n ∧ ∀ p ∈ wordsTo kd n, p.1 < p.2 ∧ p.2 ≤ n
  | 0 => ⟨Nat.le_refl _, fun p hp => by cases hp⟩
  | n + 1 => by
    obtain ⟨h1, h2⟩ := words_bd kd n
    by_cases hk : kd n = 0
    · rw [wordsTo, word_blank hk]; exact ⟨by omega, fun p hp => by have := h2 p hp; omega⟩
    · by_cases hc : 0 < n ∧ kd (n - 1) = kd n
      · obtain ⟨m, rfl⟩ : ∃ m, n = m + 1 := ⟨n - 1, by omega⟩
        obtain ⟨qs, a, hq, ha⟩ := words_last kd m (by have := hc.2; simp at this; omega)
        rw [wordsTo, hq, word_on hk hc.1 hc.2]
        rw [hq] at h1 h2
        refine ⟨by simp at h1 ⊢; omega, fun p hp => ?_⟩
        rcases List.mem_append.1 hp with hp | hp
        · have := h2 p (by simp [hp]); omega
        · simp at hp; subst hp; simp; omega
      · rw [wordsTo, word_new hk (by omega)]
        refine ⟨by simp; omega, fun p hp => ?_⟩
        rcases List.mem_append.1 hp with hp | hp
        · have := h2 p hp; omega
        · simp at hp; subst hp; simp
/-- A span of one kind. -/
theorem words_span (kd : Nat → Nat) (a : Nat) (h0 : a = 0 ∨ kd (a - 1) ≠ kd a) : ∀ d, (∀ j, a < j → j ≤ a + d → kd j = kd (j - 1)) →
    wordsTo kd (a + d + 1) = wordsTo kd a ++ (if kd a = 0 then [] else [(a, a + d + 1)])
  | 0, _ => by
    show wordStep kd (wordsTo kd a) a = _
    by_cases hk : kd a = 0
    · rw [word_blank hk, if_pos hk, List.append_nil]
    · rw [word_new hk h0, if_neg hk]
  | d + 1, h => by
    have ih := words_span kd a h0 d fun j h1 h2 => h j h1 (by omega)
    have hall : ∀ e, e ≤ d + 1 → kd (a + e) = kd a := by
      intro e
      induction e with
      | zero => intro _; rfl
      | succ e ih2 => intro he; rw [← ih2 (by omega)]; exact h (a + (e + 1)) (by omega) (by omega)
    have hd := hall (d + 1) (by omega)
    show wordStep kd (wordsTo kd (a + (d + 1))) (a + (d + 1)) = _
    rw [show a + (d + 1) = a + d + 1 by omega, ih]
    rw [show a + (d + 1) = a + d + 1 by omega] at hd
    by_cases hk : kd a = 0
    · rw [word_blank (by omega), if_pos hk, if_pos hk]
    · rw [if_neg hk, if_neg hk, word_on (by omega) (by omega) (by rw [hd]; exact hall d (by omega))]
/-- The word at an index. -/
def wordAt (kd : Nat → Nat) (n i : Nat) : Option (Nat × Nat) := (wordsTo kd n).find? fun p => decide (p.1 ≤ i) && decide (i < p.2)
theorem word_has (kd : Nat → Nat) : ∀ (n i : Nat), i < n → kd i ≠ 0 → ∃ p ∈ wordsTo kd n, p.1 ≤ i ∧ i < p.2
  | n + 1, i, hi, hk => by
    by_cases he : i = n
    · subst he
      obtain ⟨qs, a, hq, ha⟩ := words_last kd i hk
      exact ⟨(a, i + 1), by rw [hq]; simp, ha, Nat.lt_succ_self _⟩
    · obtain ⟨p, hp, h1, h2⟩ := word_has kd n i (by omega) hk
      by_cases hkn : kd n = 0
      · exact ⟨p, by rw [wordsTo, word_blank hkn]; exact hp, h1, h2⟩
      · by_cases hc : 0 < n ∧ kd (n - 1) = kd n
        · obtain ⟨m, rfl⟩ : ∃ m, n = m + 1 := ⟨n - 1, by omega⟩
          obtain ⟨qs, a, hq, ha⟩ := words_last kd m (by have := hc.2; simp at this; omega)
          rw [wordsTo, hq, word_on hkn hc.1 hc.2]
          rw [hq] at hp
          rcases List.mem_append.1 hp with hp | hp
          · exact ⟨p, by simp [hp], h1, h2⟩
          · simp at hp
            subst hp
            exact ⟨(a, m + 1 + 1), by simp, h1, by simp at h2 ⊢; omega⟩
        · exact ⟨p, by rw [wordsTo, word_new hkn (by omega)]; simp [hp], h1, h2⟩
theorem wordAt_none {kd : Nat → Nat} {n i : Nat} (h : wordAt kd n i = none) : n ≤ i ∨ kd i = 0 := by
  by_cases h1 : n ≤ i
  · exact .inl h1
  · right
    by_cases hk : kd i = 0
    · exact hk
    · obtain ⟨p, hp, h2, h3⟩ := word_has kd n i (by omega) hk
      unfold wordAt at h
      rw [List.find?_eq_none] at h
      exact absurd (by simp; omega) (h p hp)
theorem wordAt_some {kd : Nat → Nat} {n i : Nat} {p : Nat × Nat} (h : wordAt kd n i = some p) : p.1 ≤ i ∧ i < p.2 ∧ p.2 ≤ n := by
  unfold wordAt at h
  have h1 := List.find?_some h
  have h2 := (words_bd kd n).2 p (List.mem_of_find?_eq_some h)
  simp at h1
  omega

def partB (l : List Gl) (a b : Nat) : ByteArray := textB ((l.take b).drop a)
def wordE (v : Vw) (r c : Int) : Int :=
  if v.err ≠ 0 then v.err else if posB v r c = false then 2 else match wordAt (kindAt (rowOf v r.toNat)) (rowOf v r.toNat).length (cidx (rowOf v r.toNat) c) with | some _ => 0 | none => 8
def wordT (v : Vw) (r c : Int) : ByteArray :=
  if v.err ≠ 0 then ⟨#[]⟩ else if posB v r c = false then ⟨#[]⟩ else match wordAt (kindAt (rowOf v r.toNat)) (rowOf v r.toNat).length (cidx (rowOf v r.toNat) c) with | some p => partB (rowOf v r.toNat) p.1 p.2 | none => ⟨#[]⟩

/-- A part is contained. -/
theorem contains_of {a b c : List UInt8} : Lib.contains (a ++ b ++ c) b = true := by
  unfold Lib.contains
  rw [decide_eq_true_iff]
  rcases Lib.index_spec (a ++ b ++ c) b with ⟨_, h2⟩ | ⟨i, h1, _⟩
  · have := h2 a.length (by simp)
    unfold Lib.occAt at this
    rw [List.append_assoc, List.drop_left] at this
    have h3 : b.isPrefixOf (b ++ c) = true := List.isPrefixOf_iff_prefix.2 ⟨c, rfl⟩
    rw [h3] at this
    cases this
  · omega
theorem part_contains (l : List Gl) (i : Nat) (g : Gl) (h : l[i]? = some g) : ∃ a c, textB l = a ++ g.text ++ c := by
  obtain ⟨hi, rfl⟩ := List.getElem?_eq_some_iff.1 h
  refine ⟨textB (l.take i), textB (l.drop (i + 1)), ?_⟩
  have e : l = l.take i ++ (l[i] :: l.drop (i + 1)) := by rw [← List.drop_eq_getElem_cons hi, List.take_append_drop]
  conv => lhs; rw [e]
  rw [textB_app, textB_cons, ba_assoc]
theorem part_in (l : List Gl) (a b : Nat) (h : a ≤ b) : ∃ x z, textB l = x ++ partB l a b ++ z := by
  refine ⟨textB (l.take a), textB (l.drop b), ?_⟩
  unfold partB
  rw [textB_part l a b h, ← textB_app, List.take_append_drop]
theorem word_contains (l : List Gl) (a b i : Nat) (g : Gl) (h : l[i]? = some g) (h1 : a ≤ i) (h2 : i < b) : ∃ x z, partB l a b = x ++ g.text ++ z := by
  unfold partB
  refine part_contains _ (i - a) g ?_
  rw [List.getElem?_drop, List.getElem?_take, if_pos (by omega), show a + (i - a) = i by omega, h]
end Go.Proofs.YtdkppdjonlldhaaGreatDoor
