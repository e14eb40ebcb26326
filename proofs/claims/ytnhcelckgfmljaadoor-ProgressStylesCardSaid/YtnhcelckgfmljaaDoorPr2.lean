/- Progress indicators, in plain words: what the laws say of strings. -/
import Derived.Test.YtnhcelckgfmljaaDoorPr1
namespace Go.Proofs.YtnhcelckgfmljaaDoor

/-- pcAt depends on the bytes from i-1 to the run's end alone. -/
theorem dn_same {l l' : List UInt8} {i i' : Nat} (hl' : i' + dn l i ≤ l'.length) (h : ∀ j, j ≤ dn l i → l'[i' + j]? = l[i + j]?) : dn l' i' = dn l i := by
  refine dn_eq l' i' _ (dn_le l i).1 hl' (fun j c hj hc => ?_) (fun h4 c hc => ?_)
  · rw [h j (by omega)] at hc; exact dn_dig l i j c hj hc
  · rw [h _ (Nat.le_refl _)] at hc; exact dn_stop l i c h4 hc
theorem dv_same {l l' : List UInt8} {i i' : Nat} : ∀ k, (∀ j, j < k → l'[i' + j]? = l[i + j]?) → dv l' i' k = dv l i k
  | 0, _ => rfl
  | k + 1, h => by simp only [dv]; rw [dv_same k fun j hj => h j (by omega), h k (by omega)]
theorem pcAt_same {l l' : List UInt8} {i i' : Nat} (hl' : i' + dn l i ≤ l'.length) (h : ∀ j, j ≤ dn l i → l'[i' + j]? = l[i + j]?) (hs : startB l' i' = startB l i) :
    pcAt l' i' = (pcAt l i).map fun x => (i', i' + dn l i + 1, x.2.2) := by
  unfold pcAt
  rw [hs, dn_same hl' h, dv_same _ fun j hj => h j (by omega), h _ (Nat.le_refl _)]
  split <;> rfl
theorem startB_get {l : List UInt8} {i : Nat} (h : startB l i = true) : ∃ c, l[i]? = some c ∧ isDig c = true ∧ (0 < i → ∀ d, l[i - 1]? = some d → isDig d = false) := by
  unfold startB at h
  cases hc : l[i]? with
  | none => rw [hc] at h; cases h
  | some c =>
    rw [hc] at h
    simp only [Bool.and_eq_true, Bool.not_eq_true', Bool.and_eq_false_iff, decide_eq_false_iff_not] at h
    refine ⟨c, rfl, h.1, fun h0 d hd => ?_⟩
    rcases h.2 with h' | h'
    · omega
    · rw [hd] at h'; exact h'
theorem startB_no {l : List UInt8} {i : Nat} (h : startB l i = false) : pcAt l i = none := by
  unfold pcAt; rw [if_neg (by rw [h]; simp)]
theorem startB_same {l l' : List UInt8} {i i' : Nat} (h : l'[i']? = l[i]?) (h0 : (decide (0 < i') && isDig (l'[i' - 1]?.getD 0)) = (decide (0 < i) && isDig (l[i - 1]?.getD 0))) : startB l' i' = startB l i := by
  unfold startB; rw [h, h0]
/-- No run of digits that begins before a start reaches it. -/
theorem run_ends {l : List UInt8} {i j : Nat} (h : startB l i = true) (hj : j < i) : j + dn l j < i := by
  obtain ⟨c, hc, -, hn⟩ := startB_get h
  rcases Nat.lt_or_ge (j + dn l j) i with h1 | h1
  · exact h1
  · have hi := (List.getElem?_eq_some_iff.1 hc).1
    have he : l[i - 1]? = some l[i - 1] := List.getElem?_eq_getElem (by omega)
    have := dn_dig l j (i - 1 - j) l[i - 1] (by omega) (by rw [show j + (i - 1 - j) = i - 1 by omega]; exact he)
    rw [hn (by omega) _ he] at this
    cases this

/-- Text behind a string changes nothing of its percentage. -/
theorem percF_more (a b : List UInt8) {r : Nat × Nat × Nat} (h : percF a = some r) : percF (a ++ b) = some r := by
  obtain ⟨i, hi, h1, h2⟩ := firstOf _ _ h
  have hst : startB a i = true := by
    cases hs : startB a i with
    | true => rfl
    | false => rw [startB_no hs] at h1; cases h1
  have hend : i + dn a i < a.length := by
    unfold pcAt at h1
    split at h1
    · rename_i hc; exact (List.getElem?_eq_some_iff.1 hc.2.2.1).1
    · cases h1
  have key : ∀ j, j ≤ i → pcAt (a ++ b) j = pcAt a j := by
    intro j hj
    have hje : j + dn a j < a.length := by
      rcases Nat.lt_or_ge j i with h' | h'
      · have := run_ends hst h'; omega
      · have : j = i := by omega
        subst this; exact hend
    rw [pcAt_same (l := a) (l' := a ++ b) (i := j) (i' := j) (by rw [List.length_append]; omega) (fun k hk => by rw [List.getElem?_append_left (by omega)])
      (startB_same (by rw [List.getElem?_append_left (by omega)]) (by rw [List.getElem?_append_left (by omega)]))]
    unfold pcAt
    split <;> rfl
  exact firstAt _ _ i (by rw [List.length_append]; omega) (fun j hj => by rw [key j (by omega)]; exact h2 j hj) (by rw [key i (Nat.le_refl _)]; exact h1)

theorem barGo_more : ∀ (l b : List UInt8) (st full n : Nat) (r : Nat × Nat), barGo l st full n = some r → barGo (l ++ b) st full n = some r
  | [], _, _, _, _, _, h => by simp [barGo] at h
  | c :: t, b, st, full, n, r, h => by
    rw [List.cons_append]
    rw [barGo] at h ⊢
    by_cases h1 : c = 93
    · rw [if_pos h1] at h ⊢; exact h
    · rw [if_neg h1] at h ⊢
      by_cases h2 : (c = 35 ∨ c = 61) ∧ st = 0
      · rw [if_pos h2] at h ⊢; exact barGo_more t b _ _ _ _ h
      · rw [if_neg h2] at h ⊢
        by_cases h3 : c = 62 ∧ st = 0
        · rw [if_pos h3] at h ⊢; exact barGo_more t b _ _ _ _ h
        · rw [if_neg h3] at h ⊢
          by_cases h4 : c = 32 ∨ c = 46 ∨ c = 45
          · rw [if_pos h4] at h ⊢; exact barGo_more t b _ _ _ _ h
          · rw [if_neg h4] at h; cases h
/-- A bracket further on decides: what comes behind does not matter. -/
theorem barGo_open : ∀ (l b : List UInt8) (st full n : Nat), (91 : UInt8) ∈ l → barGo (l ++ b) st full n = barGo l st full n
  | [], _, _, _, _, h => by cases h
  | c :: t, b, st, full, n, h => by
    rw [List.cons_append, barGo, barGo]
    by_cases h0 : c = 91
    · subst h0; simp
    · have ht : (91 : UInt8) ∈ t := by
        rcases List.mem_cons.1 h with h | h
        · exact absurd h.symm h0
        · exact h
      rw [barGo_open t b _ _ _ ht, barGo_open t b _ _ _ ht, barGo_open t b _ _ _ ht]
theorem barF_more (a b : List UInt8) {r : Nat × Nat × Nat × Nat} (h : barF a = some r) : barF (a ++ b) = some r := by
  obtain ⟨i, hi, h1, h2⟩ := firstOf _ _ h
  have hb : a[i]? = some 91 := by
    unfold barAt at h1
    split at h1
    · assumption
    · cases h1
  refine firstAt _ _ i (by rw [List.length_append]; omega) (fun j hj => ?_) ?_
  · have := h2 j hj
    unfold barAt at this ⊢
    rw [List.getElem?_append_left (by omega), List.drop_append_of_le_length (by omega)]
    rw [barGo_open (a.drop (j + 1)) b _ _ _ (List.mem_of_getElem? (i := i - (j + 1)) (by rw [List.getElem?_drop, show j + 1 + (i - (j + 1)) = i by omega]; exact hb))]
    exact this
  · unfold barAt at h1 ⊢
    rw [if_pos hb] at h1
    rw [List.getElem?_append_left (by omega), if_pos hb, List.drop_append_of_le_length (by omega)]
    cases hg : barGo (a.drop (i + 1)) 0 0 0 with
    | none => rw [hg] at h1; cases h1
    | some x => rw [hg] at h1; rw [barGo_more _ _ _ _ _ _ hg]; exact h1

/-! Numbers. -/
def digC (k : Nat) : UInt8 := UInt8.ofNat (48 + k)
def decL (n : Nat) : List UInt8 :=
  if 100 ≤ n then [49, 48, 48] else if 10 ≤ n then [digC (n / 10), digC (n % 10)] else [digC n]
theorem decL_len (n : Nat) : 1 ≤ (decL n).length ∧ (decL n).length ≤ 3 := by 
  unfold decL; split
  · simp
  · split <;> simp
theorem decL_dig (n : Nat) (h : n ≤ 100) : ∀ c ∈ decL n, isDig c = true := by
  have : ∀ k, k < 10 → isDig (digC k) = true := by decide
  intro c hc
  unfold decL at hc
  split at hc
  · simp at hc; rcases hc with rfl | rfl <;> decide
  · split at hc
    · simp at hc; rcases hc with rfl | rfl <;> exact this _ (by omega)
    · simp at hc; subst hc; exact this _ (by omega)
theorem decL_val (l : List UInt8) (i n : Nat) (h : n ≤ 100) (hl : ∀ j, j < (decL n).length → l[i + j]? = (decL n)[j]?) : dv l i (decL n).length = n := by
  have hb : ∀ k, k < 10 → (digC k).toNat = 48 + k := by decide
  have hs : dv l i (decL n).length = dv (decL n) 0 (decL n).length := dv_same (l := decL n) (i := 0) _ fun j hj => by rw [hl j hj, Nat.zero_add]
  rw [hs]
  unfold decL
  split
  · have : n = 100 := by omega
    subst this; decide
  · split
    · simp [dv]
      have e1 := hb (n / 10) (by omega)
      have e2 := hb (n % 10) (by omega)
      rw [e1, e2]; omega
    · simp [dv]
      have e1 := hb n (by omega)
      rw [e1]; omega
def plainP (c : UInt8) : Bool := !(isDig c) && !(c == 37)
theorem no_perc (l : List UInt8) (h : ∀ c ∈ l, isDig c = false) : percF l = none :=
  firstNo _ _ fun j hj => startB_no (by
    cases hs : startB l j with
    | false => rfl
    | true =>
      obtain ⟨c, hc, hd, -⟩ := startB_get hs
      rw [h c (List.mem_of_getElem? hc)] at hd
      cases hd)
theorem perc_num (a b : List UInt8) (n : Nat) (h : n ≤ 100) (ha : ∀ c ∈ a, isDig c = false) : percF (a ++ decL n ++ [37] ++ b) = some (a.length, a.length + (decL n).length + 1, n) := by
  obtain ⟨k1, k3⟩ := decL_len n
  have hget : ∀ j, j < (decL n).length → (a ++ decL n ++ [37] ++ b)[a.length + j]? = (decL n)[j]? := fun j hj => by
    rw [List.append_assoc, List.append_assoc, List.getElem?_append_right (by omega), List.getElem?_append_left (by omega)]
    congr 1; omega
  have hpc : (a ++ decL n ++ [37] ++ b)[a.length + (decL n).length]? = some 37 := by
    rw [List.append_assoc, List.append_assoc, List.getElem?_append_right (by omega), List.getElem?_append_right (by omega)]
    rw [show a.length + (decL n).length - a.length - (decL n).length = 0 by omega]; rfl
  have hlen : (a ++ decL n ++ [37] ++ b).length = a.length + (decL n).length + 1 + b.length := by simp; omega
  have hdn : dn (a ++ decL n ++ [37] ++ b) a.length = (decL n).length := by
    refine dn_eq _ _ _ (by omega) (by omega) (fun j c hj hc => ?_) (fun _ c hc => ?_)
    · rw [hget j hj] at hc; exact decL_dig n h c (List.mem_of_getElem? hc)
    · rw [hpc] at hc; cases hc; decide
  have hprev : ∀ j, j < a.length → (a ++ decL n ++ [37] ++ b)[j]? = a[j]? := fun j hj => by
    rw [List.append_assoc, List.append_assoc, List.getElem?_append_left hj]
  refine firstAt _ _ a.length (by omega) (fun j hj => startB_no ?_) ?_
  · unfold startB
    rw [hprev j hj, List.getElem?_eq_getElem hj]
    simp only
    rw [ha _ (List.getElem_mem hj)]; rfl
  · have hv := decL_val _ a.length n h hget
    have hst : startB (a ++ decL n ++ [37] ++ b) a.length = true := by
      unfold startB
      have h0 := hget 0 (by omega)
      rw [Nat.add_zero] at h0
      rw [h0, List.getElem?_eq_getElem (by omega)]
      simp only
      rw [decL_dig n h _ (List.getElem_mem _), Bool.true_and]
      by_cases ha0 : 0 < a.length
      · rw [hprev _ (by omega), List.getElem?_eq_getElem (show a.length - 1 < a.length by omega)]
        simp only [Option.getD_some]
        rw [ha _ (List.getElem_mem _)]; simp
      · simp [ha0]
    unfold pcAt
    rw [hdn, hv, if_pos ⟨hst, k3, hpc, h⟩]

/-! Bars. -/
theorem barGo_full : ∀ (f : List UInt8) (r : List UInt8) (full n : Nat), (∀ c ∈ f, c = 35 ∨ c = 61) → barGo (f ++ r) 0 full n = barGo r 0 (full + f.length) (n + f.length)
  | [], _, _, _, _ => rfl
  | c :: f, r, full, n, h => by
    have hc := h c (List.mem_cons_self ..)
    rw [List.cons_append, barGo, if_neg (by rcases hc with rfl | rfl <;> decide), if_pos ⟨hc, rfl⟩, barGo_full f r _ _ fun d hd => h d (List.mem_cons_of_mem _ hd)]
    simp only [List.length_cons]; congr 1 <;> omega
theorem barGo_free : ∀ (f : List UInt8) (r : List UInt8) (st full n : Nat), (∀ c ∈ f, c = 32 ∨ c = 46 ∨ c = 45) → ∃ st', barGo (f ++ r) st full n = barGo r st' full (n + f.length)
  | [], _, st, _, _, _ => ⟨st, rfl⟩
  | c :: f, r, st, full, n, h => by
    have hc := h c (List.mem_cons_self ..)
    obtain ⟨st', e⟩ := barGo_free f r 2 full (n + 1) fun d hd => h d (List.mem_cons_of_mem _ hd)
    refine ⟨st', ?_⟩
    rw [List.cons_append, barGo, if_neg (by rcases hc with rfl | rfl | rfl <;> decide), if_neg (by rcases hc with rfl | rfl | rfl <;> simp), if_neg (by rcases hc with rfl | rfl | rfl <;> simp), if_pos hc, e]
    simp only [List.length_cons]; congr 1; omega
theorem barGo_bar (f e : List UInt8) (arrow : Bool) (hf : ∀ c ∈ f, c = 35 ∨ c = 61) (he : ∀ c ∈ e, c = 32 ∨ c = 46 ∨ c = 45) (r : List UInt8) :
    barGo (f ++ ((if arrow then [62] else []) ++ (e ++ 93 :: r))) 0 0 0 = if 3 ≤ f.length + (if arrow then 1 else 0) + e.length then some (f.length + (if arrow then 1 else 0), f.length + (if arrow then 1 else 0) + e.length) else none := by
  rw [barGo_full f _ _ _ hf]
  cases arrow with
  | true =>
    obtain ⟨st, h⟩ := barGo_free e (93 :: r) 1 (0 + f.length + 1) (0 + f.length + 1) he
    simp only [if_true, List.cons_append, List.nil_append]
    rw [barGo, if_neg (by decide), if_neg (by decide), if_pos (by decide), h, barGo, if_pos rfl, Nat.zero_add]
  | false =>
    obtain ⟨st, h⟩ := barGo_free e (93 :: r) 0 (0 + f.length) (0 + f.length) he
    simp only [Bool.false_eq_true, if_false, List.nil_append]
    rw [h, barGo, if_pos rfl, Nat.zero_add, Nat.add_zero]
theorem barF_bar (a f e : List UInt8) (arrow : Bool) (ha : ∀ c ∈ a, c ≠ 91) (hf : ∀ c ∈ f, c = 35 ∨ c = 61) (he : ∀ c ∈ e, c = 32 ∨ c = 46 ∨ c = 45) :
    barF (a ++ 91 :: (f ++ ((if arrow then [62] else []) ++ (e ++ [93])))) = if 3 ≤ f.length + (if arrow then 1 else 0) + e.length then some (a.length, a.length + (f.length + (if arrow then 1 else 0) + e.length) + 2, f.length + (if arrow then 1 else 0), f.length + (if arrow then 1 else 0) + e.length) else none := by
  have hrest : ∀ c ∈ f ++ ((if arrow then [62] else []) ++ (e ++ [93])), c ≠ (91 : UInt8) := by
    intro c hc
    simp only [List.mem_append, List.mem_singleton] at hc
    rcases hc with hc | hc | hc | hc
    · rcases hf c hc with rfl | rfl <;> decide
    · cases arrow <;> simp at hc; subst hc; decide
    · rcases he c hc with rfl | rfl | rfl <;> decide
    · subst hc; decide
  have hat : barAt (a ++ 91 :: (f ++ ((if arrow then [62] else []) ++ (e ++ [93])))) a.length = if 3 ≤ f.length + (if arrow then 1 else 0) + e.length then some (a.length, a.length + (f.length + (if arrow then 1 else 0) + e.length) + 2, f.length + (if arrow then 1 else 0), f.length + (if arrow then 1 else 0) + e.length) else none := by
    unfold barAt
    rw [List.getElem?_append_right (Nat.le_refl _), Nat.sub_self, List.getElem?_cons_zero, if_pos rfl, List.drop_append, List.drop_eq_nil_of_le (by omega), List.nil_append, show a.length + 1 - a.length = 1 by omega, List.drop_succ_cons, List.drop_zero, barGo_bar f e arrow hf he []]
    generalize f.length + (if arrow then 1 else 0) = F
    by_cases h3 : 3 ≤ F + e.length
    · rw [if_pos h3, if_pos h3]; rfl
    · rw [if_neg h3, if_neg h3]; rfl
  have hno : ∀ j, j ≠ a.length → barAt (a ++ 91 :: (f ++ ((if arrow then [62] else []) ++ (e ++ [93])))) j = none := by
    intro j hj
    unfold barAt
    refine if_neg fun hc => ?_
    rcases Nat.lt_or_ge j a.length with h | h
    · rw [List.getElem?_append_left h] at hc; exact ha _ (List.mem_of_getElem? hc) rfl
    · rw [List.getElem?_append_right h, show j - a.length = (j - a.length - 1) + 1 by omega, List.getElem?_cons_succ] at hc
      exact hrest _ (List.mem_of_getElem? hc) rfl
  by_cases h3 : 3 ≤ f.length + (if arrow then 1 else 0) + e.length
  · rw [if_pos h3] at hat ⊢
    exact firstAt _ _ a.length (by simp) (fun j hj => hno j (by omega)) hat
  · rw [if_neg h3] at hat ⊢
    refine firstNo _ _ fun j _ => ?_
    by_cases hj : j = a.length
    · subst hj; exact hat
    · exact hno j hj
end Go.Proofs.YtnhcelckgfmljaaDoor
