/- Progress indicators, in plain words: the percentage and the bar of a string. -/
import Derived.Test.YtnhcelckgfmljaaDoorMem
namespace Go.Proofs.YtnhcelckgfmljaaDoor

def isDig (c : UInt8) : Bool := decide (48 ≤ c.toNat) && decide (c.toNat ≤ 57)
/-- How many of the first four bytes from i on are digits, before one that is none. -/
def dn (l : List UInt8) (i : Nat) : Nat := (((l.drop i).take 4).takeWhile isDig).length
/-- The value of the first k bytes from i on. -/
def dv (l : List UInt8) (i : Nat) : Nat → Nat
  | 0 => 0
  | k + 1 => 10 * dv l i k + ((l[i + k]?.getD 48).toNat - 48)

theorem takeWhile_get {α : Type} (p : α → Bool) : ∀ (l : List α) (k : Nat) (x : α), k < (l.takeWhile p).length → l[k]? = some x → p x = true
  | [], _, _, h, _ => by simp at h
  | y :: l, k, x, h, hx => by
    rw [List.takeWhile_cons] at h
    split at h
    · cases k with
      | zero => simp at hx; subst hx; assumption
      | succ k => exact takeWhile_get p l k x (by simpa using h) (by simpa using hx)
    · simp at h
theorem takeWhile_stop {α : Type} (p : α → Bool) : ∀ (l : List α) (x : α), l[(l.takeWhile p).length]? = some x → p x = false
  | [], _, h => by simp at h
  | y :: l, x, h => by
    rw [List.takeWhile_cons] at h
    split at h
    · exact takeWhile_stop p l x (by simpa using h)
    · simp at h; subst h; rename_i h'; simpa using h'
theorem takeWhile_le {α : Type} (p : α → Bool) (l : List α) : (l.takeWhile p).length ≤ l.length := by
  induction l with
  | nil => simp
  | cons y l ih => rw [List.takeWhile_cons]; split <;> simp; exact ih
theorem dn_le (l : List UInt8) (i : Nat) : dn l i ≤ 4 ∧ i + dn l i ≤ max i l.length := by
  unfold dn
  have := takeWhile_le isDig ((l.drop i).take 4)
  rw [List.length_take, List.length_drop] at this
  omega
theorem dn_dig (l : List UInt8) (i k : Nat) (c : UInt8) (h : k < dn l i) (hc : l[i + k]? = some c) : isDig c = true := by
  have h4 := (dn_le l i).1
  refine takeWhile_get isDig ((l.drop i).take 4) k c h ?_
  rw [List.getElem?_take, if_pos (by omega), List.getElem?_drop]
  exact hc
theorem dn_stop (l : List UInt8) (i : Nat) (c : UInt8) (h : dn l i < 4) (hc : l[i + dn l i]? = some c) : isDig c = false := by
  refine takeWhile_stop isDig ((l.drop i).take 4) c ?_
  show ((l.drop i).take 4)[dn l i]? = _
  rw [List.getElem?_take, if_pos h, List.getElem?_drop]
  exact hc
/-- dn by its two properties. -/
theorem dn_eq (l : List UInt8) (i k : Nat) (hk : k ≤ 4) (hl : i + k ≤ l.length) (h1 : ∀ j c, j < k → l[i + j]? = some c → isDig c = true) (h2 : k < 4 → ∀ c, l[i + k]? = some c → isDig c = false) : dn l i = k := by
  rcases Nat.lt_trichotomy (dn l i) k with h | h | h
  · have := dn_stop l i l[i + dn l i] (by omega) (List.getElem?_eq_getElem (by omega))
    rw [h1 (dn l i) _ h (List.getElem?_eq_getElem (by omega))] at this
    cases this
  · exact h
  · have hb := dn_le l i
    have := dn_dig l i k l[i + k] h (List.getElem?_eq_getElem (by omega))
    rw [h2 (by omega) _ (List.getElem?_eq_getElem (by omega))] at this
    cases this
theorem dig_bd {c : UInt8} (h : isDig c = true) : 48 ≤ c.toNat ∧ c.toNat ≤ 57 := by
  unfold isDig at h; simpa using h
theorem dv_le (l : List UInt8) (i : Nat) : ∀ k, k ≤ 4 → (∀ j c, j < k → l[i + j]? = some c → isDig c = true) → dv l i k ≤ 9999 ∧ (k ≤ 3 → dv l i k ≤ 999) ∧ (k ≤ 2 → dv l i k ≤ 99) ∧ (k ≤ 1 → dv l i k ≤ 9) ∧ (k = 0 → dv l i k = 0)
  | 0, _, _ => by simp [dv]
  | k + 1, h, hd => by
    have ih := dv_le l i k (by omega) fun j c hj => hd j c (by omega)
    have : (l[i + k]?.getD 48).toNat - 48 ≤ 9 := by
      cases hc : l[i + k]? with
      | none => simp
      | some c => have := dig_bd (hd k c (by omega) hc); simp; omega
    simp only [dv]
    omega
theorem dv_step (l : List UInt8) (i k : Nat) (h : i + k < l.length) : dv l i (k + 1) = 10 * dv l i k + (l[i + k].toNat - 48) := by
  simp [dv, List.getElem?_eq_getElem h]

/-- A number's first digit stands at i. -/
def startB (l : List UInt8) (i : Nat) : Bool :=
  match l[i]? with
  | none => false
  | some c => isDig c && !(decide (0 < i) && isDig (l[i - 1]?.getD 0))
/-- The percentage that begins at i. -/
def pcAt (l : List UInt8) (i : Nat) : Option (Nat × Nat × Nat) :=
  if startB l i = true ∧ dn l i ≤ 3 ∧ l[i + dn l i]? = some 37 ∧ dv l i (dn l i) ≤ 100 then some (i, i + dn l i + 1, dv l i (dn l i)) else none
def percF (l : List UInt8) : Option (Nat × Nat × Nat) := (List.range l.length).findSome? (pcAt l)

/-- The rest of a bar: what is done, and its length. -/
def barGo : List UInt8 → Nat → Nat → Nat → Option (Nat × Nat)
  | [], _, _, _ => none
  | c :: r, st, full, n =>
    if c = 93 then (if 3 ≤ n then some (full, n) else none)
    else if (c = 35 ∨ c = 61) ∧ st = 0 then barGo r 0 (full + 1) (n + 1)
    else if c = 62 ∧ st = 0 then barGo r 1 (full + 1) (n + 1)
    else if c = 32 ∨ c = 46 ∨ c = 45 then barGo r 2 full (n + 1)
    else none
/-- The bar that begins at i. -/
def barAt (l : List UInt8) (i : Nat) : Option (Nat × Nat × Nat × Nat) :=
  if l[i]? = some 91 then (barGo (l.drop (i + 1)) 0 0 0).map fun x => (i, i + x.2 + 2, x.1, x.2) else none
def barF (l : List UInt8) : Option (Nat × Nat × Nat × Nat) := (List.range l.length).findSome? (barAt l)

theorem firstAt {α : Type} (f : Nat → Option α) (n i : Nat) (hi : i < n) (h : ∀ j, j < i → f j = none) {r : α} (hr : f i = some r) : (List.range n).findSome? f = some r := by
  rw [List.findSome?_eq_some_iff]
  refine ⟨List.range i, i, List.range' (i + 1) (n - i - 1), ?_, hr, fun x hx => h x (by simpa using hx)⟩
  rw [List.range_eq_range', List.range_eq_range', ← List.range'_succ, show n - i - 1 + 1 = n - i by omega]
  have := List.range'_append (s := 0) (m := i) (n := n - i) (step := 1)
  simp only [Nat.one_mul, Nat.zero_add] at this
  rw [this]
  congr 1
  omega
theorem firstNo {α : Type} (f : Nat → Option α) (n : Nat) (h : ∀ j, j < n → f j = none) : (List.range n).findSome? f = none := by
  rw [List.findSome?_eq_none_iff]
  intro x hx
  exact h x (by simpa using hx)
theorem firstOf {α : Type} (f : Nat → Option α) (n : Nat) {r : α} (h : (List.range n).findSome? f = some r) : ∃ i, i < n ∧ f i = some r ∧ ∀ j, j < i → f j = none := by
  induction n with
  | zero => simp at h
  | succ n ih =>
    rw [List.range_succ, List.findSome?_append] at h
    cases hf : (List.range n).findSome? f with
    | some x =>
      rw [hf] at h
      simp at h
      subst h
      obtain ⟨i, h1, h2, h3⟩ := ih hf
      exact ⟨i, by omega, h2, h3⟩
    | none =>
      rw [hf] at h
      simp at h
      refine ⟨n, by omega, h, fun j hj => ?_⟩
      rw [List.findSome?_eq_none_iff] at hf
      exact hf j (by simpa using hj)

theorem barGo_bd : ∀ (l : List UInt8) (st full n f m : Nat), barGo l st full n = some (f, m) → 3 ≤ m ∧ n ≤ m ∧ m < n + l.length ∧ full ≤ f ∧ f + n ≤ full + m
  | [], _, _, _, _, _, h => by simp [barGo] at h
  | c :: r, st, full, n, f, m, h => by
    rw [barGo] at h
    simp only [List.length_cons]
    by_cases h1 : c = 93
    · rw [if_pos h1] at h
      by_cases h2 : 3 ≤ n
      · rw [if_pos h2] at h; simp at h; omega
      · rw [if_neg h2] at h; cases h
    · rw [if_neg h1] at h
      by_cases h2 : (c = 35 ∨ c = 61) ∧ st = 0
      · rw [if_pos h2] at h; have := barGo_bd r _ _ _ _ _ h; omega
      · rw [if_neg h2] at h
        by_cases h3 : c = 62 ∧ st = 0
        · rw [if_pos h3] at h; have := barGo_bd r _ _ _ _ _ h; omega
        · rw [if_neg h3] at h
          by_cases h4 : c = 32 ∨ c = 46 ∨ c = 45
          · rw [if_pos h4] at h; have := barGo_bd r _ _ _ _ _ h; omega
          · rw [if_neg h4] at h; cases h
theorem percF_bd {l : List UInt8} {a b n : Nat} (h : percF l = some (a, b, n)) : a < b ∧ b ≤ l.length ∧ n ≤ 100 := by
  obtain ⟨i, hi, h1, -⟩ := firstOf _ _ h
  unfold pcAt at h1
  split at h1
  · rename_i hc
    have := (List.getElem?_eq_some_iff.1 hc.2.2.1).1
    simp only [Option.some.injEq, Prod.mk.injEq] at h1
    omega
  · cases h1
theorem barF_bd {l : List UInt8} {a b f n : Nat} (h : barF l = some (a, b, f, n)) : a < b ∧ b ≤ l.length ∧ 3 ≤ n ∧ f ≤ n ∧ n ≤ l.length := by
  obtain ⟨i, hi, h1, -⟩ := firstOf _ _ h
  unfold barAt at h1
  split at h1
  · cases hg : barGo (l.drop (i + 1)) 0 0 0 with
    | none => rw [hg] at h1; cases h1
    | some x =>
      obtain ⟨x1, x2⟩ := x
      have := barGo_bd _ _ _ _ _ _ hg
      rw [List.length_drop] at this
      rw [hg] at h1
      simp only [Option.map_some, Option.some.injEq, Prod.mk.injEq] at h1
      omega
  · cases h1

/-- Where the indicator of a string begins and ends, and its value. -/
def indF (l : List UInt8) : Option (Nat × Nat × Nat) :=
  match percF l, barF l with
  | p, none => p
  | none, some (a, b, f, n) => some (a, b, 100 * f / n)
  | some (p, q, n), some (a, b, _, _) => some (min p a, max q b, n)
theorem indF_bd {l : List UInt8} {a b n : Nat} (h : indF l = some (a, b, n)) : a < b ∧ b ≤ l.length ∧ n ≤ 100 := by
  unfold indF at h
  cases hp : percF l with
  | none =>
    cases hb : barF l with
    | none => rw [hp, hb] at h; cases h
    | some y =>
      obtain ⟨y1, y2, y3, y4⟩ := y
      rw [hp, hb] at h
      have := barF_bd hb
      simp only [Option.some.injEq, Prod.mk.injEq] at h
      obtain ⟨rfl, rfl, rfl⟩ := h
      refine ⟨this.1, this.2.1, ?_⟩
      exact Nat.le_trans (Nat.div_le_div_right (Nat.mul_le_mul_left 100 this.2.2.2.1)) (by rw [Nat.mul_div_cancel _ (by omega)]; omega)
  | some x =>
    obtain ⟨x1, x2, x3⟩ := x
    have := percF_bd hp
    cases hb : barF l with
    | none =>
      rw [hp, hb] at h
      simp only [Option.some.injEq, Prod.mk.injEq] at h
      omega
    | some y =>
      obtain ⟨y1, y2, y3, y4⟩ := y
      have := barF_bd hb
      rw [hp, hb] at h
      simp only [Option.some.injEq, Prod.mk.injEq] at h
      omega
end Go.Proofs.YtnhcelckgfmljaaDoor
