/- The canonical source text of a script, and what it assembles to; in plain words. -/
import Derived.Test.YtonnjokjbknngaaDoorZ20
import Derived.Lib.ItoaNum
namespace Go.Proofs.YtonnjokjbknngaaDoor
open Go.Lib

/-! ### decimals -/
theorem dd_nat {k : Nat} (h : k < 10) : (UInt8.ofNat (48 + k)).toNat = 48 + k := by
  have : ∀ k, k < 10 → (UInt8.ofNat (48 + k)).toNat = 48 + k := by decide
  exact this k h
theorem dec_digits (u : Nat) : ∀ c ∈ decDigits u, digB c = true := by
  induction u using Nat.strongRecOn with
  | _ u ih =>
    intro c hc
    have hd : ∀ k, k < 10 → digB (UInt8.ofNat (48 + k)) = true := by decide
    by_cases h : u < 10
    · rw [decDigits, dif_pos h, List.mem_singleton] at hc
      rw [hc]; exact hd u h
    · rw [decDigits, dif_neg h] at hc
      rcases List.mem_append.1 hc with hc | hc
      · exact ih (u / 10) (by omega) c hc
      · rw [List.mem_singleton] at hc
        rw [hc]; exact hd _ (by omega)
theorem dec_ne (u : Nat) : decDigits u ≠ [] := by
  rw [decDigits]; split <;> simp
theorem dec_head (u : Nat) (h0 : 1 ≤ u) : (decDigits u).head? ≠ some 48 := by
  induction u using Nat.strongRecOn with
  | _ u ih =>
    by_cases h : u < 10
    · rw [decDigits, dif_pos h]
      have : ∀ k, k < 10 → 1 ≤ k → UInt8.ofNat (48 + k) ≠ 48 := by decide
      simpa using this u h h0
    · rw [decDigits, dif_neg h, List.head?_append]
      have := ih (u / 10) (by omega) (by omega)
      cases hh : (decDigits (u / 10)).head? with
      | none => simp at hh; exact absurd hh (dec_ne _)
      | some c => rw [hh] at this; simpa using this
theorem dec_len (k : Nat) : ∀ u, u < 10 ^ (k + 1) → (decDigits u).length ≤ k + 1 := by
  induction k with
  | zero => intro u h; rw [decDigits, dif_pos (by simpa using h)]; simp
  | succ k ih =>
    intro u h
    by_cases h1 : u < 10
    · rw [decDigits, dif_pos h1]; simp
    · rw [decDigits, dif_neg h1, List.length_append]
      have := ih (u / 10) (by rw [Nat.pow_succ] at h; omega)
      simp; omega
theorem dec_long (u : Nat) (h : 1 < (decDigits u).length) : 10 ≤ u := by
  rcases Nat.lt_or_ge u 10 with h1 | h1
  · rw [decDigits, dif_pos h1] at h; simp at h
  · exact h1
theorem satV_snoc (M : Int) : ∀ (a : BS) (c : UInt8) (n : Int), satV M (a ++ [c]) n = min (10 * satV M a n + ((c.toNat : Int) - 48)) M
  | [], _, _ => rfl
  | d :: a, c, n => by rw [List.cons_append, satV, satV_snoc M a c, satV]
theorem dec_val (M : Int) (u : Nat) (h : (u : Int) ≤ M) : satV M (decDigits u) 0 = u := by
  induction u using Nat.strongRecOn with
  | _ u ih =>
    by_cases h1 : u < 10
    · rw [decDigits, dif_pos h1]
      simp only [satV, dd_nat h1]
      omega
    · rw [decDigits, dif_neg h1, satV_snoc, ih (u / 10) (by omega) (by omega), dd_nat (show u % 10 < 10 by omega)]
      omega
theorem dec_inj {a b : Nat} (h : decDigits a = decDigits b) : a = b := by
  have h1 := dec_val ((a : Int) + b) a (by omega)
  have h2 := dec_val ((a : Int) + b) b (by omega)
  rw [h, h2] at h1
  omega
theorem num_itoa (z : Int) (h1 : -999999999 ≤ z) (h2 : z ≤ 999999999) : numOf 1000000000 (itoa z) = some z := by
  have hall : ∀ u, (decDigits u).all digB = true := fun u => List.all_eq_true.2 (dec_digits u)
  by_cases hz : z < 0
  · obtain ⟨u, hu⟩ : ∃ u : Nat, z = -(u : Int) := ⟨z.natAbs, by omega⟩
    have hn : z.natAbs = u := by omega
    unfold itoa
    rw [if_pos hz, hn]
    have hb : numB (decDigits u) true = true := by
      unfold numB
      rw [hall u, decide_eq_false (dec_ne u), decide_eq_false (show ¬ (decDigits u).head? = some 48 from dec_head u (by omega)), decide_eq_false (show ¬ decDigits u = [48] from fun e => dec_head u (by omega) (by rw [e]; rfl))]
      simp
    show (if numB (decDigits u) true then some (-satV 1000000000 (decDigits u) 0) else none) = _
    rw [if_pos hb, dec_val _ u (by omega), hu]
  · obtain ⟨u, rfl⟩ : ∃ u : Nat, z = (u : Int) := ⟨z.toNat, by omega⟩
    unfold itoa
    rw [if_neg hz, Int.toNat_natCast]
    have hb : numB (decDigits u) false = true := by
      unfold numB
      rw [hall u, decide_eq_false (dec_ne u)]
      by_cases hl : 1 < (decDigits u).length
      · rw [decide_eq_false (show ¬ (decDigits u).head? = some 48 from dec_head u (by have := dec_long u hl; omega))]; simp
      · rw [decide_eq_false hl]; simp
    unfold numOf
    split
    · rename_i ds heq
      have := dec_digits u 45 (by rw [heq]; simp)
      exact absurd this (by decide)
    · rw [if_pos hb, dec_val _ u (by omega)]

/-! ### the text -/
def isJ (x : Ins) : Bool := decide (x.op = 17 ∨ x.op = 18)
def isT (l : List Ins) (i : Nat) : Bool := l.any fun x => isJ x && decide (x.arg = (i : Int))
def labW (i : Nat) : BS := 108 :: decDigits i
def opW (k : Int) : BS := opNames.getD k.toNat []
def argL (x : Ins) : BS := if x.op = 1 then 32 :: itoa x.arg else if x.op = 17 ∨ x.op = 18 then 32 :: 108 :: itoa x.arg else []
def labL (l : List Ins) (i : Nat) : BS := if isT l i then labW i ++ [58, 10] else []
def disFrom (l : List Ins) : Nat → List Ins → BS
  | i, [] => labL l i
  | i, x :: r => labL l i ++ opW x.op ++ argL x ++ [10] ++ disFrom l (i + 1) r
def disB (l : List Ins) : BS := disFrom l 0 l

theorem labW_ok (i : Nat) (h : i ≤ 1000) : labB (labW i) = true := by
  have hl := dec_len 3 i (by simp; omega)
  unfold labB labW
  simp only [Bool.and_eq_true, decide_eq_true_eq, List.all_cons]
  refine ⟨⟨by omega, by decide⟩, by decide, ?_⟩
  rw [List.all_eq_true]
  intro c hc
  rw [dec_digits i c hc, Bool.or_true]
theorem labW_inj {a b : Nat} (h : labW a = labW b) : a = b := dec_inj (by unfold labW at h; injection h)

def insW (x : Ins) : List BS := if x.op = 1 then [opW 1, itoa x.arg] else if x.op = 17 ∨ x.op = 18 then [opW x.op, 108 :: itoa x.arg] else [opW x.op]
def labWs (l : List Ins) (i : Nat) : List (List BS) := if isT l i then [[labW i ++ [58]]] else []
def wordsOf (l : List Ins) : Nat → List Ins → List (List BS)
  | i, [] => labWs l i ++ [[]]
  | i, x :: r => labWs l i ++ insW x :: wordsOf l (i + 1) r

theorem opW_cases {z : Int} (h0 : 0 ≤ z) (h1 : z ≤ 20) (P : Int → Prop) (h : ∀ k : Fin 21, P ((k.val : Nat) : Int)) : P z := by
  have := h ⟨z.toNat, by omega⟩
  simpa [Int.toNat_of_nonneg h0] using this
theorem opW_plain (z : Int) (h0 : 0 ≤ z) (h1 : z ≤ 20) : opW z ≠ [] ∧ ∀ c ∈ opW z, c ≠ 32 ∧ c ≠ 10 :=
  opW_cases h0 h1 (fun z => opW z ≠ [] ∧ ∀ c ∈ opW z, c ≠ 32 ∧ c ≠ 10) (by decide)
theorem itoa_plain (z : Int) : itoa z ≠ [] ∧ ∀ c ∈ itoa z, c ≠ 32 ∧ c ≠ 10 := by
  have hd : ∀ u, ∀ c ∈ decDigits u, c ≠ 32 ∧ c ≠ 10 := fun u c hc => by
    have := dec_digits u c hc
    constructor <;> (rintro rfl; revert this; decide)
  unfold itoa
  split
  · refine ⟨by simp, fun c hc => ?_⟩
    rcases List.mem_cons.1 hc with rfl | hc
    · decide
    · exact hd _ c hc
  · exact ⟨dec_ne _, hd _⟩
theorem words_ins (x : Ins) (h0 : 0 ≤ x.op) (h1 : x.op ≤ 20) : wordsB (opW x.op ++ argL x) = insW x ∧ ∀ c ∈ opW x.op ++ argL x, c ≠ 10 := by
  obtain ⟨p1, p2⟩ := opW_plain x.op h0 h1
  obtain ⟨q1, q2⟩ := itoa_plain x.arg
  unfold argL insW
  by_cases c1 : x.op = 1
  · rw [if_pos c1, if_pos c1]
    refine ⟨by rw [words_two (fun c hc => (p2 c hc).1) p1 (fun c hc => (q2 c hc).1) q1, c1], fun c hc => ?_⟩
    rcases List.mem_append.1 hc with hc | hc
    · exact (p2 c hc).2
    · rcases List.mem_cons.1 hc with rfl | hc
      · decide
      · exact (q2 c hc).2
  rw [if_neg c1, if_neg c1]
  by_cases c2 : x.op = 17 ∨ x.op = 18
  · rw [if_pos c2, if_pos c2]
    have q3 : ∀ c ∈ (108 : UInt8) :: itoa x.arg, c ≠ 32 ∧ c ≠ 10 := fun c hc => by
      rcases List.mem_cons.1 hc with rfl | hc
      · decide
      · exact q2 c hc
    refine ⟨words_two (fun c hc => (p2 c hc).1) p1 (fun c hc => (q3 c hc).1) (by simp), fun c hc => ?_⟩
    rcases List.mem_append.1 hc with hc | hc
    · exact (p2 c hc).2
    · rcases List.mem_cons.1 hc with rfl | hc
      · decide
      · exact (q3 c hc).2
  · rw [if_neg c2, if_neg c2, List.append_nil]
    exact ⟨words_one (fun c hc => (p2 c hc).1) p1, fun c hc => (p2 c hc).2⟩
theorem lines_lab (l : List Ins) (i : Nat) (hi : i ≤ 1000) (t : BS) : (linesB (labL l i ++ t)).map wordsB = labWs l i ++ (linesB t).map wordsB := by
  unfold labL labWs
  by_cases h : isT l i = true
  · rw [if_pos h, if_pos h]
    have hn := lab_ne (labW_ok i hi) 10 (by decide)
    have hs := lab_ne (labW_ok i hi) 32 (by decide)
    have e : labW i ++ [58, 10] ++ t = (labW i ++ [58]) ++ 10 :: t := by simp
    have m1 : ∀ c ∈ labW i ++ [58], c ≠ 10 := fun c hc => by
      rcases List.mem_append.1 hc with hc | hc
      · exact hn c hc
      · rw [List.mem_singleton] at hc; rw [hc]; decide
    have m2 : ∀ c ∈ labW i ++ [58], c ≠ 32 := fun c hc => by
      rcases List.mem_append.1 hc with hc | hc
      · exact hs c hc
      · rw [List.mem_singleton] at hc; rw [hc]; decide
    rw [e, linesB_cut _ m1, List.map_cons, words_one m2 (by simp)]
    rfl
  · rw [if_neg h, if_neg h]; rfl
theorem lines_dis (l : List Ins) : ∀ (r : List Ins) (i : Nat), i + r.length ≤ 1000 → (∀ x ∈ r, 0 ≤ x.op ∧ x.op ≤ 20) → (linesB (disFrom l i r)).map wordsB = wordsOf l i r
  | [], i, hi, _ => by
    have := lines_lab l i (by simpa using hi) []
    rw [List.append_nil] at this
    unfold disFrom wordsOf
    rw [this]; rfl
  | x :: r, i, hi, h => by
    simp only [List.length_cons] at hi
    have ih := lines_dis l r (i + 1) (by omega) (fun y hy => h y (by simp [hy]))
    obtain ⟨w1, w2⟩ := words_ins x (h x (by simp)).1 (h x (by simp)).2
    unfold disFrom wordsOf
    rw [show labL l i ++ opW x.op ++ argL x ++ [10] ++ disFrom l (i + 1) r = labL l i ++ ((opW x.op ++ argL x) ++ 10 :: disFrom l (i + 1) r) by simp, lines_lab l i (by omega), linesB_cut _ w2, List.map_cons, w1, ih]
end Go.Proofs.YtonnjokjbknngaaDoor
