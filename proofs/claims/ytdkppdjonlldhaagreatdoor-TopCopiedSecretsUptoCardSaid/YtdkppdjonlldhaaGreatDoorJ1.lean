/- Joined: SP1, SP2, SP3, SPf, SP4, SP5. -/
import Derived.Test.YtdkppdjonlldhaaGreatDoorV6
import Derived.Test.YtdkppdjonlldhaaGreatDoorV8
/- Spoken text: the words of numbers and signs, and the plain form of spokentext. -/
namespace Go.Proofs.YtdkppdjonlldhaaGreatDoor
open Go.RowKit

/-- A word. -/
abbrev Wd := List UInt8
/-- The words of numbers. -/
def vocL : List Wd := [[122, 101, 114, 111], [111, 110, 101], [116, 119, 111], [116, 104, 114, 101, 101], [102, 111, 117, 114], [102, 105, 118, 101], [115, 105, 120], [115, 101, 118, 101, 110], [101, 105, 103, 104, 116], [110, 105, 110, 101], [116, 101, 110], [101, 108, 101, 118, 101, 110], [116, 119, 101, 108, 118, 101], [116, 104, 105, 114, 116, 101, 101, 110], [102, 111, 117, 114, 116, 101, 101, 110], [102, 105, 102, 116, 101, 101, 110], [115, 105, 120, 116, 101, 101, 110], [115, 101, 118, 101, 110, 116, 101, 101, 110], [101, 105, 103, 104, 116, 101, 101, 110], [110, 105, 110, 101, 116, 101, 101, 110], [116, 119, 101, 110, 116, 121], [116, 104, 105, 114, 116, 121], [102, 111, 114, 116, 121], [102, 105, 102, 116, 121], [115, 105, 120, 116, 121], [115, 101, 118, 101, 110, 116, 121], [101, 105, 103, 104, 116, 121], [110, 105, 110, 101, 116, 121], [104, 117, 110, 100, 114, 101, 100], [116, 104, 111, 117, 115, 97, 110, 100], [109, 105, 108, 108, 105, 111, 110], [109, 105, 110, 117, 115]]
/-- The control words. -/
def ctlL : List Wd := [[99, 104, 97, 114, 97, 99, 116, 101, 114], [106, 111, 105, 110, 101, 100], [99, 97, 112], [99, 97, 112, 115], [119, 111, 114, 100], [115, 112, 97, 99, 101], [116, 105, 109, 101, 115], [115, 112, 101, 108, 108, 101, 100], [101, 110, 100], [100, 105, 103, 105, 116, 115], [112, 108, 97, 105, 110], [115, 116, 114, 111, 110, 103], [105, 110, 118, 101, 114, 115, 101], [104, 105, 100, 100, 101, 110], [115, 105, 122, 101], [114, 111, 119, 115], [99, 111, 108, 117, 109, 110, 115], [115, 99, 114, 111, 108, 108], [108, 105, 110, 101], [108, 105, 110, 101, 115], [102, 114, 111, 109], [116, 111], [117, 112], [100, 111, 119, 110], [99, 111, 108, 117, 109, 110], [114, 101, 112, 108, 97, 99, 101], [119, 105, 116, 104], [105, 110, 115, 101, 114, 116], [100, 101, 108, 101, 116, 101], [99, 117, 114, 115, 111, 114], [118, 105, 115, 105, 98, 108, 101], [105, 110, 118, 105, 115, 105, 98, 108, 101], [109, 111, 114, 101], [100, 111, 110, 101], [117, 112, 100, 97, 116, 101, 115], [114, 101, 97, 100, 115], [115, 116, 111, 112], [98, 108, 97, 110, 107], [98, 121]]
/-- The names of the signs. -/
def namL : List Wd := [[98, 97, 110, 103], [113, 117, 111, 116, 101], [104, 97, 115, 104], [100, 111, 108, 108, 97, 114], [112, 101, 114, 99, 101, 110, 116], [97, 109, 112, 101, 114, 115, 97, 110, 100], [97, 112, 111, 115, 116, 114, 111, 112, 104, 101], [111, 112, 101, 110], [99, 108, 111, 115, 101], [115, 116, 97, 114], [112, 108, 117, 115], [99, 111, 109, 109, 97], [100, 97, 115, 104], [100, 111, 116], [115, 108, 97, 115, 104], [99, 111, 108, 111, 110], [115, 101, 109, 105, 99, 111, 108, 111, 110], [108, 101, 115, 115], [101, 113, 117, 97, 108, 115], [103, 114, 101, 97, 116, 101, 114], [113, 117, 101, 115, 116, 105, 111, 110], [97, 116], [98, 114, 97, 99, 107, 101, 116], [98, 97, 99, 107, 115, 108, 97, 115, 104], [117, 110, 98, 114, 97, 99, 107, 101, 116], [99, 97, 114, 101, 116], [117, 110, 100, 101, 114, 115, 99, 111, 114, 101], [98, 97, 99, 107, 113, 117, 111, 116, 101], [98, 114, 97, 99, 101], [98, 97, 114], [117, 110, 98, 114, 97, 99, 101], [116, 105, 108, 100, 101]]
/-- The signs. -/
def sgnL : List UInt8 := [33, 34, 35, 36, 37, 38, 39, 40, 41, 42, 43, 44, 45, 46, 47, 58, 59, 60, 61, 62, 63, 64, 91, 92, 93, 94, 95, 96, 123, 124, 125, 126]
def resL : List Wd := vocL ++ (ctlL ++ namL)
abbrev zeroW : Wd := [122, 101, 114, 111]
abbrev hundredW : Wd := [104, 117, 110, 100, 114, 101, 100]
abbrev thousandW : Wd := [116, 104, 111, 117, 115, 97, 110, 100]
abbrev millionW : Wd := [109, 105, 108, 108, 105, 111, 110]
abbrev minusW : Wd := [109, 105, 110, 117, 115]
abbrev characterW : Wd := [99, 104, 97, 114, 97, 99, 116, 101, 114]
abbrev joinedW : Wd := [106, 111, 105, 110, 101, 100]
abbrev capW : Wd := [99, 97, 112]
abbrev capsW : Wd := [99, 97, 112, 115]
abbrev wordW : Wd := [119, 111, 114, 100]
abbrev spaceW : Wd := [115, 112, 97, 99, 101]
abbrev timesW : Wd := [116, 105, 109, 101, 115]
abbrev spelledW : Wd := [115, 112, 101, 108, 108, 101, 100]
abbrev endW : Wd := [101, 110, 100]
abbrev digitsW : Wd := [100, 105, 103, 105, 116, 115]
abbrev plainW : Wd := [112, 108, 97, 105, 110]
abbrev strongW : Wd := [115, 116, 114, 111, 110, 103]
abbrev inverseW : Wd := [105, 110, 118, 101, 114, 115, 101]
abbrev hiddenW : Wd := [104, 105, 100, 100, 101, 110]
def stylL : List Wd := [plainW, strongW, inverseW, hiddenW]

/-! Numbers. -/
def vW (i : Nat) : Wd := vocL.getD i []
def smallW (n : Nat) : List Wd :=
  (if 100 ≤ n then [vW (n / 100), hundredW] else []) ++ ((if 20 ≤ n % 100 then [vW (18 + n % 100 / 10)] else []) ++
    (if 0 < (if 20 ≤ n % 100 then n % 10 else n % 100) then [vW (if 20 ≤ n % 100 then n % 10 else n % 100)] else []))
def groupW (k : Nat) (w : List Wd) : List Wd := if 0 < k then smallW k ++ w else []
def numW (n : Nat) : List Wd := if n = 0 then [zeroW] else groupW (n / 1000000) [millionW] ++ (groupW (n % 1000000 / 1000) [thousandW] ++ groupW (n % 1000) [])
def wordsI (n : Int) : Option (List Wd) := if n < -999999999 ∨ 999999999 < n then none else if n < 0 then some (minusW :: numW n.natAbs) else some (numW n.natAbs)
def valN (i : Nat) : Int := if 20 < i then 10 * ((i : Int) - 18) else i
def valOf (w : Wd) : Option Int := ((vocL.take 28).findIdx? (· == w)).map valN
def numStep (w : Wd) (a p : Int) : Option (Int × Int) :=
  if w = minusW then some (a, p) else if w = hundredW then some (a, p * 100) else if w = thousandW then some (a + 1000 * p, 0) else if w = millionW then some (a + 1000000 * p, 0) else (valOf w).map fun v => (a, p + v)
def numCap (x : Option (Int × Int)) : Option (Int × Int) := match x with
  | none => none
  | some (a, p) => if 999999999 < p ∨ 999999999 < a then none else some (a, p)
def numFold : List Wd → Int → Int → Option (Int × Int)
  | [], a, p => some (a, p)
  | w :: l, a, p => match numCap (numStep w a p) with | none => none | some (a', p') => numFold l a' p'
def numVal (l : List Wd) (a p : Int) : Int := if l.head? = some minusW then -(a + p) else a + p
def numF (l : List Wd) : Option Int := if l.length < 1 ∨ 15 < l.length then none else match numFold l 0 0 with
  | none => none
  | some (a, p) => if wordsI (numVal l a p) = some l then some (numVal l a p) else none
def prefFrom : Nat → List Wd → Option (Int × Nat)
  | 0, _ => none
  | k + 1, l => match numF (l.take (k + 1)) with | some n => some (n, k + 1) | none => prefFrom k l
def prefF (l : List Wd) : Option (Int × Nat) := prefFrom (min l.length 15) l

theorem valOf_v : ∀ i, i < 28 → valOf (vW i) = some (valN i) := by decide
theorem vW_plain : ∀ i, i < 28 → vW i ≠ minusW ∧ vW i ≠ hundredW ∧ vW i ≠ thousandW ∧ vW i ≠ millionW := by decide
theorem step_v {i : Nat} (h : i < 28) (a p : Int) : numStep (vW i) a p = some (a, p + valN i) := by
  obtain ⟨h1, h2, h3, h4⟩ := vW_plain i h
  unfold numStep
  rw [if_neg h1, if_neg h2, if_neg h3, if_neg h4, valOf_v i h]; rfl
theorem fold_v {i : Nat} (h : i < 28) {a p : Int} (l : List Wd) (ha : a ≤ 999999999) (hp : p + valN i ≤ 999999999) : numFold (vW i :: l) a p = numFold l a (p + valN i) := by
  rw [numFold, step_v h]
  show (match (if 999999999 < p + valN i ∨ 999999999 < a then none else some (a, p + valN i)) with | none => none | some (a', p') => numFold l a' p') = _
  rw [if_neg (by omega)]
theorem fold_hundred {a p : Int} (l : List Wd) (ha : a ≤ 999999999) (hp : p * 100 ≤ 999999999) : numFold (hundredW :: l) a p = numFold l a (p * 100) := by
  have : numStep hundredW a p = some (a, p * 100) := by unfold numStep; rw [if_neg (by decide), if_pos rfl]
  rw [numFold, this]
  show (match (if 999999999 < p * 100 ∨ 999999999 < a then none else some (a, p * 100)) with | none => none | some (a', p') => numFold l a' p') = _
  rw [if_neg (by omega)]
theorem fold_thousand {a p : Int} (l : List Wd) (ha : a + 1000 * p ≤ 999999999) : numFold (thousandW :: l) a p = numFold l (a + 1000 * p) 0 := by
  have : numStep thousandW a p = some (a + 1000 * p, 0) := by unfold numStep; rw [if_neg (by decide), if_neg (by decide), if_pos rfl]
  rw [numFold, this]
  show (match (if (999999999 : Int) < 0 ∨ 999999999 < a + 1000 * p then none else some (a + 1000 * p, 0)) with | none => none | some (a', p') => numFold l a' p') = _
  rw [if_neg (by omega)]
theorem fold_million {a p : Int} (l : List Wd) (ha : a + 1000000 * p ≤ 999999999) : numFold (millionW :: l) a p = numFold l (a + 1000000 * p) 0 := by
  have : numStep millionW a p = some (a + 1000000 * p, 0) := by unfold numStep; rw [if_neg (by decide), if_neg (by decide), if_neg (by decide), if_pos rfl]
  rw [numFold, this]
  show (match (if (999999999 : Int) < 0 ∨ 999999999 < a + 1000000 * p then none else some (a + 1000000 * p, 0)) with | none => none | some (a', p') => numFold l a' p') = _
  rw [if_neg (by omega)]
theorem valN_low {i : Nat} (h : i ≤ 20) : valN i = i := by unfold valN; rw [if_neg (by omega)]
theorem valN_tens {t : Nat} (h : 2 ≤ t) : valN (18 + t) = 10 * t := by
  unfold valN
  by_cases h2 : t = 2
  · subst h2; rfl
  · rw [if_pos (by omega)]; omega
theorem fold_low {n : Nat} (h : n < 100) {a p : Int} (l : List Wd) (ha : a ≤ 999999999) (hp : p + 100 ≤ 999999999) :
    numFold ((if 20 ≤ n then [vW (18 + n / 10)] else []) ++ ((if 0 < (if 20 ≤ n then n % 10 else n) then [vW (if 20 ≤ n then n % 10 else n)] else []) ++ l)) a p = numFold l a (p + n) := by
  by_cases h20 : 20 ≤ n
  · rw [if_pos h20, if_pos h20]
    show numFold (vW (18 + n / 10) :: _) a p = _
    have hv := valN_tens (t := n / 10) (by omega)
    rw [fold_v (by omega) _ ha (by rw [hv]; omega), hv]
    by_cases h0 : 0 < n % 10
    · rw [if_pos h0]
      show numFold (vW (n % 10) :: l) a _ = _
      have hv2 := valN_low (i := n % 10) (by omega)
      rw [fold_v (by omega) _ ha (by rw [hv2]; omega), hv2]
      congr 1; omega
    · rw [if_neg h0]
      show numFold l a _ = _
      congr 1; omega
  · rw [if_neg h20, if_neg h20]
    show numFold ((if 0 < n then [vW n] else []) ++ l) a p = _
    by_cases h0 : 0 < n
    · rw [if_pos h0]
      show numFold (vW n :: l) a p = _
      have hv2 := valN_low (i := n) (by omega)
      rw [fold_v (by omega) _ ha (by rw [hv2]; omega), hv2]
    · rw [if_neg h0]
      show numFold l a _ = _
      congr 1; omega
theorem fold_small {n : Nat} (h : n < 1000) {a : Int} (l : List Wd) (ha : a ≤ 999999999) : numFold (smallW n ++ l) a 0 = numFold l a n := by
  unfold smallW
  rw [show (if 20 ≤ n % 100 then n % 10 else n % 100) = (if 20 ≤ n % 100 then n % 100 % 10 else n % 100) by split <;> omega, List.append_assoc, List.append_assoc]
  by_cases h1 : 100 ≤ n
  · rw [if_pos h1, List.cons_append, List.cons_append, List.nil_append]
    have hv := valN_low (i := n / 100) (by omega)
    rw [fold_v (by omega) _ ha (by rw [hv]; omega), hv, fold_hundred _ ha (by omega), fold_low (by omega) l ha (by omega)]
    congr 1; omega
  · rw [if_neg h1]
    show numFold (_ ++ (_ ++ l)) a 0 = _
    rw [fold_low (by omega) l ha (by omega)]
    congr 1; omega
theorem fold_num {n : Nat} (h : n ≤ 999999999) : ∃ a p : Int, numFold (numW n) 0 0 = some (a, p) ∧ a + p = n := by
  unfold numW
  by_cases h0 : n = 0
  · subst h0; exact ⟨0, 0, by decide, rfl⟩
  · rw [if_neg h0]
    have g3 : ∀ a : Int, a ≤ 999999999 → numFold (groupW (n % 1000) []) a 0 = some (a, ((n % 1000 : Nat) : Int)) := fun a ha => by
      unfold groupW
      by_cases hk : 0 < n % 1000
      · rw [if_pos hk, fold_small (by omega) [] ha]; rfl
      · rw [if_neg hk]; rw [show n % 1000 = 0 by omega]; rfl
    have g2 : ∀ a : Int, 0 ≤ a → a + 999999 ≤ 999999999 → numFold (groupW (n % 1000000 / 1000) [thousandW] ++ groupW (n % 1000) []) a 0 = some (a + 1000 * ((n % 1000000 / 1000 : Nat) : Int), ((n % 1000 : Nat) : Int)) := fun a ha0 ha => by
      by_cases hk : 0 < n % 1000000 / 1000
      · rw [show groupW (n % 1000000 / 1000) [thousandW] = smallW (n % 1000000 / 1000) ++ [thousandW] by unfold groupW; rw [if_pos hk], List.append_assoc, fold_small (by omega) _ (by omega)]
        rw [List.cons_append, List.nil_append]
        rw [fold_thousand _ (by omega), g3 _ (by omega)]
      · rw [show groupW (n % 1000000 / 1000) [thousandW] = [] by unfold groupW; rw [if_neg hk]]
        show numFold (groupW (n % 1000) []) a 0 = _
        rw [g3 _ (by omega), show n % 1000000 / 1000 = 0 by omega]
        simp
    by_cases hk : 0 < n / 1000000
    · rw [show groupW (n / 1000000) [millionW] = smallW (n / 1000000) ++ [millionW] by unfold groupW; rw [if_pos hk], List.append_assoc, fold_small (by omega) _ (by omega)]
      rw [List.cons_append, List.nil_append]
      rw [fold_million _ (by omega), g2 _ (by omega) (by omega)]
      exact ⟨_, _, rfl, by omega⟩
    · rw [show groupW (n / 1000000) [millionW] = [] by unfold groupW; rw [if_neg hk]]
      show ∃ a p : Int, numFold (groupW (n % 1000000 / 1000) [thousandW] ++ groupW (n % 1000) []) 0 0 = _ ∧ _
      rw [g2 _ (by omega) (by omega)]
      exact ⟨_, _, rfl, by omega⟩

/-- Is a word one of a number's? -/
def isNum (w : Wd) : Bool := vocL.contains w
theorem vW_num : ∀ i, i < 32 → isNum (vW i) = true := by decide
theorem smallW_num {n : Nat} (h : n < 1000) : ∀ w ∈ smallW n, isNum w = true := fun w hw => by
  unfold smallW at hw
  simp only [List.mem_append] at hw
  rcases hw with hw | hw | hw
  · split at hw
    · simp only [List.mem_cons, List.mem_nil_iff, or_false] at hw
      rcases hw with rfl | rfl
      · exact vW_num _ (by omega)
      · decide
    · cases hw
  · split at hw
    · simp only [List.mem_cons, List.mem_nil_iff, or_false] at hw
      subst hw; exact vW_num _ (by omega)
    · cases hw
  · generalize hk : (if 20 ≤ n % 100 then n % 10 else n % 100) = k at hw
    have hk2 : k < 32 := by rw [← hk]; split <;> omega
    by_cases h0 : 0 < k
    · rw [if_pos h0] at hw
      simp only [List.mem_cons, List.mem_nil_iff, or_false] at hw
      subst hw; exact vW_num _ hk2
    · rw [if_neg h0] at hw; cases hw
theorem smallW_len {n : Nat} : (smallW n).length ≤ 4 := by
  unfold smallW
  simp only [List.length_append]
  repeat' split
  all_goals simp
theorem smallW_ne {n : Nat} (h : 0 < n) : smallW n ≠ [] := fun e => by
  unfold smallW at e
  simp only [List.append_eq_nil_iff] at e
  obtain ⟨e1, e2, e3⟩ := e
  split at e1
  · cases e1
  · split at e2
    · cases e2
    · rename_i h1 h2
      rw [if_neg h2, if_pos (by omega)] at e3
      cases e3
theorem numW_num {n : Nat} (h : n ≤ 999999999) : ∀ w ∈ numW n, isNum w = true := fun w hw => by
  unfold numW at hw
  split at hw
  · simp only [List.mem_cons, List.mem_nil_iff, or_false] at hw
    subst hw; decide
  · unfold groupW at hw
    simp only [List.mem_append] at hw
    rcases hw with hw | hw | hw
    · split at hw
      · rcases List.mem_append.1 hw with hw | hw
        · exact smallW_num (by omega) w hw
        · simp only [List.mem_cons, List.mem_nil_iff, or_false] at hw; subst hw; decide
      · cases hw
    · split at hw
      · rcases List.mem_append.1 hw with hw | hw
        · exact smallW_num (by omega) w hw
        · simp only [List.mem_cons, List.mem_nil_iff, or_false] at hw; subst hw; decide
      · cases hw
    · split at hw
      · rw [List.append_nil] at hw
        exact smallW_num (by omega) w hw
      · cases hw
theorem numW_len (n : Nat) : (numW n).length ≤ 14 := by
  unfold numW groupW
  have := @smallW_len (n / 1000000)
  have := @smallW_len (n % 1000000 / 1000)
  have := @smallW_len (n % 1000)
  repeat' split
  all_goals simp
  all_goals omega
theorem numW_ne (n : Nat) : numW n ≠ [] := fun e => by
  unfold numW at e
  split at e
  · cases e
  · rename_i h0
    unfold groupW at e
    simp only [List.append_eq_nil_iff] at e
    obtain ⟨e1, e2, e3⟩ := e
    by_cases h1 : 0 < n / 1000000
    · rw [if_pos h1] at e1; simp at e1
    · by_cases h2 : 0 < n % 1000000 / 1000
      · rw [if_pos h2] at e2; simp at e2
      · have h3 : 0 < n % 1000 := by omega
        rw [if_pos h3] at e3
        exact smallW_ne h3 (by simpa using e3)
theorem head_app {a b : List Wd} (h : a ≠ []) : (a ++ b).head? = a.head? := by
  cases a with
  | nil => exact absurd rfl h
  | cons x a => rfl
/-- No number begins with 'minus' here. -/
theorem vW_minus : ∀ i, i < 28 → vW i ≠ minusW := by decide
theorem smallW_head {n : Nat} (h : n < 1000) : (smallW n).head? ≠ some minusW := fun e => by
  unfold smallW at e
  by_cases h1 : 100 ≤ n
  · rw [if_pos h1] at e; simp at e; exact vW_minus _ (by omega) e
  · rw [if_neg h1] at e
    by_cases h2 : 20 ≤ n % 100
    · rw [if_pos h2] at e; simp at e; exact vW_minus _ (by omega) e
    · rw [if_neg h2, if_neg h2] at e
      by_cases h3 : 0 < n % 100
      · rw [if_pos h3] at e; simp at e; exact vW_minus _ (by omega) e
      · rw [if_neg h3] at e; simp at e
theorem numW_head {n : Nat} (h : n ≤ 999999999) : (numW n).head? ≠ some minusW := fun e => by
  unfold numW at e
  split at e
  · revert e; decide
  · unfold groupW at e
    by_cases h1 : 0 < n / 1000000
    · rw [if_pos h1, List.append_assoc, head_app (smallW_ne h1)] at e
      exact smallW_head (by omega) e
    · rw [if_neg h1, List.nil_append] at e
      by_cases h2 : 0 < n % 1000000 / 1000
      · rw [if_pos h2, List.append_assoc, head_app (smallW_ne h2)] at e
        exact smallW_head (by omega) e
      · rw [if_neg h2, List.nil_append] at e
        by_cases h3 : 0 < n % 1000
        · rw [if_pos h3, List.append_nil] at e
          exact smallW_head (by omega) e
        · rw [if_neg h3] at e; cases e
/-- A number's words are the number. -/
theorem numF_numW {n : Nat} (h : n ≤ 999999999) : numF (numW n) = some (n : Int) := by
  have hl := numW_len n
  have hne : 0 < (numW n).length := List.length_pos_iff.2 (numW_ne n)
  obtain ⟨a, p, hf, hs⟩ := fold_num h
  unfold numF
  rw [if_neg (by omega), hf]
  have hv : numVal (numW n) a p = (n : Int) := by unfold numVal; rw [if_neg (numW_head h)]; exact hs
  dsimp only
  rw [hv]
  have hw : wordsI (n : Int) = some (numW n) := by unfold wordsI; rw [if_neg (by omega), if_neg (by omega)]; rfl
  rw [if_pos hw]
theorem valOf_none {w : Wd} (h : isNum w = false) : valOf w = none := by
  unfold valOf
  rw [Option.map_eq_none_iff, List.findIdx?_eq_none_iff]
  intro x hx
  by_cases e : x = w
  · subst e
    have : isNum x = true := by unfold isNum; rw [List.contains_iff_mem]; exact List.mem_of_mem_take hx
    rw [this] at h; cases h
  · simpa using e
theorem step_none {w : Wd} (h : isNum w = false) (a p : Int) : numStep w a p = none := by
  unfold numStep
  rw [if_neg (fun e => by subst e; revert h; decide), if_neg (fun e => by subst e; revert h; decide), if_neg (fun e => by subst e; revert h; decide), if_neg (fun e => by subst e; revert h; decide), valOf_none h]; rfl
theorem fold_none : ∀ {l : List Wd} {w : Wd}, w ∈ l → isNum w = false → ∀ a p, numFold l a p = none
  | x :: l, w, hm, h, a, p => by
    rw [numFold]
    rcases List.mem_cons.1 hm with rfl | hm
    · rw [step_none h]; rfl
    · cases numCap (numStep x a p) with
      | none => rfl
      | some y => exact fold_none hm h y.1 y.2
theorem numF_none {l : List Wd} {w : Wd} (hm : w ∈ l) (h : isNum w = false) : numF l = none := by
  unfold numF
  split
  · rfl
  · rw [fold_none hm h]
theorem prefFrom_skip : ∀ (k j : Nat) (l : List Wd), (∀ i, j < i → i ≤ k → numF (l.take i) = none) → j ≤ k → prefFrom k l = prefFrom j l
  | 0, j, l, _, hj => by rw [show j = 0 by omega]
  | k + 1, j, l, h, hj => by
    by_cases e : j = k + 1
    · rw [e]
    · rw [prefFrom, h (k + 1) (by omega) (Nat.le_refl _)]
      exact prefFrom_skip k j l (fun i h1 h2 => h i h1 (by omega)) (by omega)
/-- The longest number at the beginning of words. -/
theorem prefF_numW {n : Nat} (h : n ≤ 999999999) (rest : List Wd) (hr : ∀ w, rest.head? = some w → isNum w = false) : prefF (numW n ++ rest) = some ((n : Int), (numW n).length) := by
  have hl := numW_len n
  have hne : 0 < (numW n).length := List.length_pos_iff.2 (numW_ne n)
  unfold prefF
  rw [prefFrom_skip _ (numW n).length _ (fun i h1 h2 => ?_) (by rw [List.length_append]; omega)]
  · obtain ⟨k, hk⟩ : ∃ k, (numW n).length = k + 1 := ⟨_, (Nat.succ_pred_eq_of_pos hne).symm⟩
    rw [hk, prefFrom, ← hk, List.take_append_of_le_length (Nat.le_refl _), List.take_length, numF_numW h]
  · cases rest with
    | nil => rw [List.length_append] at h2; simp at h2; omega
    | cons w rest =>
      refine numF_none (w := w) ?_ (hr w rfl)
      rw [List.take_append, List.mem_append]
      right
      obtain ⟨d, hd⟩ : ∃ d, i - (numW n).length = d + 1 := ⟨i - (numW n).length - 1, by omega⟩
      rw [hd, List.take_succ_cons]; exact List.mem_cons_self

end Go.Proofs.YtdkppdjonlldhaaGreatDoor

/- Spoken text in plain words: the speaker and the parser. -/
namespace Go.Proofs.YtdkppdjonlldhaaGreatDoor
open Go.RowKit Go.Lib

/-! The signs. -/
def idxS (r : Int) : Option Nat := sgnL.findIdx? fun b => (b.toNat : Int) == r
def spellF (r : Int) : List Wd := match idxS r with | some i => [namL.getD i []] | none => characterW :: numW r.toNat
def signOf (w : Wd) : Option Int := (namL.findIdx? (· == w)).map fun i => ((sgnL.getD i 0).toNat : Int)
def isCharB (n : Int) : Bool := decide ((0 ≤ n ∧ n < 55296) ∨ (57343 < n ∧ n ≤ 1114111))
def unspellF : List Wd → Option (Int × Nat)
  | [] => none
  | w :: rest => match signOf w with
    | some r => some (r, 1)
    | none => if w = characterW then (match prefF rest with
      | none => none
      | some (n, k) => if isCharB n = true ∧ idxS n = none then some (n, 1 + k) else none) else none
def charF (l : List Wd) : Option (Int × Nat) := if l.head? = some spaceW then some (32, 1) else unspellF l

/-! The parser. -/
structure PS where
  words : List Wd
  out : List Gl
  style : Int
  joins : Bool
def lettersGl (s : Wd) (st : Int) : List Gl := s.map fun b => ⟨⟨#[b]⟩, false, st⟩
def PS.text (p : PS) (s : Wd) : PS := { p with out := p.out ++ ((if p.joins then [⟨⟨#[32]⟩, false, p.style⟩] else []) ++ lettersGl s p.style), joins := true }
def PS.take (p : PS) (n : Nat) : PS := { p with words := p.words.drop n }
def attachF (c : List UInt8) (r : Int) : Option (List UInt8) := if clErr c = 0 ∧ isMark r = true ∧ (runesD c).length - 1 < 3 then some (c ++ encodeRune r) else none
def PS.add (p : PS) (r : Int) (times : Nat) : Option PS :=
  if cw r < 0 then none else if cw r = 0 then
    (if 1 < times then none else match p.out.getLast? with
      | none => none
      | some g => (attachF g.text.data.toList r).map fun t => { p with out := p.out.dropLast ++ [{ g with text := ⟨t.toArray⟩ }], joins := false })
  else some { p with out := p.out ++ List.replicate times ⟨⟨(encodeRune r).toArray⟩, cw r == 2, p.style⟩, joins := false }
def plainB (s : Wd) : Bool := !s.isEmpty && s.all fun b => decide (97 ≤ b.toNat) && decide (b.toNat ≤ 122)
def isRes (w : Wd) : Bool := resL.contains w
def styledF (p : PS) : Option PS := match p.words with
  | [] => none
  | w :: rest => match stylL.findIdx? (· == w) with
    | some k => some { p with words := rest, style := k, joins := false }
    | none => if w = joinedW then some { p with words := rest, joins := false } else none
def spelledF : List Wd → Wd → Nat → Option (Wd × Nat)
  | [], _, _ => none
  | w :: rest, s, i => if w = endW ∧ s ≠ [] then some (s, i + 1) else if plainB w = true ∧ w.length = 1 then spelledF rest (s ++ w) (i + 1) else none
def firstPlain : List Wd → Bool
  | [] => false
  | x :: _ => plainB x
def literalF : List Wd → Option (Wd × Nat)
  | [] => none
  | w :: rest => if w = wordW ∧ firstPlain rest = true then some (rest.headD [], 2)
    else if plainB w = true ∧ isRes w = false then some (w, 1) else if w = spelledW then spelledF rest [] 1 else none
def upB (b : UInt8) : UInt8 := if 97 ≤ b.toNat ∧ b.toNat ≤ 122 then b - 32 else b
def lowB (b : UInt8) : UInt8 := if 65 ≤ b.toNat ∧ b.toNat ≤ 90 then b + 32 else b
def casedN (p : PS) : Nat := if p.words.head? = some capW ∨ p.words.head? = some capsW then 1 else 0
def raiseW (p : PS) (s : Wd) : Wd := if p.words.head? = some capsW then s.map upB else if casedN p = 1 then (s.take 1).map upB ++ s.drop 1 else s
def wordF (p : PS) : Option PS := (literalF (p.words.drop (casedN p))).map fun x => (p.text (raiseW p x.1)).take (casedN p + x.2)
def digOf (w : Wd) : Option UInt8 := match numF [w] with | some d => if 0 ≤ d ∧ d ≤ 9 then some (48 + d.toNat.toUInt8) else none | none => none
def figs : List Wd → Wd
  | [] => []
  | w :: l => match digOf w with | some b => b :: figs l | none => []
def figuresF (p : PS) : Option PS := if p.words.head? = some digitsW ∧ figs (p.words.drop 1) ≠ [] then some ((p.text (figs (p.words.drop 1))).take (1 + (figs (p.words.drop 1)).length)) else none
def decL : Nat → Nat → Wd
  | 0, _ => []
  | f + 1, n => if n < 10 then [48 + n.toUInt8] else decL f (n / 10) ++ [48 + (n % 10).toUInt8]
def decW (n : Nat) : Wd := decL (n + 1) n
def amountF (p : PS) : Option PS := match prefF p.words with
  | none => none
  | some (n, used) => if n < 0 then none else if p.words[used]? ≠ some timesW then some ((p.text (decW n.toNat)).take used)
    else match charF (p.words.drop (used + 1)) with
      | none => none
      | some (r, more) => if n < 2 ∨ 132 < n then none else (p.add r n.toNat).map fun q => q.take (used + 1 + more)
def partF (p : PS) : Option PS := match styledF p with
  | some q => some q
  | none => match wordF p with
    | some q => some q
    | none => match figuresF p with
      | some q => some q
      | none => match charF p.words with
        | some (r, n) => (p.add r 1).map fun q => q.take n
        | none => amountF p
inductive Steps : PS → PS → Prop
  | refl (p : PS) : Steps p p
  | step {p q r : PS} : partF p = some q → Steps q r → Steps p r
theorem Steps.trans {p q r : PS} (h : Steps p q) (h2 : Steps q r) : Steps p r := by
  induction h with
  | refl => exact h2
  | step h1 _ ih => exact .step h1 (ih h2)
theorem Steps.one {p q : PS} (h : partF p = some q) : Steps p q := .step h (.refl q)

/-! The speaker. -/
def kindB : List UInt8 → Int
  | [c] => if 97 ≤ c.toNat ∧ c.toNat ≤ 122 then 1 else if 65 ≤ c.toNat ∧ c.toNat ≤ 90 then 2 else if 48 ≤ c.toNat ∧ c.toNat ≤ 57 then 3 else 0
  | _ => 0
def kindG (g : Gl) : Int := kindB g.text.data.toList
def countF (l : List Gl) (k st : Int) : Nat := (l.takeWhile fun g => kindG g == k && g.style == st).length
def glEq (a b : Gl) : Bool := (a.text.data.toList == b.text.data.toList) && ((a.wide == b.wide) && (a.style == b.style))
def sameF (g : Gl) (l : List Gl) : Nat := min 132 (1 + (l.takeWhile fun x => glEq x g).length)
def pieceF (rep : Int) : List Gl → Nat
  | [] => 0
  | g :: l => if kindG g = 1 ∨ kindG g = 3 then countF (g :: l) (kindG g) g.style
    else if kindG g = 2 then (if 1 < countF (g :: l) 2 g.style then countF (g :: l) 2 g.style else 1 + countF l 1 g.style)
    else if 0 < rep ∧ rep ≤ (sameF g l : Int) ∧ (runesD g.text.data.toList).length = 1 then sameF g l else 1
def catL (l : List Gl) : Wd := l.flatMap fun g => g.text.data.toList
def highN (t : Wd) : Nat := t.countP fun b => b != lowB b
def lettersF (sp : Bool) (t : Wd) : List Wd :=
  (if highN t = 1 then [capW] else if 1 < highN t then [capsW] else []) ++
    (if sp then spelledW :: ((t.map lowB).map (fun b => [b]) ++ [endW]) else (if isRes (t.map lowB) then [wordW] else []) ++ [t.map lowB])
def numOfD (t : Wd) : Nat := t.foldl (fun n b => 10 * n + (b.toNat - 48)) 0
def digitsF (sd : Bool) (t : Wd) : List Wd :=
  if sd = true ∨ 9 < t.length ∨ (1 < t.length ∧ t.head? = some 48) then digitsW :: t.flatMap (fun b => numW (b.toNat - 48)) else numW (numOfD t)
def singleF (g : Gl) : List Wd := if g.text.data.toList = [32] then [spaceW] else (runesD g.text.data.toList).flatMap spellF
structure Stg where
  sd : Bool
  sp : Bool
  rep : Int
def spokenF (s : Stg) : List Gl → List Wd
  | [] => []
  | g :: l => if kindG g = 1 ∨ kindG g = 2 then lettersF s.sp (catL (g :: l)) else if kindG g = 3 then digitsF s.sd (catL (g :: l))
    else if l = [] then singleF g else numW (l.length + 1) ++ (timesW :: singleF g)
structure SS where
  out : List Wd
  style : Int
  before : Int
  silent : Bool
def lastNum (l : List Wd) : Bool := match l.getLast? with | none => false | some w => isNum w
def headNum (l : List Wd) : Bool := match l with | [] => false | w :: _ => isNum w
def skipsF (s : Stg) (p : SS) : List Gl → Bool
  | [] => false
  | [_] => false
  | g :: h :: r => decide (g.text.data.toList = [32]) && (p.before != 0 && (g.style == p.style && (kindG h != 0 && (h.style == p.style &&
      (p.before != 3 || !(headNum (spokenF s ((h :: r).take (pieceF s.rep (h :: r))))))))))
def linkF (p : SS) (g : Gl) (w : List Wd) : List Wd :=
  if g.style ≠ p.style then [stylL.getD g.style.toNat []] else if kindG g ≠ 0 ∧ p.before ≠ 0 then (if p.silent then [] else [joinedW])
  else if headNum w = true ∧ lastNum p.out = true then [joinedW] else []
def sayF (s : Stg) (p : SS) (l : List Gl) : SS := match l with
  | [] => p
  | g :: _ => ⟨p.out ++ (linkF p g (spokenF s l) ++ spokenF s l), g.style, kindG g, false⟩
def sayAll (s : Stg) : Nat → SS → List Gl → SS
  | 0, p, _ => p
  | f + 1, p, l => if l = [] then p else
    if pieceF s.rep l = 1 ∧ skipsF s p l = true then sayAll s f { p with silent := true } (l.drop 1)
    else sayAll s f (sayF s p (l.take (pieceF s.rep l))) (l.drop (pieceF s.rep l))
def wordsF (s : Stg) (l : List Gl) : List Wd := (sayAll s l.length ⟨[], 0, 0, false⟩ l).out
/-- Is a glyph proper? -/
def GoodG (g : Gl) : Prop := clErr g.text.data.toList = 0 ∧ g.wide = (clW g.text.data.toList == 2) ∧ 0 ≤ g.style ∧ g.style ≤ 3
end Go.Proofs.YtdkppdjonlldhaaGreatDoor

/- Spoken text in plain words: what is spoken is read again, piece by piece. -/
namespace Go.Proofs.YtdkppdjonlldhaaGreatDoor
open Go.RowKit Go.Lib

/-! Words of all kinds. -/
theorem res_of {w x : Wd} (h : isRes w = false) (hx : isRes x = true) : w ≠ x := fun e => by subst e; rw [hx] at h; cases h
theorem num_facts : ∀ w ∈ vocL, isRes w = true ∧ w ≠ wordW ∧ w ≠ spelledW ∧ w ≠ capW ∧ w ≠ capsW ∧ w ≠ digitsW ∧ w ≠ spaceW ∧ w ≠ characterW ∧ w ≠ timesW ∧ w ≠ joinedW ∧ signOf w = none ∧ stylL.findIdx? (· == w) = none := by decide
theorem isNum_mem {w : Wd} (h : isNum w = true) : w ∈ vocL := by unfold isNum at h; exact List.contains_iff_mem.1 h
theorem nam_facts : ∀ i, i < 32 → isRes (namL.getD i []) = true ∧ namL.getD i [] ≠ wordW ∧ namL.getD i [] ≠ spelledW ∧ namL.getD i [] ≠ capW ∧ namL.getD i [] ≠ capsW ∧ namL.getD i [] ≠ digitsW ∧ namL.getD i [] ≠ spaceW ∧ namL.getD i [] ≠ timesW ∧ namL.getD i [] ≠ joinedW ∧ isNum (namL.getD i []) = false ∧ stylL.findIdx? (· == namL.getD i []) = none ∧ signOf (namL.getD i []) = some ((sgnL.getD i 0).toNat : Int) := by decide
theorem idxS_some {r : Int} {i : Nat} (h : idxS r = some i) : i < 32 ∧ ((sgnL.getD i 0).toNat : Int) = r := by
  unfold idxS at h
  rw [List.findIdx?_eq_some_iff_getElem] at h
  obtain ⟨hi, h1, -⟩ := h
  refine ⟨hi, ?_⟩
  rw [List.getD_eq_getElem?_getD, List.getElem?_eq_getElem hi]
  simpa using h1
theorem low_styl {w : Wd} (h : isRes w = false) : stylL.findIdx? (· == w) = none := by
  rw [List.findIdx?_eq_none_iff]
  intro x hx
  have hr : isRes x = true := by revert x; decide
  have := res_of h hr
  simpa using fun e : x = w => this e.symm

/-- The first word of words that are read neither as a style nor as a word part. -/
def Sober (w : Wd) : Prop := isRes w = true ∧ w ≠ wordW ∧ w ≠ spelledW ∧ w ≠ capW ∧ w ≠ capsW ∧ w ≠ joinedW ∧ stylL.findIdx? (· == w) = none
theorem styledF_none {p : PS} {w : Wd} {rest : List Wd} (hp : p.words = w :: rest) (h1 : stylL.findIdx? (· == w) = none) (h2 : w ≠ joinedW) : styledF p = none := by
  unfold styledF; rw [hp]; dsimp only; rw [h1]; dsimp only; rw [if_neg h2]
theorem casedN_zero {p : PS} {w : Wd} {rest : List Wd} (hp : p.words = w :: rest) (h1 : w ≠ capW) (h2 : w ≠ capsW) : casedN p = 0 := by
  unfold casedN; rw [hp, if_neg]; simp [h1, h2]
theorem wordF_none {p : PS} {w : Wd} {rest : List Wd} (hp : p.words = w :: rest) (h : Sober w) : wordF p = none := by
  obtain ⟨h1, h2, h3, h4, h5, -, -⟩ := h
  unfold wordF
  rw [casedN_zero hp h4 h5, hp, List.drop_zero, literalF, if_neg (fun e => h2 e.1), if_neg (fun e => by rw [h1] at e; cases e.2), if_neg h3]; rfl
theorem partF_sober {p : PS} {w : Wd} {rest : List Wd} (hp : p.words = w :: rest) (h : Sober w) : partF p = match figuresF p with
      | some q => some q
      | none => match charF p.words with
        | some (r, n) => (p.add r 1).map fun q => q.take n
        | none => amountF p := by
  unfold partF; simp only [styledF_none hp h.2.2.2.2.2.2 h.2.2.2.2.2.1, wordF_none hp h] <;> rfl
theorem figuresF_none {p : PS} {w : Wd} {rest : List Wd} (hp : p.words = w :: rest) (h : w ≠ digitsW) : figuresF p = none := by
  unfold figuresF; rw [hp, if_neg]; simp [h]
theorem sober_digits : Sober digitsW := by unfold Sober; decide
theorem sober_space : Sober spaceW := by unfold Sober; decide
theorem sober_character : Sober characterW := by unfold Sober; decide
theorem sober_num {w : Wd} (h : isNum w = true) : Sober w := by
  obtain ⟨h1, h2, h3, h4, h5, -, -, -, -, h6, -, h7⟩ := num_facts w (isNum_mem h); exact ⟨h1, h2, h3, h4, h5, h6, h7⟩
theorem sober_nam {i : Nat} (h : i < 32) : Sober (namL.getD i []) := by
  obtain ⟨h1, h2, h3, h4, h5, -, -, -, h6, -, h7, -⟩ := nam_facts i h; exact ⟨h1, h2, h3, h4, h5, h6, h7⟩

/-! Letters. -/
def isSmall (b : UInt8) : Prop := 97 ≤ b.toNat ∧ b.toNat ≤ 122
def isCap (b : UInt8) : Prop := 65 ≤ b.toNat ∧ b.toNat ≤ 90
def isDig (b : UInt8) : Prop := 48 ≤ b.toNat ∧ b.toNat ≤ 57
theorem byte_all {P : UInt8 → Prop} (h : ∀ n : Fin 256, P (UInt8.ofNat n.val)) (b : UInt8) : P b := by
  have := h ⟨b.toNat, UInt8.toNat_lt b⟩
  simpa using this
theorem low_small : ∀ b : UInt8, isSmall b → lowB b = b ∧ upB b = b - 32 := byte_all (by unfold isSmall; decide +kernel)
theorem low_cap : ∀ b : UInt8, isCap b → isSmall (lowB b) ∧ upB (lowB b) = b ∧ lowB b ≠ b := byte_all (by unfold isCap isSmall; decide +kernel)
def Letters (t : Wd) : Prop := (t ≠ [] ∧ ∀ b ∈ t, isSmall b) ∨ (2 ≤ t.length ∧ ∀ b ∈ t, isCap b) ∨ ∃ c s, t = c :: s ∧ isCap c ∧ ∀ b ∈ s, isSmall b
theorem Letters.low {t : Wd} (h : Letters t) : t.map lowB ≠ [] ∧ ∀ b ∈ t.map lowB, isSmall b := by
  rcases h with ⟨h1, h2⟩ | ⟨h1, h2⟩ | ⟨c, s, rfl, hc, hs⟩
  · refine ⟨by simpa using h1, fun b hb => ?_⟩
    obtain ⟨x, hx, rfl⟩ := List.mem_map.1 hb
    rw [(low_small x (h2 x hx)).1]; exact h2 x hx
  · refine ⟨by intro e; rw [List.map_eq_nil_iff] at e; subst e; simp at h1, fun b hb => ?_⟩
    obtain ⟨x, hx, rfl⟩ := List.mem_map.1 hb
    exact (low_cap x (h2 x hx)).1
  · refine ⟨by simp, fun b hb => ?_⟩
    obtain ⟨x, hx, rfl⟩ := List.mem_map.1 hb
    rcases List.mem_cons.1 hx with rfl | hx
    · exact (low_cap x hc).1
    · rw [(low_small x (hs x hx)).1]; exact hs x hx
theorem plainB_of {s : Wd} (h : s ≠ []) (h2 : ∀ b ∈ s, isSmall b) : plainB s = true := by
  unfold plainB
  rw [Bool.and_eq_true]
  refine ⟨by cases s with | nil => exact absurd rfl h | cons x s => rfl, ?_⟩
  rw [List.all_eq_true]
  intro b hb
  have := h2 b hb
  unfold isSmall at this
  simp [this]
def litW (sp : Bool) (low : Wd) : List Wd := if sp then spelledW :: (low.map (fun b => [b]) ++ [endW]) else (if isRes low then [wordW] else []) ++ [low]
theorem spelledF_all (rest : List Wd) : ∀ (low s : Wd) (i : Nat), s ++ low ≠ [] → (∀ b ∈ low, isSmall b) → spelledF (low.map (fun b => [b]) ++ (endW :: rest)) s i = some (s ++ low, i + low.length + 1)
  | [], s, i, h, _ => by
    rw [List.append_nil] at h
    show spelledF (endW :: rest) s i = _
    rw [spelledF, if_pos ⟨rfl, h⟩]; simp
  | b :: low, s, i, h, hs => by
    show spelledF ([b] :: (low.map (fun b => [b]) ++ (endW :: rest))) s i = _
    rw [spelledF, if_neg (fun e => by have := congrArg List.length e.1; simp at this), if_pos ⟨plainB_of (by simp) (fun x hx => by simp at hx; subst hx; exact hs _ List.mem_cons_self), rfl⟩,
      spelledF_all rest low (s ++ [b]) (i + 1) (by simp) (fun x hx => hs x (List.mem_cons_of_mem _ hx))]
    simp; omega
theorem literalF_lit (sp : Bool) {low : Wd} (h : low ≠ []) (hs : ∀ b ∈ low, isSmall b) (rest : List Wd) : literalF (litW sp low ++ rest) = some (low, (litW sp low).length) := by
  have hp := plainB_of h hs
  unfold litW
  cases sp with
  | true =>
    show literalF (spelledW :: ((low.map (fun b => [b]) ++ [endW]) ++ rest)) = _
    rw [literalF, if_neg (fun e => absurd e.1 (by decide)), if_neg (fun e => absurd e.2 (by decide)), if_pos rfl, List.append_assoc]
    show spelledF (low.map (fun b => [b]) ++ (endW :: rest)) [] 1 = _
    rw [spelledF_all rest low [] 1 (by simpa using h) hs]
    simp; omega
  | false =>
    show literalF (((if isRes low = true then [wordW] else []) ++ [low]) ++ rest) = some (low, ((if isRes low = true then [wordW] else []) ++ [low]).length)
    cases hr : isRes low with
    | true =>
      rw [if_pos rfl]
      show literalF (wordW :: low :: rest) = _
      rw [literalF, if_pos ⟨rfl, hp⟩]; rfl
    | false =>
      rw [if_neg (by simp)]
      show literalF (low :: rest) = _
      rw [literalF, if_neg (fun e => res_of hr (by decide) e.1), if_pos ⟨hp, hr⟩]; rfl
theorem lit_head (sp : Bool) {low : Wd} : ∃ w r, litW sp low = w :: r ∧ ((w = spelledW ∨ w = wordW) ∨ (isRes w = false)) := by
  unfold litW
  cases sp with
  | true => exact ⟨_, _, rfl, .inl (.inl rfl)⟩
  | false =>
    cases hr : isRes low with
    | true => exact ⟨wordW, [low], rfl, .inl (.inr rfl)⟩
    | false => exact ⟨low, [], rfl, .inr hr⟩
theorem lit_quiet {w : Wd} (h : (w = spelledW ∨ w = wordW) ∨ isRes w = false) : w ≠ capW ∧ w ≠ capsW ∧ w ≠ joinedW ∧ w ≠ timesW ∧ isNum w = false ∧ stylL.findIdx? (· == w) = none := by
  rcases h with (rfl | rfl) | h
  · decide
  · decide
  · refine ⟨res_of h (by decide), res_of h (by decide), res_of h (by decide), res_of h (by decide), ?_, low_styl h⟩
    cases hn : isNum w with
    | false => rfl
    | true => have := (num_facts w (isNum_mem hn)).1; rw [this] at h; cases h
def afterText (p : PS) (t : Wd) (rest : List Wd) : PS := ⟨rest, p.out ++ ((if p.joins then [⟨⟨#[32]⟩, false, p.style⟩] else []) ++ lettersGl t p.style), p.style, true⟩
theorem partF_letters (p : PS) (sp : Bool) {t : Wd} (ht : Letters t) (rest : List Wd) (hp : p.words = lettersF sp t ++ rest) : partF p = some (afterText p t rest) := by
  obtain ⟨hl0, hls⟩ := ht.low
  have hlit := literalF_lit sp hl0 hls rest
  obtain ⟨w, r, hw, hk⟩ := lit_head sp (low := t.map lowB)
  obtain ⟨q1, q2, q3, -, -, q6⟩ := lit_quiet hk
  have hfin : ∀ (C : List Wd), p.words = C ++ (litW sp (t.map lowB) ++ rest) → C.length = casedN p → raiseW p (t.map lowB) = t → wordF p = some (afterText p t rest) := fun C hC hn hr => by
    unfold wordF
    rw [hC, ← hn, List.drop_left, hlit]
    show some ((p.text (raiseW p (t.map lowB))).take _) = _
    rw [hr]
    unfold PS.take PS.text afterText
    dsimp only
    rw [hC, ← List.append_assoc, ← List.length_append, List.drop_left]
  have hpart : styledF p = none → wordF p = some (afterText p t rest) → partF p = some (afterText p t rest) := fun h1 h2 => by
    unfold partF; rw [h1]; dsimp only; rw [h2]
  have hwords : p.words = (if highN t = 1 then [capW] else if 1 < highN t then [capsW] else []) ++ (litW sp (t.map lowB) ++ rest) := by
    rw [hp]; unfold lettersF litW; rw [List.append_assoc]
  rcases ht with ⟨h1, h2⟩ | ⟨h1, h2⟩ | ⟨c, s, rfl, hc, hs⟩
  · have hh : highN t = 0 := by
      unfold highN; rw [List.countP_eq_zero]; intro b hb; rw [(low_small b (h2 b hb)).1]; simp
    rw [hh, if_neg (by omega), if_neg (by omega)] at hwords
    have hw2 : p.words = w :: (r ++ rest) := by rw [hwords, hw]; rfl
    have hc0 := casedN_zero hw2 q1 q2
    refine hpart (styledF_none hw2 q6 q3) (hfin [] hwords hc0.symm ?_)
    unfold raiseW
    rw [hw2, hc0, if_neg (by simp [q2]), if_neg (by omega), List.map_congr_left (g := id) (fun b hb => (low_small b (h2 b hb)).1), List.map_id]
  · have hh : highN t = t.length := by
      unfold highN; rw [List.countP_eq_length]; intro b hb; simpa using fun e => (low_cap b (h2 b hb)).2.2 e.symm
    rw [hh, if_neg (by omega), if_pos (by omega)] at hwords
    have hw2 : p.words = capsW :: (litW sp (t.map lowB) ++ rest) := hwords
    have hc1 : casedN p = 1 := by unfold casedN; rw [hw2, if_pos (.inr rfl)]
    refine hpart (styledF_none hw2 (by decide) (by decide)) (hfin [capsW] hwords (by rw [hc1]; rfl) ?_)
    unfold raiseW
    rw [hw2, if_pos (List.head?_cons), List.map_map, List.map_congr_left (f := upB ∘ lowB) (g := id) (fun b hb => (low_cap b (h2 b hb)).2.1), List.map_id]
  · have hh : highN (c :: s) = 1 := by
      unfold highN
      rw [List.countP_cons, if_pos (by simpa using fun e => (low_cap c hc).2.2 e.symm), List.countP_eq_zero.2 (fun b hb => by rw [(low_small b (hs b hb)).1]; simp)]
    rw [hh, if_pos rfl] at hwords
    have hw2 : p.words = capW :: (litW sp ((c :: s).map lowB) ++ rest) := hwords
    have hc1 : casedN p = 1 := by unfold casedN; rw [hw2, if_pos (.inl rfl)]
    refine hpart (styledF_none hw2 (by decide) (by decide)) (hfin [capW] hwords (by rw [hc1]; rfl) ?_)
    unfold raiseW
    rw [hw2, if_neg (fun e => by cases e), if_pos hc1]
    show upB (lowB c) :: s.map lowB = c :: s
    rw [(low_cap c hc).2.1, List.map_congr_left (g := id) (fun b hb => (low_small b (hs b hb)).1), List.map_id]
theorem letters_head (sp : Bool) {t : Wd} : ∃ w r, lettersF sp t = w :: r ∧ w ≠ timesW ∧ isNum w = false := by
  unfold lettersF
  obtain ⟨w, r, hw, hk⟩ := lit_head sp (low := t.map lowB)
  obtain ⟨-, -, -, q4, q5, -⟩ := lit_quiet hk
  show ∃ w r, _ ++ litW sp (t.map lowB) = w :: r ∧ _
  rw [hw]
  by_cases h1 : highN t = 1
  · rw [if_pos h1]; exact ⟨capW, _, rfl, by decide, by decide⟩
  · rw [if_neg h1]
    by_cases h2 : 1 < highN t
    · rw [if_pos h2]; exact ⟨capsW, _, rfl, by decide, by decide⟩
    · rw [if_neg h2]; exact ⟨w, r, rfl, q4, q5⟩

/-! Digits. -/
theorem numW_dig : ∀ d, d < 10 → numW d = [vW d] ∧ isNum (vW d) = true := by decide
theorem digOf_v {b : UInt8} (h : isDig b) : digOf (vW (b.toNat - 48)) = some b := by
  unfold isDig at h
  have h1 := (numW_dig (b.toNat - 48) (by omega)).1
  have h2 := numF_numW (n := b.toNat - 48) (by omega)
  rw [h1] at h2
  unfold digOf
  rw [h2]
  dsimp only
  rw [if_pos (by omega)]
  congr 1
  apply UInt8.toNat_inj.1
  rw [UInt8.toNat_add]
  simp
  omega
theorem digOf_none {w : Wd} (h : isNum w = false) : digOf w = none := by
  unfold digOf; rw [numF_none List.mem_cons_self h]
theorem figs_all : ∀ (t : Wd) (rest : List Wd), (∀ b ∈ t, isDig b) → headNum rest = false → figs (t.flatMap (fun b => numW (b.toNat - 48)) ++ rest) = t
  | [], rest, _, h => by
    cases rest with
    | nil => rfl
    | cons w rest => show figs (w :: rest) = []; rw [figs, digOf_none h]
  | b :: t, rest, ht, h => by
    have hb := ht b List.mem_cons_self
    rw [List.flatMap_cons, (numW_dig (b.toNat - 48) (by unfold isDig at hb; omega)).1]
    show figs (vW (b.toNat - 48) :: (t.flatMap (fun b => numW (b.toNat - 48)) ++ rest)) = _
    rw [figs, digOf_v hb, figs_all t rest (fun x hx => ht x (List.mem_cons_of_mem _ hx)) h]
theorem flat_dig : ∀ (t : Wd), (∀ b ∈ t, isDig b) → (t.flatMap (fun b => numW (b.toNat - 48))).length = t.length
  | [], _ => rfl
  | b :: t, h => by
    have hb := h b List.mem_cons_self
    rw [List.flatMap_cons, (numW_dig (b.toNat - 48) (by unfold isDig at hb; omega)).1, List.length_append, flat_dig t (fun x hx => h x (List.mem_cons_of_mem _ hx))]
    simp; omega
theorem snoc_ind {P : Wd → Prop} (h0 : P []) (hs : ∀ t b, P t → P (t ++ [b])) : ∀ t, P t := fun t => by
  have : ∀ u : Wd, P u.reverse := fun u => by
    induction u with
    | nil => exact h0
    | cons x u ih => rw [List.reverse_cons]; exact hs _ _ ih
  have h := this t.reverse
  rwa [List.reverse_reverse] at h
theorem numOfD_snoc (t : Wd) (b : UInt8) : numOfD (t ++ [b]) = 10 * numOfD t + (b.toNat - 48) := by unfold numOfD; rw [List.foldl_append]; rfl
theorem numOfD_lt : ∀ (t : Wd), (∀ b ∈ t, isDig b) → numOfD t < 10 ^ t.length := by
  refine snoc_ind (fun _ => by unfold numOfD; simp) (fun t b ih h => ?_)
  rw [numOfD_snoc, List.length_append, List.length_singleton, Nat.pow_succ]
  have hb := h b (by simp)
  have := ih (fun x hx => h x (by simp [hx]))
  unfold isDig at hb
  omega
theorem decL_fuel : ∀ (f n : Nat), n < f → decL f n = decW n
  | 0, n, h => by omega
  | f + 1, n, h => by
    unfold decW
    rw [decL, decL]
    by_cases h10 : n < 10
    · rw [if_pos h10, if_pos h10]
    · rw [if_neg h10, if_neg h10, decL_fuel f (n / 10) (by omega), ← decL_fuel n (n / 10) (by omega)]
termination_by f => f
theorem decW_ten {n : Nat} (h : 10 ≤ n) : decW n = decW (n / 10) ++ [48 + (n % 10).toUInt8] := by
  conv => lhs; unfold decW
  rw [decL, if_neg (by omega), decL_fuel n (n / 10) (by omega)]
theorem decW_low {n : Nat} (h : n < 10) : decW n = [48 + n.toUInt8] := by unfold decW; rw [decL, if_pos h]
theorem dig_byte {b : UInt8} (h : isDig b) : 48 + (b.toNat - 48).toUInt8 = b := by
  unfold isDig at h
  apply UInt8.toNat_inj.1
  rw [UInt8.toNat_add]
  simp
  omega
theorem decW_numOfD : ∀ (t : Wd), t ≠ [] → (∀ b ∈ t, isDig b) → (t.length = 1 ∨ t.head? ≠ some 48) → decW (numOfD t) = t ∧ (t.head? ≠ some 48 → 0 < numOfD t) := by
  refine snoc_ind (fun h => absurd rfl h) (fun t b ih _ h h0 => ?_)
  have hb := h b (by simp)
  have hd := dig_byte hb
  rw [numOfD_snoc]
  by_cases ht : t = []
  · subst ht
    have e : 10 * numOfD [] + (b.toNat - 48) = b.toNat - 48 := by unfold numOfD; simp
    rw [e]
    unfold isDig at hb
    refine ⟨by rw [decW_low (by omega), hd]; rfl, fun hne => ?_⟩
    by_cases e48 : b.toNat = 48
    · exact absurd (congrArg some (UInt8.toNat_inj.1 (show b.toNat = (48 : UInt8).toNat from e48))) hne
    · omega
  · have hh : (t ++ [b]).head? = t.head? := by cases t with | nil => exact absurd rfl ht | cons x t => rfl
    have hlen : 0 < t.length := List.length_pos_iff.2 ht
    have h48 : t.head? ≠ some 48 := by
      rcases h0 with h0 | h0
      · rw [List.length_append, List.length_singleton] at h0; omega
      · rwa [hh] at h0
    obtain ⟨ih1, ih2⟩ := ih ht (fun x hx => h x (by simp [hx])) (.inr h48)
    have hpos := ih2 h48
    unfold isDig at hb
    refine ⟨?_, fun _ => by omega⟩
    rw [decW_ten (by omega), show (10 * numOfD t + (b.toNat - 48)) / 10 = numOfD t by omega, show (10 * numOfD t + (b.toNat - 48)) % 10 = b.toNat - 48 by omega, ih1, hd]
theorem headNum_app {a b : List Wd} (h : a ≠ []) : headNum (a ++ b) = headNum a := by cases a with | nil => exact absurd rfl h | cons x a => rfl
theorem numW_cons (n : Nat) (h : n ≤ 999999999) : ∃ w r, numW n = w :: r ∧ isNum w = true := by
  have := numW_num h
  cases hw : numW n with
  | nil => exact absurd hw (numW_ne n)
  | cons w r => rw [hw] at this; exact ⟨w, r, rfl, this w List.mem_cons_self⟩
theorem head_of {rest : List Wd} (h : headNum rest = false) : ∀ w, rest.head? = some w → isNum w = false := fun w hw => by
  cases rest with
  | nil => cases hw
  | cons x rest => cases hw; exact h
theorem charF_num {w : Wd} {l : List Wd} (h : isNum w = true) : charF (w :: l) = none := by
  obtain ⟨-, -, -, -, -, -, h1, h2, -, -, h3, -⟩ := num_facts w (isNum_mem h)
  unfold charF
  rw [if_neg (by simpa using h1), unspellF, h3]
  dsimp only
  rw [if_neg h2]
/-- A part that begins with a number is read as an amount. -/
theorem partF_num {p : PS} {w : Wd} {r : List Wd} (hp : p.words = w :: r) (h : isNum w = true) : partF p = amountF p := by
  rw [partF_sober hp (sober_num h), figuresF_none hp (num_facts w (isNum_mem h)).2.2.2.2.2.1]
  dsimp only
  rw [hp, charF_num h]
theorem partF_digits (p : PS) (sd : Bool) {t : Wd} (h0 : t ≠ []) (ht : ∀ b ∈ t, isDig b) (rest : List Wd) (hr : headNum rest = false) (hr2 : rest.head? ≠ some timesW) (hp : p.words = digitsF sd t ++ rest) : partF p = some (afterText p t rest) := by
  have hl0 : 0 < t.length := List.length_pos_iff.2 h0
  unfold digitsF at hp
  by_cases hc : sd = true ∨ 9 < t.length ∨ (1 < t.length ∧ t.head? = some 48)
  · rw [if_pos hc] at hp
    have hp2 : p.words = digitsW :: (t.flatMap (fun b => numW (b.toNat - 48)) ++ rest) := hp
    rw [partF_sober hp2 sober_digits]
    have hf := figs_all t rest ht hr
    have hfr : figuresF p = some ((p.text t).take (1 + t.length)) := by
      have hdr : p.words.drop 1 = t.flatMap (fun b => numW (b.toNat - 48)) ++ rest := by rw [hp2]; rfl
      unfold figuresF
      rw [hdr]
      simp only [hf]
      rw [if_pos ⟨by rw [hp2]; rfl, h0⟩]
    rw [hfr]
    dsimp only
    unfold PS.take PS.text afterText
    dsimp only
    rw [hp2, show 1 + t.length = t.length + 1 by omega, List.drop_succ_cons, ← flat_dig t ht, List.drop_left]
  · rw [if_neg hc] at hp
    have hc1 : t.length ≤ 9 := by simp only [not_or] at hc; omega
    have hc2 : t.length = 1 ∨ t.head? ≠ some 48 := by
      by_cases h1 : t.length = 1
      · exact .inl h1
      · refine .inr fun e => hc (.inr (.inr ⟨by omega, e⟩))
    have hn : numOfD t ≤ 999999999 := by
      have := numOfD_lt t ht
      have h9 : 10 ^ t.length ≤ 10 ^ 9 := Nat.pow_le_pow_right (by omega) hc1
      omega
    obtain ⟨w, r, hw, hwn⟩ := numW_cons _ hn
    have hp2 : p.words = w :: (r ++ rest) := by rw [hp, hw]; rfl
    rw [partF_num hp2 hwn]
    unfold amountF
    rw [hp, prefF_numW hn rest (head_of hr)]
    dsimp only
    rw [if_neg (by omega), if_pos (by rw [List.getElem?_append_right (Nat.le_refl _), Nat.sub_self, ← List.head?_eq_getElem?]; exact hr2), Int.toNat_natCast, (decW_numOfD t h0 ht hc2).1]
    unfold PS.take PS.text afterText
    dsimp only
    rw [hp, List.drop_left]
end Go.Proofs.YtdkppdjonlldhaaGreatDoor

/- Spoken text in plain words: facts of characters. -/
namespace Go.Proofs.YtdkppdjonlldhaaGreatDoor
open Go.RowKit Go.Lib

theorem cw32 : cw 32 = 1 := by decide +kernel
theorem enc32 : encodeRune 32 = [32] := by decide +kernel
theorem clW_one : ∀ b : UInt8, (clW [b] == 2) = false := byte_all (by decide +kernel)
theorem runesD_of_encs {rs : List Int} (h : ∀ r ∈ rs, GoodR r) : runesD (encs rs) = rs := by
  have h1 := decFrom_encs rs h [] []
  have h2 := decFrom_valid (encs rs) (validD_encs rs)
  rw [List.append_nil, List.nil_append] at h1
  rw [h1] at h2
  unfold decFrom at h2
  simpa using h2.symm
theorem runesD_good (l : List UInt8) : ∀ r ∈ runesD l, GoodR r := runesL_good _ _
theorem mark_zero {r : Int} (h : isMark r = true) : cw r = 0 := by
  refine cw_mark (fun hc => ?_) h
  unfold isMark marksTab at h
  rw [List.any_eq_true] at h
  obtain ⟨p, hp, hin⟩ := h
  have hlo : 0x0300 ≤ p.1 := (show ∀ p ∈ ([(0x0300, 0x036F), (0x1AB0, 0x1AFF), (0x1DC0, 0x1DFF), (0x200B, 0x200F), (0x20D0, 0x20FF), (0xFE00, 0xFE0F), (0xFE20, 0xFE2F)] : List (Int × Int)), 0x0300 ≤ p.1 by decide) p hp
  unfold inPair at hin
  simp at hin
  omega
end Go.Proofs.YtdkppdjonlldhaaGreatDoor

/- Spoken text in plain words: signs, and the whole: what is spoken is read again. -/
namespace Go.Proofs.YtdkppdjonlldhaaGreatDoor
open Go.RowKit Go.Lib

/-! The signs. -/
theorem headNum_spell (r : Int) (x : List Wd) : headNum (spellF r ++ x) = false := by
  unfold spellF
  cases h : idxS r with
  | none => show isNum characterW = false; decide
  | some i => exact (nam_facts i (idxS_some h).1).2.2.2.2.2.2.2.2.2.1
theorem spell_ne (r : Int) : spellF r ≠ [] := by unfold spellF; split <;> simp
theorem spell_head (r : Int) : ∃ w y, spellF r = w :: y ∧ Sober w ∧ w ≠ digitsW ∧ w ≠ timesW ∧ isNum w = false := by
  unfold spellF
  cases h : idxS r with
  | none => exact ⟨characterW, _, rfl, sober_character, by decide, by decide, by decide⟩
  | some i =>
    have hi := (idxS_some h).1
    obtain ⟨-, -, -, -, -, h1, -, h2, -, h3, -⟩ := nam_facts i hi
    exact ⟨_, [], rfl, sober_nam hi, h1, h2, h3⟩
theorem lastNum_app {a b : List Wd} (h : b ≠ []) : lastNum (a ++ b) = lastNum b := by
  unfold lastNum
  rw [List.getLast?_append]
  cases hb : b.getLast? with
  | none => rw [List.getLast?_eq_none_iff] at hb; exact absurd hb h
  | some w => rfl
theorem lastNum_num {n : Nat} (h : n ≤ 999999999) : lastNum (numW n) = true := by
  unfold lastNum
  cases hl : (numW n).getLast? with
  | none => rw [List.getLast?_eq_none_iff] at hl; exact absurd hl (numW_ne n)
  | some w => exact numW_num h w (List.mem_of_getLast? hl)
theorem good_max {r : Int} (h : GoodR r) : 0 ≤ r ∧ r.toNat ≤ 999999999 ∧ isCharB r = true := by
  unfold isCharB
  have h' := h
  unfold GoodR at h'
  exact ⟨by omega, by omega, by simpa [GoodR] using h⟩
theorem spell_num {r : Int} (hr : GoodR r) (h : idxS r = none) : lastNum (spellF r) = true := by
  unfold spellF; rw [h]
  show lastNum ([characterW] ++ numW r.toNat) = true
  rw [lastNum_app (numW_ne _), lastNum_num (good_max hr).2.1]
theorem charF_spell {r : Int} (hr : GoodR r) (rest : List Wd) (hl : lastNum (spellF r) = true → headNum rest = false) : charF (spellF r ++ rest) = some (r, (spellF r).length) := by
  obtain ⟨h0, hm, hc⟩ := good_max hr
  cases h : idxS r with
  | none =>
    have hn := hl (spell_num hr h)
    unfold spellF; rw [h]
    show charF (characterW :: (numW r.toNat ++ rest)) = some (r, (numW r.toNat).length + 1)
    unfold charF
    rw [if_neg (by simp), unspellF, show signOf characterW = none by decide]
    dsimp only
    rw [if_pos rfl, prefF_numW hm rest (head_of hn), Int.toNat_of_nonneg h0]
    dsimp only
    rw [if_pos ⟨hc, h⟩, Nat.add_comm]
  | some i =>
    obtain ⟨hi, hs⟩ := idxS_some h
    obtain ⟨-, -, -, -, -, -, h1, -, -, -, -, h2⟩ := nam_facts i hi
    unfold spellF; rw [h]
    show charF (namL.getD i [] :: rest) = some (r, 1)
    unfold charF
    rw [if_neg (by simpa using h1), unspellF, h2]
    dsimp only
    rw [hs]
theorem partF_char {p : PS} {r : Int} (hr : GoodR r) (rest : List Wd) (hl : lastNum (spellF r) = true → headNum rest = false) (hp : p.words = spellF r ++ rest) : partF p = (p.add r 1).map fun q => q.take (spellF r).length := by
  obtain ⟨w, y, hw, h1, h2, -⟩ := spell_head r
  have hp2 : p.words = w :: (y ++ rest) := by rw [hp, hw]; rfl
  rw [partF_sober hp2 h1, figuresF_none hp2 h2]
  dsimp only
  rw [hp, charF_spell hr rest hl]
theorem take_words (W : List Wd) (o : List Gl) (s : Int) (j : Bool) (a rest : List Wd) (h : W = a ++ rest) : (⟨W, o, s, j⟩ : PS).take a.length = ⟨rest, o, s, j⟩ := by
  unfold PS.take; rw [h, List.drop_left]
structure Cl (l : List UInt8) (r : Int) (ms : List Int) : Prop where
  run : runesD l = r :: ms
  enc : encs (r :: ms) = l
  wid : 1 ≤ cw r
  mark : ∀ m ∈ ms, isMark m = true
  few : ms.length ≤ 3
  good : ∀ x ∈ r :: ms, GoodR x
  w2 : clW l = cw r
theorem cl_of {l : List UInt8} (h : clErr l = 0) : ∃ r ms, Cl l r ms := by
  have h0 := h
  unfold clErr at h
  split at h
  · cases h
  · rename_i hv
    simp only [not_or, Bool.not_eq_false] at hv
    cases hr : runesD l with
    | nil => rw [hr] at h; cases h
    | cons r ms =>
      rw [hr] at h
      dsimp only at h
      split at h
      · cases h
      · rename_i hw
        simp only [not_or, Bool.not_eq_false, List.all_eq_true] at hw
        split at h
        · cases h
        · refine ⟨r, ms, hr, by rw [← hr]; exact runesD_encs l hv.2, by omega, hw.2, by omega, by rw [← hr]; exact runesD_good l, ?_⟩
          unfold clW; rw [if_pos h0, hr]; rfl
theorem cl_err {r : Int} {ms : List Int} (hw : 1 ≤ cw r) (hm : ∀ m ∈ ms, isMark m = true) (hf : ms.length ≤ 3) (hg : ∀ x ∈ r :: ms, GoodR x) : clErr (encs (r :: ms)) = 0 := by
  have hr := runesD_of_encs hg
  unfold clErr
  rw [if_neg, hr]
  · dsimp only
    rw [if_neg, if_neg (by omega)]
    rintro (h | h)
    · omega
    · rw [List.all_eq_false] at h
      obtain ⟨m, hm1, hm2⟩ := h
      exact hm2 (hm m hm1)
  · rintro (h | h)
    · rw [h] at hr
      have e : runesD ([] : List UInt8) = [] := by
        have := runesD_of_encs (rs := []) (fun r h => by cases h)
        exact this
      rw [e] at hr; cases hr
    · rw [validD_encs] at h; cases h
theorem bytes_ext {b : ByteArray} {l : List UInt8} (h : b.data.toList = l) : b = ⟨l.toArray⟩ := by
  cases b with
  | mk d => simp only at h; subst h; simp
/-- The marks of a cluster. -/
theorem steps_marks {r : Int} (hw : 1 ≤ cw r) (rest : List Wd) (wd : Bool) (O : List Gl) : ∀ (ms done : List Int) (p : PS), p.words = ms.flatMap spellF ++ rest → p.out = O ++ [⟨⟨(encs (r :: done)).toArray⟩, wd, p.style⟩] → p.joins = false →
    (∀ m ∈ done ++ ms, isMark m = true) → (done ++ ms).length ≤ 3 → (∀ x ∈ r :: (done ++ ms), GoodR x) → (lastNum (ms.flatMap spellF) = true → headNum rest = false) →
    Steps p ⟨rest, O ++ [⟨⟨(encs (r :: (done ++ ms))).toArray⟩, wd, p.style⟩], p.style, false⟩
  | [], done, p, hp, ho, hj, _, _, _, _ => by
    rw [List.append_nil]
    obtain ⟨w0, o0, s0, j0⟩ := p
    dsimp only at hp ho hj
    subst hj ho
    have : w0 = rest := hp
    subst this
    exact .refl _
  | m :: ms, done, p, hp, ho, hj, hm, hf, hg, hl => by
    have hgm : GoodR m := hg m (by simp)
    have hmm : isMark m = true := hm m (by simp)
    have hp2 : p.words = spellF m ++ (ms.flatMap spellF ++ rest) := by rw [hp, List.flatMap_cons, List.append_assoc]
    have hl1 : lastNum (spellF m) = true → headNum (ms.flatMap spellF ++ rest) = false := fun h => by
      cases ms with
      | nil => exact hl (by rw [List.flatMap_cons, List.flatMap_nil, List.append_nil]; exact h)
      | cons m2 ms2 => rw [List.flatMap_cons, List.append_assoc]; exact headNum_spell m2 _
    have hl2 : lastNum (ms.flatMap spellF) = true → headNum rest = false := fun h => hl (by
      rw [List.flatMap_cons]
      by_cases e : ms.flatMap spellF = []
      · rw [e] at h; cases h
      · rw [lastNum_app e]; exact h)
    have hce : clErr (encs (r :: done)) = 0 := cl_err hw (fun x hx => hm x (by simp [hx])) (by rw [List.length_append] at hf; omega) (fun x hx => hg x (by
      rcases List.mem_cons.1 hx with rfl | hx
      · simp
      · simp [hx]))
    have hrd : runesD (encs (r :: done)) = r :: done := runesD_of_encs (fun x hx => hg x (by
      rcases List.mem_cons.1 hx with rfl | hx
      · simp
      · simp [hx]))
    have hat : attachF (encs (r :: done)) m = some (encs (r :: (done ++ [m]))) := by
      unfold attachF
      rw [hrd, if_pos ⟨hce, hmm, by rw [List.length_append, List.length_cons] at hf; simp; omega⟩]
      unfold encs
      rw [← List.cons_append, List.flatMap_append]; simp
    have hadd : p.add m 1 = some { p with out := O ++ [⟨⟨(encs (r :: (done ++ [m]))).toArray⟩, wd, p.style⟩], joins := false } := by
      unfold PS.add
      rw [mark_zero hmm, if_neg (by omega), if_pos rfl, if_neg (by omega), ho, List.getLast?_concat]
      dsimp only
      rw [hat, List.dropLast_concat]; rfl
    have hpart := partF_char hgm _ hl1 hp2
    rw [hadd, Option.map_some, take_words p.words _ _ _ (spellF m) (ms.flatMap spellF ++ rest) hp2] at hpart
    refine .step hpart ?_
    have ih := steps_marks hw rest wd O ms (done ++ [m]) ⟨ms.flatMap spellF ++ rest, O ++ [⟨⟨(encs (r :: (done ++ [m]))).toArray⟩, wd, p.style⟩], p.style, false⟩ rfl rfl rfl (by simpa using hm) (by simpa using hf) (by simpa using hg) hl2
    simpa using ih
theorem add_wide {p : PS} {r : Int} (h : 1 ≤ cw r) (n : Nat) : p.add r n = some { p with out := p.out ++ List.replicate n ⟨⟨(encodeRune r).toArray⟩, cw r == 2, p.style⟩, joins := false } := by
  unfold PS.add; rw [if_neg (by omega), if_neg (by omega)]
theorem single_head (g : Gl) (hg : GoodG g) : ∃ w y, singleF g = w :: y ∧ w ≠ timesW ∧ isNum w = false := by
  unfold singleF
  by_cases h : g.text.data.toList = [32]
  · rw [if_pos h]; exact ⟨spaceW, [], rfl, by decide, by decide⟩
  · rw [if_neg h]
    obtain ⟨r, ms, hc⟩ := cl_of hg.1
    obtain ⟨w, y, hw, -, -, h1, h2⟩ := spell_head r
    rw [hc.run, List.flatMap_cons, hw]
    exact ⟨w, _, rfl, h1, h2⟩
theorem glyph_of {g : Gl} {r : Int} {ms : List Int} (hg : GoodG g) (hc : Cl g.text.data.toList r ms) : g = ⟨⟨(encs (r :: ms)).toArray⟩, cw r == 2, g.style⟩ := by
  have h1 := bytes_ext hc.enc.symm
  have h2 := hg.2.1
  rw [hc.w2] at h2
  obtain ⟨t, w, s⟩ := g
  dsimp only at h1 h2 ⊢
  rw [h1, h2]
theorem blank_of {g : Gl} (hg : GoodG g) (h : g.text.data.toList = [32]) : g = ⟨⟨#[32]⟩, false, g.style⟩ := by
  have h1 := bytes_ext h
  have h2 := hg.2.1
  rw [h, clW_one] at h2
  obtain ⟨t, w, s⟩ := g
  dsimp only at h1 h2 ⊢
  rw [h1, h2]
theorem charF_space (rest : List Wd) : charF (spaceW :: rest) = some (32, 1) := by unfold charF; rw [if_pos List.head?_cons]
/-- A glyph that is neither a letter nor a digit. -/
theorem steps_single (p : PS) (g : Gl) (hg : GoodG g) (rest : List Wd) (hl : lastNum (singleF g) = true → headNum rest = false) (hp : p.words = singleF g ++ rest) (hst : p.style = g.style) : Steps p ⟨rest, p.out ++ [g], p.style, false⟩ := by
  by_cases h : g.text.data.toList = [32]
  · have hp2 : p.words = spaceW :: rest := by rw [hp]; unfold singleF; rw [if_pos h]; rfl
    refine .one ?_
    rw [partF_sober hp2 sober_space, figuresF_none hp2 (by decide)]
    dsimp only
    rw [hp2, charF_space]
    dsimp only
    rw [add_wide (by rw [cw32]; omega), Option.map_some]
    unfold PS.take
    dsimp only
    rw [hp2, List.drop_succ_cons, List.drop_zero, enc32, cw32]
    have hb := blank_of hg h
    rw [hst, hb]; rfl
  · obtain ⟨r, ms, hc⟩ := cl_of hg.1
    have hs : singleF g = spellF r ++ ms.flatMap spellF := by unfold singleF; rw [if_neg h, hc.run, List.flatMap_cons]
    rw [hs] at hl hp
    rw [List.append_assoc] at hp
    have hl1 : lastNum (spellF r) = true → headNum (ms.flatMap spellF ++ rest) = false := fun h => by
      cases ms with
      | nil => exact hl (by rw [List.flatMap_nil, List.append_nil]; exact h)
      | cons m2 ms2 => rw [List.flatMap_cons, List.append_assoc]; exact headNum_spell m2 _
    have hl2 : lastNum (ms.flatMap spellF) = true → headNum rest = false := fun h => hl (by
      by_cases e : ms.flatMap spellF = []
      · rw [e] at h; cases h
      · rw [lastNum_app e]; exact h)
    have hpart := partF_char (hc.good r (by simp)) _ hl1 hp
    rw [add_wide hc.wid, Option.map_some, take_words p.words _ _ _ (spellF r) _ hp] at hpart
    refine .step hpart ?_
    have e1 : encs [r] = encodeRune r := by unfold encs; simp
    have := steps_marks hc.wid rest (cw r == 2) p.out ms [] ⟨ms.flatMap spellF ++ rest, p.out ++ [⟨⟨(encs [r]).toArray⟩, cw r == 2, p.style⟩], p.style, false⟩ rfl rfl rfl (by simpa using hc.mark) (by simpa using hc.few) (by simpa using hc.good) hl2
    rw [e1, List.nil_append] at this
    dsimp only at this
    rw [hst] at this ⊢
    rw [← glyph_of hg hc] at this
    exact this
/-- A glyph some times. -/
theorem steps_times (p : PS) (g : Gl) (hg : GoodG g) (h1 : (runesD g.text.data.toList).length = 1) (n : Nat) (hn : 2 ≤ n ∧ n ≤ 132) (rest : List Wd) (hl : lastNum (singleF g) = true → headNum rest = false)
    (hp : p.words = numW n ++ (timesW :: singleF g) ++ rest) (hst : p.style = g.style) : Steps p ⟨rest, p.out ++ List.replicate n g, p.style, false⟩ := by
  obtain ⟨w, y, hw, hwn⟩ := numW_cons n (by omega)
  have hp1 : p.words = w :: (y ++ (timesW :: singleF g) ++ rest) := by rw [hp, hw]; rfl
  have hp2 : p.words = numW n ++ (timesW :: (singleF g ++ rest)) := by rw [hp, List.append_assoc]; rfl
  obtain ⟨r, ms, hc⟩ := cl_of hg.1
  have hms : ms = [] := by rw [hc.run] at h1; simpa using h1
  subst hms
  have e1 : encs [r] = encodeRune r := by unfold encs; simp
  have hch : charF (singleF g ++ rest) = some (r, (singleF g).length) := by
    by_cases h : g.text.data.toList = [32]
    · have : singleF g = [spaceW] := by unfold singleF; rw [if_pos h]
      rw [this]
      show charF (spaceW :: rest) = _
      rw [charF_space]
      have : runesD [32] = [32] := by
        have := runesD_of_encs (rs := [32]) (fun x hx => by simp at hx; subst hx; unfold GoodR; omega)
        rwa [show encs [32] = [32] by unfold encs; simp [enc32]] at this
      have hr := hc.run
      rw [h, this] at hr
      cases hr; rfl
    · have hs : singleF g = spellF r := by unfold singleF; rw [if_neg h, hc.run]; simp
      rw [hs] at hl ⊢
      exact charF_spell (hc.good r (by simp)) rest hl
  refine .one ?_
  rw [partF_num hp1 hwn]
  unfold amountF
  rw [hp2, prefF_numW (by omega) _ (fun w hw => by cases hw; decide)]
  dsimp only
  have hd : (numW n ++ timesW :: (singleF g ++ rest)).drop ((numW n).length + 1) = singleF g ++ rest := by
    rw [← List.drop_drop, List.drop_left]; rfl
  rw [if_neg (by omega), if_neg (by rw [List.getElem?_append_right (Nat.le_refl _), Nat.sub_self]; simp), hd, hch]
  dsimp only
  rw [if_neg (by omega), Int.toNat_natCast, add_wide hc.wid, Option.map_some]
  unfold PS.take
  dsimp only
  rw [hp2, ← List.drop_drop, hd, List.drop_left]
  have hge := glyph_of hg hc
  rw [e1, ← hst] at hge
  rw [← hge]
end Go.Proofs.YtdkppdjonlldhaaGreatDoor

/- Spoken text in plain words: the whole: what is spoken is read again. -/
namespace Go.Proofs.YtdkppdjonlldhaaGreatDoor
open Go.RowKit Go.Lib

/-! Pieces. -/
theorem take_tw {α : Type} (p : α → Bool) : ∀ (l : List α) (k : Nat), k ≤ (l.takeWhile p).length → ∀ x ∈ l.take k, p x = true
  | [], k, _, x, hx => by simp at hx
  | a :: l, k, hk, x, hx => by
    cases ha : p a with
    | false => rw [List.takeWhile_cons, ha] at hk; simp at hk; subst hk; simp at hx
    | true =>
      rw [List.takeWhile_cons, ha] at hk
      cases k with
      | zero => simp at hx
      | succ k =>
        rw [List.take_succ_cons] at hx
        rcases List.mem_cons.1 hx with rfl | hx
        · exact ha
        · exact take_tw p l k (by simpa using hk) x hx
theorem tw_le {α : Type} (p : α → Bool) (l : List α) : (l.takeWhile p).length ≤ l.length := (List.takeWhile_sublist p).length_le
theorem countF_mem (l : List Gl) (k st : Int) (n : Nat) (hn : n ≤ countF l k st) : ∀ x ∈ l.take n, kindG x = k ∧ x.style = st := fun x hx => by
  have := take_tw _ l n hn x hx
  simpa using this
theorem countF_le (l : List Gl) (k st : Int) : countF l k st ≤ l.length := tw_le _ l
theorem countF_self (g : Gl) (l : List Gl) : countF (g :: l) (kindG g) g.style = 1 + countF l (kindG g) g.style := by
  unfold countF; rw [List.takeWhile_cons]; simp; omega
theorem glEq_eq {a b : Gl} (h : glEq a b = true) : a = b := by
  unfold glEq at h
  simp only [Bool.and_eq_true, beq_iff_eq] at h
  obtain ⟨h1, h2, h3⟩ := h
  obtain ⟨⟨⟨ta⟩⟩, wa, sa⟩ := a
  obtain ⟨⟨⟨tb⟩⟩, wb, sb⟩ := b
  dsimp only at h1 h2 h3
  subst h1 h2 h3
  rfl
/-- A first piece: what its glyphs are. -/
def PieceOK (g : Gl) (t : List Gl) : Prop :=
  ((kindG g = 1 ∨ kindG g = 3) ∧ ∀ x ∈ g :: t, kindG x = kindG g ∧ x.style = g.style) ∨
  (kindG g = 2 ∧ t ≠ [] ∧ ∀ x ∈ g :: t, kindG x = 2 ∧ x.style = g.style) ∨
  (kindG g = 2 ∧ ∀ x ∈ t, kindG x = 1 ∧ x.style = g.style) ∨
  (kindG g = 0 ∧ t = []) ∨
  (kindG g = 0 ∧ t ≠ [] ∧ t.length + 1 ≤ 132 ∧ (runesD g.text.data.toList).length = 1 ∧ ∀ x ∈ g :: t, x = g)
theorem kind_cases (l : List UInt8) : kindB l = 0 ∨ kindB l = 1 ∨ kindB l = 2 ∨ kindB l = 3 := by
  unfold kindB
  repeat' split
  all_goals simp
theorem piece_ok {rep : Int} (hrep : rep = 0 ∨ 2 ≤ rep) (g : Gl) (l : List Gl) : ∃ t r, l = t ++ r ∧ pieceF rep (g :: l) = t.length + 1 ∧ (g :: l).take (pieceF rep (g :: l)) = g :: t ∧ (g :: l).drop (pieceF rep (g :: l)) = r ∧ PieceOK g t := by
  have fin : ∀ m, pieceF rep (g :: l) = m + 1 → m ≤ l.length → PieceOK g (l.take m) → ∃ t r, l = t ++ r ∧ pieceF rep (g :: l) = t.length + 1 ∧ (g :: l).take (pieceF rep (g :: l)) = g :: t ∧ (g :: l).drop (pieceF rep (g :: l)) = r ∧ PieceOK g t := fun m h1 h2 h3 =>
    ⟨l.take m, l.drop m, (List.take_append_drop m l).symm, by rw [h1, List.length_take]; omega, by rw [h1, List.take_succ_cons], by rw [h1, List.drop_succ_cons], h3⟩
  by_cases h13 : kindG g = 1 ∨ kindG g = 3
  · have hs := countF_self g l
    have hle := countF_le l (kindG g) g.style
    refine fin (countF l (kindG g) g.style) ?_ hle (.inl ⟨h13, ?_⟩)
    · rw [pieceF, if_pos h13, hs]; omega
    · have := countF_mem (g :: l) (kindG g) g.style (countF l (kindG g) g.style + 1) (by rw [hs]; omega)
      rw [List.take_succ_cons] at this; exact this
  · by_cases h2 : kindG g = 2
    · by_cases hm : 1 < countF (g :: l) 2 g.style
      · have hs := countF_self g l
        rw [h2] at hs
        have hle := countF_le l 2 g.style
        refine fin (countF l 2 g.style) ?_ hle (.inr (.inl ⟨h2, ?_, ?_⟩))
        · rw [pieceF, if_neg h13, if_pos h2, if_pos hm, hs]; omega
        · intro e
          have := congrArg List.length e
          rw [List.length_take, List.length_nil] at this
          omega
        · have := countF_mem (g :: l) 2 g.style (countF l 2 g.style + 1) (by rw [hs]; omega)
          rw [List.take_succ_cons] at this; exact this
      · refine fin (countF l 1 g.style) ?_ (countF_le l 1 g.style) (.inr (.inr (.inl ⟨h2, countF_mem l 1 g.style _ (Nat.le_refl _)⟩)))
        rw [pieceF, if_neg h13, if_pos h2, if_neg hm]; omega
    · have h0 : kindG g = 0 := by
        have := kind_cases g.text.data.toList
        unfold kindG at *
        omega
      by_cases hm : 0 < rep ∧ rep ≤ (sameF g l : Int) ∧ (runesD g.text.data.toList).length = 1
      · have hp : pieceF rep (g :: l) = sameF g l := by rw [pieceF, if_neg h13, if_neg h2, if_pos hm]
        have htl := tw_le (fun x => glEq x g) l
        have hsm : sameF g l ≤ 132 ∧ sameF g l ≤ 1 + (l.takeWhile fun x => glEq x g).length := by unfold sameF; omega
        obtain ⟨m, hm1⟩ : ∃ m, sameF g l = m + 1 := ⟨sameF g l - 1, by omega⟩
        have hml : m ≤ l.length := by omega
        refine fin m (hp.trans hm1) hml (.inr (.inr (.inr (.inr ⟨h0, ?_, ?_, hm.2.2, ?_⟩))))
        · intro e
          have := congrArg List.length e
          rw [List.length_take, List.length_nil] at this
          omega
        · rw [List.length_take]; omega
        · intro x hx
          rcases List.mem_cons.1 hx with rfl | hx
          · rfl
          · exact glEq_eq (take_tw (fun x => glEq x g) l m (by omega) x hx)
      · refine fin 0 ?_ (Nat.zero_le _) (.inr (.inr (.inr (.inl ⟨h0, rfl⟩))))
        rw [pieceF, if_neg h13, if_neg h2, if_neg hm]
theorem kind_one (l : List UInt8) (h : kindB l ≠ 0) : ∃ b, l = [b] := by
  match l, h with
  | [], h => exact absurd rfl h
  | [c], _ => exact ⟨c, rfl⟩
  | _ :: _ :: _, h => exact absurd rfl h
theorem kind_of (c : UInt8) : (kindB [c] = 1 → isSmall c) ∧ (kindB [c] = 2 → isCap c) ∧ (kindB [c] = 3 → isDig c) := by
  unfold kindB isSmall isCap isDig
  dsimp only
  by_cases h1 : 97 ≤ c.toNat ∧ c.toNat ≤ 122
  · rw [if_pos h1]; exact ⟨fun _ => h1, fun h => absurd h (by decide), fun h => absurd h (by decide)⟩
  · rw [if_neg h1]
    by_cases h2 : 65 ≤ c.toNat ∧ c.toNat ≤ 90
    · rw [if_pos h2]; exact ⟨fun h => absurd h (by decide), fun _ => h2, fun h => absurd h (by decide)⟩
    · rw [if_neg h2]
      by_cases h3 : 48 ≤ c.toNat ∧ c.toNat ≤ 57
      · rw [if_pos h3]; exact ⟨fun h => absurd h (by decide), fun h => absurd h (by decide), fun _ => h3⟩
      · rw [if_neg h3]; exact ⟨fun h => absurd h (by decide), fun h => absurd h (by decide), fun h => absurd h (by decide)⟩
theorem kind_byte {l : List UInt8} : (kindB l = 1 → ∃ b, l = [b] ∧ isSmall b) ∧ (kindB l = 2 → ∃ b, l = [b] ∧ isCap b) ∧ (kindB l = 3 → ∃ b, l = [b] ∧ isDig b) := by
  refine ⟨fun h => ?_, fun h => ?_, fun h => ?_⟩
  · obtain ⟨b, rfl⟩ := kind_one l (by rw [h]; decide)
    exact ⟨b, rfl, (kind_of b).1 h⟩
  · obtain ⟨b, rfl⟩ := kind_one l (by rw [h]; decide)
    exact ⟨b, rfl, (kind_of b).2.1 h⟩
  · obtain ⟨b, rfl⟩ := kind_one l (by rw [h]; decide)
    exact ⟨b, rfl, (kind_of b).2.2 h⟩
/-- Glyphs of one byte each are their text. -/
theorem gl_text {g : Gl} (hg : GoodG g) {b : UInt8} (h : g.text.data.toList = [b]) : g = ⟨⟨#[b]⟩, false, g.style⟩ := by
  have h1 := bytes_ext h
  have h2 := hg.2.1
  rw [h, clW_one] at h2
  obtain ⟨t, w, s⟩ := g
  dsimp only at h1 h2 ⊢
  rw [h1, h2]
theorem lettersGl_cat (st : Int) : ∀ (l : List Gl), (∀ x ∈ l, GoodG x ∧ x.style = st ∧ ∃ b, x.text.data.toList = [b]) → lettersGl (catL l) st = l
  | [], _ => rfl
  | x :: l, h => by
    obtain ⟨h1, h2, b, hb⟩ := h x List.mem_cons_self
    have ih := lettersGl_cat st l (fun y hy => h y (List.mem_cons_of_mem _ hy))
    unfold lettersGl catL at ih ⊢
    rw [List.flatMap_cons, hb, List.map_append, ih]
    have := gl_text h1 hb
    rw [h2] at this
    rw [this]; rfl
theorem cat_mem {P : UInt8 → Prop} : ∀ (l : List Gl), (∀ x ∈ l, ∃ b, x.text.data.toList = [b] ∧ P b) → (∀ b ∈ catL l, P b) ∧ (catL l).length = l.length
  | [], _ => ⟨fun b h => (List.not_mem_nil h).elim, rfl⟩
  | x :: l, h => by
    obtain ⟨b, hb, hp⟩ := h x List.mem_cons_self
    obtain ⟨h1, h2⟩ := cat_mem l (fun y hy => h y (List.mem_cons_of_mem _ hy))
    unfold catL at *
    rw [List.flatMap_cons, hb]
    refine ⟨fun y hy => ?_, by simp [h2]⟩
    rcases List.mem_append.1 hy with hy | hy
    · simp at hy; subst hy; exact hp
    · exact h1 y hy
theorem ne_of_len {t : Wd} {n : Nat} (h : t.length = n + 1) : t ≠ [] := fun e => by subst e; simp at h
/-- A piece is read again. -/
theorem piece_read (s : Stg) (g : Gl) (t : List Gl) (hP : PieceOK g t) (hG : ∀ x ∈ g :: t, GoodG x) :
    (∃ w y, spokenF s (g :: t) = w :: y ∧ w ≠ timesW) ∧ ∀ (p : PS) (rest : List Wd), p.words = spokenF s (g :: t) ++ rest → p.style = g.style → rest.head? ≠ some timesW → (kindG g = 1 ∨ kindG g = 2 ∨ (lastNum (spokenF s (g :: t)) = true → headNum rest = false)) →
    Steps p ⟨rest, p.out ++ ((if kindG g ≠ 0 ∧ p.joins = true then [⟨⟨#[32]⟩, false, p.style⟩] else []) ++ (g :: t)), p.style, kindG g != 0⟩ := by
  have hletters : (kindG g = 1 ∨ kindG g = 2) → Letters (catL (g :: t)) → (∀ x ∈ g :: t, GoodG x ∧ x.style = g.style ∧ ∃ b, x.text.data.toList = [b]) →
      (∃ w y, spokenF s (g :: t) = w :: y ∧ w ≠ timesW) ∧ ∀ (p : PS) (rest : List Wd), p.words = spokenF s (g :: t) ++ rest → p.style = g.style → rest.head? ≠ some timesW → (kindG g = 1 ∨ kindG g = 2 ∨ (lastNum (spokenF s (g :: t)) = true → headNum rest = false)) →
      Steps p ⟨rest, p.out ++ ((if kindG g ≠ 0 ∧ p.joins = true then [⟨⟨#[32]⟩, false, p.style⟩] else []) ++ (g :: t)), p.style, kindG g != 0⟩ := fun hk hL hx => by
    have hsp : spokenF s (g :: t) = lettersF s.sp (catL (g :: t)) := by rw [spokenF, if_pos hk]
    have hk0 : kindG g ≠ 0 := by omega
    rw [hsp]
    refine ⟨by obtain ⟨w, y, h1, h2, -⟩ := letters_head s.sp (t := catL (g :: t)); exact ⟨w, y, h1, h2⟩, fun p rest hp hst _ _ => ?_⟩
    have := partF_letters p s.sp hL rest hp
    unfold afterText at this
    rw [hst, lettersGl_cat g.style (g :: t) hx] at this
    rw [hst, show (kindG g != 0) = true by simpa using hk0]
    refine .one ?_
    rw [this]
    cases p.joins <;> simp [hk0]
  rcases hP with ⟨hk, hx⟩ | ⟨hk, ht, hx⟩ | ⟨hk, hx⟩ | ⟨hk, ht⟩ | ⟨hk, ht, hlen, hru, hx⟩
  · rcases hk with hk | hk
    · have hb : ∀ x ∈ g :: t, ∃ b, x.text.data.toList = [b] ∧ isSmall b := fun x hm => kind_byte.1 (by have := (hx x hm).1; unfold kindG at this hk; rw [this, hk])
      obtain ⟨c1, c2⟩ := cat_mem _ hb
      exact hletters (.inl hk) (.inl ⟨ne_of_len c2, c1⟩) fun x hm => ⟨hG x hm, (hx x hm).2, by obtain ⟨b, h, -⟩ := hb x hm; exact ⟨b, h⟩⟩
    · have hb : ∀ x ∈ g :: t, ∃ b, x.text.data.toList = [b] ∧ isDig b := fun x hm => kind_byte.2.2 (by have := (hx x hm).1; unfold kindG at this hk; rw [this, hk])
      obtain ⟨c1, c2⟩ := cat_mem _ hb
      have hsp : spokenF s (g :: t) = digitsF s.sd (catL (g :: t)) := by rw [spokenF, if_neg (by omega), if_pos hk]
      have hk0 : kindG g ≠ 0 := by omega
      have hlast : lastNum (digitsF s.sd (catL (g :: t))) = true ∧ ∃ w y, digitsF s.sd (catL (g :: t)) = w :: y ∧ w ≠ timesW := by
        unfold digitsF
        split
        · refine ⟨?_, digitsW, _, rfl, by decide⟩
          have hne : (catL (g :: t)).flatMap (fun b => numW (b.toNat - 48)) ≠ [] := fun e => by
            have := flat_dig _ c1
            rw [e, c2] at this; simp at this
          rw [show digitsW :: (catL (g :: t)).flatMap (fun b => numW (b.toNat - 48)) = [digitsW] ++ (catL (g :: t)).flatMap (fun b => numW (b.toNat - 48)) from rfl, lastNum_app hne]
          unfold lastNum
          cases hl : ((catL (g :: t)).flatMap (fun b => numW (b.toNat - 48))).getLast? with
          | none => rw [List.getLast?_eq_none_iff] at hl; exact absurd hl hne
          | some w =>
            obtain ⟨b, hb1, hb2⟩ := List.mem_flatMap.1 (List.mem_of_getLast? hl)
            exact numW_num (by have := c1 b hb1; unfold isDig at this; omega) w hb2
        · rename_i hc
          simp only [not_or] at hc
          have h9 : 10 ^ (catL (g :: t)).length ≤ 10 ^ 9 := Nat.pow_le_pow_right (by omega) (by omega)
          have hn : numOfD (catL (g :: t)) ≤ 999999999 := by have := numOfD_lt _ c1; omega
          obtain ⟨w, y, hw, hwn⟩ := numW_cons _ hn
          exact ⟨lastNum_num hn, w, y, hw, (num_facts w (isNum_mem hwn)).2.2.2.2.2.2.2.2.1⟩
      rw [hsp]
      refine ⟨hlast.2, fun p rest hp hst hr hh => ?_⟩
      have hh2 : headNum rest = false := by
        rcases hh with hh | hh | hh
        · omega
        · omega
        · exact hh hlast.1
      have := partF_digits p s.sd (ne_of_len c2) c1 rest hh2 hr hp
      unfold afterText at this
      rw [hst, lettersGl_cat g.style (g :: t) fun x hm => ⟨hG x hm, (hx x hm).2, by obtain ⟨b, h, -⟩ := hb x hm; exact ⟨b, h⟩⟩] at this
      rw [hst, show (kindG g != 0) = true by simpa using hk0]
      refine .one ?_
      rw [this]
      cases p.joins <;> simp [hk0]
  · have hb : ∀ x ∈ g :: t, ∃ b, x.text.data.toList = [b] ∧ isCap b := fun x hm => kind_byte.2.1 (by have := (hx x hm).1; unfold kindG at this; exact this)
    obtain ⟨c1, c2⟩ := cat_mem _ hb
    have ht1 : 0 < t.length := List.length_pos_iff.2 ht
    exact hletters (.inr hk) (.inr (.inl ⟨by rw [c2]; simp; omega, c1⟩)) fun x hm => ⟨hG x hm, (hx x hm).2, by obtain ⟨b, h, -⟩ := hb x hm; exact ⟨b, h⟩⟩
  · have hb : ∀ x ∈ t, ∃ b, x.text.data.toList = [b] ∧ isSmall b := fun x hm => kind_byte.1 (by have := (hx x hm).1; unfold kindG at this; exact this)
    obtain ⟨c1, c2⟩ := cat_mem _ hb
    obtain ⟨c, hc, hcap⟩ := kind_byte.2.1 (show kindB g.text.data.toList = 2 from hk)
    refine hletters (.inr hk) (.inr (.inr ⟨c, catL t, ?_, hcap, c1⟩)) fun x hm => ?_
    · unfold catL; rw [List.flatMap_cons, hc]; rfl
    · rcases List.mem_cons.1 hm with rfl | hm2
      · exact ⟨hG _ hm, rfl, c, hc⟩
      · exact ⟨hG x hm, (hx x hm2).2, by obtain ⟨b, h, -⟩ := hb x hm2; exact ⟨b, h⟩⟩
  · subst ht
    have hgg := hG g List.mem_cons_self
    have hsp : spokenF s [g] = singleF g := by rw [spokenF, if_neg (by omega), if_neg (by omega), if_pos rfl]
    rw [hsp]
    refine ⟨by obtain ⟨w, y, h1, h2, -⟩ := single_head g hgg; exact ⟨w, y, h1, h2⟩, fun p rest hp hst _ hh => ?_⟩
    have := steps_single p g hgg rest (by rcases hh with hh | hh | hh; omega; omega; exact hh) hp hst
    rw [hk, if_neg (by simp)]
    exact this
  · have hgg := hG g List.mem_cons_self
    have hsp : spokenF s (g :: t) = numW (t.length + 1) ++ (timesW :: singleF g) := by rw [spokenF, if_neg (by omega), if_neg (by omega), if_neg ht]
    have ht1 : 0 < t.length := List.length_pos_iff.2 ht
    have hrep : g :: t = List.replicate (t.length + 1) g := List.eq_replicate_of_mem hx
    rw [hsp]
    obtain ⟨w, y, hw, hwn⟩ := numW_cons (t.length + 1) (by omega)
    refine ⟨⟨w, y ++ (timesW :: singleF g), by rw [hw]; rfl, (num_facts w (isNum_mem hwn)).2.2.2.2.2.2.2.2.1⟩, fun p rest hp hst _ hh => ?_⟩
    have hne : singleF g ≠ [] := by obtain ⟨w, y, h1, -⟩ := single_head g hgg; rw [h1]; simp
    have := steps_times p g hgg hru (t.length + 1) ⟨by omega, hlen⟩ rest (fun h => by
      rcases hh with hh | hh | hh
      · omega
      · omega
      · exact hh (by rw [lastNum_app (by simp), show timesW :: singleF g = [timesW] ++ singleF g from rfl, lastNum_app hne]; exact h)) hp hst
    rw [hk, if_neg (by simp), hrep]
    exact this
/-! The whole. -/
def Look (p : SS) (t : List Wd) : Prop := t.head? ≠ some timesW ∧ (p.before = 1 ∨ p.before = 2 ∨ (lastNum p.out = true → headNum t = false))
def Inv (p : SS) (pre : List Gl) : Prop := ∃ gl, (∀ t, Look p t → Steps ⟨p.out ++ t, [], 0, false⟩ ⟨t, gl, p.style, p.before != 0⟩) ∧ pre = gl ++ (if p.silent = true then [⟨⟨#[32]⟩, false, p.style⟩] else [])
def Cond (s : Stg) (p : SS) (l : List Gl) : Prop := p.silent = true → ∃ h r, l = h :: r ∧ kindG h ≠ 0 ∧ h.style = p.style ∧ p.before ≠ 0 ∧ (p.before = 3 → headNum (spokenF s (l.take (pieceF s.rep l))) = false)
theorem styl_part : ∀ k : Nat, k < 4 → stylL.findIdx? (· == stylL.getD k []) = some k ∧ stylL.getD k [] ≠ timesW ∧ isNum (stylL.getD k []) = false := by decide
theorem kindG_cases (g : Gl) : kindG g = 0 ∨ kindG g = 1 ∨ kindG g = 2 ∨ kindG g = 3 := kind_cases _
theorem say_inv (s : Stg) (p : SS) (pre : List Gl) (g : Gl) (t : List Gl) (hP : PieceOK g t) (hG : ∀ x ∈ g :: t, GoodG x) (hI : Inv p pre) (hb4 : p.before = 0 ∨ p.before = 1 ∨ p.before = 2 ∨ p.before = 3)
    (hC : p.silent = true → kindG g ≠ 0 ∧ g.style = p.style ∧ p.before ≠ 0 ∧ (p.before = 3 → headNum (spokenF s (g :: t)) = false)) : Inv (sayF s p (g :: t)) (pre ++ (g :: t)) := by
  obtain ⟨⟨w, y, hw, hwt⟩, hread⟩ := piece_read s g t hP hG
  obtain ⟨gl, hgl, hpre⟩ := hI
  have hst4 := (hG g List.mem_cons_self).2.2
  have hne : spokenF s (g :: t) ≠ [] := by rw [hw]; simp
  have hlast : lastNum (p.out ++ (linkF p g (spokenF s (g :: t)) ++ spokenF s (g :: t))) = lastNum (spokenF s (g :: t)) := by rw [← List.append_assoc, lastNum_app hne]
  -- what is read behind the link
  have hfin : ∀ (u : List Wd), Look (sayF s p (g :: t)) u → ∀ (o : List Gl) (j : Bool), (kindG g ≠ 0 → j = p.silent) → o = gl →
      Steps ⟨spokenF s (g :: t) ++ u, o, g.style, j⟩ ⟨u, o ++ ((if kindG g ≠ 0 ∧ j = true then [⟨⟨#[32]⟩, false, g.style⟩] else []) ++ (g :: t)), g.style, kindG g != 0⟩ := fun u hu o j _ _ => by
    refine hread ⟨spokenF s (g :: t) ++ u, o, g.style, j⟩ u rfl rfl hu.1 ?_
    rcases hu.2 with h | h | h
    · exact .inl h
    · exact .inr (.inl h)
    · refine .inr (.inr fun hl => h ?_)
      show lastNum (p.out ++ (linkF p g (spokenF s (g :: t)) ++ spokenF s (g :: t))) = true
      rw [hlast]; exact hl
  have hpre2 : ∀ j : Bool, (kindG g ≠ 0 → j = p.silent) → (kindG g = 0 → p.silent = false) → (p.silent = true → g.style = p.style) → pre ++ (g :: t) = gl ++ ((if kindG g ≠ 0 ∧ j = true then [⟨⟨#[32]⟩, false, g.style⟩] else []) ++ (g :: t)) := fun j h1 h2 h3 => by
    rw [hpre, List.append_assoc]
    congr 2
    by_cases hk : kindG g = 0
    · rw [h2 hk, if_neg (by simp), if_neg (by simp [hk])]
    · rw [h1 hk]
      cases hsil : p.silent with
      | false => rw [if_neg (by simp), if_neg (by simp)]
      | true => rw [if_pos rfl, if_pos ⟨hk, rfl⟩, h3 hsil]
  have hk0 : kindG g = 0 → p.silent = false := fun h => by
    cases hs : p.silent with
    | false => rfl
    | true => exact absurd h (hC hs).1
  by_cases hstyle : g.style ≠ p.style
  · -- a style word
    have hsil : p.silent = false := by
      cases hs : p.silent with
      | false => rfl
      | true => exact absurd (hC hs).2.1 hstyle
    have hlink : linkF p g (spokenF s (g :: t)) = [stylL.getD g.style.toNat []] := by unfold linkF; rw [if_pos hstyle]
    obtain ⟨s1, s2, s3⟩ := styl_part g.style.toNat (by omega)
    refine ⟨gl ++ ((if kindG g ≠ 0 ∧ false = true then [(⟨⟨#[32]⟩, false, g.style⟩ : Gl)] else []) ++ (g :: t)), fun u hu => ?_, ?_⟩
    · have h1 := hgl (stylL.getD g.style.toNat [] :: (spokenF s (g :: t) ++ u)) ⟨by simpa using s2, .inr (.inr fun _ => s3)⟩
      have h2 : partF ⟨stylL.getD g.style.toNat [] :: (spokenF s (g :: t) ++ u), gl, p.style, p.before != 0⟩ = some ⟨spokenF s (g :: t) ++ u, gl, g.style, false⟩ := by
        unfold partF styledF
        dsimp only
        rw [s1]
        dsimp only
        rw [Int.toNat_of_nonneg hst4.1]
      have h3 := hfin u hu gl false (fun _ => hsil.symm) rfl
      have := h1.trans (.step h2 h3)
      show Steps ⟨(p.out ++ (linkF p g (spokenF s (g :: t)) ++ spokenF s (g :: t))) ++ u, [], 0, false⟩ _
      rw [hlink, List.append_assoc, List.append_assoc]
      exact this
    · rw [hpre2 false (fun _ => hsil.symm) hk0 (fun h => by rw [hsil] at h; cases h)]
      rw [if_neg (show ¬ (sayF s p (g :: t)).silent = true from Bool.false_ne_true), List.append_nil]
  · have hst : g.style = p.style := Decidable.not_not.1 hstyle
    have hjoin : ∀ (u : List Wd), Look (sayF s p (g :: t)) u → linkF p g (spokenF s (g :: t)) = [joinedW] → p.silent = false → Steps ⟨(p.out ++ (linkF p g (spokenF s (g :: t)) ++ spokenF s (g :: t))) ++ u, [], 0, false⟩ ⟨u, gl ++ ((if kindG g ≠ 0 ∧ false = true then [⟨⟨#[32]⟩, false, g.style⟩] else []) ++ (g :: t)), g.style, kindG g != 0⟩ := fun u hu hlink hsil => by
      have h1 := hgl (joinedW :: (spokenF s (g :: t) ++ u)) ⟨by simp, .inr (.inr fun _ => (by decide : isNum joinedW = false))⟩
      have h2 : partF ⟨joinedW :: (spokenF s (g :: t) ++ u), gl, p.style, p.before != 0⟩ = some ⟨spokenF s (g :: t) ++ u, gl, g.style, false⟩ := by
        unfold partF styledF
        dsimp only
        rw [show stylL.findIdx? (· == joinedW) = none by decide]
        dsimp only
        rw [if_pos rfl, hst]
      have h3 := hfin u hu gl false (fun _ => hsil.symm) rfl
      have := h1.trans (.step h2 h3)
      rw [hlink, List.append_assoc, List.append_assoc]
      exact this
    have hdone : p.silent = false → linkF p g (spokenF s (g :: t)) = [joinedW] → Inv (sayF s p (g :: t)) (pre ++ (g :: t)) := fun hsil hlink =>
      ⟨gl ++ ((if kindG g ≠ 0 ∧ false = true then [(⟨⟨#[32]⟩, false, g.style⟩ : Gl)] else []) ++ (g :: t)), fun u hu => hjoin u hu hlink hsil, by
        rw [hpre2 false (fun _ => hsil.symm) hk0 (fun h => by rw [hsil] at h; cases h)]
        rw [if_neg (show ¬ (sayF s p (g :: t)).silent = true from Bool.false_ne_true), List.append_nil]⟩
    have hplain : linkF p g (spokenF s (g :: t)) = [] → (p.before = 1 ∨ p.before = 2 ∨ (lastNum p.out = true → headNum (spokenF s (g :: t)) = false)) → (kindG g ≠ 0 → (p.before != 0) = p.silent) → Inv (sayF s p (g :: t)) (pre ++ (g :: t)) := fun hlink hlook hj =>
      ⟨gl ++ ((if kindG g ≠ 0 ∧ (p.before != 0) = true then [(⟨⟨#[32]⟩, false, g.style⟩ : Gl)] else []) ++ (g :: t)), fun u hu => by
        have h1 := hgl (spokenF s (g :: t) ++ u) ⟨by rw [hw]; simpa using hwt, by rw [headNum_app hne]; exact hlook⟩
        have h3 := hfin u hu gl (p.before != 0) hj rfl
        rw [← hst] at h1
        have := h1.trans h3
        show Steps ⟨(p.out ++ (linkF p g (spokenF s (g :: t)) ++ spokenF s (g :: t))) ++ u, [], 0, false⟩ _
        rw [hlink, List.nil_append, List.append_assoc]
        exact this, by
        rw [hpre2 (p.before != 0) hj hk0 (fun _ => hst)]
        rw [if_neg (show ¬ (sayF s p (g :: t)).silent = true from Bool.false_ne_true), List.append_nil]⟩
    by_cases hboth : kindG g ≠ 0 ∧ p.before ≠ 0
    · cases hsil : p.silent with
      | false => exact hdone hsil (by unfold linkF; rw [if_neg hstyle, if_pos hboth, hsil, if_neg (by simp)])
      | true =>
        refine hplain (by unfold linkF; rw [if_neg hstyle, if_pos hboth, hsil, if_pos rfl]) ?_ (fun _ => by rw [hsil]; simpa using hboth.2)
        rcases hb4 with h | h | h | h
        · exact absurd h hboth.2
        · exact .inl h
        · exact .inr (.inl h)
        · exact .inr (.inr fun _ => (hC hsil).2.2.2 h)
    · have hsil : p.silent = false := by
        cases hs : p.silent with
        | false => rfl
        | true => exact absurd ⟨(hC hs).1, (hC hs).2.2.1⟩ hboth
      by_cases hnum : headNum (spokenF s (g :: t)) = true ∧ lastNum p.out = true
      · exact hdone hsil (by unfold linkF; rw [if_neg hstyle, if_neg hboth, if_pos hnum])
      · refine hplain (by unfold linkF; rw [if_neg hstyle, if_neg hboth, if_neg hnum]) (.inr (.inr fun h => ?_)) fun hk => ?_
        · cases hh : headNum (spokenF s (g :: t)) with
          | false => rfl
          | true => exact absurd ⟨hh, h⟩ hnum
        · have : p.before = 0 := by
            by_cases e : p.before = 0
            · exact e
            · exact absurd ⟨hk, e⟩ hboth
          rw [this, hsil]; rfl
theorem all_inv (s : Stg) (hrep : s.rep = 0 ∨ 2 ≤ s.rep) : ∀ (f : Nat) (p : SS) (pre l : List Gl), l.length ≤ f → (∀ x ∈ l, GoodG x) → Inv p pre → (p.before = 0 ∨ p.before = 1 ∨ p.before = 2 ∨ p.before = 3) → Cond s p l →
    Inv (sayAll s f p l) (pre ++ l) ∧ (sayAll s f p l).silent = false
  | 0, p, pre, l, hl, _, hI, _, hC => by
    have : l = [] := List.eq_nil_of_length_eq_zero (by omega)
    subst this
    rw [List.append_nil]
    refine ⟨hI, ?_⟩
    show p.silent = false
    cases hs : p.silent with
    | false => rfl
    | true => obtain ⟨h, r, e, -⟩ := hC hs; cases e
  | f + 1, p, pre, [], _, _, hI, _, hC => by
    rw [sayAll, if_pos rfl, List.append_nil]
    refine ⟨hI, ?_⟩
    cases hs : p.silent with
    | false => rfl
    | true => obtain ⟨h, r, e, -⟩ := hC hs; cases e
  | f + 1, p, pre, g :: l, hl, hG, hI, hb4, hC => by
    rw [sayAll, if_neg (by simp)]
    by_cases hskip : pieceF s.rep (g :: l) = 1 ∧ skipsF s p (g :: l) = true
    · rw [if_pos hskip]
      cases l with
      | nil => have := hskip.2; unfold skipsF at this; cases this
      | cons h r =>
        have h2 := hskip.2
        unfold skipsF at h2
        simp only [Bool.and_eq_true, bne_iff_ne, beq_iff_eq, decide_eq_true_eq, Bool.or_eq_true, Bool.not_eq_true'] at h2
        obtain ⟨e1, e2, e3, e4, e5, e6⟩ := h2
        have hk0 : kindG g = 0 := by unfold kindG; rw [e1]; decide
        have hsil : p.silent = false := by
          cases hs : p.silent with
          | false => rfl
          | true => obtain ⟨h, r, e, hk, -⟩ := hC hs; cases e; exact absurd hk0 hk
        have hgb := blank_of (hG g List.mem_cons_self) e1
        rw [e3] at hgb
        obtain ⟨gl, hgl, hpre⟩ := hI
        rw [hsil, if_neg (by simp), List.append_nil] at hpre
        have := all_inv s hrep f { p with silent := true } (pre ++ [g]) (h :: r) (by simpa using hl) (fun x hx => hG x (List.mem_cons_of_mem _ hx)) ⟨gl, hgl, by rw [hpre, ← hgb]; rfl⟩ hb4
          (fun _ => ⟨h, r, rfl, e4, e5, e2, fun e => by
            rcases e6 with e6 | e6
            · exact absurd e e6
            · exact e6⟩)
        rw [List.append_assoc] at this
        exact this
    · rw [if_neg hskip]
      obtain ⟨t, r, e1, e2, e3, e4, e5⟩ := piece_ok hrep g l
      have hC2 : p.silent = true → kindG g ≠ 0 ∧ g.style = p.style ∧ p.before ≠ 0 ∧ (p.before = 3 → headNum (spokenF s (g :: t)) = false) := fun hs => by
        obtain ⟨h, r', e, c1, c2, c3, c4⟩ := hC hs
        rw [e3] at c4
        cases e
        exact ⟨c1, c2, c3, c4⟩
      rw [e3, e4]
      have hl2 : r.length ≤ f := by rw [e1] at hl; simp at hl; omega
      have hsay := say_inv s p pre g t e5 (fun x hx => hG x (by rw [e1]; rcases List.mem_cons.1 hx with rfl | hx; exact List.mem_cons_self; exact List.mem_cons_of_mem _ (List.mem_append_left _ hx))) hI hb4 hC2
      have := all_inv s hrep f (sayF s p (g :: t)) (pre ++ (g :: t)) r hl2 (fun x hx => hG x (by rw [e1]; exact List.mem_cons_of_mem _ (List.mem_append_right _ hx))) hsay (kindG_cases g) (fun h => by cases h)
      rw [e1]
      rw [List.append_assoc] at this
      exact this
/-- What is spoken is read again. -/
theorem round_trip (s : Stg) (hrep : s.rep = 0 ∨ 2 ≤ s.rep) (l : List Gl) (hG : ∀ x ∈ l, GoodG x) : ∃ st j, Steps ⟨wordsF s l, [], 0, false⟩ ⟨[], l, st, j⟩ := by
  obtain ⟨⟨gl, h1, h2⟩, h3⟩ := all_inv s hrep l.length ⟨[], 0, 0, false⟩ [] l (Nat.le_refl _) hG ⟨[], fun t _ => .refl _, rfl⟩ (.inl rfl) (fun h => by cases h)
  rw [h3, if_neg (by simp), List.append_nil, List.nil_append] at h2
  have := h1 [] ⟨by simp, .inr (.inr fun _ => rfl)⟩
  rw [List.append_nil, ← h2] at this
  exact ⟨_, _, this⟩
end Go.Proofs.YtdkppdjonlldhaaGreatDoor
