/- Source texts of scripts: labels, numbers, lines; in plain words. -/
import Derived.Test.YtonnjokjbknngaaDoorZ1
namespace Go.Proofs.YtonnjokjbknngaaDoor

abbrev BS := List UInt8
def opNames : List BS := [[104, 97, 108, 116], [112, 117, 115, 104], [114, 111, 119], [108, 101, 110, 103, 116, 104], [99, 104, 97, 114], [115, 116, 121, 108, 101], [99, 108, 97, 115, 115], [119, 97, 105, 116], [97, 100, 100], [115, 117, 98], [109, 117, 108], [101, 113, 117, 97, 108], [108, 101, 115, 115], [110, 111, 116], [100, 117, 112], [100, 114, 111, 112], [115, 119, 97, 112], [106, 117, 109, 112], [106, 117, 109, 112, 122, 101, 114, 111], [115, 101, 116, 99, 108, 97, 115, 115], [115, 101, 116, 119, 97, 105, 116]]
def idxFrom (w : BS) : Nat → List BS → Int
  | _, [] => -1
  | i, x :: l => if x = w then (i : Int) else idxFrom w (i + 1) l
def opOf (w : BS) : Int := idxFrom w 0 opNames
theorem idxFrom_rng (w : BS) : ∀ (l : List BS) (i : Nat), idxFrom w i l = -1 ∨ ((i : Int) ≤ idxFrom w i l ∧ idxFrom w i l < i + l.length)
  | [], i => .inl rfl
  | x :: l, i => by
    unfold idxFrom
    by_cases h : x = w
    · rw [if_pos h]; right; simp; omega
    · rw [if_neg h]
      rcases idxFrom_rng w l (i + 1) with h1 | ⟨h1, h2⟩
      · exact .inl h1
      · right; simp at h1 h2 ⊢; omega
theorem opOf_rng (w : BS) : opOf w = -1 ∨ (0 ≤ opOf w ∧ opOf w ≤ 20) := by
  rcases idxFrom_rng w opNames 0 with h | ⟨h1, h2⟩
  · exact .inl h
  · right
    unfold opOf
    have : opNames.length = 21 := rfl
    rw [this] at h2
    simp at h1 h2
    omega

def lowB (c : UInt8) : Bool := decide (97 ≤ c.toNat) && decide (c.toNat ≤ 122)
def digB (c : UInt8) : Bool := decide (48 ≤ c.toNat) && decide (c.toNat ≤ 57)
/-- Whether a word is a label. -/
def labB (s : BS) : Bool := match s with
  | [] => false
  | c :: t => decide (t.length + 1 ≤ 16) && lowB c && (c :: t).all fun c => lowB c || digB c
/-- The value of digits, no more than M. -/
def satV (M : Int) : BS → Int → Int
  | [], n => n
  | c :: t, n => satV M t (min (10 * n + ((c.toNat : Int) - 48)) M)
def numB (ds : BS) (minus : Bool) : Bool := !decide (ds = []) && !(decide (1 < ds.length) && decide (ds.head? = some 48)) && !(minus && decide (ds = [48])) && ds.all digB
/-- The value of a number that is written out; none if it is none. -/
def numOf (M : Int) (s : BS) : Option Int := match s with
  | 45 :: ds => if numB ds true then some (-satV M ds 0) else none
  | s => if numB s false then some (satV M s 0) else none
theorem satV_rng {M : Int} (hM : 0 ≤ M) : ∀ (ds : BS) (n : Int), ds.all digB = true → 0 ≤ n → n ≤ M → 0 ≤ satV M ds n ∧ satV M ds n ≤ M
  | [], n, _, h0, h1 => ⟨h0, h1⟩
  | c :: t, n, hd, h0, h1 => by
    rw [List.all_cons, Bool.and_eq_true] at hd
    have hc : 48 ≤ c.toNat := by have := hd.1; unfold digB at this; simp at this; exact this.1
    exact satV_rng hM t _ hd.2 (by omega) (by omega)
theorem satV_two {M M' : Int} (hM : 999999999 < M) (hM' : 999999999 < M') : ∀ (ds : BS) (n n' : Int), ds.all digB = true → 0 ≤ n → 0 ≤ n' → (n = n' ∨ (999999999 < n ∧ 999999999 < n')) → (satV M ds n = satV M' ds n' ∨ (999999999 < satV M ds n ∧ 999999999 < satV M' ds n'))
  | [], _, _, _, _, _, h => h
  | c :: t, n, n', hd, h0, h0', h => by
    rw [List.all_cons, Bool.and_eq_true] at hd
    have hc : 48 ≤ c.toNat := by have := hd.1; unfold digB at this; simp at this; exact this.1
    refine satV_two hM hM' t _ _ hd.2 (by omega) (by omega) ?_
    omega
/-- What a number is good for: its value, or one beyond the range. -/
def NumSame (a b : Option Int) : Prop := a = b ∨ ∃ x y, a = some x ∧ b = some y ∧ ((999999999 < x ∧ 999999999 < y) ∨ (x < -999999999 ∧ y < -999999999))
theorem numOf_two {M M' : Int} (hM : 999999999 < M) (hM' : 999999999 < M') (s : BS) : NumSame (numOf M s) (numOf M' s) := by
  have key : ∀ ds : BS, ds.all digB = true → (satV M ds 0 = satV M' ds 0 ∨ (999999999 < satV M ds 0 ∧ 999999999 < satV M' ds 0)) := fun ds h => satV_two hM hM' ds 0 0 h (by omega) (by omega) (.inl rfl)
  have alld : ∀ ds m, numB ds m = true → ds.all digB = true := fun ds m h => by unfold numB at h; rw [Bool.and_eq_true] at h; exact h.2
  unfold numOf
  split
  · rename_i ds
    by_cases h : numB ds true = true
    · rw [if_pos h, if_pos h]
      rcases key ds (alld _ _ h) with h1 | ⟨h1, h2⟩
      · exact .inl (by rw [h1])
      · exact .inr ⟨_, _, rfl, rfl, .inr ⟨by omega, by omega⟩⟩
    · rw [if_neg h, if_neg h]; exact .inl rfl
  · rename_i h0
    by_cases h : numB s false = true
    · rw [if_pos h, if_pos h]
      rcases key s (alld _ _ h) with h1 | ⟨h1, h2⟩
      · exact .inl (by rw [h1])
      · exact .inr ⟨_, _, rfl, rfl, .inl ⟨h1, h2⟩⟩
    · rw [if_neg h, if_neg h]; exact .inl rfl

/-- What is known of a source text: the instructions, their lines, the labels, the labels that the jumps name. -/
structure St where
  code : List Ins
  lines : List Int
  labs : List (BS × Nat)
  tgts : List BS
def St.zero : St := ⟨[], [], [], []⟩
def findL (n : BS) : List (BS × Nat) → Option Nat
  | [] => none
  | x :: r => if x.1 = n then some x.2 else findL n r
def St.add (st : St) (no : Int) (x : Ins) (t : BS) : Int × St := if st.code.length = 500 then (5, st) else (0, ⟨st.code ++ [x], st.lines ++ [no], st.labs, st.tgts ++ [t]⟩)
/-- One line's words. -/
def lineF (no : Int) (ws : List BS) (st : St) : Int × St :=
  match ws with
  | [] => (0, st)
  | w :: r =>
    if w.head? = some 35 then (0, st)
    else if r = [] ∧ w.getLast? = some 58 then
      (if labB w.dropLast = false then (3, st) else if (findL w.dropLast st.labs).isSome then (7, st) else (0, ⟨st.code, st.lines, st.labs ++ [(w.dropLast, st.code.length)], st.tgts⟩))
    else if opOf w = -1 then (6, st)
    else if opOf w = 1 then
      (match r with
      | [a] => (match numOf 1000000000 a with
        | none => (3, st)
        | some n => if n < -999999999 ∨ 999999999 < n then (2, st) else st.add no ⟨1, n⟩ [])
      | _ => (3, st))
    else if opOf w = 17 ∨ opOf w = 18 then
      (match r with
      | [a] => if labB a then st.add no ⟨opOf w, 0⟩ a else (3, st)
      | _ => (3, st))
    else if r = [] then st.add no ⟨opOf w, 0⟩ [] else (3, st)
/-- All lines, from line number no on: the error and its line, and what is known. -/
def linesF : Nat → List (List BS) → St → Int × Int × St
  | _, [], st => (0, 0, st)
  | no, ws :: r, st => if (lineF ((no : Int) + 1) ws st).1 = 0 then linesF (no + 1) r (lineF ((no : Int) + 1) ws st).2 else ((lineF ((no : Int) + 1) ws st).1, (no : Int) + 1, st)
/-- The jumps' arguments, from instruction i on; or the error and its line. -/
def jumpsF (labs : List (BS × Nat)) : Nat → List Ins → List Int → List BS → Int × Int × List Ins
  | _, [], _, _ => (0, 0, [])
  | i, x :: l, ls, ts =>
    if x.op = 17 ∨ x.op = 18 then
      (match findL (ts.headD []) labs with
      | none => (6, ls.headD 0, [])
      | some k => if k ≤ i then (2, ls.headD 0, []) else
        let q := jumpsF labs (i + 1) l ls.tail ts.tail
        (q.1, q.2.1, ⟨x.op, k⟩ :: q.2.2))
    else
      let q := jumpsF labs (i + 1) l ls.tail ts.tail
      (q.1, q.2.1, x :: q.2.2)

/-- The words of a line: what lies between the spaces. -/
def wordsG : BS → BS → List BS
  | [], cur => if cur = [] then [] else [cur]
  | c :: t, cur => if c = 32 then (if cur = [] then wordsG t [] else cur :: wordsG t []) else wordsG t (cur ++ [c])
def wordsB (l : BS) : List BS := wordsG l []
/-- The lines of a text. -/
def linesG : BS → BS → List BS
  | [], cur => [cur]
  | c :: t, cur => if c = 10 then cur :: linesG t [] else linesG t (cur ++ [c])
def linesB (l : BS) : List BS := linesG l []
/-- The script of a source text: the error, its line, the instructions. -/
def asmF (src : BS) : Int × Int × List Ins :=
  let p := linesF 0 ((linesB src).map wordsB) St.zero
  if p.1 = 0 then
    let q := jumpsF p.2.2.labs 0 p.2.2.code p.2.2.lines p.2.2.tgts
    if q.1 = 0 then (0, 0, q.2.2) else (q.1, q.2.1, [])
  else (p.1, p.2.1, [])

theorem wordsG_ne : ∀ (l cur : BS), ∀ w ∈ wordsG l cur, w ≠ []
  | [], cur, w, h => by
    unfold wordsG at h
    split at h
    · cases h
    · rename_i hc; rw [List.mem_singleton] at h; rw [h]; exact hc
  | c :: t, cur, w, h => by
    unfold wordsG at h
    split at h
    · split at h
      · exact wordsG_ne t [] w h
      · rename_i hc
        rcases List.mem_cons.1 h with h | h
        · rw [h]; exact hc
        · exact wordsG_ne t [] w h
    · exact wordsG_ne t _ w h
theorem wordsG_app : ∀ (x t cur : BS), (∀ c ∈ x, c ≠ 32) → wordsG (x ++ t) cur = wordsG t (cur ++ x)
  | [], t, cur, _ => by simp
  | c :: x, t, cur, h => by
    rw [List.cons_append, wordsG, if_neg (h c (by simp)), wordsG_app x t _ (fun d hd => h d (by simp [hd]))]
    simp
end Go.Proofs.YtonnjokjbknngaaDoor
