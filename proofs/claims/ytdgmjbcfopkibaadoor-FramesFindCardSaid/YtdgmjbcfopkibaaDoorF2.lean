/- Frames, in plain words: closed rectangles, titles, all frames of a view. -/
import Derived.Test.YtdgmjbcfopkibaaDoorF1
import Derived.Test.YtdgmjbcfopkibaaDoorReg
namespace Go.Proofs.YtdgmjbcfopkibaaDoor
open Go Go.Lib

def allG (p : Nat → Bool) : Nat → Nat → Bool
  | _, 0 => true
  | a, n + 1 => p a && allG p (a + 1) n
def anyG (p : Nat → Bool) : Nat → Nat → Bool
  | _, 0 => false
  | a, n + 1 => p a || anyG p (a + 1) n
theorem allG_iff (p : Nat → Bool) : ∀ (n a : Nat), allG p a n = true ↔ ∀ k, a ≤ k → k < a + n → p k = true
  | 0, a => ⟨fun _ k h1 h2 => by omega, fun _ => rfl⟩
  | n + 1, a => by
    unfold allG
    rw [Bool.and_eq_true, allG_iff p n (a + 1)]
    constructor
    · rintro ⟨h1, h2⟩ k ha hb
      by_cases hk : k = a
      · rw [hk]; exact h1
      · exact h2 k (by omega) (by omega)
    · intro h
      exact ⟨h a (by omega) (by omega), fun k h1 h2 => h k (by omega) (by omega)⟩
/-- Whether a rectangle is closed in a picture. -/
def closedB (P : Nat → Nat → Nat) (t l b r : Nat) : Bool :=
  hasA (P t l) 6 && hasA (P t (r - 1)) 12 && hasA (P (b - 1) l) 3 && hasA (P (b - 1) (r - 1)) 9 &&
  allG (fun k => hasA (P k l) 5) (t + 1) (b - 1 - (t + 1)) && allG (fun k => hasA (P k (r - 1)) 5) (t + 1) (b - 1 - (t + 1)) &&
  allG (fun k => hasA (P (b - 1) k) 10) (l + 1) (r - 1 - (l + 1)) && (decide (r - l = 2) || anyG (fun k => hasA (P t k) 10) (l + 1) (r - 1 - (l + 1)))
/-- The arms of a view's columns. -/
def Vw.pic (v : Vw) (t c : Nat) : Nat := picR (v.rows.getD t []) c
theorem Vw.pic_lt (v : Vw) (t c : Nat) : v.pic t c < 16 := picR_lt _ _

def bottomG (P : Nat → Nat → Nat) (t l r : Nat) : Nat → Nat → Option Nat
  | _, 0 => none
  | b, n + 1 => if closedB P t l b r then some b else bottomG P t l r (b + 1) n
def rgtG (P : Nat → Nat → Nat) (H t l : Nat) : Nat → Nat → Option (Nat × Nat)
  | _, 0 => none
  | r, n + 1 => match bottomG P t l r (t + 2) (H - t - 1) with
    | some b => some (b, r)
    | none => rgtG P H t l (r + 1) n
/-- The frame with a top left corner: its bottom and its right end. -/
def fromF (P : Nat → Nat → Nat) (H W t l : Nat) : Option (Nat × Nat) := if hasA (P t l) 6 then rgtG P H t l (l + 2) (W - l - 1) else none

/-- The first and the last column of a title. -/
def scanG (P : Nat → Nat → Nat) (t : Nat) : Nat → Nat → Int × Int → Int × Int
  | _, 0, s => s
  | c, n + 1, s => scanG P t (c + 1) n (if hasA (P t c) 10 then s else (if s.2 < 0 then (c : Int) else s.1, (c : Int)))
def txt (l : List Gl) (i : Int) : List UInt8 := if 0 ≤ i ∧ i < l.length then ((l.getD i.toNat ⟨⟨#[]⟩, false, 0⟩).text).data.toList else []
def textG (row : List Gl) : Nat → Nat → Int → List UInt8
  | _, 0, _ => []
  | c, n + 1, d => (if idx row c = d then [] else txt row (idx row c)) ++ textG row (c + 1) n (idx row c)
/-- Without the spaces at both ends. -/
def trimSp (l : List UInt8) : List UInt8 := ((l.reverse.dropWhile (· == 32)).reverse).dropWhile (· == 32)
def titleL (P : Nat → Nat → Nat) (row : List Gl) (t l r : Nat) : List UInt8 :=
  let s := scanG P t (l + 1) (r - 1 - (l + 1)) (0, -1)
  trimSp (textG row s.1.toNat (s.2 + 1 - s.1).toNat (-1))
def titleB (P : Nat → Nat → Nat) (row : List Gl) (t l r : Nat) : ByteArray := ⟨(titleL P row t l r).toArray⟩

/-- The frame of a corner, if there is one. -/
def frameF (v : Vw) (t l : Nat) : Option Rg := (fromF v.pic v.rows.length v.width.toNat t l).map fun x => ⟨2, 0, -1, t, l, x.1, x.2, titleB v.pic (v.rows.getD t []) t l x.2⟩
def colsF (v : Vw) (t : Nat) : Nat → Nat → List Rg
  | _, 0 => []
  | l, n + 1 => (frameF v t l).toList ++ colsF v t (l + 1) n
def rowsF (v : Vw) : Nat → Nat → List Rg
  | _, 0 => []
  | t, n + 1 => colsF v t 0 v.width.toNat ++ rowsF v (t + 1) n
/-- What Find returns. -/
def framesT (v : Vw) : List Rg := if v.ok then rowsF v 0 v.rows.length else []

theorem closedB_has {P : Nat → Nat → Nat} {t l b r : Nat} (h : closedB P t l b r = true) : hasA (P t l) 6 = true ∧ hasA (P t (r - 1)) 12 = true := by
  unfold closedB at h
  simp only [Bool.and_eq_true] at h
  exact ⟨h.1.1.1.1.1.1.1, h.1.1.1.1.1.1.2⟩
theorem bottomG_some {P : Nat → Nat → Nat} {t l r : Nat} : ∀ (n b x : Nat), bottomG P t l r b n = some x → closedB P t l x r = true ∧ b ≤ x ∧ x < b + n ∧ ∀ y, b ≤ y → y < x → closedB P t l y r = false
  | 0, _, _, h => by cases h
  | n + 1, b, x, h => by
    unfold bottomG at h
    by_cases hc : closedB P t l b r = true
    · rw [if_pos hc] at h
      cases h
      exact ⟨hc, Nat.le_refl _, by omega, fun y h1 h2 => by omega⟩
    · rw [if_neg hc] at h
      obtain ⟨h1, h2, h3, h4⟩ := bottomG_some n (b + 1) x h
      refine ⟨h1, by omega, by omega, fun y ha hb => ?_⟩
      by_cases hy : y = b
      · rw [hy]; simpa using hc
      · exact h4 y (by omega) hb
theorem bottomG_none {P : Nat → Nat → Nat} {t l r : Nat} : ∀ (n b : Nat), bottomG P t l r b n = none → ∀ y, b ≤ y → y < b + n → closedB P t l y r = false
  | 0, _, _, y, h1, h2 => by omega
  | n + 1, b, h, y, h1, h2 => by
    unfold bottomG at h
    by_cases hc : closedB P t l b r = true
    · rw [if_pos hc] at h; cases h
    · rw [if_neg hc] at h
      by_cases hy : y = b
      · rw [hy]; simpa using hc
      · exact bottomG_none n (b + 1) h y (by omega) (by omega)
theorem rgtG_some {P : Nat → Nat → Nat} {H t l : Nat} : ∀ (n r x y : Nat), rgtG P H t l r n = some (x, y) → closedB P t l x y = true ∧ t + 2 ≤ x ∧ x < t + 2 + (H - t - 1) ∧ r ≤ y ∧ y < r + n ∧
    (∀ b, t + 2 ≤ b → b < x → closedB P t l b y = false) ∧ ∀ c, r ≤ c → c < y → ∀ b, t + 2 ≤ b → b < t + 2 + (H - t - 1) → closedB P t l b c = false
  | 0, _, _, _, h => by cases h
  | n + 1, r, x, y, h => by
    unfold rgtG at h
    cases hb : bottomG P t l r (t + 2) (H - t - 1) with
    | some b =>
      rw [hb] at h
      dsimp only at h
      cases h
      obtain ⟨h1, h2, h3, h4⟩ := bottomG_some _ _ _ hb
      exact ⟨h1, h2, h3, Nat.le_refl _, by omega, h4, fun c h5 h6 => by omega⟩
    | none =>
      rw [hb] at h
      dsimp only at h
      obtain ⟨h1, h2, h3, h4, h5, h6, h7⟩ := rgtG_some n (r + 1) x y h
      refine ⟨h1, h2, h3, by omega, by omega, h6, fun c ha hc => ?_⟩
      by_cases hcr : c = r
      · rw [hcr]; exact bottomG_none _ _ hb
      · exact h7 c (by omega) hc
theorem rgtG_none {P : Nat → Nat → Nat} {H t l : Nat} : ∀ (n r : Nat), rgtG P H t l r n = none → ∀ c, r ≤ c → c < r + n → ∀ b, t + 2 ≤ b → b < t + 2 + (H - t - 1) → closedB P t l b c = false
  | 0, _, _, c, h1, h2 => by omega
  | n + 1, r, h, c, h1, h2 => by
    unfold rgtG at h
    cases hb : bottomG P t l r (t + 2) (H - t - 1) with
    | some b => rw [hb] at h; cases h
    | none =>
      rw [hb] at h
      dsimp only at h
      by_cases hcr : c = r
      · rw [hcr]; exact bottomG_none _ _ hb
      · exact rgtG_none n (r + 1) h c (by omega) (by omega)
theorem fromF_some {P : Nat → Nat → Nat} {H W t l b r : Nat} (h : fromF P H W t l = some (b, r)) : hasA (P t l) 6 = true ∧ closedB P t l b r = true ∧ t + 2 ≤ b ∧ b ≤ H ∧ l + 2 ≤ r ∧ r ≤ W ∧
    (∀ b', t + 2 ≤ b' → b' < b → closedB P t l b' r = false) ∧ ∀ r', l + 2 ≤ r' → r' < r → ∀ b', t + 2 ≤ b' → b' ≤ H → closedB P t l b' r' = false := by
  unfold fromF at h
  by_cases hc : hasA (P t l) 6 = true
  · rw [if_pos hc] at h
    obtain ⟨h1, h2, h3, h4, h5, h6, h7⟩ := rgtG_some _ _ _ _ h
    exact ⟨hc, h1, h2, by omega, h4, by omega, h6, fun r' ha hb b' hc hd => h7 r' ha hb b' hc (by omega)⟩
  · rw [if_neg hc] at h; cases h
theorem fromF_none {P : Nat → Nat → Nat} {H W t l : Nat} (h : fromF P H W t l = none) {b r : Nat} (h1 : t + 2 ≤ b) (h2 : b ≤ H) (h3 : l + 2 ≤ r) (h4 : r ≤ W) : closedB P t l b r = false := by
  unfold fromF at h
  by_cases hc : hasA (P t l) 6 = true
  · rw [if_pos hc] at h
    exact rgtG_none _ _ h r h3 (by omega) b h1 (by omega)
  · cases hb : closedB P t l b r with
    | false => rfl
    | true => exact absurd (closedB_has hb).1 hc

theorem picR_snoc (l : List Gl) (k : Nat) (hk : k < l.length) (c : Nat) : picR (l.take (k + 1)) c = if c = widthOf (l.take k) ∧ l[k].wide = false ∧ l[k].style ≠ 3 then armT l[k].text.data.toList else picR (l.take k) c := by
  have key : ∀ (a : List Gl) (g : Gl) (c : Nat), picR (a ++ [g]) c = if c = widthOf a ∧ g.wide = false ∧ g.style ≠ 3 then armT g.text.data.toList else picR a c := by
    intro a
    induction a with
    | nil =>
      intro g c
      simp only [List.nil_append, picR, widthOf, List.map_nil, List.sum_nil]
      cases hw : g.wide with
      | true => simp
      | false =>
        simp only [Bool.false_eq_true, if_false, true_and]
        by_cases hc : c = 0
        · by_cases hs : g.style = 3 <;> simp [hc, hs]
        · simp [hc]
    | cons x a ih =>
      intro g c
      have hwx : widthOf (x :: a) = glW x + widthOf a := by simp [widthOf]
      rw [List.cons_append, picR, picR, hwx]
      unfold glW
      cases hx : x.wide with
      | true =>
        simp only [if_true]
        by_cases hc : c < 2
        · rw [if_pos hc, if_pos hc, if_neg (by rintro ⟨h, _⟩; omega)]
        · rw [if_neg hc, if_neg hc, ih]
          by_cases hq : c - 2 = widthOf a ∧ g.wide = false ∧ g.style ≠ 3
          · rw [if_pos hq, if_pos ⟨by omega, hq.2⟩]
          · rw [if_neg hq, if_neg (by rintro ⟨h1, h2⟩; exact hq ⟨by omega, h2⟩)]
      | false =>
        simp only [Bool.false_eq_true, if_false]
        by_cases hc : c = 0
        · rw [if_pos hc, if_pos hc, if_neg (show ¬ (c = 1 + widthOf a ∧ g.wide = false ∧ g.style ≠ 3) by rintro ⟨h, _⟩; omega)]
        · rw [if_neg hc, if_neg hc, ih]
          by_cases hq : c - 1 = widthOf a ∧ g.wide = false ∧ g.style ≠ 3
          · rw [if_pos hq, if_pos ⟨by omega, hq.2⟩]
          · rw [if_neg hq, if_neg (by rintro ⟨h1, h2⟩; exact hq ⟨by omega, h2⟩)]
  rw [List.take_succ_eq_append_getElem hk]
  exact key _ _ _
theorem picR_out : ∀ (l : List Gl) (c : Nat), widthOf l ≤ c → picR l c = 0
  | [], _, _ => rfl
  | g :: l, c, h => by
    have hw : widthOf (g :: l) = glW g + widthOf l := by simp [widthOf]
    rw [hw] at h
    unfold glW at h
    unfold picR
    cases hg : g.wide with
    | true => rw [hg] at h; simp only [if_true] at h ⊢; rw [if_neg (by omega)]; exact picR_out l _ (by omega)
    | false => rw [hg] at h; simp only [Bool.false_eq_true, if_false] at h ⊢; rw [if_neg (by omega)]; exact picR_out l _ (by omega)
/-- What stands at a column: the arms of the glyph that the index finds, if it is narrow and not hidden. -/
theorem picR_idx : ∀ (l : List Gl) (c : Nat), c < widthOf l → ∃ (k : Nat) (hk : k < l.length), idx l c = k ∧ picR l c = if l[k].wide = true ∨ l[k].style = 3 then 0 else armT l[k].text.data.toList
  | [], c, h => by simp [widthOf] at h
  | g :: l, c, h => by
    have hw : widthOf (g :: l) = glW g + widthOf l := by simp [widthOf]
    rw [hw] at h
    by_cases hc : (c : Int) < glW g
    · refine ⟨0, by simp, by unfold idx; rw [if_pos hc]; rfl, ?_⟩
      unfold picR
      unfold glW at hc
      cases hg : g.wide with
      | true => rw [hg] at hc; simp only [if_true] at hc ⊢; rw [if_pos (by omega), if_pos (by simp [hg])]
      | false =>
        rw [hg] at hc
        simp only [Bool.false_eq_true, if_false] at hc ⊢
        rw [if_pos (by omega)]
        by_cases h3 : g.style = 3
        · rw [if_pos h3, if_pos (.inr (by simpa using h3))]
        · rw [if_neg h3, if_neg (by simp [hg, h3])]; rfl
    · obtain ⟨k, hk, h1, h2⟩ := picR_idx l (c - glW g) (by omega)
      refine ⟨k + 1, by simp; omega, ?_, ?_⟩
      · unfold idx
        rw [if_neg hc, show (c : Int) - (glW g : Int) = ((c - glW g : Nat) : Int) by omega, h1]
        push_cast; omega
      · rw [List.getElem_cons_succ, ← h2]
        unfold picR
        unfold glW at hc ⊢
        cases hg : g.wide with
        | true => rw [hg] at hc; simp only [if_true] at hc ⊢; rw [if_neg (by omega)]; cases l <;> rfl
        | false => rw [hg] at hc; simp only [Bool.false_eq_true, if_false] at hc ⊢; rw [if_neg (by omega)]; cases l <;> rfl
end Go.Proofs.YtdgmjbcfopkibaaDoor
