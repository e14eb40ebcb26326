/- Tables, in plain words: two views, one below the other with an empty row between them; the rows of that view out of the headers appended. -/
import Derived.Test.YtbbhkibbkecojaaDoorP2
import Derived.Test.YtbbhkibbkecojaaDoorT12
import Derived.Test.YtbbhkibbkecojaaDoorApp2
namespace Go.Proofs.YtbbhkibbkecojaaDoor
open Go.RowKit

theorem partsTo_more (f : Nat → Bool) (W : Nat) : ∀ d, (∀ c, W ≤ c → f c = true) → partsTo f (W + d) = partsTo f W
  | 0, _ => rfl
  | d + 1, h => by
    show partStep (partsTo f (W + d)) (W + d) (f (W + d)) = _
    rw [h _ (by omega), partStep_free, partsTo_more f W d h]
theorem bk_wide (l : List Gl) (W c : Nat) (h : widthOf l ≤ W) (hc : W ≤ c) : bk l c = true := by
  unfold bk
  rw [List.getElem?_eq_none (by rw [colsOf_length]; omega)]
  rfl
theorem gut_wide (rows : List (List Gl)) (W t b : Nat) (hw : ∀ r ∈ rows, widthOf r ≤ W) (c : Nat) (hc : W ≤ c) : gut rows t b c = true := by
  unfold gut allB
  rw [List.all_eq_true]
  intro l hl
  exact bk_wide l W c (hw l (List.mem_of_mem_drop (List.mem_of_mem_take hl))) hc

/-- What a range of rows tells, told by the rows of the range alone. -/
theorem same_rows {r1 r2 : List (List Gl)} {t1 b1 t2 b2 : Nat} (h : rowsIn r1 t1 b1 = rowsIn r2 t2 b2) (W1 W2 : Nat) (hW : W2 ≤ W1) (hw : ∀ r ∈ r2, widthOf r ≤ W2) :
    partsTo (gut r1 t1 b1) W1 = partsTo (gut r2 t2 b2) W2 ∧ tabB r1 W1 t1 b1 = tabB r2 W2 t2 b2 := by
  have hg : gut r1 t1 b1 = gut r2 t2 b2 := by funext c; unfold gut; rw [h]
  obtain ⟨d, rfl⟩ : ∃ d, W1 = W2 + d := ⟨W1 - W2, by omega⟩
  have hp := partsTo_more (gut r2 t2 b2) W2 d (gut_wide r2 W2 t2 b2 hw)
  refine ⟨by rw [hg, hp], ?_⟩
  unfold tabB
  rw [h, hg, hp]

section
variable (RA RB : List (List Gl)) (W WA WB : Nat)
abbrev twoR : List (List Gl) := (RA ++ [[]]) ++ RB
theorem twoR_len : (twoR RA RB).length = RA.length + 1 + RB.length := by simp [twoR]; omega
theorem two_up (t b : Nat) (hb : b ≤ RA.length) : rowsIn (twoR RA RB) t b = rowsIn RA t b := by
  unfold rowsIn twoR
  by_cases ht : t ≤ RA.length
  · rw [List.append_assoc, List.drop_append_of_le_length ht, List.take_append_of_le_length (by rw [List.length_drop]; omega)]
  · rw [show b - t = 0 by omega, List.take_zero, List.take_zero]
theorem two_down (t b : Nat) : rowsIn (twoR RA RB) (RA.length + 1 + t) (RA.length + 1 + b) = rowsIn RB t b := by
  unfold rowsIn twoR
  rw [show RA.length + 1 + t = (RA ++ [[]]).length + t by simp, List.drop_append, List.drop_eq_nil_of_le (by omega), List.nil_append]
  congr 1
  · simp; omega
  · congr 1; omega
theorem two_mid : (twoR RA RB)[RA.length]? = some [] := by
  unfold twoR; rw [List.append_assoc, List.getElem?_append_right (by omega)]; simp
theorem two_gap (t b : Nat) (h1 : t ≤ RA.length) (h2 : RA.length < b) (h3 : b ≤ (twoR RA RB).length) : tabB (twoR RA RB) W t b = false :=
  tabB_none (twoR RA RB) W t b RA.length h1 h2 h3 (two_mid RA RB) rfl

variable (hWA : WA ≤ W) (hWB : WB ≤ W) (hA : ∀ r ∈ RA, widthOf r ≤ WA) (hB : ∀ r ∈ RB, widthOf r ≤ WB)
include hWA hA in
theorem end_up (t : Nat) : ∀ b, b ≤ RA.length → endTo (twoR RA RB) W t b = endTo RA WA t b
  | 0, _ => rfl
  | b + 1, h => by rw [endTo_step, endTo_step, (same_rows (two_up RA RB t (b + 1) h) W WA hWA hA).2, end_up t b (by omega)]
include hWA hA in
theorem end_upper (t : Nat) (ht : t < RA.length) : endTo (twoR RA RB) W t (twoR RA RB).length = endTo RA WA t RA.length := by
  have hl := twoR_len RA RB
  rw [show (twoR RA RB).length = RA.length + (1 + RB.length) by omega, endTo_stop (twoR RA RB) W t RA.length (1 + RB.length) (fun b' h1 h2 => two_gap RA RB W t b' (by omega) h1 (by omega))]
  exact end_up RA RB W WA hWA hA t _ (Nat.le_refl _)
theorem end_mid : endTo (twoR RA RB) W RA.length (twoR RA RB).length = RA.length + 1 := by
  have hl := twoR_len RA RB
  rw [show (twoR RA RB).length = (RA.length + 1) + RB.length by omega, endTo_stop (twoR RA RB) W RA.length (RA.length + 1) RB.length (fun b' h1 h2 => two_gap RA RB W RA.length b' (Nat.le_refl _) (by omega) (by omega))]
  exact endTo_low _ _ _ _ (Nat.le_refl _)
include hWB hB in
theorem end_down (t : Nat) : ∀ b, endTo (twoR RA RB) W (RA.length + 1 + t) (RA.length + 1 + b) = RA.length + 1 + endTo RB WB t b
  | 0 => by rw [endTo_low _ _ _ _ (by omega)]; rfl
  | b + 1 => by
    show endTo (twoR RA RB) W (RA.length + 1 + t) ((RA.length + 1 + b) + 1) = _
    rw [endTo_step, endTo_step, end_down t b, show RA.length + 1 + b + 1 = RA.length + 1 + (b + 1) by omega, (same_rows (two_down RA RB t (b + 1)) W WB hWB hB).2]
    have hd : decide (RA.length + 1 + t + 2 ≤ RA.length + 1 + (b + 1)) = decide (t + 2 ≤ b + 1) := by
      rw [decide_eq_decide]; omega
    rw [hd]
    split <;> rfl

/-- A table further down. -/
def Rg.down (r : Rg) (n : Nat) : Rg := ⟨r.kind, r.id, r.parent, r.top + ((n : Int) + 1), r.left, r.bottom + ((n : Int) + 1), r.right, r.label⟩
include hWA hA in
theorem tbl_up (t b : Nat) (ht : t < RA.length) (hb : b ≤ RA.length) : tblR (twoR RA RB) W t b = tblR RA WA t b := by
  unfold tblR
  rw [(same_rows (two_up RA RB t b hb) W WA hWA hA).1]
  have : (twoR RA RB)[t]? = RA[t]? := by unfold twoR; rw [List.append_assoc, List.getElem?_append_left ht]
  rw [this]
include hWB hB in
theorem tbl_down (t b : Nat) : tblR (twoR RA RB) W (RA.length + 1 + t) (RA.length + 1 + b) = (tblR RB WB t b).down RA.length := by
  unfold tblR Rg.down
  rw [(same_rows (two_down RA RB t b) W WB hWB hB).1]
  have : (twoR RA RB)[RA.length + 1 + t]? = RB[t]? := by
    unfold twoR; rw [List.getElem?_append_right (by simp)]; congr 1; simp
  rw [this]
  simp only [Rg.mk.injEq, true_and, and_true]
  constructor <;> omega

include hWB hB in
theorem find_down : ∀ f t h, RB.length ≤ t + f → RB.length ≤ t + h → findF (twoR RA RB) W f (RA.length + 1 + t) = (findF RB WB h t).map fun r => r.down RA.length
  | 0, t, h, h1, h2 => by rw [findF_end RB WB h t (by omega)]; rfl
  | f + 1, t, h, h1, h2 => by
    have hl := twoR_len RA RB
    by_cases ht : t < RB.length
    · obtain ⟨h, rfl⟩ : ∃ h', h = h' + 1 := ⟨h - 1, by omega⟩
      have he := end_down RA RB W WB hWB hB t RB.length
      rw [← hl] at he
      have hbd := endTo_bd RB WB t RB.length
      by_cases h0 : endTo RB WB t RB.length = t + 1
      · rw [findF_none _ _ _ _ (by omega) (by rw [he, h0]; omega), findF_none _ _ _ _ ht h0]
        exact find_down f (t + 1) h (by omega) (by omega)
      · rw [findF_some _ _ _ _ (by omega) (by rw [he]; omega), findF_some _ _ _ _ ht h0, he, List.map_cons, tbl_down RA RB W WB hWB hB, find_down f _ h (by omega) (by omega)]
    · rw [findF_end _ _ _ _ (by omega), findF_end _ _ _ _ (by omega)]; rfl
include hWA hWB hA hB in
theorem find_two : ∀ f t g h, t ≤ RA.length → RA.length + 1 + RB.length ≤ t + f → RA.length ≤ t + g → RB.length ≤ h → findF (twoR RA RB) W f t = findF RA WA g t ++ (findF RB WB h 0).map fun r => r.down RA.length
  | 0, t, g, h, h0, h1, h2, h3 => by omega
  | f + 1, t, g, h, h0, h1, h2, h3 => by
    have hl := twoR_len RA RB
    by_cases ht : t < RA.length
    · obtain ⟨g, rfl⟩ : ∃ g', g = g' + 1 := ⟨g - 1, by omega⟩
      have he := end_upper RA RB W WA hWA hA t ht
      have hbd := endTo_bd RA WA t RA.length
      by_cases h4 : endTo RA WA t RA.length = t + 1
      · rw [findF_none _ _ _ _ (by omega) (by rw [he, h4]), findF_none _ _ _ _ ht h4]
        exact find_two f (t + 1) g h (by omega) (by omega) (by omega) h3
      · rw [findF_some _ _ _ _ (by omega) (by rw [he]; exact h4), findF_some _ _ _ _ ht h4, he, tbl_up RA RB W WA hWA hA t _ ht (by omega), List.cons_append, find_two f _ g h (by omega) (by omega) (by omega) h3]
    · obtain rfl : t = RA.length := by omega
      rw [findF_none _ _ _ _ (by omega) (end_mid RA RB W), findF_end RA WA g _ (Nat.le_refl _), List.nil_append]
      exact find_down RA RB W WB hWB hB f 0 h (by omega) (by omega)
end


def twoV (a b : Vw) : Vw := ⟨max a.width b.width, a.height + 1 + b.height, twoR a.rows b.rows, a.row, a.col, a.visible⟩

theorem firstErr_all {α : Type} {f : α → Int} {l : List α} (h : ∀ x ∈ l, f x = 0) : firstErr f l = 0 :=
  firstErr_none f l fun _ hi => h _ (List.getElem_mem hi)
theorem rowErr_more {w1 w2 : Int} {l : List Gl} (h : rowErr w1 l = 0) (hw : w1 ≤ w2) : rowErr w2 l = 0 := by
  unfold rowErr at h ⊢
  by_cases h1 : firstErr glErr l = 0
  · rw [if_neg (by simp [h1])] at h ⊢
    by_cases h2 : w1 < widthOf l
    · rw [if_pos h2] at h; omega
    · rw [if_neg h2] at h
      rw [if_neg (by omega)]
      exact h
  · rw [if_pos h1] at h; exact absurd h h1
theorem rowErr_nil {w : Int} (hw : 0 ≤ w) : rowErr w [] = 0 := by
  unfold rowErr
  rw [if_neg (by simp [firstErr]), if_neg (by show ¬ w < ((widthOf [] : Nat) : Int); simp [widthOf]; omega)]
  rfl
theorem mem_twoR {RA RB : List (List Gl)} {r : List Gl} (h : r ∈ twoR RA RB) : r ∈ RA ∨ r = [] ∨ r ∈ RB := by
  unfold twoR at h
  simp only [List.mem_append, List.mem_singleton] at h
  rcases h with (h | h) | h
  · exact .inl h
  · exact .inr (.inl h)
  · exact .inr (.inr h)
theorem two_ok {a b : Vw} (ha : a.ok = true) (hb : b.ok = true) (h1 : a.height ≤ 5) (h2 : b.height ≤ 5) : (twoV a b).ok = true := by
  obtain ⟨a1, a2, a3, a4, a5, a6, a7⟩ := Vw.proper ha
  obtain ⟨b1, b2, b3, b4, b5, b6, b7⟩ := Vw.proper hb
  unfold Vw.curB at a6
  simp only [Bool.or_eq_false_iff, decide_eq_false_iff_not] at a6
  obtain ⟨⟨⟨c1, c2⟩, c3⟩, c4⟩ := a6
  unfold Vw.ok Vw.err twoV
  dsimp only
  have hs : sizedB (max a.width b.width) (a.height + 1 + b.height) = true := by
    unfold sizedB; simp; omega
  have hl : ((twoR a.rows b.rows).length : Int) = a.height + 1 + b.height := by rw [twoR_len]; omega
  have hc : Vw.curB ⟨max a.width b.width, a.height + 1 + b.height, twoR a.rows b.rows, a.row, a.col, a.visible⟩ = false := by
    unfold Vw.curB; simp; omega
  rw [if_neg (by rw [hs]; decide), if_neg (by rw [hl]; exact fun h => h rfl), if_neg (by rw [hc]; decide), firstErr_all]
  · rfl
  · intro r hr
    rcases mem_twoR hr with h | rfl | h
    · exact rowErr_more (a7 r h) (by omega)
    · exact rowErr_nil (by omega)
    · exact rowErr_more (b7 r h) (by omega)
theorem two_tame {a b : Vw} (ha : a.Tame) (hb : b.Tame) (h1 : a.rows.length ≤ 5) (h2 : b.rows.length ≤ 5) : (twoV a b).Tame := by
  refine ⟨by show (twoR a.rows b.rows).length ≤ 12; rw [twoR_len]; omega, fun r hr => ?_⟩
  rcases mem_twoR (show r ∈ twoR a.rows b.rows from hr) with h | rfl | h
  · exact ha.2 r h
  · exact ⟨by simp, fun g hg => by cases hg⟩
  · exact hb.2 r h
theorem two_find {a b : Vw} (ta : a.Tame) (tb : b.Tame) (ha : a.ok = true) (hb : b.ok = true) (h1 : a.height ≤ 5) (h2 : b.height ≤ 5) :
    findT (twoV a b) = findT a ++ (findT b).map fun r => r.down a.rows.length := by
  have na := Vw.nice ta ha
  have nb := Vw.nice tb hb
  unfold findT
  rw [if_pos (two_ok ha hb h1 h2), if_pos ha, if_pos hb]
  exact find_two a.rows b.rows _ a.width.toNat b.width.toNat (by show _ ≤ (max a.width b.width).toNat; omega) (by show _ ≤ (max a.width b.width).toNat; omega) na.wide nb.wide _ 0 a.rows.length b.rows.length (by omega) (by show _ ≤ 0 + (twoR a.rows b.rows).length; rw [twoR_len]; omega) (by omega) (Nat.le_refl _)


theorem twoR_heads {w w' : World} {B' : Nat} {ra rb : List (List Gl)} {xa xb : List Value} (hb : Below w.heap.size w w') (hB : w.heap.size ≤ B') (ha1 : xa.length = ra.length)
    (ha : ∀ (k : Nat) (r : List Gl), ra[k]? = some r → ∃ (A : Option Addr) (c : Nat), xa[k]? = some (Value.slice A r.length c) ∧ r.length ≤ c ∧ GlRow w w.heap.size A r)
    (hbb : ∀ (k : Nat) (r : List Gl), rb[k]? = some r → ∃ (A : Option Addr) (c : Nat), xb[k]? = some (Value.slice A r.length c) ∧ r.length ≤ c ∧ GlRow w w.heap.size A r) :
    ∀ (k : Nat) (r : List Gl), (twoR ra rb)[k]? = some r → ∃ (A : Option Addr) (c : Nat), (xa ++ [Value.slice none 0 0] ++ xb)[k]? = some (Value.slice A r.length c) ∧ r.length ≤ c ∧ GlRow w' B' A r := fun k r hk => by
  unfold twoR at hk
  by_cases h1 : k < ra.length
  · rw [List.append_assoc, List.getElem?_append_left h1] at hk
    obtain ⟨A, c, e1, e2, e3⟩ := ha k r hk
    exact ⟨A, c, by rw [List.append_assoc, List.getElem?_append_left (by omega)]; exact e1, e2, (e3.below (GlAt.stays _) hb).more hB⟩
  · by_cases h2 : k = ra.length
    · subst h2
      rw [List.append_assoc, List.getElem?_append_right (by omega)] at hk
      simp at hk
      subst hk
      exact ⟨none, 0, by rw [List.append_assoc, List.getElem?_append_right (by omega), ha1]; simp, Nat.le_refl _, Sl.nil rfl⟩
    · rw [List.getElem?_append_right (by simp; omega)] at hk
      obtain ⟨A, c, e1, e2, e3⟩ := hbb _ r hk
      refine ⟨A, c, ?_, e2, (e3.below (GlAt.stays _) hb).more hB⟩
      rw [List.getElem?_append_right (by simp; omega), ← e1]
      congr 1
      simp
      omega
end Go.Proofs.YtbbhkibbkecojaaDoor
