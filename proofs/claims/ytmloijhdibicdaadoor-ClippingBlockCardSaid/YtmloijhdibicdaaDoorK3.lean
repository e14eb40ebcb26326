/- Rectangles of a view, in plain words. -/
import Derived.Test.YtmloijhdibicdaaDoorK1
import Derived.Lib.TrimByte
namespace Go.Proofs.YtmloijhdibicdaaDoor

/-- The text of the columns from left up to right; the first glyph stands at column col. -/
def cutL (left right : Nat) : Nat → List Gl → List UInt8
  | _, [] => []
  | col, g :: l => (if left ≤ col ∧ col < right then g.text.data.toList else if g.wide = true ∧ col + 1 = left then [32] else []) ++ cutL left right (col + glW g) l
theorem widthOf_cons (g : Gl) (l : List Gl) : widthOf (g :: l) = glW g + widthOf l := by simp [widthOf]
theorem cutL_app (left right : Nat) : ∀ (a b : List Gl) (col : Nat), cutL left right col (a ++ b) = cutL left right col a ++ cutL left right (col + widthOf a) b
  | [], b, col => by simp [cutL, widthOf]
  | g :: a, b, col => by rw [List.cons_append, cutL, cutL, cutL_app left right a b (col + glW g), widthOf_cons, List.append_assoc, Nat.add_assoc]
theorem cutL_snoc (left right : Nat) (l : List Gl) (k : Nat) (hk : k < l.length) : cutL left right 0 (l.take (k + 1)) = cutL left right 0 (l.take k) ++
    (if left ≤ widthOf (l.take k) ∧ widthOf (l.take k) < right then l[k].text.data.toList else if l[k].wide = true ∧ widthOf (l.take k) + 1 = left then [32] else []) := by
  rw [List.take_succ_eq_append_getElem hk, cutL_app, Nat.zero_add]
  simp [cutL]
theorem cutL_size (left right M : Nat) (hM : 1 ≤ M) : ∀ (l : List Gl) (col : Nat), (∀ g ∈ l, g.text.size ≤ M) → (cutL left right col l).length ≤ M * l.length
  | [], _, _ => by simp [cutL]
  | g :: l, col, h => by
    have ih := cutL_size left right M hM l (col + glW g) fun g' hg => h g' (by simp [hg])
    have hg := h g (by simp)
    have hs : g.text.data.toList.length = g.text.size := by simp
    rw [cutL, List.length_append, List.length_cons, Nat.mul_add]
    split
    · omega
    · split
      · simp only [List.length_cons, List.length_nil]; omega
      · simp only [List.length_nil]; omega
def cutB (left right : Nat) (l : List Gl) : ByteArray := ⟨(Lib.trimRightB (cutL left right 0 l) 32).toArray⟩

/-- For each column the text that begins there. -/
def colsF (left : Nat) : Nat → List Gl → List ByteArray
  | _, [] => []
  | col, g :: l => g.text :: (if g.wide then (if col + 1 = left then ⟨#[32]⟩ else ⟨#[]⟩) :: colsF left (col + 2) l else colsF left (col + 1) l)
theorem colsF_len (left : Nat) : ∀ (l : List Gl) (col : Nat), (colsF left col l).length = widthOf l
  | [], _ => rfl
  | g :: l, col => by
    rw [colsF, widthOf_cons]
    unfold glW
    split
    · simp only [List.length_cons, colsF_len left l]; omega
    · simp only [List.length_cons, colsF_len left l]; omega
theorem colsF_app (left : Nat) : ∀ (a b : List Gl) (col : Nat), colsF left col (a ++ b) = colsF left col a ++ colsF left (col + widthOf a) b
  | [], b, col => by simp [colsF, widthOf]
  | g :: a, b, col => by
    rw [List.cons_append, colsF, colsF, widthOf_cons]
    unfold glW
    split
    · rw [colsF_app left a b (col + 2), Nat.add_assoc]; rfl
    · rw [colsF_app left a b (col + 1), Nat.add_assoc]; rfl
theorem colsF_snoc (left : Nat) (l : List Gl) (k : Nat) (hk : k < l.length) : colsF left 0 (l.take (k + 1)) = colsF left 0 (l.take k) ++ ([l[k].text] ++ (if l[k].wide then [if widthOf (l.take k) + 1 = left then ⟨#[32]⟩ else ⟨#[]⟩] else [])) := by
  rw [List.take_succ_eq_append_getElem hk, colsF_app, Nat.zero_add, colsF]
  rfl

/-- What stands in the columns from left up to right. -/
def segL (left right : Nat) : Nat → List ByteArray → List UInt8
  | _, [] => []
  | col, c :: cs => (if left ≤ col ∧ col < right then c.data.toList else []) ++ segL left right (col + 1) cs
theorem segL_out (left right : Nat) : ∀ (cs : List ByteArray) (col : Nat), right ≤ col → segL left right col cs = []
  | [], _, _ => rfl
  | c :: cs, col, h => by rw [segL, if_neg (by omega), segL_out left right cs (col + 1) (by omega)]; rfl
theorem segL_cols (left right : Nat) (h : left < right) : ∀ (l : List Gl) (col : Nat), segL left right col (colsF left col l) = cutL left right col l
  | [], _ => rfl
  | g :: l, col => by
    rw [colsF, cutL]
    unfold glW
    cases hw : g.wide with
    | true =>
      simp only [if_true, true_and]
      rw [segL, segL, segL_cols left right h l (col + 2), ← List.append_assoc]
      congr 1
      by_cases h1 : left ≤ col ∧ col < right
      · rw [if_pos h1, if_pos h1]
        by_cases h2 : left ≤ col + 1 ∧ col + 1 < right
        · rw [if_pos h2, if_neg (by omega)]; simp
        · rw [if_neg h2]; simp
      · rw [if_neg h1, if_neg h1]
        by_cases h3 : col + 1 = left
        · rw [if_pos (by omega), if_pos h3, if_pos h3]; rfl
        · rw [if_neg h3, if_neg h3]
          split <;> rfl
    | false =>
      simp only [Bool.false_eq_true, if_false, false_and]
      rw [segL, segL_cols left right h l (col + 1)]
theorem segL_succ (left m : Nat) (h : left ≤ m) : ∀ (cs : List ByteArray) (col : Nat), col ≤ m → segL left (m + 1) col cs = segL left m col cs ++ (match cs[m - col]? with | some c => c.data.toList | none => [])
  | [], _, _ => rfl
  | c :: cs, col, hc => by
    rw [segL, segL]
    by_cases he : col = m
    · subst he
      rw [if_pos (by omega), if_neg (by omega), segL_out _ _ _ _ (Nat.le_refl _), segL_out _ _ _ _ (by omega), Nat.sub_self]
      simp
    · rw [segL_succ left m h cs (col + 1) (by omega), show m - col = m - (col + 1) + 1 by omega, List.getElem?_cons_succ, List.append_assoc]
      congr 1
      by_cases h1 : left ≤ col
      · rw [if_pos (by omega), if_pos (by omega)]
      · rw [if_neg (by omega), if_neg (by omega)]
theorem segL_none (left : Nat) : ∀ (cs : List ByteArray) (col : Nat), segL left left col cs = []
  | [], _ => rfl
  | c :: cs, col => by rw [segL, if_neg (by omega), segL_none left cs]; rfl
/-- The reference's line. -/
def lineTo (cs : List ByteArray) (left : Nat) : Nat → ByteArray
  | 0 => ⟨#[]⟩
  | n + 1 => lineTo cs left n ++ (match cs[left + n]? with | some c => c | none => ⟨#[32]⟩)
theorem lineTo_seg (cs : List ByteArray) (left : Nat) : ∀ n, ∃ p, (lineTo cs left n).data.toList = segL left (left + n) 0 cs ++ List.replicate p 32 ∧ (left + n ≤ cs.length → p = 0)
  | 0 => ⟨0, by rw [Nat.add_zero, segL_none]; rfl, fun _ => rfl⟩
  | n + 1 => by
    obtain ⟨p, hp, h0⟩ := lineTo_seg cs left n
    rw [lineTo, ba_app, hp, ← Nat.add_assoc, segL_succ left (left + n) (by omega) cs 0 (by omega), Nat.sub_zero]
    cases hc : cs[left + n]? with
    | some c =>
      have hl := (List.getElem?_eq_some_iff.1 hc).1
      obtain rfl := h0 (by omega)
      exact ⟨0, by simp, fun _ => rfl⟩
    | none =>
      refine ⟨p + 1, ?_, fun hh => ?_⟩
      · rw [List.append_nil, List.append_assoc, List.replicate_succ']
      · rw [List.getElem?_eq_none_iff] at hc; omega
theorem trim_spaces (x : List UInt8) (p : Nat) : Lib.trimRightB (x ++ List.replicate p 32) 32 = Lib.trimRightB x 32 := by
  unfold Lib.trimRightB
  rw [List.reverse_append, List.reverse_replicate]
  congr 1
  induction p with
  | zero => rfl
  | succ p ih => rw [List.replicate_succ, List.cons_append, List.dropWhile_cons_of_pos (by rfl), ih]
theorem line_cut (l : List Gl) (left right : Nat) (h : left < right) : Lib.trimRightB (lineTo (colsF left 0 l) left (right - left)).data.toList 32 = Lib.trimRightB (cutL left right 0 l) 32 := by
  obtain ⟨p, hp, -⟩ := lineTo_seg (colsF left 0 l) left (right - left)
  rw [hp, trim_spaces, show left + (right - left) = right by omega, segL_cols left right h]
theorem lineTo_size (cs : List ByteArray) (left M : Nat) (hM : 1 ≤ M) (h : ∀ c ∈ cs, c.size ≤ M) : ∀ n, (lineTo cs left n).size ≤ M * n
  | 0 => by simp [lineTo, ByteArray.size]
  | n + 1 => by
    have ih := lineTo_size cs left M hM h n
    rw [lineTo, ByteArray.size_append, Nat.mul_add]
    cases hc : cs[left + n]? with
    | some c => have := h c (List.mem_of_getElem? hc); dsimp only; omega
    | none => have : (⟨#[32]⟩ : ByteArray).size = 1 := rfl; dsimp only; omega
theorem colsF_size (left M : Nat) (hM : 1 ≤ M) : ∀ (l : List Gl) (col : Nat), (∀ g ∈ l, g.text.size ≤ M) → ∀ c ∈ colsF left col l, c.size ≤ M
  | [], _, _, c, hc => by cases hc
  | g :: l, col, h, c, hc => by
    rw [colsF] at hc
    have ih := fun col => colsF_size left M hM l col fun g' hg => h g' (by simp [hg])
    rcases List.mem_cons.1 hc with rfl | hc
    · exact h g (by simp)
    · split at hc
      · rcases List.mem_cons.1 hc with rfl | hc
        · split
          · exact hM
          · exact Nat.zero_le _
        · exact ih _ c hc
      · exact ih _ c hc

def blockBad (v : Vw) (top left bottom right : Int) : Bool := decide (top < 0) || decide (bottom ≤ top) || decide (v.height < bottom) || decide (left < 0) || decide (right ≤ left) || decide (v.width < right)
def blockE (v : Vw) (top left bottom right : Int) : Int := if v.err ≠ 0 then v.err else if blockBad v top left bottom right then 2 else 0
def blockT (v : Vw) (top left bottom right : Int) : ByteArray :=
  if blockE v top left bottom right = 0 then joinN (linesFrom (fun y => cutB left.toNat right.toNat (rowOf v y)) top.toNat (bottom - top).toNat) else ⟨#[]⟩
theorem blockE_ok {v : Vw} {top left bottom right : Int} (h : blockE v top left bottom right = 0) : v.err = 0 ∧ 0 ≤ top ∧ top < bottom ∧ bottom ≤ v.height ∧ 0 ≤ left ∧ left < right ∧ right ≤ v.width := by
  unfold blockE at h
  by_cases h0 : v.err = 0
  · rw [if_neg (by simp [h0])] at h
    cases hb : blockBad v top left bottom right with
    | true => rw [hb] at h; simp at h
    | false => unfold blockBad at hb; simp at hb; exact ⟨h0, by omega⟩
  · rw [if_pos h0] at h; exact absurd h h0

/-- P45.3: a block of the full width. -/
theorem cut_full (W : Nat) : ∀ (l : List Gl) (col : Nat), col + widthOf l ≤ W → cutL 0 W col l = (textB l).data.toList
  | [], _, _ => rfl
  | g :: l, col, h => by
    rw [widthOf_cons] at h
    have := glW_pos g
    rw [cutL, if_pos (by omega), cut_full W l (col + glW g) (by omega), textB_cons, ba_app]
end Go.Proofs.YtmloijhdibicdaaDoor
