/- Tables, in plain words: empty rows; the text of a cell by the glyphs that lie in it. -/
import Derived.Test.YtmgepckhdgoemaaDoorP1
namespace Go.Proofs.YtmgepckhdgoemaaDoor

theorem partsTo_nil (f : Nat → Bool) : ∀ W, partsTo f W = [] ↔ ∀ c, c < W → f c = true
  | 0 => ⟨fun _ c h => by omega, fun _ => rfl⟩
  | W + 1 => by
    show partStep (partsTo f W) W (f W) = [] ↔ _
    cases hf : f W with
    | true =>
      rw [partStep_free, partsTo_nil f W]
      exact ⟨fun h c hc => by by_cases hcW : c = W; (· rw [hcW]; exact hf); exact h c (by omega), fun h c hc => h c (by omega)⟩
    | false =>
      refine ⟨fun h => ?_, fun h => by have := h W (by omega); rw [hf] at this; cases this⟩
      exfalso
      rcases snoc_cases (partsTo f W) with h0 | ⟨qs, ⟨a, e⟩, h0⟩
      · rw [h0, partStep_nil] at h; cases h
      · rw [h0] at h
        by_cases hn : W < e + 2
        · rw [partStep_near hn] at h; simp at h
        · rw [partStep_far hn] at h; simp at h
theorem colsOf_all (l : List Gl) : (colsOf l).all id = emptyB l := by
  unfold colsOf emptyB
  induction l with
  | nil => rfl
  | cons g l ih =>
    rw [List.flatMap_cons, List.all_append, ih, List.all_cons]
    congr 1
    have := glW_pos g
    cases h : spaceB g
    · rw [List.all_replicate]; simp; omega
    · simp
theorem bk_all (l : List Gl) (W : Nat) (h : widthOf l ≤ W) : (∀ c, c < W → bk l c = true) ↔ emptyB l = true := by
  rw [← colsOf_all, List.all_eq_true]
  have hl := colsOf_length l
  constructor
  · intro h1 x hx
    obtain ⟨i, hi, rfl⟩ := List.mem_iff_getElem.1 hx
    have := h1 i (by omega)
    unfold bk at this
    rw [List.getElem?_eq_getElem hi] at this
    exact this
  · intro h1 c _
    unfold bk
    cases hc : (colsOf l)[c]? with
    | none => rfl
    | some x => exact h1 x (List.mem_of_getElem? hc)
theorem gut_one (rows : List (List Gl)) (k : Nat) (hk : k < rows.length) (c : Nat) : gut rows k (k + 1) c = bk rows[k] c := by
  unfold gut rowsIn allB
  rw [show k + 1 - k = 1 by omega, List.drop_eq_getElem_cons hk, List.take_succ_cons, List.take_zero, List.all_cons, List.all_nil, Bool.and_true]
theorem parts_row (rows : List (List Gl)) (W k : Nat) (hk : k < rows.length) (hw : widthOf rows[k] ≤ W) : (((partsTo (gut rows k (k + 1)) W).length : Int) == 0) = emptyB rows[k] := by
  rw [Bool.eq_iff_iff, ← bk_all _ W hw]
  have h1 : (((partsTo (gut rows k (k + 1)) W).length : Int) == 0) = true ↔ partsTo (gut rows k (k + 1)) W = [] := by
    rw [beq_iff_eq]
    constructor
    · intro h; exact List.length_eq_zero_iff.1 (by omega)
    · intro h; rw [h]; rfl
  rw [h1, partsTo_nil]
  exact ⟨fun h c hc => by rw [← gut_one rows k hk]; exact h c hc, fun h c hc => by rw [gut_one rows k hk]; exact h c hc⟩
theorem tabB_none (rows : List (List Gl)) (W t b k : Nat) (h1 : t ≤ k) (h2 : k < b) (h3 : b ≤ rows.length) {l : List Gl} (hl : rows[k]? = some l) (he : emptyB l = true) : tabB rows W t b = false :=
  tabB_empty rows W t b k h1 h2 h3 (by rw [(List.getElem?_eq_some_iff.1 hl).2]; exact he)

/-- The glyphs of a row that begin between two columns. -/
def pickSt (left right : Int) (l : List Gl) : Nat × List Gl := l.foldl (fun st g => (st.1 + glW g, if decide (left ≤ st.1) && decide ((st.1 : Int) < right) then st.2 ++ [g] else st.2)) (0, [])
theorem pickSt_snoc (left right : Int) (l : List Gl) (k : Nat) (hk : k < l.length) : pickSt left right (l.take (k + 1)) =
    ((pickSt left right (l.take k)).1 + glW l[k], if decide (left ≤ (pickSt left right (l.take k)).1) && decide (((pickSt left right (l.take k)).1 : Int) < right) then (pickSt left right (l.take k)).2 ++ [l[k]] else (pickSt left right (l.take k)).2) := by
  unfold pickSt; rw [List.take_succ_eq_append_getElem hk, List.foldl_append]; rfl
theorem pickSt_len (left right : Int) (l : List Gl) : ∀ k, k ≤ l.length → (pickSt left right (l.take k)).2.length ≤ k ∧ (pickSt left right (l.take k)).1 ≤ 2 * k
  | 0, _ => by simp [pickSt]
  | k + 1, hk => by
    have ih := pickSt_len left right l k (by omega)
    have := glW_le l[k]
    rw [pickSt_snoc left right l k (by omega)]
    refine ⟨?_, by show _ + glW _ ≤ _; omega⟩
    show List.length (if _ then _ else _) ≤ _
    split
    · simp; omega
    · omega
theorem pickSt_mem (left right : Int) (l : List Gl) : ∀ k, k ≤ l.length → ∀ g ∈ (pickSt left right (l.take k)).2, g ∈ l
  | 0, _, g, h => by simp [pickSt] at h
  | k + 1, hk, g, h => by
    rw [pickSt_snoc left right l k (by omega)] at h
    replace h : g ∈ (if _ then _ else _) := h
    split at h
    · rcases List.mem_append.1 h with h | h
      · exact pickSt_mem left right l k (by omega) g h
      · rw [List.mem_singleton] at h; subst h; exact List.getElem_mem _
    · exact pickSt_mem left right l k (by omega) g h

def trimF (l : List Gl) : List Gl := l.dropWhile spaceB
def trimB (l : List Gl) : List Gl := (l.reverse.dropWhile spaceB).reverse
theorem trimF_space {g : Gl} {l : List Gl} (h : spaceB g = true) : trimF (g :: l) = trimF l := by unfold trimF; rw [List.dropWhile_cons, if_pos h]
theorem trimF_done {g : Gl} {l : List Gl} (h : spaceB g = false) : trimF (g :: l) = g :: l := by unfold trimF; rw [List.dropWhile_cons, if_neg (by simp [h])]
theorem trimB_space {g : Gl} {l : List Gl} (h : spaceB g = true) : trimB (l ++ [g]) = trimB l := by unfold trimB; rw [List.reverse_append]; show (List.dropWhile spaceB (g :: l.reverse)).reverse = _; rw [List.dropWhile_cons, if_pos h]
theorem trimB_done {g : Gl} {l : List Gl} (h : spaceB g = false) : trimB (l ++ [g]) = l ++ [g] := by unfold trimB; rw [List.reverse_append]; show (List.dropWhile spaceB (g :: l.reverse)).reverse = _; rw [List.dropWhile_cons, if_neg (by simp [h])]; simp

/-- Text and spaces, glyph by glyph of those that lie in the cell. -/
def lineStep (st : ByteArray × ByteArray) (g : Gl) : ByteArray × ByteArray :=
  if spaceB g then (if st.1.toList == [] then st else (st.1, st.2 ++ ⟨#[32]⟩)) else (st.1 ++ (st.2 ++ g.text), ⟨#[]⟩)
theorem cellSt_pick (left right : Int) (l : List Gl) : ∀ k, k ≤ l.length → cellSt (l.take k) left right = ((pickSt left right (l.take k)).1, (pickSt left right (l.take k)).2.foldl lineStep (⟨#[]⟩, ⟨#[]⟩))
  | 0, _ => rfl
  | k + 1, hk => by
    rw [cellSt_snoc l left right k (by omega), cellSt_pick left right l k (by omega), pickSt_snoc left right l k (by omega)]
    unfold cellStep
    dsimp only
    congr 1
    split
    · rw [List.foldl_append]; rfl
    · rfl
theorem ba_append_assoc (a b c : ByteArray) : a ++ b ++ c = a ++ (b ++ c) := by
  apply ByteArray.ext; apply Array.ext'; simp
theorem ba_append_nil (a : ByteArray) : a ++ ⟨#[]⟩ = a := by
  apply ByteArray.ext; apply Array.ext'; simp
theorem ba_nil_append (a : ByteArray) : ⟨#[]⟩ ++ a = a := by
  apply ByteArray.ext; apply Array.ext'; simp
theorem text_fold (b : List Gl) : ∀ x : ByteArray, b.foldl (fun s g => s ++ g.text) x = x ++ textB b := by
  unfold textB
  induction b with
  | nil => intro x; rw [List.foldl_nil, List.foldl_nil, ba_append_nil]
  | cons g b ih => intro x; rw [List.foldl_cons, List.foldl_cons, ih, ih (⟨#[]⟩ ++ g.text), ba_nil_append, ba_append_assoc]
theorem textB_append (a b : List Gl) : textB (a ++ b) = textB a ++ textB b := by
  show List.foldl _ _ _ = _
  rw [List.foldl_append, text_fold]; rfl
theorem textB_one (g : Gl) : textB [g] = g.text := by show ⟨#[]⟩ ++ g.text = _; exact ba_nil_append _
theorem text_space {g : Gl} (h : spaceB g = true) : g.text = ⟨#[32]⟩ := by
  unfold spaceB at h
  rw [beq_iff_eq] at h
  have : g.text.data.toList = [32] := by rw [← h]; exact (ByteArray.toList_eq g.text).symm
  apply ByteArray.ext
  apply Array.ext'
  rw [this]

/-- What has been written behind the glyphs p: those from the first on that is no space, without the spaces at the end; and these spaces. -/
theorem line_inv : ∀ (p : List Gl), (∀ g ∈ p, g.text.toList ≠ []) → ∃ a tr, trimF p = a ++ tr ∧ trimB (a ++ tr) = a ∧ (a = [] → tr = []) ∧ p.foldl lineStep (⟨#[]⟩, ⟨#[]⟩) = (textB a, textB tr) ∧ (a ≠ [] → (textB a).toList ≠ []) := by
  intro p
  generalize hn : p.length = n
  induction n generalizing p with
  | zero =>
    intro _
    have : p = [] := List.length_eq_zero_iff.1 hn
    subst this
    exact ⟨[], [], rfl, rfl, fun _ => rfl, rfl, fun h => absurd rfl h⟩
  | succ n ih =>
    intro hne
    rcases snoc_cases p with h0 | ⟨q, g, rfl⟩
    · subst h0; simp at hn
    · have hq : q.length = n := by simpa using hn
      obtain ⟨a, tr, h1, h2, h3, h4, h5⟩ := ih q hq fun x hx => hne x (by simp [hx])
      rw [List.foldl_append, h4]
      show ∃ a tr, _ ∧ _ ∧ _ ∧ lineStep _ g = _ ∧ _
      have hdw : trimF (q ++ [g]) = if trimF q = [] then trimF [g] else trimF q ++ [g] := by
        unfold trimF
        rw [List.dropWhile_append]
        by_cases h : List.dropWhile spaceB q = []
        · rw [if_pos (by simp [h]), if_pos h]
        · rw [if_neg (by simpa using h), if_neg h]
      unfold lineStep
      dsimp only
      cases hs : spaceB g with
      | true =>
        rw [if_pos rfl]
        cases a with
        | nil =>
          have ht := h3 rfl
          subst ht
          have he : ((textB []).toList == []) = true := by rw [ByteArray.toList_eq]; rfl
          rw [he, if_pos rfl]
          exact ⟨[], [], by rw [hdw, h1, if_pos (by simp), trimF_space hs]; rfl, rfl, fun _ => rfl, rfl, fun h => absurd rfl h⟩
        | cons x a =>
          have he : ((textB (x :: a)).toList == []) = false := by
            have := h5 (by simp)
            simpa using this
          rw [he]
          refine ⟨x :: a, tr ++ [g], ?_, ?_, (fun h => by cases h), ?_, h5⟩
          · rw [hdw, if_neg (by rw [h1]; simp), h1, List.append_assoc]
          · rw [← List.append_assoc, trimB_space hs, h2]
          · rw [if_neg (by simp), textB_append, textB_one, text_space hs]
      | false =>
        rw [if_neg (by simp)]
        refine ⟨a ++ tr ++ [g], [], ?_, ?_, (fun h => by simp at h), ?_, ?_⟩
        · rw [hdw, h1, List.append_nil]
          by_cases h : a ++ tr = []
          · rw [if_pos h, h, trimF_done hs]; rfl
          · rw [if_neg h]
        · rw [List.append_nil, trimB_done hs]
        · rw [textB_append, textB_append, textB_one, ba_append_assoc]; rfl
        · have hg : g.text.toList ≠ [] := hne g (by simp)
          rw [textB_append, textB_one]
          intro _ h
          have h7 : (textB (a ++ tr) ++ g.text).data.toList = [] := by rw [← ByteArray.toList_eq]; exact h
          rw [Joins.data_append] at h7
          exact hg (by rw [ByteArray.toList_eq]; exact (List.append_eq_nil_iff.1 h7).2)
/-- The text of a cell is that of its glyphs without the spaces before and behind. -/
theorem cellOf_trim (left right : Int) (l : List Gl) (hne : ∀ g ∈ l, g.text.toList ≠ []) : cellOf l left right = textB (trimB (trimF (pickSt left right l).2)) := by
  have hp := cellSt_pick left right l l.length (Nat.le_refl _)
  rw [List.take_length] at hp
  have hm := pickSt_mem left right l l.length (Nat.le_refl _)
  rw [List.take_length] at hm
  obtain ⟨a, tr, h1, h2, -, h4, -⟩ := line_inv (pickSt left right l).2 fun g hg => hne g (hm g hg)
  unfold cellOf
  rw [hp, h4, h1, h2]
end Go.Proofs.YtmgepckhdgoemaaDoor
