/- Progress indicators, in plain words: rows of glyphs and views. -/
import Derived.Test.YtnhcelckgfmljaaDoorPr3
import Derived.Test.YtnhcelckgfmljaaDoorReg
namespace Go.Proofs.YtnhcelckgfmljaaDoor

/-- The byte of a glyph. -/
def ascC (g : Gl) : UInt8 :=
  match g.text.toList with
  | [c] => if c.toNat < 128 ∧ g.wide = false ∧ g.style ≠ 3 then c else 0
  | _ => 0
def ascL (l : List Gl) : List UInt8 := l.map ascC
theorem ascL_len (l : List Gl) : (ascL l).length = l.length := by simp [ascL]
def indR (l : List Gl) : Option (Nat × Nat × Nat) := indF (ascL l)
def labelB (n : Nat) : ByteArray := ⟨(decL n ++ [37]).toArray⟩
/-- The region of a row. -/
def progR (i : Nat) (l : List Gl) : Option Rg := (indR l).map fun x => ⟨8, 0, -1, i, widthOf (l.take x.1), (i : Int) + 1, widthOf (l.take x.2.1), labelB x.2.2⟩
def progL : Nat → List (List Gl) → List Rg
  | _, [] => []
  | i, l :: ls => (progR i l).toList ++ progL (i + 1) ls
/-- What Find returns. -/
def progT (v : Vw) : List Rg := if v.ok then progL 0 v.rows else []

theorem progL_app : ∀ (a b : List (List Gl)) (i : Nat), progL i (a ++ b) = progL i a ++ progL (i + a.length) b
  | [], b, i => by simp [progL]
  | l :: a, b, i => by
    rw [List.cons_append, progL, progL, progL_app a b (i + 1), List.append_assoc]
    congr 3
    simp; omega
theorem progL_take (rows : List (List Gl)) (k : Nat) (h : k < rows.length) : progL 0 (rows.take (k + 1)) = progL 0 (rows.take k) ++ (progR k rows[k]).toList := by
  rw [List.take_succ_eq_append_getElem h, progL_app, List.length_take, Nat.min_eq_left (by omega), Nat.zero_add]
  simp [progL]
theorem progL_len : ∀ (rows : List (List Gl)) (i : Nat), (progL i rows).length ≤ rows.length
  | [], _ => by simp [progL]
  | l :: ls, i => by
    have := progL_len ls (i + 1)
    have h1 : (progR i l).toList.length ≤ 1 := by cases progR i l <;> simp
    simp only [progL, List.length_append, List.length_cons]; omega

/-- Glyphs between two columns. -/
def cutG (L R : Int) : Nat → List Gl → List Gl
  | _, [] => []
  | at', g :: l => (if L ≤ at' ∧ (at' : Int) + glW g ≤ R then [g] else []) ++ cutG L R (at' + glW g) l
theorem widthOf_cons (g : Gl) (l : List Gl) : widthOf (g :: l) = glW g + widthOf l := by simp [widthOf]
theorem widthOf_app (a b : List Gl) : widthOf (a ++ b) = widthOf a + widthOf b := by simp [widthOf]
theorem cutG_app (L R : Int) : ∀ (a b : List Gl) (k : Nat), cutG L R k (a ++ b) = cutG L R k a ++ cutG L R (k + widthOf a) b
  | [], b, k => by simp [cutG, widthOf]
  | g :: a, b, k => by
    rw [List.cons_append, cutG, cutG, cutG_app L R a b, List.append_assoc, widthOf_cons, Nat.add_assoc]
theorem cutG_take (L R : Int) (l : List Gl) (k : Nat) (h : k < l.length) :
    cutG L R 0 (l.take (k + 1)) = cutG L R 0 (l.take k) ++ if L ≤ (widthOf (l.take k) : Int) ∧ (widthOf (l.take k) : Int) + glW l[k] ≤ R then [l[k]] else [] := by
  rw [List.take_succ_eq_append_getElem h, cutG_app, Nat.zero_add]
  simp [cutG]
theorem cutG_len (L R : Int) : ∀ (l : List Gl) (k : Nat), (cutG L R k l).length ≤ l.length
  | [], _ => by simp [cutG]
  | g :: l, k => by
    have := cutG_len L R l (k + glW g)
    simp only [cutG, List.length_append, List.length_cons]
    split <;> simp <;> omega
theorem cutG_mem (L R : Int) : ∀ (l : List Gl) (k : Nat), ∀ g ∈ cutG L R k l, g ∈ l
  | [], _, g, h => by simp [cutG] at h
  | x :: l, k, g, h => by
    rw [cutG, List.mem_append] at h
    rcases h with h | h
    · split at h
      · simp at h; subst h; simp
      · cases h
    · exact List.mem_cons_of_mem _ (cutG_mem L R l _ g h)
/-- Glyphs before the left end, and from the right end on, are left out; the others are taken. -/
theorem cutG_low (L R : Int) : ∀ (l : List Gl) (k : Nat), ((k + widthOf l : Nat) : Int) ≤ L → cutG L R k l = []
  | [], _, _ => rfl
  | g :: l, k, h => by
    rw [widthOf_cons] at h
    have := glW_pos g
    rw [cutG, if_neg (by omega), cutG_low L R l _ (by omega)]; rfl
theorem cutG_high (L R : Int) : ∀ (l : List Gl) (k : Nat), R ≤ k → cutG L R k l = []
  | [], _, _ => rfl
  | g :: l, k, h => by
    have := glW_pos g
    rw [cutG, if_neg (by omega), cutG_high L R l _ (by omega)]; rfl
theorem cutG_mid (L R : Int) : ∀ (l : List Gl) (k : Nat), L ≤ k → ((k + widthOf l : Nat) : Int) ≤ R → cutG L R k l = l
  | [], _, _, _ => rfl
  | g :: l, k, h1, h2 => by
    rw [widthOf_cons] at h2
    rw [cutG, if_pos (by omega), cutG_mid L R l _ (by omega) (by omega)]; rfl
theorem cutG_span (l : List Gl) (a b : Nat) (hab : a ≤ b) : cutG (widthOf (l.take a)) (widthOf (l.take b)) 0 l = (l.take b).drop a := by
  have h1 : l = l.take a ++ (((l.take b).drop a) ++ l.drop b) := by
    have e2 : l.take a = (l.take b).take a := by rw [List.take_take, Nat.min_eq_left hab]
    rw [← List.append_assoc, e2, List.take_append_drop, List.take_append_drop]
  have hw : widthOf (l.take b) = widthOf (l.take a) + widthOf ((l.take b).drop a) := by
    rw [← widthOf_app]
    congr 1
    have e2 : l.take a = (l.take b).take a := by rw [List.take_take, Nat.min_eq_left hab]
    rw [e2, List.take_append_drop]
  generalize hL : (widthOf (l.take a) : Int) = L
  generalize hR : (widthOf (l.take b) : Int) = R
  conv => lhs; rw [h1]
  rw [cutG_app, cutG_app, cutG_low _ _ _ _ (by omega), cutG_mid _ _ _ _ (by omega) (by omega), cutG_high _ _ _ _ (by omega)]
  simp

/-- What Value returns. -/
def valT (v : Vw) (r : Rg) : Option Nat :=
  if v.ok ∧ r.kind = 8 ∧ 0 ≤ r.top ∧ r.top < v.height ∧ r.bottom = r.top + 1 then (indR (cutG r.left r.right 0 (v.rows[r.top.toNat]?.getD []))).map fun x => x.2.2 else none

theorem indR_bd {l : List Gl} {a b n : Nat} (h : indR l = some (a, b, n)) : a < b ∧ b ≤ l.length ∧ n ≤ 100 := by
  have := indF_bd h
  rw [ascL_len] at this
  exact this
theorem progL_get : ∀ (rows : List (List Gl)) (i k : Nat) (r : Rg), (progL i rows)[k]? = some r → ∃ (j : Nat) (l : List Gl), rows[j]? = some l ∧ progR (i + j) l = some r ∧ (progL i (rows.take j)).length = k
  | [], _, _, _, h => by simp [progL] at h
  | l :: ls, i, k, r, h => by
    rw [progL] at h
    by_cases hk : k < (progR i l).toList.length
    · rw [List.getElem?_append_left hk] at h
      cases hp : progR i l with
      | none => rw [hp] at hk; simp at hk
      | some x =>
        rw [hp] at h hk
        simp at hk
        subst hk
        simp at h
        subst h
        exact ⟨0, l, rfl, by rw [Nat.add_zero, hp], by simp [progL]⟩
    · rw [List.getElem?_append_right (by omega)] at h
      obtain ⟨j, l', h1, h2, h3⟩ := progL_get ls (i + 1) _ r h
      exact ⟨j + 1, l', by simpa using h1, by rw [← h2]; congr 1; omega, by rw [List.take_succ_cons, progL, List.length_append, h3]; omega⟩

/-- P27.4: what a region of Find looks like. -/
theorem progL_says (rows : List (List Gl)) (k : Nat) (r : Rg) (h : (progL 0 rows)[k]? = some r) :
    ∃ (j : Nat) (l : List Gl) (n : Nat), rows[j]? = some l ∧ n ≤ 100 ∧ r.kind = 8 ∧ r.id = 0 ∧ r.parent = -1 ∧ r.top = j ∧ r.bottom = (j : Int) + 1 ∧ r.label = labelB n ∧ 0 ≤ r.left ∧ r.left < r.right ∧ r.right ≤ widthOf l ∧
      (∃ a b, indR (cutG r.left r.right 0 l) = some (a, b, n)) ∧ (progL 0 (rows.take j)).length = k := by
  obtain ⟨j, l, h1, h2, h3⟩ := progL_get rows 0 k r h
  unfold progR at h2
  rw [Nat.zero_add] at h2
  cases hi : indR l with
  | none => rw [hi] at h2; cases h2
  | some x =>
    obtain ⟨a, b, n⟩ := x
    rw [hi] at h2
    simp only [Option.map_some, Option.some.injEq] at h2
    subst h2
    obtain ⟨b1, b2, b3⟩ := indR_bd hi
    refine ⟨j, l, n, h1, b3, rfl, rfl, rfl, rfl, rfl, rfl, by show (0 : Int) ≤ ((widthOf _ : Nat) : Int); omega, ?_, ?_, ?_, h3⟩
    · show ((widthOf (l.take a) : Nat) : Int) < ((widthOf (l.take b) : Nat) : Int)
      have hs := widthOf_snoc l a (by omega)
      have hp := glW_pos (l[a]'(by omega))
      have : widthOf (l.take (a + 1)) ≤ widthOf (l.take b) := by
        rw [show l.take b = (l.take (a + 1)) ++ (l.take b).drop (a + 1) by
          have e2 : l.take (a + 1) = (l.take b).take (a + 1) := by rw [List.take_take, Nat.min_eq_left (by omega)]
          rw [e2, List.take_append_drop], widthOf_app]
        omega
      omega
    · show ((widthOf (l.take b) : Nat) : Int) ≤ ((widthOf l : Nat) : Int)
      have := widthOf_app (l.take b) (l.drop b)
      rw [List.take_append_drop] at this
      omega
    · show ∃ a' b', indR (cutG ((widthOf (l.take a) : Nat) : Int) ((widthOf (l.take b) : Nat) : Int) 0 l) = some (a', b', n)
      rw [cutG_span l a b (by omega)]
      have := indF_cut hi
      unfold indR ascL at this ⊢
      rw [List.map_drop, List.map_take]
      exact this
theorem progL_mono (rows : List (List Gl)) (j1 j2 : Nat) (h : (progL 0 (rows.take j1)).length < (progL 0 (rows.take j2)).length) : j1 < j2 := by
  rcases Nat.lt_or_ge j1 j2 with h' | h'
  · exact h'
  · have e : rows.take j1 = rows.take j2 ++ (rows.take j1).drop j2 := by
      have e2 : rows.take j2 = (rows.take j1).take j2 := by rw [List.take_take, Nat.min_eq_left h']
      rw [e2, List.take_append_drop]
    rw [e, progL_app, List.length_append] at h
    omega

/-- P27.4: the rows in the opposite order. -/
def Rg.flip (H : Int) (r : Rg) : Rg := ⟨r.kind, r.id, r.parent, H - 1 - r.top, r.left, H - r.top, r.right, r.label⟩
theorem progR_flip (i j : Nat) (l : List Gl) (H : Int) (h : H = (i : Int) + j + 1) : (progR i l).map (Rg.flip H) = progR j l := by
  unfold progR
  cases indR l with
  | none => rfl
  | some x =>
    simp only [Option.map_some, Option.some.injEq, Rg.flip, Rg.mk.injEq, true_and, and_true]
    omega
theorem progL_flip : ∀ (rows : List (List Gl)) (i : Nat), progL i rows = ((progL 0 rows.reverse).reverse).map (Rg.flip ((i : Int) + rows.length))
  | [], _ => by simp [progL]
  | l :: ls, i => by
    rw [List.reverse_cons, progL_app, List.reverse_append, List.map_append, List.length_reverse, Nat.zero_add, progL]
    have h1 : (((progL ls.length [l]).reverse).map (Rg.flip ((i : Int) + (l :: ls).length))) = (progR i l).toList := by
      rw [← progR_flip ls.length i l ((i : Int) + (l :: ls).length) (by simp; omega)]
      simp only [progL, List.append_nil]
      cases progR ls.length l <;> rfl
    rw [h1, progL_flip ls (i + 1)]
    congr 3
    simp; omega

/-- P27.4: styles. -/
def restyle (s : Int) (g : Gl) : Gl := if g.style = 3 then g else ⟨g.text, g.wide, s⟩
theorem asc_restyle (s : Int) (h : s ≠ 3) (g : Gl) : ascC (restyle s g) = ascC g := by
  unfold restyle
  split
  · rfl
  · rename_i h3
    unfold ascC
    dsimp only
    split
    · simp only [h, h3, ne_eq, not_false_eq_true, and_true]
    · rfl
theorem glW_restyle (s : Int) (g : Gl) : glW (restyle s g) = glW g := by unfold restyle glW; split <;> rfl
theorem progR_restyle (s : Int) (h : s ≠ 3) (i : Nat) (l : List Gl) : progR i (l.map (restyle s)) = progR i l := by
  have h1 : ascL (l.map (restyle s)) = ascL l := by
    unfold ascL; rw [List.map_map]; exact List.map_congr_left fun g _ => asc_restyle s h g
  have h2 : ∀ k, widthOf ((l.map (restyle s)).take k) = widthOf (l.take k) := by
    intro k
    unfold widthOf
    rw [← List.map_take, List.map_map]
    congr 1
    exact List.map_congr_left fun g _ => glW_restyle s g
  unfold progR indR
  rw [h1]
  simp only [h2]
theorem progL_restyle (s : Int) (h : s ≠ 3) : ∀ (rows : List (List Gl)) (i : Nat), progL i (rows.map fun l => l.map (restyle s)) = progL i rows
  | [], _ => rfl
  | l :: ls, i => by rw [List.map_cons, progL, progL, progR_restyle s h, progL_restyle s h ls]

theorem ok_err {v : Vw} : v.ok = true ↔ v.err = 0 := by unfold Vw.ok; simp
/-- A view with other rows, each as proper. -/
theorem ok_rows {v : Vw} {rows : List (List Gl)} (h : v.ok = true) (hl : rows.length = v.rows.length) (hr : ∀ r ∈ rows, rowErr v.width r = 0) : (⟨v.width, v.height, rows, v.row, v.col, v.visible⟩ : Vw).ok = true := by
  have hp := Vw.proper h
  rw [ok_err]
  unfold Vw.err
  dsimp only
  have hs : sizedB v.width v.height = true := by have := hp.w1; have := hp.w2; have := hp.h1; have := hp.h2; unfold sizedB; simp; omega
  have hc : (⟨v.width, v.height, rows, v.row, v.col, v.visible⟩ : Vw).curB = false := hp.cur
  rw [if_neg (by rw [hs]; simp), if_neg (by rw [hl, hp.len]; simp), if_neg (by rw [hc]; simp)]
  exact firstErr_none _ _ fun i hi => hr _ (List.getElem_mem hi)
theorem glErr_restyle (s : Int) (h0 : 1 ≤ s) (h1 : s ≤ 2) (g : Gl) (h : glErr g = 0) : glErr (restyle s g) = 0 := by
  unfold restyle
  split
  · exact h
  · unfold glErr at h ⊢
    dsimp only
    by_cases hc : clErr g.text.toList = 0
    · rw [if_neg (by simp [hc])] at h ⊢
      by_cases hw : g.wide = (clW g.text.toList == 2)
      · rw [if_neg (by rw [hw]; simp; omega)]
      · rw [if_pos (.inl hw)] at h; omega
    · rw [if_pos hc] at h; omega
theorem rowErr_restyle (s : Int) (h0 : 1 ≤ s) (h1 : s ≤ 2) (w : Int) (l : List Gl) (h : rowErr w l = 0) : rowErr w (l.map (restyle s)) = 0 := by
  have hg : firstErr glErr l = 0 := by
    unfold rowErr at h
    by_cases hh : firstErr glErr l = 0
    · exact hh
    · rw [if_pos hh] at h; exact absurd h hh
  have hg2 : firstErr glErr (l.map (restyle s)) = 0 := firstErr_none _ _ fun i hi => by
    rw [List.getElem_map]
    exact glErr_restyle s h0 h1 _ (firstErr_zero hg _ (List.getElem_mem _))
  have hw := rowErr_width h
  have hw2 : widthOf (l.map (restyle s)) = widthOf l := by
    unfold widthOf
    rw [List.map_map]
    congr 1
    exact List.map_congr_left fun g _ => glW_restyle s g
  unfold rowErr
  rw [if_neg (by simp [hg2]), if_neg (by rw [hw2]; omega)]
  have hl : lastBlank (l.map (restyle s)) = false := by
    unfold lastBlank
    rw [List.getLast?_map]
    cases l.getLast? with
    | none => rfl
    | some g =>
      show isBlank (restyle s g) = false
      unfold restyle isBlank
      split
      · rename_i h3; simp [h3]
      · simp; intros; omega
  rw [hl]; rfl
end Go.Proofs.YtnhcelckgfmljaaDoor
