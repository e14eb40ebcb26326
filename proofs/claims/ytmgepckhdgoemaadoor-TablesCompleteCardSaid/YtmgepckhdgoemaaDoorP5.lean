/- Tables, in plain words: the cells of a row hold all of its text but the spaces (rows of ASCII glyphs). -/
import Derived.Test.YtmgepckhdgoemaaDoorP3
namespace Go.Proofs.YtmgepckhdgoemaaDoor

/-- The bytes of a text without spaces. -/
def noSp (l : List UInt8) : List UInt8 := l.filter (· != 32)
theorem noSp_app (a b : List UInt8) : noSp (a ++ b) = noSp a ++ noSp b := List.filter_append ..
def nbT (l : List Gl) : List UInt8 := noSp (textB l).data.toList
theorem nbT_app (a b : List Gl) : nbT (a ++ b) = nbT a ++ nbT b := by
  unfold nbT
  rw [textB_append, Joins.data_append, noSp_app]
theorem nbT_nil : nbT [] = [] := rfl
theorem nbT_space {g : Gl} (h : spaceB g = true) : nbT [g] = [] := by
  unfold nbT
  rw [textB_one, text_space h]; rfl
theorem nbT_spaces : ∀ (l : List Gl), (∀ g ∈ l, spaceB g = true) → nbT l = []
  | [], _ => rfl
  | g :: l, h => by
    rw [show g :: l = [g] ++ l from rfl, nbT_app, nbT_space (h g (by simp)), nbT_spaces l fun x hx => h x (by simp [hx])]; rfl
theorem nbT_trimF (l : List Gl) : nbT (trimF l) = nbT l := by
  induction l with
  | nil => rfl
  | cons g l ih =>
    cases h : spaceB g with
    | true => rw [trimF_space h, ih, show g :: l = [g] ++ l from rfl, nbT_app, nbT_space h]; rfl
    | false => rw [trimF_done h]
theorem nbT_trimB (l : List Gl) : nbT (trimB l) = nbT l := by
  generalize hn : l.length = n
  induction n generalizing l with
  | zero => rw [List.length_eq_zero_iff.1 hn]; rfl
  | succ n ih =>
    rcases snoc_cases l with h0 | ⟨q, g, rfl⟩
    · subst h0; rfl
    · cases h : spaceB g with
      | true => rw [trimB_space h, ih q (by simpa using hn), nbT_app, nbT_space h, List.append_nil]
      | false => rw [trimB_done h]

theorem pick_narrow (l : List Gl) (h1 : ∀ g ∈ l, glW g = 1) (a b : Nat) : ∀ k, k ≤ l.length → pickSt a b (l.take k) = (k, ((l.take k).take b).drop a)
  | 0, _ => by simp [pickSt]
  | k + 1, hk => by
    rw [pickSt_snoc _ _ l k (by omega), pick_narrow l h1 a b k (by omega), h1 _ (List.getElem_mem _)]
    dsimp only
    congr 1
    by_cases hb : k < b
    · have e1 : (l.take k).take b = l.take k := List.take_of_length_le (by rw [List.length_take]; omega)
      have e2 : (l.take (k + 1)).take b = l.take (k + 1) := List.take_of_length_le (by rw [List.length_take]; omega)
      rw [e1, e2, List.take_succ_eq_append_getElem (by omega)]
      by_cases ha : a ≤ k
      · rw [if_pos (by simp; omega), List.drop_append_of_le_length (by rw [List.length_take]; omega)]
      · rw [if_neg (by simp; omega), List.drop_of_length_le (by rw [List.length_take]; omega), List.drop_of_length_le (by simp; omega)]
    · rw [if_neg (by simp; omega), List.take_take, List.take_take, Nat.min_eq_left (by omega), Nat.min_eq_left (by omega)]
theorem pick_cut (l : List Gl) (h1 : ∀ g ∈ l, glW g = 1) (a b : Nat) : (pickSt a b l).2 = (l.take b).drop a := by
  have := pick_narrow l h1 a b l.length (Nat.le_refl _)
  rw [List.take_length] at this
  rw [this]

theorem colsOf_narrow (l : List Gl) (h1 : ∀ g ∈ l, glW g = 1) : colsOf l = l.map spaceB := by
  unfold colsOf
  induction l with
  | nil => rfl
  | cons g l ih => rw [List.flatMap_cons, ih fun x hx => h1 x (by simp [hx]), h1 g (by simp)]; rfl
theorem bk_narrow {l : List Gl} (h1 : ∀ g ∈ l, glW g = 1) {c : Nat} (h : bk l c = true) : nbT (l[c]?.toList) = [] := by
  unfold bk at h
  rw [colsOf_narrow l h1, List.getElem?_map] at h
  cases hc : l[c]? with
  | none => rfl
  | some g => rw [hc] at h; exact nbT_space (by simpa using h)
theorem take_succ_opt {α : Type} (l : List α) (k : Nat) : l.take (k + 1) = l.take k ++ l[k]?.toList := List.take_add_one
theorem nbT_cut (l : List Gl) (a c : Nat) (h : a ≤ c) : nbT ((l.take (c + 1)).drop a) = nbT ((l.take c).drop a) ++ nbT (l[c]?.toList) := by
  by_cases hc : c < l.length
  · rw [List.take_succ_eq_append_getElem hc, List.drop_append_of_le_length (by rw [List.length_take]; omega), nbT_app, List.getElem?_eq_getElem hc]; rfl
  · rw [List.take_of_length_le (by omega), List.take_of_length_le (by omega), List.getElem?_eq_none (by omega)]
    simp [nbT_nil]
theorem nbT_gap (l : List Gl) (h1 : ∀ g ∈ l, glW g = 1) (f : Nat → Bool) (hf : ∀ c, f c = true → bk l c = true) (a e : Nat) (h : a ≤ e) : ∀ d, (∀ c, e ≤ c → c < e + d → f c = true) → nbT ((l.take (e + d)).drop a) = nbT ((l.take e).drop a)
  | 0, _ => rfl
  | d + 1, hd => by
    rw [← Nat.add_assoc, nbT_cut l a (e + d) (by omega), nbT_gap l h1 f hf a e h d (fun c h2 h3 => hd c h2 (by omega)), bk_narrow h1 (hf _ (hd (e + d) (by omega) (by omega))), List.append_nil]
/-- The columns hold all the text. -/
theorem nbT_parts (l : List Gl) (h1 : ∀ g ∈ l, glW g = 1) (f : Nat → Bool) (hf : ∀ c, f c = true → bk l c = true) : ∀ W, ((partsTo f W).flatMap fun p => nbT ((l.take p.2).drop p.1)) = nbT (l.take W)
  | 0 => by simp [partsTo, nbT_nil]
  | W + 1 => by
    have ih := nbT_parts l h1 f hf W
    have hst : partsTo f (W + 1) = partStep (partsTo f W) W (f W) := rfl
    have hn := nbT_cut l 0 W (Nat.zero_le _)
    simp only [List.drop_zero] at hn
    rw [hst, hn]
    cases hfW : f W with
    | true => rw [partStep_free, ih, bk_narrow h1 (hf W hfW), List.append_nil]
    | false =>
      have hlast : ∀ (x : Nat), x = W → nbT ((l.take (W + 1)).drop W) = nbT (l[W]?.toList) := fun x _ => by
        rw [nbT_cut l W W (Nat.le_refl _)]
        rw [List.drop_of_length_le (by rw [List.length_take]; omega)]
        rfl
      rcases snoc_cases (partsTo f W) with h0 | ⟨qs, ⟨a, e⟩, h0⟩
      · rw [h0] at ih ⊢
        rw [partStep_nil]
        simp only [List.flatMap_nil] at ih
        simp only [List.flatMap_cons, List.flatMap_nil, List.append_nil]
        rw [hlast W rfl, ← ih, List.nil_append]
      · have hbd := (partsTo_bd f W).2 (a, e) (by rw [h0]; simp)
        dsimp only at hbd
        have hsep := (partsTo_sep f W).2 qs (a, e) h0
        dsimp only at hsep
        rw [h0] at ih ⊢
        rw [List.flatMap_append] at ih
        simp only [List.flatMap_cons, List.flatMap_nil, List.append_nil] at ih
        by_cases hnr : W < e + 2
        · rw [partStep_near hnr, List.flatMap_append]
          simp only [List.flatMap_cons, List.flatMap_nil, List.append_nil]
          rw [nbT_cut l a W (by omega)]
          have hg := nbT_gap l h1 f hf a e (by omega) (W - e) (fun c h2 h3 => hsep c h2 (by omega))
          rw [show e + (W - e) = W by omega] at hg
          rw [hg, ← List.append_assoc, ih]
        · rw [partStep_far hnr, List.flatMap_append, List.flatMap_append]
          simp only [List.flatMap_cons, List.flatMap_nil, List.append_nil]
          rw [ih, hlast W rfl]
/-- The text of a cell without its spaces is that of the row's glyphs between its columns. -/
theorem noSp_cell (l : List Gl) (h1 : ∀ g ∈ l, glW g = 1) (hne : ∀ g ∈ l, g.text.toList ≠ []) (a b : Nat) : noSp (cellOf l a b).data.toList = nbT ((l.take b).drop a) := by
  rw [cellOf_trim _ _ _ hne, pick_cut l h1]
  show nbT (trimB (trimF _)) = _
  rw [nbT_trimB, nbT_trimF]

/-- A text without spaces at its ends. -/
def bare (l : List UInt8) : Bool := decide (l.head? ≠ some 32) && decide (l.getLast? ≠ some 32)
theorem spaceB_byte {g : Gl} {b : UInt8} (h : g.text.data.toList = [b]) (hs : spaceB g = false) : b ≠ 32 := by
  rintro rfl
  unfold spaceB at hs
  rw [ByteArray.toList_eq, h] at hs
  simp at hs
theorem text_bytes (l : List Gl) (h : ∀ g ∈ l, g.text.data.toList.length = 1) : (textB l).data.toList = l.map fun g => g.text.data.toList.headD 0 := by
  induction l with
  | nil => rfl
  | cons g l ih =>
    rw [show g :: l = [g] ++ l from rfl, textB_append, textB_one, Joins.data_append, ih fun x hx => h x (by simp [hx])]
    obtain ⟨b, hb⟩ := List.length_eq_one_iff.1 (h g (by simp))
    rw [hb, List.map_append]; simp [hb]
theorem trim_ends (l : List Gl) : (∀ g, (trimB (trimF l)).head? = some g → spaceB g = false) ∧ ∀ g, (trimB (trimF l)).getLast? = some g → spaceB g = false := by
  have hl : ∀ (l : List Gl) g, (trimB l).getLast? = some g → spaceB g = false := fun l g h => by
    unfold trimB at h
    rw [List.getLast?_reverse, List.head?_eq_getElem?] at h
    have := List.head?_dropWhile_not (p := spaceB) l.reverse
    rw [List.head?_eq_getElem?, h] at this
    simpa using this
  refine ⟨fun g h => ?_, hl _⟩
  -- the first glyph of what is left of a list is the list's first
  have hpre : ∃ t, trimF l = trimB (trimF l) ++ t := by
    unfold trimB
    refine ⟨((trimF l).reverse.takeWhile spaceB).reverse, ?_⟩
    rw [← List.reverse_append, List.takeWhile_append_dropWhile, List.reverse_reverse]
  obtain ⟨t, ht⟩ := hpre
  have hh : (trimF l).head? = some g := by
    rw [ht]
    cases hx : trimB (trimF l) with
    | nil => rw [hx] at h; cases h
    | cons x r => rw [hx] at h; exact h
  unfold trimF at hh
  have := List.head?_dropWhile_not (p := spaceB) l
  rw [hh] at this
  simpa using this
theorem cell_bare (l : List Gl) (h1 : ∀ g ∈ l, glW g = 1) (hb : ∀ g ∈ l, g.text.data.toList.length = 1) (a b : Nat) : bare (cellOf l a b).data.toList = true := by
  have hne : ∀ g ∈ l, g.text.toList ≠ [] := fun g hg h => by
    have := hb g hg
    rw [ByteArray.toList_eq] at h
    rw [h] at this; cases this
  rw [cellOf_trim _ _ _ hne, pick_cut l h1]
  obtain ⟨p, hp⟩ : ∃ p, (l.take b).drop a = p := ⟨_, rfl⟩
  have hpm : ∀ g ∈ p, g ∈ l := fun g hg => by rw [← hp] at hg; exact List.mem_of_mem_take (List.mem_of_mem_drop hg)
  rw [hp]
  have hsub : ∀ g ∈ trimB (trimF p), g ∈ p := fun g hg => by
    unfold trimB at hg
    rw [List.mem_reverse] at hg
    have h2 := (List.dropWhile_sublist _).subset hg
    rw [List.mem_reverse] at h2
    exact (List.dropWhile_sublist _).subset h2
  obtain ⟨e1, e2⟩ := trim_ends p
  rw [text_bytes _ fun g hg => hb g (hpm g (hsub g hg))]
  unfold bare
  rw [Bool.and_eq_true, decide_eq_true_eq, decide_eq_true_eq, List.head?_map, List.getLast?_map]
  have key : ∀ g ∈ trimB (trimF p), spaceB g = false → g.text.data.toList.headD 0 ≠ 32 := fun g hg hs => by
    obtain ⟨x, hx⟩ := List.length_eq_one_iff.1 (hb g (hpm g (hsub g hg)))
    rw [hx]
    exact spaceB_byte hx hs
  constructor
  · cases hh : (trimB (trimF p)).head? with
    | none => simp
    | some g => simpa using key g (List.mem_of_head? hh) (e1 g hh)
  · cases hh : (trimB (trimF p)).getLast? with
    | none => simp
    | some g => simpa using key g (List.mem_of_getLast? hh) (e2 g hh)
end Go.Proofs.YtmgepckhdgoemaaDoor
