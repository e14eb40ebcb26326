/- Joined: Bb, Bb2, P5, P6. -/
import Derived.Test.YtmgepckhdgoemaaDoorMem2
import Derived.Shelf.Strings.BuilderK
import Derived.Shelf.Strings.Trim
import Derived.Test.YtmgepckhdgoemaaDoorP3
import Derived.Test.YtmgepckhdgoemaaDoorL4
import Derived.Shelf.Strings.Replace
import Derived.Shelf.Vars
/- strings.Builder's WriteByte and String, laid at this seat's numbers. -/
namespace Go.Proofs.YtmgepckhdgoemaaDoor
open Go.RowKit Go.Shelf Go.Lib

def laysString_ren : Go.Shelf.Ren := ⟨fun | 169 => 37 | n => n, fun | 0 => 0 | 3 => 3 | 5 => 5 | 9 => 9 | 37 => 66 | 70 => 65 | 72 => 68 | 127 => 100 | n => n, fun | n => n⟩
theorem laysString : Go.Proofs.Lays.n169 Tryd.prog laysString_ren := { mixed := by kernel_rfl, f169 := Tryd.func37.trans (congrArg some (by kernel_rfl)), t0 := Tryd.underlying0, a0 := Tryd.isAgg0, z0 := Tryd.sizeOf0, v0 := Tryd.zeroValue0, t3 := Tryd.underlying3, a3 := Tryd.isAgg3, z3 := Tryd.sizeOf3, v3 := Tryd.zeroValue3, t9 := Tryd.underlying9, a9 := Tryd.isAgg9, z9 := Tryd.sizeOf9, v9 := Tryd.zeroValue9, t37 := Tryd.underlying66, a37 := Tryd.isAgg66, z37 := Tryd.sizeOf66, v37 := Tryd.zeroValue66, t70 := Tryd.underlying65, a70 := Tryd.isAgg65, z70 := Tryd.sizeOf65, v70 := Tryd.zeroValue65, t72 := Tryd.underlying68, a72 := Tryd.isAgg68, z72 := Tryd.sizeOf68, v72 := Tryd.zeroValue68, t127 := Tryd.underlying100, a127 := Tryd.isAgg100, z127 := Tryd.sizeOf100, v127 := Tryd.zeroValue100 }
theorem stringX : Builder.Extra Tryd.prog laysString_ren := { sizeBuilder := by kernel_rfl, liesBuilder := by kernel_rfl, t5 := Tryd.underlying5, a5 := Tryd.isAgg5, z5 := Tryd.sizeOf5, v5 := Tryd.zeroValue5, infoByte := by kernel_rfl, cellsByte := by kernel_rfl, sizeByte := by kernel_rfl, neB5 := by decide }
end Go.Proofs.YtmgepckhdgoemaaDoor

/- strings.Builder's WriteString and String, strings.Trim, laid at this seat's numbers. -/
namespace Go.Proofs.YtmgepckhdgoemaaDoor
open Go.RowKit Go.Shelf Go.Lib

def laysWriteString_ren : Go.Shelf.Ren := ⟨fun | 166 => 35 | 240 => 61 | 276 => 78 | n => n, fun | 0 => 0 | 3 => 3 | 4 => 4 | 5 => 5 | 9 => 9 | 20 => 20 | 37 => 66 | 70 => 65 | 72 => 68 | 75 => 71 | 80 => 75 | 164 => 107 | n => n, fun | n => n⟩
theorem laysWriteString : Go.Proofs.Lays.n166 Tryd.prog laysWriteString_ren := { mixed := by kernel_rfl, f166 := Tryd.func35.trans (congrArg some (by kernel_rfl)), f240 := Tryd.func61.trans (congrArg some (by kernel_rfl)), f276 := Tryd.func78.trans (congrArg some (by kernel_rfl)), t0 := Tryd.underlying0, a0 := Tryd.isAgg0, z0 := Tryd.sizeOf0, v0 := Tryd.zeroValue0, t3 := Tryd.underlying3, a3 := Tryd.isAgg3, z3 := Tryd.sizeOf3, v3 := Tryd.zeroValue3, t4 := Tryd.underlying4, a4 := Tryd.isAgg4, z4 := Tryd.sizeOf4, v4 := Tryd.zeroValue4, t9 := Tryd.underlying9, a9 := Tryd.isAgg9, z9 := Tryd.sizeOf9, v9 := Tryd.zeroValue9, t20 := Tryd.underlying20, a20 := Tryd.isAgg20, z20 := Tryd.sizeOf20, v20 := Tryd.zeroValue20, t37 := Tryd.underlying66, a37 := Tryd.isAgg66, z37 := Tryd.sizeOf66, v37 := Tryd.zeroValue66, t70 := Tryd.underlying65, a70 := Tryd.isAgg65, z70 := Tryd.sizeOf65, v70 := Tryd.zeroValue65, t72 := Tryd.underlying68, a72 := Tryd.isAgg68, z72 := Tryd.sizeOf68, v72 := Tryd.zeroValue68, t75 := Tryd.underlying71, a75 := Tryd.isAgg71, z75 := Tryd.sizeOf71, v75 := Tryd.zeroValue71, t164 := Tryd.underlying107, a164 := Tryd.isAgg107, z164 := Tryd.sizeOf107, v164 := Tryd.zeroValue107 }
theorem writeStringX : Builder.Extra Tryd.prog laysWriteString_ren := { sizeBuilder := by kernel_rfl, liesBuilder := by kernel_rfl, t5 := Tryd.underlying5, a5 := Tryd.isAgg5, z5 := Tryd.sizeOf5, v5 := Tryd.zeroValue5, infoByte := by kernel_rfl, cellsByte := by kernel_rfl, sizeByte := by kernel_rfl, neB5 := by decide }
def laysTrim_ren : Go.Shelf.Ren := ⟨fun | 119 => 89 | 120 => 71 | 137 => 88 | 151 => 54 | 152 => 70 | 160 => 10 | 197 => 53 | 217 => 74 | 224 => 76 | 225 => 75 | 227 => 25 | 228 => 52 | 231 => 23 | 232 => 24 | 233 => 26 | 234 => 27 | 235 => 28 | 236 => 29 | 260 => 69 | 266 => 90 | 271 => 55 | n => n, fun | 0 => 0 | 3 => 3 | 4 => 4 | 5 => 5 | 9 => 9 | 21 => 21 | 46 => 62 | 105 => 91 | 116 => 55 | 117 => 56 | 119 => 116 | 124 => 59 | 138 => 118 | 139 => 119 | n => n, fun | 3 => 1 | 4 => 2 | n => n⟩
theorem laysTrim : Go.Proofs.Lays.n160 Tryd.prog laysTrim_ren := { mixed := by kernel_rfl, f119 := Tryd.func89.trans (congrArg some (by kernel_rfl)), f120 := Tryd.func71.trans (congrArg some (by kernel_rfl)), f137 := Tryd.func88.trans (congrArg some (by kernel_rfl)), f151 := Tryd.func54.trans (congrArg some (by kernel_rfl)), f152 := Tryd.func70.trans (congrArg some (by kernel_rfl)), f160 := Tryd.func10.trans (congrArg some (by kernel_rfl)), f197 := Tryd.func53.trans (congrArg some (by kernel_rfl)), f217 := Tryd.func74.trans (congrArg some (by kernel_rfl)), f224 := Tryd.func76.trans (congrArg some (by kernel_rfl)), f225 := Tryd.func75.trans (congrArg some (by kernel_rfl)), f227 := Tryd.func25.trans (congrArg some (by kernel_rfl)), f228 := Tryd.func52.trans (congrArg some (by kernel_rfl)), f231 := Tryd.func23.trans (congrArg some (by kernel_rfl)), f232 := Tryd.func24.trans (congrArg some (by kernel_rfl)), f233 := Tryd.func26.trans (congrArg some (by kernel_rfl)), f234 := Tryd.func27.trans (congrArg some (by kernel_rfl)), f235 := Tryd.func28.trans (congrArg some (by kernel_rfl)), f236 := Tryd.func29.trans (congrArg some (by kernel_rfl)), f260 := Tryd.func69.trans (congrArg some (by kernel_rfl)), f266 := Tryd.func90.trans (congrArg some (by kernel_rfl)), f271 := Tryd.func55.trans (congrArg some (by kernel_rfl)), t0 := Tryd.underlying0, a0 := Tryd.isAgg0, z0 := Tryd.sizeOf0, v0 := Tryd.zeroValue0, t3 := Tryd.underlying3, a3 := Tryd.isAgg3, z3 := Tryd.sizeOf3, v3 := Tryd.zeroValue3, t4 := Tryd.underlying4, a4 := Tryd.isAgg4, z4 := Tryd.sizeOf4, v4 := Tryd.zeroValue4, t5 := Tryd.underlying5, a5 := Tryd.isAgg5, z5 := Tryd.sizeOf5, v5 := Tryd.zeroValue5, t9 := Tryd.underlying9, a9 := Tryd.isAgg9, z9 := Tryd.sizeOf9, v9 := Tryd.zeroValue9, t21 := Tryd.underlying21, a21 := Tryd.isAgg21, z21 := Tryd.sizeOf21, v21 := Tryd.zeroValue21, t46 := Tryd.underlying62, a46 := Tryd.isAgg62, z46 := Tryd.sizeOf62, v46 := Tryd.zeroValue62, t105 := Tryd.underlying91, a105 := Tryd.isAgg91, z105 := Tryd.sizeOf91, v105 := Tryd.zeroValue91, t116 := Tryd.underlying55, a116 := Tryd.isAgg55, z116 := Tryd.sizeOf55, t117 := Tryd.underlying56, a117 := Tryd.isAgg56, z117 := Tryd.sizeOf56, v117 := Tryd.zeroValue56, t119 := Tryd.underlying116, a119 := Tryd.isAgg116, z119 := Tryd.sizeOf116, t124 := Tryd.underlying59, a124 := Tryd.isAgg59, z124 := Tryd.sizeOf59, v124 := Tryd.zeroValue59, t138 := Tryd.underlying118, a138 := Tryd.isAgg118, z138 := Tryd.sizeOf118, v138 := Tryd.zeroValue118, t139 := Tryd.underlying119, a139 := Tryd.isAgg119, z139 := Tryd.sizeOf119, v139 := Tryd.zeroValue119, g3 := by kernel_rfl, g4 := by kernel_rfl }
end Go.Proofs.YtmgepckhdgoemaaDoor

/- Tables, in plain words: the cells of a row hold all of its text but the spaces (rows of ASCII glyphs). -/
namespace Go.Proofs.YtmgepckhdgoemaaDoor

/-- The bytes of a text without spaces. -/
def noSp (l : List UInt8) : List UInt8 := l.filter (· != 32)
theorem noSp_app (a b : List UInt8) : noSp (a ++ b) = noSp a ++ noSp b := List.filter_append ..
def nbT (l : List Gl) : List UInt8 := noSp (textB l).data.toList
theorem nbT_app (a b : List Gl) : nbT (a ++ b) = nbT a ++ nbT b := by
  unfold nbT
  rw [textB_append, Joins.data_append, noSp_app]
theorem nbT_nil : nbT [] = [] := rfl
theorem nbT_space {g : Gl} (h : spaceB g = true) : nbT [g] = [] := by
  unfold nbT
  rw [textB_one, text_space h]; rfl
theorem nbT_spaces : ∀ (l : List Gl), (∀ g ∈ l, spaceB g = true) → nbT l = []
  | [], _ => rfl
  | g :: l, h => by
    rw [show g :: l = [g] ++ l from rfl, nbT_app, nbT_space (h g (by simp)), nbT_spaces l fun x hx => h x (by simp [hx])]; rfl
theorem nbT_trimF (l : List Gl) : nbT (trimF l) = nbT l := by
  induction l with
  | nil => rfl
  | cons g l ih =>
    cases h : spaceB g with
    | true => rw [trimF_space h, ih, show g :: l = [g] ++ l from rfl, nbT_app, nbT_space h]; rfl
    | false => rw [trimF_done h]
theorem nbT_trimB (l : List Gl) : nbT (trimB l) = nbT l := by
  generalize hn : l.length = n
  induction n generalizing l with
  | zero => rw [List.length_eq_zero_iff.1 hn]; rfl
  | succ n ih =>
    rcases snoc_cases l with h0 | ⟨q, g, rfl⟩
    · subst h0; rfl
    · cases h : spaceB g with
      | true => rw [trimB_space h, ih q (by simpa using hn), nbT_app, nbT_space h, List.append_nil]
      | false => rw [trimB_done h]

theorem pick_narrow (l : List Gl) (h1 : ∀ g ∈ l, glW g = 1) (a b : Nat) : ∀ k, k ≤ l.length → pickSt a b (l.take k) = (k, ((l.take k).take b).drop a)
  | 0, _ => by simp [pickSt]
  | k + 1, hk => by
    rw [pickSt_snoc _ _ l k (by omega), pick_narrow l h1 a b k (by omega), h1 _ (List.getElem_mem _)]
    dsimp only
    congr 1
    by_cases hb : k < b
    · have e1 : (l.take k).take b = l.take k := List.take_of_length_le (by rw [List.length_take]; omega)
      have e2 : (l.take (k + 1)).take b = l.take (k + 1) := List.take_of_length_le (by rw [List.length_take]; omega)
      rw [e1, e2, List.take_succ_eq_append_getElem (by omega)]
      by_cases ha : a ≤ k
      · rw [if_pos (by simp; omega), List.drop_append_of_le_length (by rw [List.length_take]; omega)]
      · rw [if_neg (by simp; omega), List.drop_of_length_le (by rw [List.length_take]; omega), List.drop_of_length_le (by simp; omega)]
    · rw [if_neg (by simp; omega), List.take_take, List.take_take, Nat.min_eq_left (by omega), Nat.min_eq_left (by omega)]
theorem pick_cut (l : List Gl) (h1 : ∀ g ∈ l, glW g = 1) (a b : Nat) : (pickSt a b l).2 = (l.take b).drop a := by
  have := pick_narrow l h1 a b l.length (Nat.le_refl _)
  rw [List.take_length] at this
  rw [this]

theorem colsOf_narrow (l : List Gl) (h1 : ∀ g ∈ l, glW g = 1) : colsOf l = l.map spaceB := by
  unfold colsOf
  induction l with
  | nil => rfl
  | cons g l ih => rw [List.flatMap_cons, ih fun x hx => h1 x (by simp [hx]), h1 g (by simp)]; rfl
theorem bk_narrow {l : List Gl} (h1 : ∀ g ∈ l, glW g = 1) {c : Nat} (h : bk l c = true) : nbT (l[c]?.toList) = [] := by
  unfold bk at h
  rw [colsOf_narrow l h1, List.getElem?_map] at h
  cases hc : l[c]? with
  | none => rfl
  | some g => rw [hc] at h; exact nbT_space (by simpa using h)
theorem take_succ_opt {α : Type} (l : List α) (k : Nat) : l.take (k + 1) = l.take k ++ l[k]?.toList := List.take_add_one
theorem nbT_cut (l : List Gl) (a c : Nat) (h : a ≤ c) : nbT ((l.take (c + 1)).drop a) = nbT ((l.take c).drop a) ++ nbT (l[c]?.toList) := by
  by_cases hc : c < l.length
  · rw [List.take_succ_eq_append_getElem hc, List.drop_append_of_le_length (by rw [List.length_take]; omega), nbT_app, List.getElem?_eq_getElem hc]; rfl
  · rw [List.take_of_length_le (by omega), List.take_of_length_le (by omega), List.getElem?_eq_none (by omega)]
    simp [nbT_nil]
theorem nbT_gap (l : List Gl) (h1 : ∀ g ∈ l, glW g = 1) (f : Nat → Bool) (hf : ∀ c, f c = true → bk l c = true) (a e : Nat) (h : a ≤ e) : ∀ d, (∀ c, e ≤ c → c < e + d → f c = true) → nbT ((l.take (e + d)).drop a) = nbT ((l.take e).drop a)
  | 0, _ => rfl
  | d + 1, hd => by
    rw [← Nat.add_assoc, nbT_cut l a (e + d) (by omega), nbT_gap l h1 f hf a e h d (fun c h2 h3 => hd c h2 (by omega)), bk_narrow h1 (hf _ (hd (e + d) (by omega) (by omega))), List.append_nil]
/-- The columns hold all the text. -/
theorem nbT_parts (l : List Gl) (h1 : ∀ g ∈ l, glW g = 1) (f : Nat → Bool) (hf : ∀ c, f c = true → bk l c = true) : ∀ W, ((partsTo f W).flatMap fun p => nbT ((l.take p.2).drop p.1)) = nbT (l.take W)
  | 0 => by simp [partsTo, nbT_nil]
  | W + 1 => by
    have ih := nbT_parts l h1 f hf W
    have hst : partsTo f (W + 1) = partStep (partsTo f W) W (f W) := rfl
    have hn := nbT_cut l 0 W (Nat.zero_le _)
    simp only [List.drop_zero] at hn
    rw [hst, hn]
    cases hfW : f W with
    | true => rw [partStep_free, ih, bk_narrow h1 (hf W hfW), List.append_nil]
    | false =>
      have hlast : ∀ (x : Nat), x = W → nbT ((l.take (W + 1)).drop W) = nbT (l[W]?.toList) := fun x _ => by
        rw [nbT_cut l W W (Nat.le_refl _)]
        rw [List.drop_of_length_le (by rw [List.length_take]; omega)]
        rfl
      rcases snoc_cases (partsTo f W) with h0 | ⟨qs, ⟨a, e⟩, h0⟩
      · rw [h0] at ih ⊢
        rw [partStep_nil]
        simp only [List.flatMap_nil] at ih
        simp only [List.flatMap_cons, List.flatMap_nil, List.append_nil]
        rw [hlast W rfl, ← ih, List.nil_append]
      · have hbd := (partsTo_bd f W).2 (a, e) (by rw [h0]; simp)
        dsimp only at hbd
        have hsep := (partsTo_sep f W).2 qs (a, e) h0
        dsimp only at hsep
        rw [h0] at ih ⊢
        rw [List.flatMap_append] at ih
        simp only [List.flatMap_cons, List.flatMap_nil, List.append_nil] at ih
        by_cases hnr : W < e + 2
        · rw [partStep_near hnr, List.flatMap_append]
          simp only [List.flatMap_cons, List.flatMap_nil, List.append_nil]
          rw [nbT_cut l a W (by omega)]
          have hg := nbT_gap l h1 f hf a e (by omega) (W - e) (fun c h2 h3 => hsep c h2 (by omega))
          rw [show e + (W - e) = W by omega] at hg
          rw [hg, ← List.append_assoc, ih]
        · rw [partStep_far hnr, List.flatMap_append, List.flatMap_append]
          simp only [List.flatMap_cons, List.flatMap_nil, List.append_nil]
          rw [ih, hlast W rfl]
/-- The text of a cell without its spaces is that of the row's glyphs between its columns. -/
theorem noSp_cell (l : List Gl) (h1 : ∀ g ∈ l, glW g = 1) (hne : ∀ g ∈ l, g.text.toList ≠ []) (a b : Nat) : noSp (cellOf l a b).data.toList = nbT ((l.take b).drop a) := by
  rw [cellOf_trim _ _ _ hne, pick_cut l h1]
  show nbT (trimB (trimF _)) = _
  rw [nbT_trimB, nbT_trimF]

/-- A text without spaces at its ends. -/
def bare (l : List UInt8) : Bool := decide (l.head? ≠ some 32) && decide (l.getLast? ≠ some 32)
theorem spaceB_byte {g : Gl} {b : UInt8} (h : g.text.data.toList = [b]) (hs : spaceB g = false) : b ≠ 32 := by
  rintro rfl
  unfold spaceB at hs
  rw [ByteArray.toList_eq, h] at hs
  simp at hs
theorem text_bytes (l : List Gl) (h : ∀ g ∈ l, g.text.data.toList.length = 1) : (textB l).data.toList = l.map fun g => g.text.data.toList.headD 0 := by
  induction l with
  | nil => rfl
  | cons g l ih =>
    rw [show g :: l = [g] ++ l from rfl, textB_append, textB_one, Joins.data_append, ih fun x hx => h x (by simp [hx])]
    obtain ⟨b, hb⟩ := List.length_eq_one_iff.1 (h g (by simp))
    rw [hb, List.map_append]; simp [hb]
theorem trim_ends (l : List Gl) : (∀ g, (trimB (trimF l)).head? = some g → spaceB g = false) ∧ ∀ g, (trimB (trimF l)).getLast? = some g → spaceB g = false := by
  have hl : ∀ (l : List Gl) g, (trimB l).getLast? = some g → spaceB g = false := fun l g h => by
    unfold trimB at h
    rw [List.getLast?_reverse, List.head?_eq_getElem?] at h
    have := List.head?_dropWhile_not (p := spaceB) l.reverse
    rw [List.head?_eq_getElem?, h] at this
    simpa using this
  refine ⟨fun g h => ?_, hl _⟩
  -- the first glyph of what is left of a list is the list's first
  have hpre : ∃ t, trimF l = trimB (trimF l) ++ t := by
    unfold trimB
    refine ⟨((trimF l).reverse.takeWhile spaceB).reverse, ?_⟩
    rw [← List.reverse_append, List.takeWhile_append_dropWhile, List.reverse_reverse]
  obtain ⟨t, ht⟩ := hpre
  have hh : (trimF l).head? = some g := by
    rw [ht]
    cases hx : trimB (trimF l) with
    | nil => rw [hx] at h; cases h
    | cons x r => rw [hx] at h; exact h
  unfold trimF at hh
  have := List.head?_dropWhile_not (p := spaceB) l
  rw [hh] at this
  simpa using this
theorem cell_bare (l : List Gl) (h1 : ∀ g ∈ l, glW g = 1) (hb : ∀ g ∈ l, g.text.data.toList.length = 1) (a b : Nat) : bare (cellOf l a b).data.toList = true := by
  have hne : ∀ g ∈ l, g.text.toList ≠ [] := fun g hg h => by
    have := hb g hg
    rw [ByteArray.toList_eq] at h
    rw [h] at this; cases this
  rw [cellOf_trim _ _ _ hne, pick_cut l h1]
  obtain ⟨p, hp⟩ : ∃ p, (l.take b).drop a = p := ⟨_, rfl⟩
  have hpm : ∀ g ∈ p, g ∈ l := fun g hg => by rw [← hp] at hg; exact List.mem_of_mem_take (List.mem_of_mem_drop hg)
  rw [hp]
  have hsub : ∀ g ∈ trimB (trimF p), g ∈ p := fun g hg => by
    unfold trimB at hg
    rw [List.mem_reverse] at hg
    have h2 := (List.dropWhile_sublist _).subset hg
    rw [List.mem_reverse] at h2
    exact (List.dropWhile_sublist _).subset h2
  obtain ⟨e1, e2⟩ := trim_ends p
  rw [text_bytes _ fun g hg => hb g (hpm g (hsub g hg))]
  unfold bare
  rw [Bool.and_eq_true, decide_eq_true_eq, decide_eq_true_eq, List.head?_map, List.getLast?_map]
  have key : ∀ g ∈ trimB (trimF p), spaceB g = false → g.text.data.toList.headD 0 ≠ 32 := fun g hg hs => by
    obtain ⟨x, hx⟩ := List.length_eq_one_iff.1 (hb g (hpm g (hsub g hg)))
    rw [hx]
    exact spaceB_byte hx hs
  constructor
  · cases hh : (trimB (trimF p)).head? with
    | none => simp
    | some g => simpa using key g (List.mem_of_head? hh) (e1 g hh)
  · cases hh : (trimB (trimF p)).getLast? with
    | none => simp
    | some g => simpa using key g (List.mem_of_getLast? hh) (e2 g hh)
end Go.Proofs.YtmgepckhdgoemaaDoor

/- strings.ReplaceAll and strings.Trim for the law TablesComplete; glyphs of one byte. -/
namespace Go.Proofs.YtmgepckhdgoemaaDoor
open Go.RowKit Go.Lib Go.Shelf

abbrev BS := List UInt8

def Mx (w : World) : Prop := 0 < w.heap.size ∧ ∃ m : Int, w.cell? ⟨0, 0, none⟩ = some (.int .i64 m)
theorem Mx.below {w w' : World} (h : Mx w) (hb : Below w.heap.size w w') : Mx w' :=
  ⟨Nat.lt_of_lt_of_le h.1 hb.size, let ⟨m, hm⟩ := h.2; ⟨m, (hb.cell (p := ⟨_, 0, none⟩) h.1).trans hm⟩⟩
theorem Mx.shaped {w : World} (h : w.ShapedOpen Tryd.prog) : Mx w := by
  have hc := cell_of_shapedOpen_int (P := Tryd.prog) (g := 0) (t := 3) (zero := #[.int .i64 0]) (k := .i64) h (of_decide_eq_true (by kernel_rfl)) (by kernel_rfl) rfl (by kernel_rfl) (by kernel_rfl) Tryd.underlying3
  obtain ⟨m, hm⟩ := hc
  exact ⟨World.block_lt_of_cell? w ⟨0, 0, none⟩ hm, m, hm⟩

def laysRepl_ren : Go.Shelf.Ren := ⟨fun | 138 => 56 | 143 => 31 | 154 => 30 | 155 => 11 | 165 => 34 | 166 => 35 | 169 => 37 | 195 => 72 | 197 => 53 | 217 => 74 | 218 => 73 | 219 => 57 | 224 => 76 | 225 => 75 | 240 => 61 | 241 => 62 | 260 => 69 | 266 => 90 | 267 => 77 | 276 => 78 | 277 => 79 | 314 => 91 | n => n, fun | 0 => 0 | 3 => 3 | 4 => 4 | 5 => 5 | 9 => 9 | 20 => 20 | 21 => 21 | 37 => 66 | 46 => 62 | 51 => 94 | 70 => 65 | 72 => 68 | 75 => 71 | 76 => 72 | 80 => 75 | 105 => 91 | 119 => 116 | 127 => 100 | 138 => 118 | 139 => 119 | 146 => 95 | 164 => 107 | n => n, fun | 1 => 0 | 3 => 1 | 4 => 2 | n => n⟩
theorem laysRepl : Go.Proofs.Lays.n155 Tryd.prog laysRepl_ren := { mixed := by kernel_rfl, f138 := Tryd.func56.trans (congrArg some (by kernel_rfl)), f143 := Tryd.func31.trans (congrArg some (by kernel_rfl)), f154 := Tryd.func30.trans (congrArg some (by kernel_rfl)), f155 := Tryd.func11.trans (congrArg some (by kernel_rfl)), f165 := Tryd.func34.trans (congrArg some (by kernel_rfl)), f166 := Tryd.func35.trans (congrArg some (by kernel_rfl)), f169 := Tryd.func37.trans (congrArg some (by kernel_rfl)), f195 := Tryd.func72.trans (congrArg some (by kernel_rfl)), f197 := Tryd.func53.trans (congrArg some (by kernel_rfl)), f217 := Tryd.func74.trans (congrArg some (by kernel_rfl)), f218 := Tryd.func73.trans (congrArg some (by kernel_rfl)), f219 := Tryd.func57.trans (congrArg some (by kernel_rfl)), f224 := Tryd.func76.trans (congrArg some (by kernel_rfl)), f225 := Tryd.func75.trans (congrArg some (by kernel_rfl)), f240 := Tryd.func61.trans (congrArg some (by kernel_rfl)), f241 := Tryd.func62.trans (congrArg some (by kernel_rfl)), f260 := Tryd.func69.trans (congrArg some (by kernel_rfl)), f266 := Tryd.func90.trans (congrArg some (by kernel_rfl)), f267 := Tryd.func77.trans (congrArg some (by kernel_rfl)), f276 := Tryd.func78.trans (congrArg some (by kernel_rfl)), f277 := Tryd.func79.trans (congrArg some (by kernel_rfl)), f314 := Tryd.func91.trans (congrArg some (by kernel_rfl)), t0 := Tryd.underlying0, a0 := Tryd.isAgg0, z0 := Tryd.sizeOf0, v0 := Tryd.zeroValue0, t3 := Tryd.underlying3, a3 := Tryd.isAgg3, z3 := Tryd.sizeOf3, v3 := Tryd.zeroValue3, t4 := Tryd.underlying4, a4 := Tryd.isAgg4, z4 := Tryd.sizeOf4, v4 := Tryd.zeroValue4, t5 := Tryd.underlying5, a5 := Tryd.isAgg5, z5 := Tryd.sizeOf5, v5 := Tryd.zeroValue5, t9 := Tryd.underlying9, a9 := Tryd.isAgg9, z9 := Tryd.sizeOf9, v9 := Tryd.zeroValue9, t20 := Tryd.underlying20, a20 := Tryd.isAgg20, z20 := Tryd.sizeOf20, v20 := Tryd.zeroValue20, t21 := Tryd.underlying21, a21 := Tryd.isAgg21, z21 := Tryd.sizeOf21, v21 := Tryd.zeroValue21, t37 := Tryd.underlying66, a37 := Tryd.isAgg66, z37 := Tryd.sizeOf66, v37 := Tryd.zeroValue66, t46 := Tryd.underlying62, a46 := Tryd.isAgg62, z46 := Tryd.sizeOf62, v46 := Tryd.zeroValue62, t51 := Tryd.underlying94, a51 := Tryd.isAgg94, z51 := Tryd.sizeOf94, v51 := Tryd.zeroValue94, t70 := Tryd.underlying65, a70 := Tryd.isAgg65, z70 := Tryd.sizeOf65, v70 := Tryd.zeroValue65, t72 := Tryd.underlying68, a72 := Tryd.isAgg68, z72 := Tryd.sizeOf68, v72 := Tryd.zeroValue68, t75 := Tryd.underlying71, a75 := Tryd.isAgg71, z75 := Tryd.sizeOf71, v75 := Tryd.zeroValue71, t76 := Tryd.underlying72, a76 := Tryd.isAgg72, z76 := Tryd.sizeOf72, v76 := Tryd.zeroValue72, t105 := Tryd.underlying91, a105 := Tryd.isAgg91, z105 := Tryd.sizeOf91, v105 := Tryd.zeroValue91, t119 := Tryd.underlying116, a119 := Tryd.isAgg116, z119 := Tryd.sizeOf116, t127 := Tryd.underlying100, a127 := Tryd.isAgg100, z127 := Tryd.sizeOf100, v127 := Tryd.zeroValue100, t138 := Tryd.underlying118, a138 := Tryd.isAgg118, z138 := Tryd.sizeOf118, v138 := Tryd.zeroValue118, t139 := Tryd.underlying119, a139 := Tryd.isAgg119, z139 := Tryd.sizeOf119, v139 := Tryd.zeroValue119, t146 := Tryd.underlying95, a146 := Tryd.isAgg95, z146 := Tryd.sizeOf95, v146 := Tryd.zeroValue95, t164 := Tryd.underlying107, a164 := Tryd.isAgg107, z164 := Tryd.sizeOf107, v164 := Tryd.zeroValue107, g1 := by kernel_rfl, g3 := by kernel_rfl, g4 := by kernel_rfl }
theorem replX : Builder.Extra Tryd.prog laysRepl_ren := { sizeBuilder := by kernel_rfl, liesBuilder := by kernel_rfl, t5 := Tryd.underlying5, a5 := Tryd.isAgg5, z5 := Tryd.sizeOf5, v5 := Tryd.zeroValue5, infoByte := by kernel_rfl, cellsByte := by kernel_rfl, sizeByte := by kernel_rfl, neB5 := by decide }

theorem sp_none : ∀ {l : BS}, (∀ c ∈ l, c ≠ 32) → index l [32] = -1
  | [], _ => rfl
  | c :: l, h => by
    have ih := sp_none (l := l) fun d hd => h d (by simp [hd])
    unfold index
    have hc : ([32] : BS).isPrefixOf (c :: l) = false := by
      simp only [List.isPrefixOf, Bool.and_true, beq_eq_false_iff_ne]
      exact fun e => h c (by simp) e.symm
    rw [hc, ih]; rfl
theorem sp_at : ∀ {a : BS} (b : BS), (∀ c ∈ a, c ≠ 32) → index (a ++ 32 :: b) [32] = a.length
  | [], b, _ => by
    unfold index
    simp [List.isPrefixOf]
  | c :: a, b, h => by
    have ih := sp_at (a := a) b fun d hd => h d (by simp [hd])
    rw [List.cons_append]
    unfold index
    have hc : ([32] : BS).isPrefixOf (c :: (a ++ 32 :: b)) = false := by
      simp only [List.isPrefixOf, Bool.and_true, beq_eq_false_iff_ne]
      exact fun e => h c (by simp) e.symm
    rw [hc, ih]
    have h2 : (((a.length : Nat) : Int) == -1) = false := by rw [beq_eq_false_iff_ne]; omega
    rw [h2]
    simp
theorem sp_split : ∀ (l : BS), (∀ c ∈ l, c ≠ 32) ∨ ∃ a b, l = a ++ 32 :: b ∧ ∀ c ∈ a, c ≠ 32
  | [] => .inl fun c h => by cases h
  | c :: l => by
    by_cases hc : c = 32
    · exact .inr ⟨[], l, by rw [hc]; rfl, fun d h => by cases h⟩
    · rcases sp_split l with h | ⟨a, b, rfl, h⟩
      · left
        intro d hd
        rcases List.mem_cons.1 hd with rfl | hd
        · exact hc
        · exact h d hd
      · right
        refine ⟨c :: a, b, rfl, fun d hd => ?_⟩
        rcases List.mem_cons.1 hd with rfl | hd
        · exact hc
        · exact h d hd
theorem replK_nil : ∀ (n : Nat) (l : BS), l.length ≤ n → replaceK [32] [] (count l [32]) l = noSp l := by
  intro n
  induction n with
  | zero =>
    intro l hl
    have : l = [] := List.eq_nil_of_length_eq_zero (by omega)
    subst this
    rw [count_miss rfl]
    rfl
  | succ n ih =>
    intro l hl
    rcases sp_split l with h | ⟨a, b, rfl, h⟩
    · rw [count_miss (sp_none h)]
      have : noSp l = l := by
        unfold noSp
        rw [List.filter_eq_self]
        intro c hc
        simpa using h c hc
      rw [this]; rfl
    · have hi := sp_at b h
      have hd : (a ++ 32 :: b).drop (a.length + ([32] : BS).length) = b := by
        rw [show ([32] : BS).length = 1 from rfl, ← List.drop_drop, List.drop_left' rfl]; rfl
      have ha : noSp a = a := by
        unfold noSp
        rw [List.filter_eq_self]
        intro c hc
        simpa using h c hc
      have hc : noSp (32 :: b) = noSp b := rfl
      rw [count_hit (by simp) hi, hd, Nat.add_comm 1, replaceK_hit _ _ _ _ a.length hi, hd, ih b (by simp at hl; omega), List.take_left' rfl, noSp_app, ha, hc]
      simp
theorem repl_nil (l : BS) : replaceAll l [32] [] = noSp l := by
  unfold replaceAll replace
  rw [if_neg (by decide)]
  unfold replaceNum
  rw [if_pos (.inl (by decide))]
  exact replK_nil _ l (Nat.le_refl _)
theorem replaceNP (w : World) (s : ByteArray) (hs : s.size ≤ 100000) (hm : Mx w) : Calls Tryd.prog 11 #[.string s, .string ⟨#[32]⟩, .string ⟨#[]⟩] w fun e w' => e = .returned (.string ⟨(noSp s.data.toList).toArray⟩) ∧ Below w.heap.size w w' := by
  obtain ⟨-, m, hm1⟩ := hm
  have h3 : (⟨#[]⟩ : ByteArray).size = 0 := rfl
  have h := Any.strings_ReplaceAll laysRepl replX s ⟨#[32]⟩ ⟨#[]⟩ m w (by omega) hm1 (by decide) (by rw [h3]; omega)
  rw [show replaceAll s.data.toList (⟨#[32]⟩ : ByteArray).data.toList (⟨#[]⟩ : ByteArray).data.toList = noSp s.data.toList from repl_nil _] at h
  exact h
theorem bare_trim {l : List UInt8} (h : bare l = true) : Lib.trimB l 32 = l := by
  unfold bare at h
  rw [Bool.and_eq_true, decide_eq_true_eq, decide_eq_true_eq] at h
  have drop : ∀ l : List UInt8, l.head? ≠ some 32 → l.dropWhile (· == 32) = l := fun l h => by
    cases l with
    | nil => rfl
    | cons x r => rw [List.dropWhile_cons, if_neg (by simpa using h)]
  have h1 : (l.reverse.dropWhile (· == 32)).reverse = l := by
    rw [drop _ (by rw [List.head?_reverse]; exact h.2), List.reverse_reverse]
  show ((l.reverse.dropWhile (· == 32)).reverse).dropWhile (· == 32) = l
  rw [h1, drop _ h.1]
theorem trimP (w : World) (s : ByteArray) (hs : s.size ≤ 100000) (hb : bare s.data.toList = true) : Calls Tryd.prog 10 #[.string s, .string ⟨#[32]⟩] w fun e w' => e = .returned (.string s) ∧ Below w.heap.size w w' := by
  refine (Any.strings_Trim_one laysTrim s 32 (by decide) w (by omega)).mono fun e w' h => ?_
  obtain ⟨rfl, h⟩ := h
  refine ⟨?_, by rcases h with rfl | rfl; exact Below.refl _ _; exact (Below.refl _ _).drew⟩
  rw [bare_trim hb]

theorem one_cl : ∀ n, n < 256 → (clW [UInt8.ofNat n] == 2) = false := by decide +kernel
theorem one_narrow {g : Gl} (h : glErr g = 0) (h1 : g.text.data.toList.length = 1) : glW g = 1 := by
  obtain ⟨b, hb⟩ := List.length_eq_one_iff.1 h1
  have hn := one_cl b.toNat (UInt8.toNat_lt b)
  rw [UInt8.ofNat_toNat] at hn
  unfold glErr at h
  rw [ByteArray.toList_eq, hb] at h
  unfold glW
  by_cases h0 : clErr [b] ≠ 0
  · rw [if_pos h0] at h; cases h
  · rw [if_neg h0] at h
    cases hw : g.wide with
    | false => rfl
    | true => rw [if_pos (.inl (by rw [hw, hn]; simp))] at h; cases h
end Go.Proofs.YtmgepckhdgoemaaDoor
