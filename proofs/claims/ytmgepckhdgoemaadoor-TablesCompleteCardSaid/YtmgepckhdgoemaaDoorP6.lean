/- strings.ReplaceAll and strings.Trim for the law TablesComplete; glyphs of one byte. -/
import Derived.Test.YtmgepckhdgoemaaDoorP5
import Derived.Test.YtmgepckhdgoemaaDoorBb2
import Derived.Test.YtmgepckhdgoemaaDoorL4
import Derived.Shelf.Strings.Replace
import Derived.Shelf.Vars
namespace Go.Proofs.YtmgepckhdgoemaaDoor
open Go.RowKit Go.Lib Go.Shelf

abbrev BS := List UInt8

def Mx (w : World) : Prop := 0 < w.heap.size ∧ ∃ m : Int, w.cell? ⟨0, 0, none⟩ = some (.int .i64 m)
theorem Mx.below {w w' : World} (h : Mx w) (hb : Below w.heap.size w w') : Mx w' :=
  ⟨Nat.lt_of_lt_of_le h.1 hb.size, let ⟨m, hm⟩ := h.2; ⟨m, (hb.cell (p := ⟨_, 0, none⟩) h.1).trans hm⟩⟩
theorem Mx.shaped {w : World} (h : w.ShapedOpen Tryd.prog) : Mx w := by
  have hc := cell_of_shapedOpen_int (P := Tryd.prog) (g := 0) (t := 3) (zero := #[.int .i64 0]) (k := .i64) h (of_decide_eq_true (by kernel_rfl)) (by kernel_rfl) rfl (by kernel_rfl) (by kernel_rfl) Tryd.underlying3
  obtain ⟨m, hm⟩ := hc
  exact ⟨World.block_lt_of_cell? w ⟨0, 0, none⟩ hm, m, hm⟩

def laysRepl_ren : Go.Shelf.Ren := ⟨fun | 138 => 56 | 143 => 31 | 154 => 30 | 155 => 11 | 165 => 34 | 166 => 35 | 169 => 37 | 195 => 72 | 197 => 53 | 217 => 74 | 218 => 73 | 219 => 57 | 224 => 76 | 225 => 75 | 240 => 61 | 241 => 62 | 260 => 69 | 266 => 90 | 267 => 77 | 276 => 78 | 277 => 79 | 314 => 91 | n => n, fun | 0 => 0 | 3 => 3 | 4 => 4 | 5 => 5 | 9 => 9 | 20 => 20 | 21 => 21 | 37 => 66 | 46 => 62 | 51 => 94 | 70 => 65 | 72 => 68 | 75 => 71 | 76 => 72 | 80 => 75 | 105 => 91 | 119 => 116 | 127 => 100 | 138 => 118 | 139 => 119 | 146 => 95 | 164 => 107 | n => n, fun | 1 => 0 | 3 => 1 | 4 => 2 | n => n⟩
theorem laysRepl : Go.Proofs.Lays.n155 Tryd.prog laysRepl_ren := { mixed := by kernel_rfl, f138 := Tryd.func56.trans (congrArg some (by kernel_rfl)), f143 := Tryd.func31.trans (congrArg some (by kernel_rfl)), f154 := Tryd.func30.trans (congrArg some (by kernel_rfl)), f155 := Tryd.func11.trans (congrArg some (by kernel_rfl)), f165 := Tryd.func34.trans (congrArg some (by kernel_rfl)), f166 := Tryd.func35.trans (congrArg some (by kernel_rfl)), f169 := Tryd.func37.trans (congrArg some (by kernel_rfl)), f195 := Tryd.func72.trans (congrArg some (by kernel_rfl)), f197 := Tryd.func53.trans (congrArg some (by kernel_rfl)), f217 := Tryd.func74.trans (congrArg some (by kernel_rfl)), f218 := Tryd.func73.trans (congrArg some (by kernel_rfl)), f219 := Tryd.func57.trans (congrArg some (by kernel_rfl)), f224 := Tryd.func76.trans (congrArg some (by kernel_rfl)), f225 := Tryd.func75.trans (congrArg some (by kernel_rfl)), f240 := Tryd.func61.trans (congrArg some (by kernel_rfl)), f241 := Tryd.func62.trans (congrArg some (by kernel_rfl)), f260 := Tryd.func69.trans (congrArg some (by kernel_rfl)), f266 := Tryd.func90.trans (congrArg some (by kernel_rfl)), f267 := Tryd.func77.trans (congrArg some (by kernel_rfl)), f276 := Tryd.func78.trans (congrArg some (by kernel_rfl)), f277 := Tryd.func79.trans (congrArg some (by kernel_rfl)), f314 := Tryd.func91.trans (congrArg some (by kernel_rfl)), t0 := Tryd.underlying0, a0 := Tryd.isAgg0, z0 := Tryd.sizeOf0, v0 := Tryd.zeroValue0, t3 := Tryd.underlying3, a3 := Tryd.isAgg3, z3 := Tryd.sizeOf3, v3 := Tryd.zeroValue3, t4 := Tryd.underlying4, a4 := Tryd.isAgg4, z4 := Tryd.sizeOf4, v4 := Tryd.zeroValue4, t5 := Tryd.underlying5, a5 := Tryd.isAgg5, z5 := Tryd.sizeOf5, v5 := Tryd.zeroValue5, t9 := Tryd.underlying9, a9 := Tryd.isAgg9, z9 := Tryd.sizeOf9, v9 := Tryd.zeroValue9, t20 := Tryd.underlying20, a20 := Tryd.isAgg20, z20 := Tryd.sizeOf20, v20 := Tryd.zeroValue20, t21 := Tryd.underlying21, a21 := Tryd.isAgg21, z21 := Tryd.sizeOf21, v21 := Tryd.zeroValue21, t37 := Tryd.underlying66, a37 := Tryd.isAgg66, z37 := Tryd.sizeOf66, v37 := Tryd.zeroValue66, t46 := Tryd.underlying62, a46 := Tryd.isAgg62, z46 := Tryd.sizeOf62, v46 := Tryd.zeroValue62, t51 := Tryd.underlying94, a51 := Tryd.isAgg94, z51 := Tryd.sizeOf94, v51 := Tryd.zeroValue94, t70 := Tryd.underlying65, a70 := Tryd.isAgg65, z70 := Tryd.sizeOf65, v70 := Tryd.zeroValue65, t72 := Tryd.underlying68, a72 := Tryd.isAgg68, z72 := Tryd.sizeOf68, v72 := Tryd.zeroValue68, t75 := Tryd.underlying71, a75 := Tryd.isAgg71, z75 := Tryd.sizeOf71, v75 := Tryd.zeroValue71, t76 := Tryd.underlying72, a76 := Tryd.isAgg72, z76 := Tryd.sizeOf72, v76 := Tryd.zeroValue72, t105 := Tryd.underlying91, a105 := Tryd.isAgg91, z105 := Tryd.sizeOf91, v105 := Tryd.zeroValue91, t119 := Tryd.underlying116, a119 := Tryd.isAgg116, z119 := Tryd.sizeOf116, t127 := Tryd.underlying100, a127 := Tryd.isAgg100, z127 := Tryd.sizeOf100, v127 := Tryd.zeroValue100, t138 := Tryd.underlying118, a138 := Tryd.isAgg118, z138 := Tryd.sizeOf118, v138 := Tryd.zeroValue118, t139 := Tryd.underlying119, a139 := Tryd.isAgg119, z139 := Tryd.sizeOf119, v139 := Tryd.zeroValue119, t146 := Tryd.underlying95, a146 := Tryd.isAgg95, z146 := Tryd.sizeOf95, v146 := Tryd.zeroValue95, t164 := Tryd.underlying107, a164 := Tryd.isAgg107, z164 := Tryd.sizeOf107, v164 := Tryd.zeroValue107, g1 := by kernel_rfl, g3 := by kernel_rfl, g4 := by kernel_rfl }
theorem replX : Builder.Extra Tryd.prog laysRepl_ren := { sizeBuilder := by kernel_rfl, liesBuilder := by kernel_rfl, t5 := Tryd.underlying5, a5 := Tryd.isAgg5, z5 := Tryd.sizeOf5, v5 := Tryd.zeroValue5, infoByte := by kernel_rfl, cellsByte := by kernel_rfl, sizeByte := by kernel_rfl, neB5 := by decide }

theorem sp_none : ∀ {l : BS}, (∀ c ∈ l, c ≠ 32) → index l [32] = -1
  | [], _ => rfl
  | c :: l, h => by
    have ih := sp_none (l := l) fun d hd => h d (by simp [hd])
    unfold index
    have hc : ([32] : BS).isPrefixOf (c :: l) = false := by
      simp only [List.isPrefixOf, Bool.and_true, beq_eq_false_iff_ne]
      exact fun e => h c (by simp) e.symm
    rw [hc, ih]; rfl
theorem sp_at : ∀ {a : BS} (b : BS), (∀ c ∈ a, c ≠ 32) → index (a ++ 32 :: b) [32] = a.length
  | [], b, _ => by
    unfold index
    simp [List.isPrefixOf]
  | c :: a, b, h => by
    have ih := sp_at (a := a) b fun d hd => h d (by simp [hd])
    rw [List.cons_append]
    unfold index
    have hc : ([32] : BS).isPrefixOf (c :: (a ++ 32 :: b)) = false := by
      simp only [List.isPrefixOf, Bool.and_true, beq_eq_false_iff_ne]
      exact fun e => h c (by simp) e.symm
    rw [hc, ih]
    have h2 : (((a.length : Nat) : Int) == -1) = false := by rw [beq_eq_false_iff_ne]; omega
    rw [h2]
    simp
theorem sp_split : ∀ (l : BS), (∀ c ∈ l, c ≠ 32) ∨ ∃ a b, l = a ++ 32 :: b ∧ ∀ c ∈ a, c ≠ 32
  | [] => .inl fun c h => by cases h
  | c :: l => by
    by_cases hc : c = 32
    · exact .inr ⟨[], l, by rw [hc]; rfl, fun d h => by cases h⟩
    · rcases sp_split l with h | ⟨a, b, rfl, h⟩
      · left
        intro d hd
        rcases List.mem_cons.1 hd with rfl | hd
        · exact hc
        · exact h d hd
      · right
        refine ⟨c :: a, b, rfl, fun d hd => ?_⟩
        rcases List.mem_cons.1 hd with rfl | hd
        · exact hc
        · exact h d hd
theorem replK_nil : ∀ (n : Nat) (l : BS), l.length ≤ n → replaceK [32] [] (count l [32]) l = noSp l := by
  intro n
  induction n with
  | zero =>
    intro l hl
    have : l = [] := List.eq_nil_of_length_eq_zero (by omega)
    subst this
    rw [count_miss rfl]
    rfl
  | succ n ih =>
    intro l hl
    rcases sp_split l with h | ⟨a, b, rfl, h⟩
    · rw [count_miss (sp_none h)]
      have : noSp l = l := by
        unfold noSp
        rw [List.filter_eq_self]
        intro c hc
        simpa using h c hc
      rw [this]; rfl
    · have hi := sp_at b h
      have hd : (a ++ 32 :: b).drop (a.length + ([32] : BS).length) = b := by
        rw [show ([32] : BS).length = 1 from rfl, ← List.drop_drop, List.drop_left' rfl]; rfl
      have ha : noSp a = a := by
        unfold noSp
        rw [List.filter_eq_self]
        intro c hc
        simpa using h c hc
      have hc : noSp (32 :: b) = noSp b := rfl
      rw [count_hit (by simp) hi, hd, Nat.add_comm 1, replaceK_hit _ _ _ _ a.length hi, hd, ih b (by simp at hl; omega), List.take_left' rfl, noSp_app, ha, hc]
      simp
theorem repl_nil (l : BS) : replaceAll l [32] [] = noSp l := by
  unfold replaceAll replace
  rw [if_neg (by decide)]
  unfold replaceNum
  rw [if_pos (.inl (by decide))]
  exact replK_nil _ l (Nat.le_refl _)
theorem replaceNP (w : World) (s : ByteArray) (hs : s.size ≤ 100000) (hm : Mx w) : Calls Tryd.prog 11 #[.string s, .string ⟨#[32]⟩, .string ⟨#[]⟩] w fun e w' => e = .returned (.string ⟨(noSp s.data.toList).toArray⟩) ∧ Below w.heap.size w w' := by
  obtain ⟨-, m, hm1⟩ := hm
  have h3 : (⟨#[]⟩ : ByteArray).size = 0 := rfl
  have h := Any.strings_ReplaceAll laysRepl replX s ⟨#[32]⟩ ⟨#[]⟩ m w (by omega) hm1 (by decide) (by rw [h3]; omega)
  rw [show replaceAll s.data.toList (⟨#[32]⟩ : ByteArray).data.toList (⟨#[]⟩ : ByteArray).data.toList = noSp s.data.toList from repl_nil _] at h
  exact h
theorem bare_trim {l : List UInt8} (h : bare l = true) : Lib.trimB l 32 = l := by
  unfold bare at h
  rw [Bool.and_eq_true, decide_eq_true_eq, decide_eq_true_eq] at h
  have drop : ∀ l : List UInt8, l.head? ≠ some 32 → l.dropWhile (· == 32) = l := fun l h => by
    cases l with
    | nil => rfl
    | cons x r => rw [List.dropWhile_cons, if_neg (by simpa using h)]
  have h1 : (l.reverse.dropWhile (· == 32)).reverse = l := by
    rw [drop _ (by rw [List.head?_reverse]; exact h.2), List.reverse_reverse]
  show ((l.reverse.dropWhile (· == 32)).reverse).dropWhile (· == 32) = l
  rw [h1, drop _ h.1]
theorem trimP (w : World) (s : ByteArray) (hs : s.size ≤ 100000) (hb : bare s.data.toList = true) : Calls Tryd.prog 10 #[.string s, .string ⟨#[32]⟩] w fun e w' => e = .returned (.string s) ∧ Below w.heap.size w w' := by
  refine (Any.strings_Trim_one laysTrim s 32 (by decide) w (by omega)).mono fun e w' h => ?_
  obtain ⟨rfl, h⟩ := h
  refine ⟨?_, by rcases h with rfl | rfl; exact Below.refl _ _; exact (Below.refl _ _).drew⟩
  rw [bare_trim hb]

theorem one_cl : ∀ n, n < 256 → (clW [UInt8.ofNat n] == 2) = false := by decide +kernel
theorem one_narrow {g : Gl} (h : glErr g = 0) (h1 : g.text.data.toList.length = 1) : glW g = 1 := by
  obtain ⟨b, hb⟩ := List.length_eq_one_iff.1 h1
  have hn := one_cl b.toNat (UInt8.toNat_lt b)
  rw [UInt8.ofNat_toNat] at hn
  unfold glErr at h
  rw [ByteArray.toList_eq, hb] at h
  unfold glW
  by_cases h0 : clErr [b] ≠ 0
  · rw [if_pos h0] at h; cases h
  · rw [if_neg h0] at h
    cases hw : g.wide with
    | false => rfl
    | true => rw [if_pos (.inl (by rw [hw, hn]; simp))] at h; cases h
end Go.Proofs.YtmgepckhdgoemaaDoor
