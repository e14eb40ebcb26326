/- strconv.Itoa, narratorref27.digits, narratorlaw27.decimal; the listed variables of this seat. -/
import Derived.Test.YtnhcelckgfmljaaDoorW7
import Derived.Test.YtnhcelckgfmljaaDoorTab
import Derived.Shelf.Strconv.Itoa3
import Derived.Shelf.Unicode.PredsPay
import Derived.Lib.AppendIntMem
import Derived.Laws.Strings2
namespace Go.Proofs.YtnhcelckgfmljaaDoor
open Go.RowKit Go.Shelf Go.Lib

def laysItoaM_ren : Go.Shelf.Ren := ⟨fun | 129 => 48 | 171 => 18 | 243 => 25 | 246 => 33 | 283 => 39 | 284 => 40 | 285 => 41 | 286 => 42 | 317 => 47 | 318 => 49 | 319 => 50 | 320 => 51 | 337 => 52 | 338 => 53 | n => n, fun | 0 => 0 | 2 => 2 | 3 => 3 | 4 => 4 | 5 => 5 | 9 => 9 | 20 => 20 | 37 => 65 | 46 => 90 | 51 => 97 | 53 => 80 | 171 => 79 | 173 => 83 | 212 => 96 | 213 => 98 | 232 => 102 | 233 => 103 | n => n, fun | 17 => 2 | 18 => 3 | 19 => 4 | n => n⟩
theorem laysItoaM : Go.Proofs.LaysM.n171 Tryd.prog laysItoaM_ren := { mixed := by kernel_rfl, f129 := Tryd.func48.trans (congrArg some (by kernel_rfl)), f171 := Tryd.func18.trans (congrArg some (by kernel_rfl)), f243 := Tryd.func25.trans (congrArg some (by kernel_rfl)), f246 := Tryd.func33.trans (congrArg some (by kernel_rfl)), f283 := Tryd.func39.trans (congrArg some (by kernel_rfl)), f284 := Tryd.func40.trans (congrArg some (by kernel_rfl)), f285 := Tryd.func41.trans (congrArg some (by kernel_rfl)), f286 := Tryd.func42.trans (congrArg some (by kernel_rfl)), f317 := Tryd.func47.trans (congrArg some (by kernel_rfl)), f318 := Tryd.func49.trans (congrArg some (by kernel_rfl)), f319 := Tryd.func50.trans (congrArg some (by kernel_rfl)), f320 := Tryd.func51.trans (congrArg some (by kernel_rfl)), f337 := Tryd.func52.trans (congrArg some (by kernel_rfl)), f338 := Tryd.func53.trans (congrArg some (by kernel_rfl)), t0 := Tryd.underlying0, a0 := Tryd.isAgg0, z0 := Tryd.sizeOf0, v0 := Tryd.zeroValue0, t2 := Tryd.underlying2, a2 := Tryd.isAgg2, z2 := Tryd.sizeOf2, v2 := Tryd.zeroValue2, t3 := Tryd.underlying3, a3 := Tryd.isAgg3, z3 := Tryd.sizeOf3, v3 := Tryd.zeroValue3, t4 := Tryd.underlying4, a4 := Tryd.isAgg4, z4 := Tryd.sizeOf4, v4 := Tryd.zeroValue4, t5 := Tryd.underlying5, a5 := Tryd.isAgg5, z5 := Tryd.sizeOf5, v5 := Tryd.zeroValue5, t9 := Tryd.underlying9, a9 := Tryd.isAgg9, z9 := Tryd.sizeOf9, v9 := Tryd.zeroValue9, t20 := Tryd.underlying20, a20 := Tryd.isAgg20, z20 := Tryd.sizeOf20, v20 := Tryd.zeroValue20, t37 := Tryd.underlying65, a37 := Tryd.isAgg65, z37 := Tryd.sizeOf65, v37 := Tryd.zeroValue65, t46 := Tryd.underlying90, a46 := Tryd.isAgg90, z46 := Tryd.sizeOf90, v46 := Tryd.zeroValue90, t51 := Tryd.underlying97, a51 := Tryd.isAgg97, z51 := Tryd.sizeOf97, v51 := Tryd.zeroValue97, t53 := Tryd.underlying80, a53 := Tryd.isAgg80, z53 := Tryd.sizeOf80, v53 := Tryd.zeroValue80, t171 := Tryd.underlying79, a171 := Tryd.isAgg79, z171 := Tryd.sizeOf79, v171 := Tryd.zeroValue79, t173 := Tryd.underlying83, a173 := Tryd.isAgg83, z173 := Tryd.sizeOf83, v173 := Tryd.zeroValue83, t212 := Tryd.underlying96, a212 := Tryd.isAgg96, z212 := Tryd.sizeOf96, v212 := Tryd.zeroValue96, t213 := Tryd.underlying98, a213 := Tryd.isAgg98, z213 := Tryd.sizeOf98, t232 := Tryd.underlying102, a232 := Tryd.isAgg102, z232 := Tryd.sizeOf102, v232 := Tryd.zeroValue102, t233 := Tryd.underlying103, a233 := Tryd.isAgg103, z233 := Tryd.sizeOf103, v233 := Tryd.zeroValue103, g17 := by kernel_rfl, g18 := by kernel_rfl, g19 := by kernel_rfl, i0 := by kernel_rfl, i2 := by kernel_rfl, i3 := by kernel_rfl, i4 := by kernel_rfl, i5 := by kernel_rfl, i9 := by kernel_rfl, i20 := by kernel_rfl, i37 := by kernel_rfl, i46 := by kernel_rfl, i51 := by kernel_rfl, i53 := by kernel_rfl, i171 := by kernel_rfl, i173 := by kernel_rfl, i212 := by kernel_rfl, i232 := by kernel_rfl, i233 := by kernel_rfl, m17 := by kernel_rfl, m18 := by kernel_rfl, m19 := by kernel_rfl }

/-- What the variables that the row lists hold. -/
def Tabs27 (w : World) : Prop := Tabs w ∧ Lib.TabIs Tryd.prog w "internal/strconv.uint64pow10" .u64 Lib.pow10Tab
theorem Tabs27.below {w w' : World} (h : Tabs27 w) (hb : Below w.heap.size w w') : Tabs27 w' := ⟨h.1.below hb, TabIs_below (g := 2) (by kernel_rfl) h.2 hb⟩
theorem pow_same : (Rows.laid_internal_strconv_uint64pow10 : DataW Unit) = Lib.tabData .u64 Lib.pow10Tab := by kernel_rfl
theorem pow_of_reads {W : World} (h : Lib.VarReads Tryd.prog W "internal/strconv.uint64pow10" Rows.laid_internal_strconv_uint64pow10) : Lib.TabIs Tryd.prog W "internal/strconv.uint64pow10" .u64 Lib.pow10Tab := by
  rw [pow_same] at h
  obtain ⟨g', t', cs, fuel, p, hg', ht', hvar, hd⟩ := h
  have hg : Tryd.prog.globalNamed "internal/strconv.uint64pow10" = some 2 := by kernel_rfl
  obtain rfl := Option.some.inj (hg.symm.trans hg')
  have hty : (Tryd.prog.globals[2]?).map (·.type) = some 96 := by kernel_rfl
  obtain rfl := Option.some.inj (hty.symm.trans ht')
  unfold Lib.TabIs
  rw [hvar, ← cells_of_tab Tryd.underlying96 Tryd.underlying80 (by kernel_rfl) (by kernel_rfl) hd]

theorem dec_one (n : Nat) (h : n < 10) : Lib.decDigits n = [digC n] := by rw [Lib.decDigits]; simp [h, digC]
theorem dec_two (n : Nat) (h : 10 ≤ n) (h2 : n < 100) : Lib.decDigits n = [digC (n / 10), digC (n % 10)] := by
  rw [Lib.decDigits, dif_neg (by omega), dec_one _ (by omega)]; rfl
theorem dec_decL (n : Nat) (h : n ≤ 100) : Lib.itoa n = decL n := by
  unfold Lib.itoa
  rw [if_neg (by omega), Int.toNat_natCast]
  unfold decL
  by_cases h1 : 100 ≤ n
  · obtain rfl : n = 100 := by omega
    rw [if_pos h1, Lib.decDigits, dif_neg (by omega), dec_two _ (by omega) (by omega)]; rfl
  · rw [if_neg h1]
    by_cases h2 : 10 ≤ n
    · rw [if_pos h2, dec_two n h2 (by omega)]
    · rw [if_neg h2, dec_one n (by omega)]
theorem itoaP (w : World) (n : Nat) (h : n ≤ 100) (hT : Tabs27 w) : Calls Tryd.prog 18 #[.int .i64 n] w fun e w' => e = .returned (.string ⟨(decL n).toArray⟩) ∧ Below w.heap.size w w' :=
  (Any.strconv_Itoa laysItoaM n (by omega) (by omega) w hT.2).mono fun e w' ⟨he, k, os, hw⟩ => by
    rw [dec_decL n h] at he
    exact ⟨he, by rw [hw]; exact Lib.below_grow _ w (Nat.le_refl _) k os⟩

def digB (k : Nat) : ByteArray := ⟨#[digC k]⟩
theorem digB_size (k : Nat) : (digB k).size = 1 := rfl
theorem ten_cut (n : Nat) (h : n < 10) (w : World) : (Instr.slice 9 (.string ⟨#[48, 49, 50, 51, 52, 53, 54, 55, 56, 57]⟩) (some (.int .i64 (n : Int))) (some (.int .i64 ((n : Int) + 1))) none).run Tryd.prog w = .ok (.string (digB n)) w := by
  rcases (show n = 0 ∨ n = 1 ∨ n = 2 ∨ n = 3 ∨ n = 4 ∨ n = 5 ∨ n = 6 ∨ n = 7 ∨ n = 8 ∨ n = 9 by omega) with rfl | rfl | rfl | rfl | rfl | rfl | rfl | rfl | rfl | rfl <;> kernel_rfl
theorem digC_nat (k : Nat) (h : k < 10) : (digC k).toNat = 48 + k := by
  have : ∀ k, k < 10 → (digC k).toNat = 48 + k := by decide
  exact this k h
/-- The digits of a number. -/
def decB (n : Nat) : ByteArray := ⟨(decL n).toArray⟩
theorem decB_one (n : Nat) (h : n < 10) : decB n = digB n := by unfold decB decL; rw [if_neg (by omega), if_neg (by omega)]; rfl
theorem decB_more (n : Nat) (h : 10 ≤ n) (h2 : n ≤ 100) : decB n = decB (n / 10) ++ digB (n % 10) := by
  have : ∀ k : Fin 101, 10 ≤ k.val → (decB k.val).data.toList = (decB (k.val / 10) ++ digB (k.val % 10)).data.toList := by decide +kernel
  have h3 := this ⟨n, by omega⟩ h
  exact ByteArray.ext (Array.toList_inj.1 h3)
theorem decB_size (n : Nat) : (decB n).size ≤ 3 := (decL_len n).2
end Go.Proofs.YtnhcelckgfmljaaDoor
