/- strconv.Itoa, narratorref27.digits, narratorlaw27.decimal; the listed variables of this seat. -/
import Derived.Test.YtalmbcelkllpjaaDoorW7
import Derived.Test.YtalmbcelkllpjaaDoorTab
import Derived.Shelf.Strconv.Itoa3
import Derived.Shelf.Unicode.PredsPay
import Derived.Lib.AppendIntMem
import Derived.Laws.Strings2
namespace Go.Proofs.YtalmbcelkllpjaaDoor
open Go.RowKit Go.Shelf Go.Lib

def laysItoaM_ren : Go.Shelf.Ren := ⟨fun | 129 => 78 | 171 => 35 | 243 => 46 | 246 => 57 | 283 => 65 | 284 => 66 | 285 => 67 | 286 => 68 | 317 => 77 | 318 => 79 | 319 => 80 | 320 => 81 | 337 => 87 | 338 => 88 | n => n, fun | 0 => 0 | 2 => 2 | 3 => 3 | 4 => 4 | 5 => 5 | 9 => 9 | 20 => 20 | 37 => 28 | 46 => 98 | 51 => 105 | 53 => 88 | 171 => 87 | 173 => 91 | 212 => 104 | 213 => 106 | 232 => 117 | 233 => 118 | n => n, fun | 17 => 2 | 18 => 3 | 19 => 4 | n => n⟩
theorem laysItoaM : Go.Proofs.LaysM.n171 Tryd.prog laysItoaM_ren := { mixed := by kernel_rfl, f129 := Tryd.func78.trans (congrArg some (by kernel_rfl)), f171 := Tryd.func35.trans (congrArg some (by kernel_rfl)), f243 := Tryd.func46.trans (congrArg some (by kernel_rfl)), f246 := Tryd.func57.trans (congrArg some (by kernel_rfl)), f283 := Tryd.func65.trans (congrArg some (by kernel_rfl)), f284 := Tryd.func66.trans (congrArg some (by kernel_rfl)), f285 := Tryd.func67.trans (congrArg some (by kernel_rfl)), f286 := Tryd.func68.trans (congrArg some (by kernel_rfl)), f317 := Tryd.func77.trans (congrArg some (by kernel_rfl)), f318 := Tryd.func79.trans (congrArg some (by kernel_rfl)), f319 := Tryd.func80.trans (congrArg some (by kernel_rfl)), f320 := Tryd.func81.trans (congrArg some (by kernel_rfl)), f337 := Tryd.func87.trans (congrArg some (by kernel_rfl)), f338 := Tryd.func88.trans (congrArg some (by kernel_rfl)), t0 := Tryd.underlying0, a0 := Tryd.isAgg0, z0 := Tryd.sizeOf0, v0 := Tryd.zeroValue0, t2 := Tryd.underlying2, a2 := Tryd.isAgg2, z2 := Tryd.sizeOf2, v2 := Tryd.zeroValue2, t3 := Tryd.underlying3, a3 := Tryd.isAgg3, z3 := Tryd.sizeOf3, v3 := Tryd.zeroValue3, t4 := Tryd.underlying4, a4 := Tryd.isAgg4, z4 := Tryd.sizeOf4, v4 := Tryd.zeroValue4, t5 := Tryd.underlying5, a5 := Tryd.isAgg5, z5 := Tryd.sizeOf5, v5 := Tryd.zeroValue5, t9 := Tryd.underlying9, a9 := Tryd.isAgg9, z9 := Tryd.sizeOf9, v9 := Tryd.zeroValue9, t20 := Tryd.underlying20, a20 := Tryd.isAgg20, z20 := Tryd.sizeOf20, v20 := Tryd.zeroValue20, t37 := Tryd.underlying28, a37 := Tryd.isAgg28, z37 := Tryd.sizeOf28, v37 := Tryd.zeroValue28, t46 := Tryd.underlying98, a46 := Tryd.isAgg98, z46 := Tryd.sizeOf98, v46 := Tryd.zeroValue98, t51 := Tryd.underlying105, a51 := Tryd.isAgg105, z51 := Tryd.sizeOf105, v51 := Tryd.zeroValue105, t53 := Tryd.underlying88, a53 := Tryd.isAgg88, z53 := Tryd.sizeOf88, v53 := Tryd.zeroValue88, t171 := Tryd.underlying87, a171 := Tryd.isAgg87, z171 := Tryd.sizeOf87, v171 := Tryd.zeroValue87, t173 := Tryd.underlying91, a173 := Tryd.isAgg91, z173 := Tryd.sizeOf91, v173 := Tryd.zeroValue91, t212 := Tryd.underlying104, a212 := Tryd.isAgg104, z212 := Tryd.sizeOf104, v212 := Tryd.zeroValue104, t213 := Tryd.underlying106, a213 := Tryd.isAgg106, z213 := Tryd.sizeOf106, t232 := Tryd.underlying117, a232 := Tryd.isAgg117, z232 := Tryd.sizeOf117, v232 := Tryd.zeroValue117, t233 := Tryd.underlying118, a233 := Tryd.isAgg118, z233 := Tryd.sizeOf118, v233 := Tryd.zeroValue118, g17 := by kernel_rfl, g18 := by kernel_rfl, g19 := by kernel_rfl, i0 := by kernel_rfl, i2 := by kernel_rfl, i3 := by kernel_rfl, i4 := by kernel_rfl, i5 := by kernel_rfl, i9 := by kernel_rfl, i20 := by kernel_rfl, i37 := by kernel_rfl, i46 := by kernel_rfl, i51 := by kernel_rfl, i53 := by kernel_rfl, i171 := by kernel_rfl, i173 := by kernel_rfl, i212 := by kernel_rfl, i232 := by kernel_rfl, i233 := by kernel_rfl, m17 := by kernel_rfl, m18 := by kernel_rfl, m19 := by kernel_rfl }

/-- What the variables that the row lists hold. -/
def Tabs27 (w : World) : Prop := Tabs w ∧ Lib.TabIs Tryd.prog w "internal/strconv.uint64pow10" .u64 Lib.pow10Tab
theorem Tabs27.below {w w' : World} (h : Tabs27 w) (hb : Below w.heap.size w w') : Tabs27 w' := ⟨h.1.below hb, TabIs_below (g := 2) (by kernel_rfl) h.2 hb⟩
theorem pow_same : (Rows.laid_internal_strconv_uint64pow10 : DataW Unit) = Lib.tabData .u64 Lib.pow10Tab := by kernel_rfl
theorem pow_of_reads {W : World} (h : Lib.VarReads Tryd.prog W "internal/strconv.uint64pow10" Rows.laid_internal_strconv_uint64pow10) : Lib.TabIs Tryd.prog W "internal/strconv.uint64pow10" .u64 Lib.pow10Tab := by
  rw [pow_same] at h
  obtain ⟨g', t', cs, fuel, p, hg', ht', hvar, hd⟩ := h
  have hg : Tryd.prog.globalNamed "internal/strconv.uint64pow10" = some 2 := by kernel_rfl
  obtain rfl := Option.some.inj (hg.symm.trans hg')
  have hty : (Tryd.prog.globals[2]?).map (·.type) = some 104 := by kernel_rfl
  obtain rfl := Option.some.inj (hty.symm.trans ht')
  unfold Lib.TabIs
  rw [hvar, ← cells_of_tab Tryd.underlying104 Tryd.underlying88 (by kernel_rfl) (by kernel_rfl) hd]

theorem dec_one (n : Nat) (h : n < 10) : Lib.decDigits n = [digC n] := by rw [Lib.decDigits]; simp [h, digC]
theorem dec_two (n : Nat) (h : 10 ≤ n) (h2 : n < 100) : Lib.decDigits n = [digC (n / 10), digC (n % 10)] := by
  rw [Lib.decDigits, dif_neg (by omega), dec_one _ (by omega)]; rfl
theorem dec_decL (n : Nat) (h : n ≤ 100) : Lib.itoa n = decL n := by
  unfold Lib.itoa
  rw [if_neg (by omega), Int.toNat_natCast]
  unfold decL
  by_cases h1 : 100 ≤ n
  · obtain rfl : n = 100 := by omega
    rw [if_pos h1, Lib.decDigits, dif_neg (by omega), dec_two _ (by omega) (by omega)]; rfl
  · rw [if_neg h1]
    by_cases h2 : 10 ≤ n
    · rw [if_pos h2, dec_two n h2 (by omega)]
    · rw [if_neg h2, dec_one n (by omega)]
theorem itoaP (w : World) (n : Nat) (h : n ≤ 100) (hT : Tabs27 w) : Calls Tryd.prog 35 #[.int .i64 n] w fun e w' => e = .returned (.string ⟨(decL n).toArray⟩) ∧ Below w.heap.size w w' :=
  (Any.strconv_Itoa laysItoaM n (by omega) (by omega) w hT.2).mono fun e w' ⟨he, k, os, hw⟩ => by
    rw [dec_decL n h] at he
    exact ⟨he, by rw [hw]; exact Lib.below_grow _ w (Nat.le_refl _) k os⟩

def digB (k : Nat) : ByteArray := ⟨#[digC k]⟩
theorem digB_size (k : Nat) : (digB k).size = 1 := rfl
theorem ten_cut (n : Nat) (h : n < 10) (w : World) : (Instr.slice 9 (.string ⟨#[48, 49, 50, 51, 52, 53, 54, 55, 56, 57]⟩) (some (.int .i64 (n : Int))) (some (.int .i64 ((n : Int) + 1))) none).run Tryd.prog w = .ok (.string (digB n)) w := by
  rcases (show n = 0 ∨ n = 1 ∨ n = 2 ∨ n = 3 ∨ n = 4 ∨ n = 5 ∨ n = 6 ∨ n = 7 ∨ n = 8 ∨ n = 9 by omega) with rfl | rfl | rfl | rfl | rfl | rfl | rfl | rfl | rfl | rfl <;> kernel_rfl
theorem digC_nat (k : Nat) (h : k < 10) : (digC k).toNat = 48 + k := by
  have : ∀ k, k < 10 → (digC k).toNat = 48 + k := by decide
  exact this k h
/-- The digits of a number. -/
def decB (n : Nat) : ByteArray := ⟨(decL n).toArray⟩
theorem decB_one (n : Nat) (h : n < 10) : decB n = digB n := by unfold decB decL; rw [if_neg (by omega), if_neg (by omega)]; rfl
theorem decB_more (n : Nat) (h : 10 ≤ n) (h2 : n ≤ 100) : decB n = decB (n / 10) ++ digB (n % 10) := by
  have : ∀ k : Fin 101, 10 ≤ k.val → (decB k.val).data.toList = (decB (k.val / 10) ++ digB (k.val % 10)).data.toList := by decide +kernel
  have h3 := this ⟨n, by omega⟩ h
  exact ByteArray.ext (Array.toList_inj.1 h3)
theorem decB_size (n : Nat) : (decB n).size ≤ 3 := (decL_len n).2
set_option maxHeartbeats 1000000 in
theorem digits_one (w : World) (n : Nat) (h : n < 10) : Calls Tryd.prog 39 #[.int .i64 n] w fun e w' => e = .returned (.string (decB n)) ∧ w = w' := by
  rw [decB_one n h]
  have hcut := ten_cut n h
  go_enter Tryd.func39, Tryd.ntmps39
  go_wp2
  go_ret
  exact ⟨rfl, rfl⟩
set_option maxHeartbeats 1000000 in
theorem digits_two (w : World) (n : Nat) (h : 10 ≤ n) (h2 : n < 100) : Calls Tryd.prog 39 #[.int .i64 n] w fun e w' => e = .returned (.string (decB n)) ∧ w = w' := by
  have H1 := hide (fun w1 => digits_one w1 (n / 10) (by omega))
  have H2 := hide (fun w1 => digits_one w1 (n % 10) (by omega))
  have hs1 := decB_size (n / 10)
  have hs2 := decB_size (n % 10)
  have hcat : (decB (n / 10)).size + (decB (n % 10)).size ≤ 9223372036854775807 := by omega
  have HE := hide (show decB n = decB (n / 10) ++ decB (n % 10) by rw [decB_more n h (by omega), decB_one (n % 10) (by omega)])
  go_enter Tryd.func39, Tryd.ntmps39
  have ed : ((n : Int) / 10) = ((n / 10 : Nat) : Int) := by simp
  have em : ((n : Int) % 10) = ((n % 10 : Nat) : Int) := by simp
  have Ed := hide ed
  have Em := hide em
  clear ed em
  go_wp2_with fail
  rw [Ed.out]
  refine (H1.out _).mono ?_
  rintro e w1 ⟨rfl, rfl⟩
  go_wp2_with fail
  rw [Em.out]
  refine (H2.out _).mono ?_
  rintro e w1 ⟨rfl, rfl⟩
  go_wp2_with fail
  go_ret
  exact ⟨by rw [HE.out]; rfl, rfl⟩
set_option maxHeartbeats 1000000 in
theorem digits_hund (w : World) : Calls Tryd.prog 39 #[.int .i64 100] w fun e w' => e = .returned (.string (decB 100)) ∧ w = w' := by
  have H1 := hide (fun w1 => digits_two w1 10 (by omega) (by omega))
  have H2 := hide (fun w1 => digits_one w1 0 (by omega))
  have HE := hide (show decB 100 = decB 10 ++ decB 0 from decB_more 100 (by omega) (by omega))
  have hs1 := decB_size 10
  have hs2 := decB_size 0
  have hcat : (decB 10).size + (decB 0).size ≤ 9223372036854775807 := by omega
  go_enter Tryd.func39, Tryd.ntmps39
  go_wp2_with fail
  refine (H1.out _).mono ?_
  rintro e w1 ⟨rfl, rfl⟩
  go_wp2_with fail
  refine (H2.out _).mono ?_
  rintro e w1 ⟨rfl, rfl⟩
  go_wp2_with fail
  go_ret
  exact ⟨by rw [HE.out]; rfl, rfl⟩
theorem digits27 (w : World) (n : Nat) (h : n ≤ 100) : Calls Tryd.prog 39 #[.int .i64 n] w fun e w' => e = .returned (.string (decB n)) ∧ w = w' := by
  rcases (show n < 10 ∨ (10 ≤ n ∧ n < 100) ∨ n = 100 by omega) with h1 | ⟨h1, h2⟩ | rfl
  · exact digits_one w n h1
  · exact digits_two w n h1 h2
  · exact digits_hund w
set_option maxRecDepth 100000 in
set_option maxHeartbeats 1000000 in
theorem decimalP (w : World) (n : Nat) (h : n ≤ 100) : Calls Tryd.prog 16 #[.int .i64 n] w fun e w' => e = .returned (.string (decB n)) ∧ Below w.heap.size w w' := by
  rcases (show n < 10 ∨ (10 ≤ n ∧ n < 100) ∨ n = 100 by omega) with h1 | ⟨h1, h2⟩ | rfl
  · have HE := hide (show decB n = ⟨[digC n].toArray⟩ from decB_one n h1)
    go_enter Tryd.func16, Tryd.ntmps16
    have hown := own_eq (own_lit w w.heap.size 5 1 1 #[.int .u8 (48 + (n : Int))] (Nat.le_refl _) (by omega) rfl) (n' := [digC n].length) (xs' := [digC n].map fun b => Value.int .u8 b.toNat) rfl (by simp only [List.map_cons, List.map_nil, digC_nat n h1]; rfl)
    go_wp2_with (refine wpList_str _ (.tmp 20) 28 9 5 rfl (by rfl) Tryd.underlying28 Tryd.underlying5 Tryd.underlying9 w.heap.size _ _ (by rfl) hown ?_)
    go_ret
    exact ⟨by rw [HE.out]; rfl, (Below.refl _ _).alloc (Nat.le_refl _) _⟩
  · have HE := hide (show decB n = ⟨[digC (n / 10), digC (n % 10)].toArray⟩ by unfold decB decL; rw [if_neg (by omega), if_pos h1])
    go_enter Tryd.func16, Tryd.ntmps16
    have hown := own_eq (own_lit w w.heap.size 5 1 2 #[.int .u8 (48 + (n : Int) / 10), .int .u8 (48 + (n : Int) % 10)] (Nat.le_refl _) (by omega) rfl) (n' := [digC (n / 10), digC (n % 10)].length) (xs' := [digC (n / 10), digC (n % 10)].map fun b => Value.int .u8 b.toNat) rfl (by simp only [List.map_cons, List.map_nil, digC_nat (n / 10) (by omega), digC_nat (n % 10) (by omega)]; simp)
    go_wp2_with (refine wpList_str _ (.tmp 15) 28 9 5 rfl (by rfl) Tryd.underlying28 Tryd.underlying5 Tryd.underlying9 w.heap.size _ _ (by rfl) hown ?_)
    go_ret
    exact ⟨by rw [HE.out]; rfl, (Below.refl _ _).alloc (Nat.le_refl _) _⟩
  · go_enter Tryd.func16, Tryd.ntmps16
    go_wp2
    go_ret
    exact ⟨rfl, Below.refl _ _⟩
end Go.Proofs.YtalmbcelkllpjaaDoor
