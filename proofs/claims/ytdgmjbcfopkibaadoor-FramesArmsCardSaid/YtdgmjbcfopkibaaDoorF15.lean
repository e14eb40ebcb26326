/- frames.Arms; the walk of the law FramesArms. -/
import Derived.Test.YtdgmjbcfopkibaaDoorF14
import Derived.Test.YtdgmjbcfopkibaaDoorF13
namespace Go.Proofs.YtdgmjbcfopkibaaDoor
open Go.RowKit Go.Lib

def bitB (a k : Nat) : Bool := !((a &&& k) == 0)
theorem bit_ne (a k : Nat) : ((((a &&& k : Nat) : Int)) != 0) = bitB a k := by
  unfold bitB
  by_cases h : a &&& k = 0
  · rw [h]; rfl
  · rw [beq_eq_false_iff_ne.2 h, Bool.not_false, bne_iff_ne]; omega
theorem bit_gt (a k : Nat) : decide (0 < (((a &&& k : Nat) : Int))) = bitB a k ∧ decide (0 < (a &&& k)) = bitB a k := by
  unfold bitB
  by_cases h : a &&& k = 0
  · rw [h]; exact ⟨rfl, rfl⟩
  · rw [beq_eq_false_iff_ne.2 h, Bool.not_false]; exact ⟨decide_eq_true (by omega), decide_eq_true (by omega)⟩
set_option maxHeartbeats 1000000 in
theorem ArmsP (w : World) (s : ByteArray) (hs : s.size ≤ 500) : Calls Tryd.prog 12 #[.string s] w fun e w' => e = .returned (.tuple #[.bool (bitB (armT s.data.toList) 1), .bool (bitB (armT s.data.toList) 2), .bool (bitB (armT s.data.toList) 4), .bool (bitB (armT s.data.toList) 8)]) ∧ Below w.heap.size w w' := by
  have HA := hide (armsP w s hs)
  have ha := armT_lt s.data.toList
  obtain ⟨a, hA⟩ : ∃ a, armT s.data.toList = a := ⟨_, rfl⟩
  rw [hA] at HA ha ⊢
  have e1 := and_arms (n := 1) ha (by omega)
  have e2 := and_arms (n := 2) ha (by omega)
  have e4 := and_arms (n := 4) ha (by omega)
  have e8 := and_arms (n := 8) ha (by omega)
  have n1 := bit_ne a 1
  have n2 := bit_ne a 2
  have n4 := bit_ne a 4
  have n8 := bit_ne a 8
  obtain ⟨m1, h1⟩ : ∃ m, a &&& 1 = m := ⟨_, rfl⟩
  obtain ⟨m2, h2⟩ : ∃ m, a &&& 2 = m := ⟨_, rfl⟩
  obtain ⟨m4, h4⟩ : ∃ m, a &&& 4 = m := ⟨_, rfl⟩
  obtain ⟨m8, h8⟩ : ∃ m, a &&& 8 = m := ⟨_, rfl⟩
  obtain ⟨q1, hq1⟩ : ∃ q, bitB a 1 = q := ⟨_, rfl⟩
  obtain ⟨q2, hq2⟩ : ∃ q, bitB a 2 = q := ⟨_, rfl⟩
  obtain ⟨q4, hq4⟩ : ∃ q, bitB a 4 = q := ⟨_, rfl⟩
  obtain ⟨q8, hq8⟩ : ∃ q, bitB a 8 = q := ⟨_, rfl⟩
  rw [h1] at e1 n1
  rw [h2] at e2 n2
  rw [h4] at e4 n4
  rw [h8] at e8 n8
  rw [hq1] at n1 ⊢
  rw [hq2] at n2 ⊢
  rw [hq4] at n4 ⊢
  rw [hq8] at n8 ⊢
  simp only [Int.cast_ofNat_Int] at e1 e2 e4 e8
  clear hA ha h1 h2 h4 h8 hq1 hq2 hq4 hq8
  go_enter Tryd.func12, Tryd.ntmps12
  go_wp2_with (go_at_call 24; refine HA.out.mono ?_; rintro e w1 ⟨rfl, hb1⟩)
  exact bodyPost_ret (v := .tuple #[.bool q1, .bool q2, .bool q4, .bool q8]) (by simp [results, Tryd.results12, go_sem]) rfl ⟨rfl, hb1⟩

set_option maxRecDepth 100000 in
set_option maxHeartbeats 1000000 in
theorem armsLawP (w : World) (s : ByteArray) (hT : Tabs w) : Calls Tryd.prog 4 #[.string s] w fun e w' => e = .returned (.bool true) ∧ Below w.heap.size w w' := by
  have HAw := hide (fun w1 (hb : Below w.heap.size w w1) => awakeP w1 (hT.below hb))
  by_cases hz : 40 < s.size
  · have hzI : (40 : Int) < (s.size : Int) := by omega
    have HA0 := hide (HAw.out w (Below.refl _ _))
    clear HAw hT hz
    go_enter Tryd.func4, Tryd.ntmps4
    go_wp2_with (go_at_call 8; refine HA0.out.mono ?_; rintro e w1 ⟨rfl, hb1⟩)
    go_ret
    exact ⟨rfl, hb1⟩
  have hzI : ¬ (40 : Int) < (s.size : Int) := by omega
  have HA := hide (fun w1 => ArmsP w1 s (by omega))
  have HA2 := hide (fun w1 => arms23P w1 s (by omega))
  have ha := armT_lt s.data.toList
  obtain ⟨a, hA⟩ : ∃ a, armT s.data.toList = a := ⟨_, rfl⟩
  rw [hA] at HA HA2 ha
  have e1 := and_arms (n := 1) ha (by omega)
  have e2 := and_arms (n := 2) ha (by omega)
  have e4 := and_arms (n := 4) ha (by omega)
  have e8 := and_arms (n := 8) ha (by omega)
  obtain ⟨n1, n1'⟩ := bit_gt a 1
  obtain ⟨n2, n2'⟩ := bit_gt a 2
  obtain ⟨n4, n4'⟩ := bit_gt a 4
  obtain ⟨n8, n8'⟩ := bit_gt a 8
  obtain ⟨m1, h1⟩ : ∃ m, a &&& 1 = m := ⟨_, rfl⟩
  obtain ⟨m2, h2⟩ : ∃ m, a &&& 2 = m := ⟨_, rfl⟩
  obtain ⟨m4, h4⟩ : ∃ m, a &&& 4 = m := ⟨_, rfl⟩
  obtain ⟨m8, h8⟩ : ∃ m, a &&& 8 = m := ⟨_, rfl⟩
  obtain ⟨q1, hq1⟩ : ∃ q, bitB a 1 = q := ⟨_, rfl⟩
  obtain ⟨q2, hq2⟩ : ∃ q, bitB a 2 = q := ⟨_, rfl⟩
  obtain ⟨q4, hq4⟩ : ∃ q, bitB a 4 = q := ⟨_, rfl⟩
  obtain ⟨q8, hq8⟩ : ∃ q, bitB a 8 = q := ⟨_, rfl⟩
  rw [h1] at e1 n1 n1'
  rw [h2] at e2 n2 n2'
  rw [h4] at e4 n4 n4'
  rw [h8] at e8 n8 n8'
  rw [hq1] at n1 n1' HA
  rw [hq2] at n2 n2' HA
  rw [hq4] at n4 n4' HA
  rw [hq8] at n8 n8' HA
  simp only [Int.cast_ofNat_Int] at e1 e2 e4 e8
  clear hA ha h1 h2 h4 h8 hq1 hq2 hq4 hq8 hT hz
  go_enter Tryd.func4, Tryd.ntmps4
  go_wp2_with (first
    | (go_at_call 12; refine (HA.out w).mono ?_; rintro e w1 ⟨rfl, hb1⟩; have Hb1 := hide hb1; clear hb1)
    | (go_at_call 13; refine (HA2.out w1).mono ?_; rintro e w2 ⟨rfl, hb2⟩; have Hb2 := hide (Hb1.out.trans (hb2.mono Hb1.out.size)); clear hb2)
    | (go_at_call 8; refine (HAw.out w2 Hb2.out).mono ?_; rintro e w3 ⟨rfl, hb3⟩)
    | fail)
  go_ret
  exact ⟨rfl, Hb2.out.trans (hb3.mono Hb2.out.size)⟩
end Go.Proofs.YtdgmjbcfopkibaaDoor
