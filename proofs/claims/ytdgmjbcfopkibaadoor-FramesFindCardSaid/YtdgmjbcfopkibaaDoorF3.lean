/- frames.arms: the arms of a text. -/
import Derived.Test.YtdgmjbcfopkibaaDoorF1
import Derived.Test.YtdgmjbcfopkibaaDoorSh1
namespace Go.Proofs.YtdgmjbcfopkibaaDoor
open Go.RowKit

theorem straightP (w : World) (r f : Int) (h0 : 0 ≤ f) (h1 : f ≤ r) (h2 : r ≤ 100000) : Calls Tryd.prog 72 #[.int .i32 r, .int .i32 f] w fun e w' => e = .returned (.int .i64 (if (r - f) / 2 % 2 = 0 then 10 else 5)) ∧ w = w' := by
  obtain ⟨d, hd⟩ : ∃ d : Nat, r - f = d := ⟨(r - f).toNat, by omega⟩
  have hr : r = f + d := by omega
  subst hr
  have hw : f + (d : Int) - f = d := by omega
  obtain ⟨q, hq⟩ : ∃ q : Nat, d / 2 = q := ⟨_, rfl⟩
  have hqI : (d : Int) / 2 = (q : Int) := by omega
  have hqT : Int.tdiv (d : Int) 2 = (q : Int) := by rw [Int.tdiv_eq_ediv_of_nonneg (by omega)]; exact hqI
  obtain ⟨m, hm⟩ : ∃ m : Nat, q % 2 = m := ⟨_, rfl⟩
  have hmI : (q : Int) % 2 = (m : Int) := by omega
  have hmT : Int.tmod (q : Int) 2 = (m : Int) := by rw [Int.tmod_eq_emod_of_nonneg (by omega)]; exact hmI
  rw [hw, hqI, hmI]
  have hq5 : q ≤ 100000 := by omega
  have hd5 : d ≤ 100000 := by omega
  by_cases h : m = 0
  · have q1 : ((m : Int) == 0) = true := by rw [h]; rfl
    rw [if_pos (by omega)]
    clear hq hqI hm hmI h
    go_enter Tryd.func72, Tryd.ntmps72
    go_wp2
    go_ret
    exact ⟨rfl, rfl⟩
  · have q1 : ((m : Int) == 0) = false := by rw [beq_eq_false_iff_ne]; omega
    rw [if_neg (by omega)]
    clear hq hqI hm hmI h
    go_enter Tryd.func72, Tryd.ntmps72
    go_wp2
    go_ret
    exact ⟨rfl, rfl⟩

theorem asciiP (w : World) (r : Int) (h : ¬ (9472 ≤ r ∧ r ≤ 9599)) : Calls Tryd.prog 46 #[.int .i32 r] w fun e w' => e = .returned (.int .i64 (armC r)) ∧ w = w' := by
  unfold armC
  by_cases h1 : r = 45
  · subst h1
    go_enter Tryd.func46, Tryd.ntmps46
    go_wp2
    go_ret
    exact ⟨rfl, rfl⟩
  by_cases h2 : r = 124
  · subst h2
    go_enter Tryd.func46, Tryd.ntmps46
    go_wp2
    go_ret
    exact ⟨rfl, rfl⟩
  by_cases h3 : r = 43
  · subst h3
    go_enter Tryd.func46, Tryd.ntmps46
    go_wp2
    go_ret
    exact ⟨rfl, rfl⟩
  rw [if_neg h1, if_neg h2, if_neg h3, if_neg h]
  have q1 : (r == 45) = false := beq_eq_false_iff_ne.2 h1
  have q2 : (r == 124) = false := beq_eq_false_iff_ne.2 h2
  have q3 : (r == 43) = false := beq_eq_false_iff_ne.2 h3
  clear h h1 h2 h3
  go_enter Tryd.func46, Tryd.ntmps46
  go_wp2
  go_ret
  exact ⟨rfl, rfl⟩

theorem armC_tab (i : Nat) (h : i < 128) : armC ((9472 + i : Nat) : Int) = armTab.getD i 0 := by
  unfold armC
  rw [if_neg (by omega), if_neg (by omega), if_neg (by omega), if_pos (by omega)]
  congr 1
  omega
def lightF (i : Nat) : Int := if i ≤ 11 then (if i / 2 % 2 = 0 then 10 else 5) else if i ≤ 15 then 6 else if i ≤ 19 then 12 else if i ≤ 23 then 3 else if i ≤ 27 then 9 else if i ≤ 35 then 7 else if i ≤ 43 then 13 else if i ≤ 51 then 14 else if i ≤ 59 then 11 else if i ≤ 75 then 15 else (if (i - 76) / 2 % 2 = 0 then 10 else 5)
theorem light_tab : ∀ i : Fin 80, ((armTab.getD i.val 0 : Nat) : Int) = lightF i.val := by decide +kernel
theorem lightF_lo {i : Nat} (h : i ≤ 11) : lightF i = if i / 2 % 2 = 0 then 10 else 5 := by unfold lightF; rw [if_pos h]
theorem lightF_hi {i : Nat} (h : 76 ≤ i) : lightF i = if (i - 76) / 2 % 2 = 0 then 10 else 5 := by
  unfold lightF
  rw [if_neg (by omega), if_neg (by omega), if_neg (by omega), if_neg (by omega), if_neg (by omega), if_neg (by omega), if_neg (by omega), if_neg (by omega), if_neg (by omega), if_neg (by omega)]
set_option maxRecDepth 100000 in
set_option maxHeartbeats 2000000 in
theorem lightP (w : World) (i : Nat) (h : i < 80) : Calls Tryd.prog 47 #[.int .i32 ((9472 + i : Nat) : Int)] w fun e w' => e = .returned (.int .i64 (armC ((9472 + i : Nat) : Int))) ∧ w = w' := by
  rw [armC_tab i (by omega), light_tab ⟨i, h⟩]
  dsimp only
  have HS1 := hide (fun W (h2 : i ≤ 11) => (straightP W ((9472 + i : Nat) : Int) 9472 (by omega) (by omega) (by omega)).mono fun e w' h => (show e = .returned (.int .i64 (lightF i)) ∧ W = w' from ⟨by
    rw [h.1, lightF_lo h2]
    have e : (((9472 + i : Nat) : Int) - 9472) / 2 % 2 = ((i / 2 % 2 : Nat) : Int) := by
      rw [show ((9472 + i : Nat) : Int) - 9472 = (i : Int) by omega]; omega
    rw [e]
    by_cases hx : i / 2 % 2 = 0
    · rw [if_pos hx, if_pos (by rw [hx]; rfl)]
    · rw [if_neg hx, if_neg (by omega)], h.2⟩))
  have HS2 := hide (fun W (h2 : 76 ≤ i) => (straightP W ((9472 + i : Nat) : Int) 9548 (by omega) (by omega) (by omega)).mono fun e w' h => (show e = .returned (.int .i64 (lightF i)) ∧ W = w' from ⟨by
    rw [h.1, lightF_hi h2]
    obtain ⟨j, hj⟩ : ∃ j, i - 76 = j := ⟨_, rfl⟩
    rw [hj]
    have e : (((9472 + i : Nat) : Int) - 9548) / 2 % 2 = ((j / 2 % 2 : Nat) : Int) := by
      rw [show ((9472 + i : Nat) : Int) - 9548 = (j : Int) by omega]; omega
    rw [e]
    by_cases hx : j / 2 % 2 = 0
    · rw [if_pos hx, if_pos (by rw [hx]; rfl)]
    · rw [if_neg hx, if_neg (by omega)], h.2⟩))
  obtain ⟨r, hr⟩ : ∃ r : Int, ((9472 + i : Nat) : Int) = r := ⟨_, rfl⟩
  rw [hr] at HS1 HS2 ⊢
  rcases (show (0 ≤ i ∧ i ≤ 11) ∨ (12 ≤ i ∧ i ≤ 15) ∨ (16 ≤ i ∧ i ≤ 19) ∨ (20 ≤ i ∧ i ≤ 23) ∨ (24 ≤ i ∧ i ≤ 27) ∨ (28 ≤ i ∧ i ≤ 35) ∨ (36 ≤ i ∧ i ≤ 43) ∨ (44 ≤ i ∧ i ≤ 51) ∨ (52 ≤ i ∧ i ≤ 59) ∨ (60 ≤ i ∧ i ≤ 75) ∨ (76 ≤ i ∧ i ≤ 79) by omega) with hc | hc | hc | hc | hc | hc | hc | hc | hc | hc | hc
  · have d0 : decide (r ≤ 9483) = true := decide_eq_true (by omega)
    have HC := hide (show i ≤ 11 by omega)
    clear hr hc h
    go_enter Tryd.func47, Tryd.ntmps47
    go_wp2_with (go_at_call 72; (refine (HS1.out _ HC.out).mono ?_); rintro e w1 ⟨rfl, rfl⟩)
    go_ret
    exact ⟨rfl, rfl⟩
  · have d0 : decide (r ≤ 9483) = false := decide_eq_false (by omega)
    have d1 : decide (r ≤ 9487) = true := decide_eq_true (by omega)
    have HL := hide (show lightF i = 6 by unfold lightF; rw [if_neg (by omega), if_pos (by omega)])
    clear hr hc h HS1 HS2
    go_enter Tryd.func47, Tryd.ntmps47
    go_wp2
    go_ret
    exact ⟨by rw [HL.out]; rfl, rfl⟩
  · have d0 : decide (r ≤ 9483) = false := decide_eq_false (by omega)
    have d1 : decide (r ≤ 9487) = false := decide_eq_false (by omega)
    have d2 : decide (r ≤ 9491) = true := decide_eq_true (by omega)
    have HL := hide (show lightF i = 12 by unfold lightF; rw [if_neg (by omega), if_neg (by omega), if_pos (by omega)])
    clear hr hc h HS1 HS2
    go_enter Tryd.func47, Tryd.ntmps47
    go_wp2
    go_ret
    exact ⟨by rw [HL.out]; rfl, rfl⟩
  · have d0 : decide (r ≤ 9483) = false := decide_eq_false (by omega)
    have d1 : decide (r ≤ 9487) = false := decide_eq_false (by omega)
    have d2 : decide (r ≤ 9491) = false := decide_eq_false (by omega)
    have d3 : decide (r ≤ 9495) = true := decide_eq_true (by omega)
    have HL := hide (show lightF i = 3 by unfold lightF; rw [if_neg (by omega), if_neg (by omega), if_neg (by omega), if_pos (by omega)])
    clear hr hc h HS1 HS2
    go_enter Tryd.func47, Tryd.ntmps47
    go_wp2
    go_ret
    exact ⟨by rw [HL.out]; rfl, rfl⟩
  · have d0 : decide (r ≤ 9483) = false := decide_eq_false (by omega)
    have d1 : decide (r ≤ 9487) = false := decide_eq_false (by omega)
    have d2 : decide (r ≤ 9491) = false := decide_eq_false (by omega)
    have d3 : decide (r ≤ 9495) = false := decide_eq_false (by omega)
    have d4 : decide (r ≤ 9499) = true := decide_eq_true (by omega)
    have HL := hide (show lightF i = 9 by unfold lightF; rw [if_neg (by omega), if_neg (by omega), if_neg (by omega), if_neg (by omega), if_pos (by omega)])
    clear hr hc h HS1 HS2
    go_enter Tryd.func47, Tryd.ntmps47
    go_wp2
    go_ret
    exact ⟨by rw [HL.out]; rfl, rfl⟩
  · have d0 : decide (r ≤ 9483) = false := decide_eq_false (by omega)
    have d1 : decide (r ≤ 9487) = false := decide_eq_false (by omega)
    have d2 : decide (r ≤ 9491) = false := decide_eq_false (by omega)
    have d3 : decide (r ≤ 9495) = false := decide_eq_false (by omega)
    have d4 : decide (r ≤ 9499) = false := decide_eq_false (by omega)
    have d5 : decide (r ≤ 9507) = true := decide_eq_true (by omega)
    have HL := hide (show lightF i = 7 by unfold lightF; rw [if_neg (by omega), if_neg (by omega), if_neg (by omega), if_neg (by omega), if_neg (by omega), if_pos (by omega)])
    clear hr hc h HS1 HS2
    go_enter Tryd.func47, Tryd.ntmps47
    go_wp2
    go_ret
    exact ⟨by rw [HL.out]; rfl, rfl⟩
  · have d0 : decide (r ≤ 9483) = false := decide_eq_false (by omega)
    have d1 : decide (r ≤ 9487) = false := decide_eq_false (by omega)
    have d2 : decide (r ≤ 9491) = false := decide_eq_false (by omega)
    have d3 : decide (r ≤ 9495) = false := decide_eq_false (by omega)
    have d4 : decide (r ≤ 9499) = false := decide_eq_false (by omega)
    have d5 : decide (r ≤ 9507) = false := decide_eq_false (by omega)
    have d6 : decide (r ≤ 9515) = true := decide_eq_true (by omega)
    have HL := hide (show lightF i = 13 by unfold lightF; rw [if_neg (by omega), if_neg (by omega), if_neg (by omega), if_neg (by omega), if_neg (by omega), if_neg (by omega), if_pos (by omega)])
    clear hr hc h HS1 HS2
    go_enter Tryd.func47, Tryd.ntmps47
    go_wp2
    go_ret
    exact ⟨by rw [HL.out]; rfl, rfl⟩
  · have d0 : decide (r ≤ 9483) = false := decide_eq_false (by omega)
    have d1 : decide (r ≤ 9487) = false := decide_eq_false (by omega)
    have d2 : decide (r ≤ 9491) = false := decide_eq_false (by omega)
    have d3 : decide (r ≤ 9495) = false := decide_eq_false (by omega)
    have d4 : decide (r ≤ 9499) = false := decide_eq_false (by omega)
    have d5 : decide (r ≤ 9507) = false := decide_eq_false (by omega)
    have d6 : decide (r ≤ 9515) = false := decide_eq_false (by omega)
    have d7 : decide (r ≤ 9523) = true := decide_eq_true (by omega)
    have HL := hide (show lightF i = 14 by unfold lightF; rw [if_neg (by omega), if_neg (by omega), if_neg (by omega), if_neg (by omega), if_neg (by omega), if_neg (by omega), if_neg (by omega), if_pos (by omega)])
    clear hr hc h HS1 HS2
    go_enter Tryd.func47, Tryd.ntmps47
    go_wp2
    go_ret
    exact ⟨by rw [HL.out]; rfl, rfl⟩
  · have d0 : decide (r ≤ 9483) = false := decide_eq_false (by omega)
    have d1 : decide (r ≤ 9487) = false := decide_eq_false (by omega)
    have d2 : decide (r ≤ 9491) = false := decide_eq_false (by omega)
    have d3 : decide (r ≤ 9495) = false := decide_eq_false (by omega)
    have d4 : decide (r ≤ 9499) = false := decide_eq_false (by omega)
    have d5 : decide (r ≤ 9507) = false := decide_eq_false (by omega)
    have d6 : decide (r ≤ 9515) = false := decide_eq_false (by omega)
    have d7 : decide (r ≤ 9523) = false := decide_eq_false (by omega)
    have d8 : decide (r ≤ 9531) = true := decide_eq_true (by omega)
    have HL := hide (show lightF i = 11 by unfold lightF; rw [if_neg (by omega), if_neg (by omega), if_neg (by omega), if_neg (by omega), if_neg (by omega), if_neg (by omega), if_neg (by omega), if_neg (by omega), if_pos (by omega)])
    clear hr hc h HS1 HS2
    go_enter Tryd.func47, Tryd.ntmps47
    go_wp2
    go_ret
    exact ⟨by rw [HL.out]; rfl, rfl⟩
  · have d0 : decide (r ≤ 9483) = false := decide_eq_false (by omega)
    have d1 : decide (r ≤ 9487) = false := decide_eq_false (by omega)
    have d2 : decide (r ≤ 9491) = false := decide_eq_false (by omega)
    have d3 : decide (r ≤ 9495) = false := decide_eq_false (by omega)
    have d4 : decide (r ≤ 9499) = false := decide_eq_false (by omega)
    have d5 : decide (r ≤ 9507) = false := decide_eq_false (by omega)
    have d6 : decide (r ≤ 9515) = false := decide_eq_false (by omega)
    have d7 : decide (r ≤ 9523) = false := decide_eq_false (by omega)
    have d8 : decide (r ≤ 9531) = false := decide_eq_false (by omega)
    have d9 : decide (r ≤ 9547) = true := decide_eq_true (by omega)
    have HL := hide (show lightF i = 15 by unfold lightF; rw [if_neg (by omega), if_neg (by omega), if_neg (by omega), if_neg (by omega), if_neg (by omega), if_neg (by omega), if_neg (by omega), if_neg (by omega), if_neg (by omega), if_pos (by omega)])
    clear hr hc h HS1 HS2
    go_enter Tryd.func47, Tryd.ntmps47
    go_wp2
    go_ret
    exact ⟨by rw [HL.out]; rfl, rfl⟩
  · have d0 : decide (r ≤ 9483) = false := decide_eq_false (by omega)
    have d1 : decide (r ≤ 9487) = false := decide_eq_false (by omega)
    have d2 : decide (r ≤ 9491) = false := decide_eq_false (by omega)
    have d3 : decide (r ≤ 9495) = false := decide_eq_false (by omega)
    have d4 : decide (r ≤ 9499) = false := decide_eq_false (by omega)
    have d5 : decide (r ≤ 9507) = false := decide_eq_false (by omega)
    have d6 : decide (r ≤ 9515) = false := decide_eq_false (by omega)
    have d7 : decide (r ≤ 9523) = false := decide_eq_false (by omega)
    have d8 : decide (r ≤ 9531) = false := decide_eq_false (by omega)
    have d9 : decide (r ≤ 9547) = false := decide_eq_false (by omega)
    have HC := hide (show 76 ≤ i by omega)
    clear hr hc h
    go_enter Tryd.func47, Tryd.ntmps47
    go_wp2_with (go_at_call 72; (refine (HS2.out _ HC.out).mono ?_); rintro e w1 ⟨rfl, rfl⟩)
    go_ret
    exact ⟨rfl, rfl⟩

set_option maxRecDepth 100000 in
set_option maxHeartbeats 2000000 in
theorem doubleP (w : World) (i : Nat) (h0 : 80 ≤ i) (h : i < 109) : Calls Tryd.prog 48 #[.int .i32 ((9472 + i : Nat) : Int)] w fun e w' => e = .returned (.int .i64 (armC ((9472 + i : Nat) : Int))) ∧ Below w.heap.size w w' := by
  rw [armC_tab i (by omega)]
  rcases (show i = 80 ∨ i = 81 ∨ i = 82 ∨ i = 83 ∨ i = 84 ∨ i = 85 ∨ i = 86 ∨ i = 87 ∨ i = 88 ∨ i = 89 ∨ i = 90 ∨ i = 91 ∨ i = 92 ∨ i = 93 ∨ i = 94 ∨ i = 95 ∨ i = 96 ∨ i = 97 ∨ i = 98 ∨ i = 99 ∨ i = 100 ∨ i = 101 ∨ i = 102 ∨ i = 103 ∨ i = 104 ∨ i = 105 ∨ i = 106 ∨ i = 107 ∨ i = 108 by omega) with
    rfl | rfl | rfl | rfl | rfl | rfl | rfl | rfl | rfl | rfl | rfl | rfl | rfl | rfl | rfl | rfl | rfl | rfl | rfl | rfl | rfl | rfl | rfl | rfl | rfl | rfl | rfl | rfl | rfl
  all_goals
    clear h0 h
    simp only [Nat.reduceAdd, Int.cast_ofNat_Int]
    go_enter Tryd.func48, Tryd.ntmps48
    go_wp2
    go_ret
    exact ⟨rfl, (Below.refl _ _).alloc (Nat.le_refl _) _⟩
set_option maxRecDepth 100000 in
set_option maxHeartbeats 2000000 in
theorem otherP (w : World) (i : Nat) (h0 : 109 ≤ i) (h : i < 128) : Calls Tryd.prog 49 #[.int .i32 ((9472 + i : Nat) : Int)] w fun e w' => e = .returned (.int .i64 (armC ((9472 + i : Nat) : Int))) ∧ Below w.heap.size w w' := by
  rw [armC_tab i (by omega)]
  rcases (show i = 109 ∨ i = 110 ∨ i = 111 ∨ i = 112 ∨ i = 113 ∨ i = 114 ∨ i = 115 ∨ i = 116 ∨ i = 117 ∨ i = 118 ∨ i = 119 ∨ i = 120 ∨ i = 121 ∨ i = 122 ∨ i = 123 ∨ i = 124 ∨ i = 125 ∨ i = 126 ∨ i = 127 by omega) with
    rfl | rfl | rfl | rfl | rfl | rfl | rfl | rfl | rfl | rfl | rfl | rfl | rfl | rfl | rfl | rfl | rfl | rfl | rfl
  all_goals
    clear h0 h
    simp only [Nat.reduceAdd, Int.cast_ofNat_Int]
    go_enter Tryd.func49, Tryd.ntmps49
    go_wp2
    go_ret
    first
      | exact ⟨rfl, (Below.refl _ _).alloc (Nat.le_refl _) _⟩
      | exact ⟨rfl, Below.refl _ _⟩

set_option maxRecDepth 100000 in
set_option maxHeartbeats 1000000 in
theorem armsP (w : World) (s : ByteArray) (hs : s.size ≤ 500) : Calls Tryd.prog 24 #[.string s] w fun e w' => e = .returned (.int .i64 (armT s.data.toList)) ∧ Below w.heap.size w w' := by
  obtain ⟨R, hR⟩ : ∃ R, runesD s.data.toList = R := ⟨_, rfl⟩
  obtain ⟨n, hn⟩ : ∃ n, R.length = n := ⟨_, rfl⟩
  have hbd : ∀ r ∈ R, GoodR r := by rw [← hR]; exact runesL_good _ _
  have HR := hide hR
  have Hn := hide hn
  by_cases h1 : n = 1
  · obtain ⟨r, hr⟩ := List.length_eq_one_iff.1 (hn.trans h1)
    have hg := hbd r (by rw [hr]; simp)
    have hgb : -2147483648 ≤ r ∧ r ≤ 2147483647 := by unfold GoodR at hg; omega
    have e1 : armT s.data.toList = armC r := armT_one (hR.trans hr)
    rw [e1]
    have Hr := hide hr
    have q1 : ((n : Int) != 1) = false := by rw [h1]; rfl
    have hn0 : 0 < n := by omega
    have hn0I : (0 : Int) < (n : Int) := by omega
    clear hbd hR hn hr hg e1 h1
    by_cases ha : 9472 ≤ r ∧ r ≤ 9599
    · obtain ⟨i, hi⟩ : ∃ i : Nat, r = ((9472 + i : Nat) : Int) := ⟨(r - 9472).toNat, by omega⟩
      have hi128 : i < 128 := by omega
      have d1 : decide (r < 9472) = false := decide_eq_false (by omega)
      have d2 : decide (9599 < r) = false := decide_eq_false (by omega)
      have HL := hide (fun W (h : i < 80) => lightP W i h)
      have HD := hide (fun W (h0 : 80 ≤ i) (h : i < 109) => doubleP W i h0 h)
      have HO := hide (fun W (h0 : 109 ≤ i) => otherP W i h0 hi128)
      rw [← hi] at HL HD HO
      rcases (show i < 80 ∨ (80 ≤ i ∧ i < 109) ∨ 109 ≤ i by omega) with c | ⟨c, c'⟩ | c
      · have d3 : decide (r < 9552) = true := decide_eq_true (by omega)
        have HC := hide c
        clear ha hi
        go_enter Tryd.func24, Tryd.ntmps24
        go_wp2_with (first
          | (refine wpList_runes w (.tmp 5) 9 49 21 rfl (by rfl) Tryd.underlying9 Tryd.underlying49 Tryd.underlying21 s (by rfl) (by omega) ?_; intro w2 Rr cr hb2 hrn hcr; rw [HR.out, Hn.out] at hcr ⊢; rw [HR.out, Hr.out] at hrn; obtain ⟨b2, o2, rfl, -, c2⟩ := hrn.get1 (k := 0) (by simp); unfold One at c2; simp only [List.getElem_cons_zero, Nat.add_zero] at c2; clear hrn)
          | (go_at_call 47; (refine (HL.out _ HC.out).mono ?_); rintro e w3 ⟨rfl, rfl⟩)
          | fail)
        go_ret
        exact ⟨rfl, hb2⟩
      · have d3 : decide (r < 9552) = false := decide_eq_false (by omega)
        have d4 : decide (r < 9581) = true := decide_eq_true (by omega)
        have HC := hide (And.intro c c')
        clear ha hi
        go_enter Tryd.func24, Tryd.ntmps24
        go_wp2_with (first
          | (refine wpList_runes w (.tmp 5) 9 49 21 rfl (by rfl) Tryd.underlying9 Tryd.underlying49 Tryd.underlying21 s (by rfl) (by omega) ?_; intro w2 Rr cr hb2 hrn hcr; rw [HR.out, Hn.out] at hcr ⊢; rw [HR.out, Hr.out] at hrn; obtain ⟨b2, o2, rfl, -, c2⟩ := hrn.get1 (k := 0) (by simp); unfold One at c2; simp only [List.getElem_cons_zero, Nat.add_zero] at c2; clear hrn)
          | (go_at_call 48; (refine (HD.out _ HC.out.1 HC.out.2).mono ?_); rintro e w3 ⟨rfl, hb3⟩)
          | fail)
        go_ret
        exact ⟨rfl, hb2.trans (hb3.mono hb2.size)⟩
      · have d3 : decide (r < 9552) = false := decide_eq_false (by omega)
        have d4 : decide (r < 9581) = false := decide_eq_false (by omega)
        have HC := hide c
        clear ha hi
        go_enter Tryd.func24, Tryd.ntmps24
        go_wp2_with (first
          | (refine wpList_runes w (.tmp 5) 9 49 21 rfl (by rfl) Tryd.underlying9 Tryd.underlying49 Tryd.underlying21 s (by rfl) (by omega) ?_; intro w2 Rr cr hb2 hrn hcr; rw [HR.out, Hn.out] at hcr ⊢; rw [HR.out, Hr.out] at hrn; obtain ⟨b2, o2, rfl, -, c2⟩ := hrn.get1 (k := 0) (by simp); unfold One at c2; simp only [List.getElem_cons_zero, Nat.add_zero] at c2; clear hrn)
          | (go_at_call 49; (refine (HO.out _ HC.out).mono ?_); rintro e w3 ⟨rfl, hb3⟩)
          | fail)
        go_ret
        exact ⟨rfl, hb2.trans (hb3.mono hb2.size)⟩
    · have HA := hide (fun W => asciiP W r ha)
      have hq : decide (r < 9472) = true ∨ (decide (r < 9472) = false ∧ decide (9599 < r) = true) := by
        by_cases h : r < 9472
        · exact .inl (decide_eq_true h)
        · exact .inr ⟨decide_eq_false h, decide_eq_true (by omega)⟩
      clear ha
      rcases hq with d1 | ⟨d1, d2⟩
      all_goals
        go_enter Tryd.func24, Tryd.ntmps24
        go_wp2_with (first
          | (refine wpList_runes w (.tmp 5) 9 49 21 rfl (by rfl) Tryd.underlying9 Tryd.underlying49 Tryd.underlying21 s (by rfl) (by omega) ?_; intro w2 Rr cr hb2 hrn hcr; rw [HR.out, Hn.out] at hcr ⊢; rw [HR.out, Hr.out] at hrn; obtain ⟨b2, o2, rfl, -, c2⟩ := hrn.get1 (k := 0) (by simp); unfold One at c2; simp only [List.getElem_cons_zero, Nat.add_zero] at c2; clear hrn)
          | (go_at_call 46; (refine (HA.out _).mono ?_); rintro e w3 ⟨rfl, rfl⟩)
          | fail)
        go_ret
        exact ⟨rfl, hb2⟩
  · have q1 : ((n : Int) != 1) = true := by rw [bne_iff_ne]; omega
    have HE := hide (show armT s.data.toList = 0 from armT_not (by rw [hR, hn]; exact h1))
    clear hbd hR hn h1
    go_enter Tryd.func24, Tryd.ntmps24
    go_wp2_with (first
      | (refine wpList_runes w (.tmp 5) 9 49 21 rfl (by rfl) Tryd.underlying9 Tryd.underlying49 Tryd.underlying21 s (by rfl) (by omega) ?_; intro w2 Rr cr hb2 hrn hcr; rw [HR.out, Hn.out] at hcr ⊢; clear hrn)
      | fail)
    go_ret
    exact ⟨by rw [HE.out]; rfl, hb2⟩
end Go.Proofs.YtdgmjbcfopkibaaDoor
