/- Dots: narratorref50.Format, Parse. -/
import Derived.Test.YtjgbflkjbehgaaaDoorD5
namespace Go.Proofs.YtjgbflkjbehgaaaDoor
open Go.RowKit Go.Shelf

def outL (c k : Nat) : List UInt8 := Lib.join ((dotsTo c k).map fun n => digL n.val) [45]
theorem out_step_all : ∀ c : Nat, c < 256 → ∀ k : Nat, k < 8 → outL c (k + 1) = if bitN c k then (if outL c k = [] then digL (k + 1) else outL c k ++ [45] ++ digL (k + 1)) else outL c k := by decide +kernel
theorem fmt_out_all : ∀ c : Nat, c < 256 → fmtL c = if outL c 8 = [] then [48] else outL c 8 := by decide +kernel
theorem out_len_all : ∀ c : Nat, c < 256 → ∀ k : Nat, k < 9 → (outL c k).length ≤ 15 := by decide +kernel
def digits10 : ByteArray := ⟨#[48, 49, 50, 51, 52, 53, 54, 55, 56, 57]⟩
theorem digits_cut : ∀ k : Nat, k < 10 → (digits10.extract k (k + 1)).data.toList = digL k := by decide +kernel

theorem slice_dig (k : Nat) (hk : k < 8) (w : World) : (Instr.slice 9 (.string ⟨#[48, 49, 50, 51, 52, 53, 54, 55, 56, 57]⟩) (some (.int .i64 ((k : Int) + 1))) (some (.int .i64 ((k : Int) + 1 + 1))) none).run Tryd.prog w = .ok (.string (digits10.extract (k + 1) (k + 1 + 1))) w := by
  have h : k = 0 ∨ k = 1 ∨ k = 2 ∨ k = 3 ∨ k = 4 ∨ k = 5 ∨ k = 6 ∨ k = 7 := by omega
  rcases h with rfl | rfl | rfl | rfl | rfl | rfl | rfl | rfl
  all_goals rfl
theorem dapp (a b : ByteArray) : (a ++ b).data.toList = a.data.toList ++ b.data.toList := by simp
set_option maxHeartbeats 2000000 in
theorem format50P (w : World) (c : Nat) (hc : c < 256) : Calls Tryd.prog 15 #[.int .u8 c] w fun e w' => e = .returned (.string (fmtB c)) ∧ w = w' := by
  go_enter Tryd.func15, Tryd.ntmps15
  go_wp2
  go_loop [3, 4, 5] (fun o p i => ∃ (k : Nat) (s : ByteArray) (q : Nat), k ≤ 8 ∧ i = .int .i64 (k + 1 : Nat) ∧ p = .int .i64 q ∧ q = 2 ^ k ∧ o = .string s ∧ s.data.toList = outL c k) (fun _ _ i => 9 - (intOf i).toNat)
  case atStart => exact ⟨0, ⟨#[]⟩, 1, by omega, rfl, rfl, rfl, rfl, rfl⟩
  case round =>
    obtain ⟨k, s, q, hk, rfl, rfl, hq, rfl, hs⟩ := hrel
    have hcast : ((k + 1 : Nat) : Int) = (k : Int) + 1 := by omega
    rw [hcast]
    by_cases hlt : k < 8
    · have hq1 : 1 ≤ q := by rw [hq]; exact Nat.one_le_two_pow
      have hq2 : q ≤ 256 := by rw [hq]; exact Nat.pow_le_pow_right (n := 2) (by omega) (show k ≤ 8 by omega)
      have hd0 : 0 ≤ (c : Int) / (q : Int) := Int.ediv_nonneg (by omega) (by omega)
      have hd1 : (c : Int) / (q : Int) ≤ 255 := Int.le_trans (Int.ediv_le_self _ (by omega)) (by omega)
      have hbit : ((c : Int) / (q : Int) % 2 == 1) = bitN c k := by
        unfold bitN
        rw [← hq, Bool.eq_iff_iff, beq_iff_eq, beq_iff_eq]
        omega
      have hst := out_step_all c hc k hlt
      have hsd := slice_dig k hlt
      have hsl := out_len_all c hc k (by omega)
      rw [← hs] at hst hsl
      have hsz : s.size ≤ 15 := hsl
      have hse : (s.toList == []) = decide (s.data.toList = []) := by rw [ByteArray.toList_eq, Bool.eq_iff_iff]; simp
      have Hq := hide hq
      have Hs := hide hs
      clear hq hs hsl hcast
      cases hb : bitN c k with
      | true =>
        rw [hb] at hbit hst
        rw [if_pos rfl] at hst
        by_cases h0 : s.data.toList = []
        · rw [if_pos h0] at hst
          rw [decide_eq_true h0] at hse
          have hse2 : (s.toList != []) = false := by simp [bne, hse]
          have H0 := hide h0
          have Hst := hide hst
          clear hst h0 hb
          go_wp2
          go_round
          case rel => exact ⟨k + 1, _, 2 * q, by omega, by go_num, by go_num, by rw [Hq.out, Nat.pow_succ]; omega, rfl, by rw [Hst.out, dapp, H0.out, List.nil_append]; exact digits_cut (k + 1) (by omega)⟩
          case measure => simp [intOf]; omega
        · rw [if_neg h0] at hst
          rw [decide_eq_false h0] at hse
          have hse2 : (s.toList != []) = true := by simp [bne, hse]
          have Hst := hide hst
          clear hst h0 hb
          go_wp2
          go_round
          case rel => exact ⟨k + 1, _, 2 * q, by omega, by go_num, by go_num, by rw [Hq.out, Nat.pow_succ]; omega, rfl, by rw [Hst.out, dapp, dapp]; congr 1; exact digits_cut (k + 1) (by omega)⟩
          case measure => simp [intOf]; omega
      | false =>
        rw [hb] at hbit hst
        rw [if_neg (by simp)] at hst
        have Hst := hide hst
        clear hst hb
        go_wp2
        go_round
        case rel => exact ⟨k + 1, s, 2 * q, by omega, by go_num, by go_num, by rw [Hq.out, Nat.pow_succ]; omega, rfl, by rw [Hst.out, Hs.out]⟩
        case measure => simp [intOf]; omega
    · obtain rfl : k = 8 := by omega
      have hf := fmt_out_all c hc
      rw [← hs] at hf
      have hse : (s.toList == []) = decide (s.data.toList = []) := by rw [ByteArray.toList_eq, Bool.eq_iff_iff]; simp
      have Hs := hide hs
      clear hs hq hcast
      by_cases h0 : s.data.toList = []
      · rw [if_pos h0] at hf
        rw [decide_eq_true h0] at hse
        have Hf := hide hf
        clear hf h0
        go_wp2
        go_ret
        exact ⟨by unfold fmtB; rw [Hf.out]; rfl, rfl⟩
      · rw [if_neg h0] at hf
        rw [decide_eq_false h0] at hse
        have Hf := hide hf
        clear hf h0
        go_wp2
        go_ret
        exact ⟨by unfold fmtB; rw [Hf.out, Lib.mk_data]; rfl, rfl⟩

theorem fmt_inj {a b : Nat} (ha : a < 256) (hb : b < 256) (h : fmtL a = fmtL b) : a = b := by rw [← fmt_back_all a ha, ← fmt_back_all b hb, h]
theorem parse_hit (s : ByteArray) (c : Nat) (hc : c < 256) (h : (fmtB c).toList = s.toList) : parseR s = (c, 0) := by
  have hl : fmtL c = s.data.toList := by rw [← fmtB_list, h, ByteArray.toList_eq]
  rw [parseR_list, ← hl, parseRL_fmt c hc]
theorem parse_none (s : ByteArray) (h : ∀ c, c < 256 → (fmtB c).toList ≠ s.toList) : parseR s = (0, 3) := by
  unfold parseR
  rw [if_neg (by simpa using h (orAll s) (orAll_lt s))]

set_option maxRecDepth 100000 in
set_option maxHeartbeats 2000000 in
theorem parse50P (w : World) (s : ByteArray) : Calls Tryd.prog 13 #[.string s] w fun e w' => e = .returned (.tuple #[.int .u8 (parseR s).1, .int .i64 (parseR s).2]) ∧ w = w' := by
  go_enter Tryd.func13, Tryd.ntmps13
  go_wp2
  go_loop [4] (fun i => ∃ k : Nat, k ≤ 256 ∧ i = .int .i64 k ∧ ∀ c, c < k → (fmtB c).toList ≠ s.toList) (fun i => 256 - (intOf i).toNat)
  case atStart => exact ⟨0, by omega, rfl, fun c h => by omega⟩
  case round =>
    obtain ⟨k, hk, rfl, hno⟩ := hrel
    have Hno := hide hno
    clear hno
    by_cases hlt : k < 256
    · have HF := hide (format50P w k hlt)
      cases heq : ((fmtB k).toList == s.toList) with
      | true =>
        have hpr := parse_hit s k hlt (eq_of_beq heq)
        have Hpr := hide hpr
        obtain ⟨f, hf⟩ : ∃ f, fmtB k = f := ⟨_, rfl⟩
        rw [hf] at HF heq
        clear hpr hf
        go_wp2_with (go_at_call 15; refine HF.out.mono ?_; rintro e w1 ⟨rfl, rfl⟩)
        go_ret2
        exact ⟨by rw [Hpr.out]; rfl, rfl⟩
      | false =>
        have hne : (fmtB k).toList ≠ s.toList := by simpa using heq
        have Hne := hide hne
        obtain ⟨f, hf⟩ : ∃ f, fmtB k = f := ⟨_, rfl⟩
        rw [hf] at HF heq
        clear hne hf
        go_wp2_with (go_at_call 15; refine HF.out.mono ?_; rintro e w1 ⟨rfl, rfl⟩)
        go_round
        case rel => exact ⟨k + 1, by omega, by go_num, fun c hc => by
          by_cases h : c = k
          · rw [h]; exact Hne.out
          · exact Hno.out c (by omega)⟩
        case measure => simp [intOf]; omega
    · have hpr := parse_none s fun c hc => Hno.out c (by omega)
      have Hpr := hide hpr
      clear hpr
      go_wp2
      go_ret2
      exact ⟨by rw [Hpr.out]; rfl, rfl⟩

set_option maxHeartbeats 2000000 in
theorem valuesP (w : World) (hm : Mx w) (s : ByteArray) (hs : s.size ≤ maxLen) (c : Nat) (hc : c < 256) : Calls Tryd.prog 3 #[.string s, .int .u8 c] w fun e w' => e = .returned (.bool true) ∧ Below w.heap.size w w' := by
  unfold maxLen at hs
  by_cases h40 : s.size ≤ 40
  · have H1 := hide (parseP w s (by omega) hm)
    have H2 := hide (fun w1 => parse50P w1 s)
    have H3 := hide (fun w1 => formatP w1 c hc)
    have H4 := hide (fun w1 => format50P w1 c hc)
    have H5 := hide (fun w1 (hb : Below w.heap.size w w1) => awakeP w1 (hm.below hb))
    obtain ⟨x, y⟩ : ∃ x, parseR s = x := ⟨_, rfl⟩
    rw [y] at H1
    simp only [y] at H2
    obtain ⟨x1, x2⟩ := x
    dsimp only at H1 H2
    obtain ⟨f, hf⟩ : ∃ f, fmtB c = f := ⟨_, rfl⟩
    simp only [hf] at H3 H4
    clear hm y hf
    go_enter Tryd.func3, Tryd.ntmps3
    go_wp2_with fail
    refine H1.out.mono ?_
    rintro e w1 ⟨rfl, hb1⟩
    go_wp2_with fail
    refine (H2.out _).mono ?_
    rintro e w2 ⟨rfl, rfl⟩
    go_wp2_with fail
    refine (H3.out _).mono ?_
    rintro e w3 ⟨rfl, hb3⟩
    have hb := hb1.trans (hb3.mono hb1.size)
    go_wp2_with fail
    refine (H4.out _).mono ?_
    rintro e w4 ⟨rfl, rfl⟩
    go_wp2_with fail
    refine (H5.out _ hb).mono ?_
    rintro e w5 ⟨rfl, hb5⟩
    go_wp2_with fail
    go_ret
    exact ⟨rfl, hb.trans (hb5.mono hb.size)⟩
  · have H0 := hide (awakeP w hm)
    clear hm
    go_enter Tryd.func3, Tryd.ntmps3
    go_wp2_with fail
    refine H0.out.mono ?_
    rintro e w1 ⟨rfl, hb1⟩
    go_wp2_with fail
    go_ret
    exact ⟨rfl, hb1⟩
end Go.Proofs.YtjgbflkjbehgaaaDoor
