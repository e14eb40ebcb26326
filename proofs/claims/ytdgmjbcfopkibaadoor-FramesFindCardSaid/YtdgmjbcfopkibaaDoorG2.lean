/- narratorref23.closed (printed by gen_g2.py). -/
import Derived.Test.YtdgmjbcfopkibaaDoorG1
namespace Go.Proofs.YtdgmjbcfopkibaaDoor
open Go.RowKit

theorem allG_both (p q : Nat → Bool) : ∀ (n k : Nat), (allG p k n && allG q k n) = allG (fun k => p k && q k) k n
  | 0, k => rfl
  | n + 1, k => by
    unfold allG
    rw [← allG_both p q n (k + 1)]
    cases p k <;> cases q k <;> cases allG p (k + 1) n <;> cases allG q (k + 1) n <;> rfl

set_option maxRecDepth 100000 in
set_option maxHeartbeats 4000000 in
theorem closed23 (w : World) (A : Option Addr) (c : Nat) (v : Vw) (W t l b r : Nat) (h : Rows2 w w.heap.size A v.rows) (htame : v.Tame) (h1 : t + 2 ≤ b) (h2 : b ≤ v.rows.length) (h3 : l + 2 ≤ r) (h4 : r ≤ W) (hW : v.width = W) (hht : v.height = v.rows.length) (hW2 : W ≤ 200) :
    Calls Tryd.prog 44 #[v.val A c, .int .i64 (t : Int), .int .i64 (l : Int), .int .i64 (b : Int), .int .i64 (r : Int)] w fun e w' => e = .returned (.bool (closedB v.pic t l b r)) ∧ Below w.heap.size w w' := by
  obtain ⟨r1, hr1⟩ : ∃ r1, r = r1 + 1 := ⟨r - 1, by omega⟩
  obtain ⟨b1, hb1⟩ : ∃ b1, b = b1 + 1 := ⟨b - 1, by omega⟩
  obtain ⟨r2, hr2⟩ : ∃ r2, r = r2 + 2 := ⟨r - 2, by omega⟩
  obtain ⟨b2, hb2⟩ : ∃ b2, b = b2 + 2 := ⟨b - 2, by omega⟩
  have hr1I : (r : Int) - 1 = (r1 : Int) := by omega
  have hb1I : (b : Int) - 1 = (b1 : Int) := by omega
  have hr2I : (r : Int) - 2 = (r2 : Int) := by omega
  have hb2I : (b : Int) - 2 = (b2 : Int) := by omega
  have hn12 := htame.1
  have hbox := (Below.refl w.heap.size w).alloc (Nat.le_refl _) (.cells #[.int .i64 v.width, .int .i64 v.height, .slice A v.rows.length c, .int .i64 v.row, .int .i64 v.col, .bool v.visible] 24)
  have hvb := block_new w (.cells #[.int .i64 v.width, .int .i64 v.height, .slice A v.rows.length c, .int .i64 v.row, .int .i64 v.col, .bool v.visible] 24)
  obtain ⟨W4, hW4⟩ : ∃ W4, w.alloc (.cells #[.int .i64 v.width, .int .i64 v.height, .slice A v.rows.length c, .int .i64 v.row, .int .i64 v.col, .bool v.visible] 24) = W4 := ⟨_, rfl⟩
  rw [hW4] at hbox hvb
  have hs4 : w.heap.size < W4.heap.size := by rw [← hW4]; simp
  have hcl : closedB v.pic t l b r = (hasA (v.pic t l) 6 && hasA (v.pic t r1) 12 && hasA (v.pic b1 l) 3 && hasA (v.pic b1 r1) 9 && (allG (fun k => hasA (v.pic k l) 5 && hasA (v.pic k r1) 5) (t + 1) (b1 - (t + 1)) &&
      (allG (fun k => hasA (v.pic b1 k) 10) (l + 1) (r1 - (l + 1)) && (decide (r - l = 2) || anyG (fun k => hasA (v.pic t k) 10) (l + 1) (r1 - (l + 1)))))) := by
    rw [← allG_both]
    unfold closedB; rw [show r - 1 = r1 by omega, show b - 1 = b1 by omega]; simp only [Bool.and_assoc]
  rw [hcl]
  clear hcl
  have HHas := hide (fun (W1 : World) (hb : Below W4.heap.size W4 W1) (t' k' nn : Nat) (n : Int) (ht : t' < v.rows.length) (hk : k' < W) (hn : (nn : Int) = n) (h16 : nn < 16) (h0 : nn ≠ 0) => (has23 W1 A c v t' k' nn n ((h.below (hbox.trans (hb.mono hbox.size))).more (Nat.le_trans hbox.size hb.size)) htame ht (by omega) hn h16 h0))
  have HV := hide (fun (W1 : World) (hb : Below W4.heap.size W4 W1) => block_below hvb hb hs4)
  have Hbox := hide (fun (W1 : World) (hb : Below W4.heap.size W4 W1) => hbox.trans (hb.mono hbox.size))
  obtain ⟨k0, k1, k2, k3, k4, k5⟩ := vbF_cells hvb
  obtain ⟨P, hP⟩ : ∃ P, v.pic = P := ⟨_, rfl⟩
  rw [hP] at HHas ⊢
  obtain ⟨n, hn⟩ : ∃ n, v.rows.length = n := ⟨_, rfl⟩
  obtain ⟨width, height, rows, row, col, vis⟩ := v
  unfold Vw.val at HHas ⊢
  dsimp only at hn hW hht HHas HV h2 hn12 hW4 k0 k1 k2 k3 k4 k5 ⊢
  rw [hn] at hht HHas HV h2 hn12 hW4 k2 ⊢
  subst hW hht
  clear hP hn htame h hbox hvb
  obtain ⟨q1, hq1⟩ : ∃ q, hasA (P t l) 6 = q := ⟨_, rfl⟩
  obtain ⟨q2, hq2⟩ : ∃ q, hasA (P t r1) 12 = q := ⟨_, rfl⟩
  obtain ⟨q3, hq3⟩ : ∃ q, hasA (P b1 l) 3 = q := ⟨_, rfl⟩
  obtain ⟨q4, hq4⟩ : ∃ q, hasA (P b1 r1) 9 = q := ⟨_, rfl⟩
  obtain ⟨q8, hq8⟩ : ∃ q, decide (r - l = 2) = q := ⟨_, rfl⟩
  have hq8' : ((r : Int) - (l : Int) == 2) = q8 := by
    rw [← hq8]
    by_cases hd : r - l = 2
    · rw [decide_eq_true hd, beq_iff_eq]; omega
    · rw [decide_eq_false hd, beq_eq_false_iff_ne]; omega
  rw [hq1, hq2, hq3, hq4, hq8]
  have Hq1 := hide (fun (W1 : World) (hb : Below W4.heap.size W4 W1) => HHas.out W1 hb t l 6 6 (by omega) (by omega) rfl (by omega) (by omega))
  have Hq2 := hide (fun (W1 : World) (hb : Below W4.heap.size W4 W1) => HHas.out W1 hb t r1 12 12 (by omega) (by omega) rfl (by omega) (by omega))
  have Hq3 := hide (fun (W1 : World) (hb : Below W4.heap.size W4 W1) => HHas.out W1 hb b1 l 3 3 (by omega) (by omega) rfl (by omega) (by omega))
  have Hq4 := hide (fun (W1 : World) (hb : Below W4.heap.size W4 W1) => HHas.out W1 hb b1 r1 9 9 (by omega) (by omega) rfl (by omega) (by omega))
  simp only [hq1] at Hq1
  simp only [hq2] at Hq2
  simp only [hq3] at Hq3
  simp only [hq4] at Hq4
  obtain ⟨R2, hR2⟩ : ∃ R, (allG (fun k => hasA (P b1 k) 10) (l + 1) (r1 - (l + 1)) && (q8 || anyG (fun k => hasA (P t k) 10) (l + 1) (r1 - (l + 1)))) = R := ⟨_, rfl⟩
  obtain ⟨R1, hR1⟩ : ∃ R, allG (fun k => hasA (P k l) 5 && hasA (P k r1) 5) (t + 1) (b1 - (t + 1)) = R := ⟨_, rfl⟩
  rw [hR1, hR2]
  have HR1 := hide hR1
  have HR2 := hide hR2
  have Hrb := hide (And.intro hr1 (And.intro hb1 (And.intro h1 h3)))
  have d1 : decide ((t : Int) < 0) = false := decide_eq_false (by omega)
  have d2 : decide ((l : Int) < 0) = false := decide_eq_false (by omega)
  have d3 : decide ((n : Int) < (b : Int)) = false := decide_eq_false (by omega)
  have d3' : decide (n < b) = false := decide_eq_false (by omega)
  have d4 : decide ((W : Int) < (r : Int)) = false := decide_eq_false (by omega)
  have d4' : decide (W < r) = false := decide_eq_false (by omega)
  have d5 : decide ((b : Int) < 2) = false := decide_eq_false (by omega)
  have d5' : decide (b < 2) = false := decide_eq_false (by omega)
  have d6 : decide ((r : Int) < 2) = false := decide_eq_false (by omega)
  have d6' : decide (r < 2) = false := decide_eq_false (by omega)
  have d7 : decide ((b2 : Int) < (t : Int)) = false := decide_eq_false (by omega)
  have d7' : decide (b2 < t) = false := decide_eq_false (by omega)
  have d8 : decide ((r2 : Int) < (l : Int)) = false := decide_eq_false (by omega)
  have d8' : decide (r2 < l) = false := decide_eq_false (by omega)
  have HHk := hide (fun (W1 : World) (hb : Below W4.heap.size W4 W1) (t' k' : Nat) (ht : t' < b) (hk : k' < r) => And.intro (HHas.out W1 hb t' k' 5 5 (by omega) (by omega) rfl (by omega) (by omega)) (HHas.out W1 hb t' k' 10 10 (by omega) (by omega) rfl (by omega) (by omega)))
  have hz1 : b1 ≤ 1000 := by omega
  have hz2 : r1 ≤ 1000 := by omega
  have hz3 : b2 ≤ 1000 := by omega
  have hz4 : r2 ≤ 1000 := by omega
  have hz5 : b ≤ 1000 := by omega
  have hz6 : r ≤ 1000 := by omega
  have hz7 : t ≤ 1000 := by omega
  have hz8 : l ≤ 1000 := by omega
  clear hr1 hb1 hr2 hb2 hq1 hq2 hq3 hq4 hq8 hR1 hR2 HHas h1 h2 h3 h4
  have Hb4 := hide (Below.refl W4.heap.size W4)
  go_enter Tryd.func44, Tryd.ntmps44
  go_upto_region 3 with fail
  clear d1 d2 d3 d3' d4 d4' d5 d5' d6 d6' d7 d7' d8 d8' hr2I hb2I hW4
  cases q1 with
  | false =>
    go_wp2_with (first
      | (go_at_call 43; (with_reducible refine (Hq1.out W4 Hb4.out).mono ?_); rintro e w5 ⟨rfl, hbn⟩; have hbm := Hb4.out.trans (hbn.mono Hb4.out.size); obtain ⟨k0, k1, k2, k3, k4, k5⟩ := vbF_cells (HV.out w5 hbm); have Hb5 := hide hbm; clear hbn hbm)
      | fail)
    go_ret
    exact ⟨rfl, Hbox.out _ Hb5.out⟩
  | true =>
  cases q2 with
  | false =>
    go_wp2_with (first
      | (go_at_call 43; (with_reducible refine (Hq2.out w5 Hb5.out).mono ?_); rintro e w6 ⟨rfl, hbn⟩; have hbm := Hb5.out.trans (hbn.mono Hb5.out.size); obtain ⟨k0, k1, k2, k3, k4, k5⟩ := vbF_cells (HV.out w6 hbm); have Hb6 := hide hbm; clear hbn hbm)
      | (go_at_call 43; (with_reducible refine (Hq1.out W4 Hb4.out).mono ?_); rintro e w5 ⟨rfl, hbn⟩; have hbm := Hb4.out.trans (hbn.mono Hb4.out.size); obtain ⟨k0, k1, k2, k3, k4, k5⟩ := vbF_cells (HV.out w5 hbm); have Hb5 := hide hbm; clear hbn hbm)
      | fail)
    go_ret
    exact ⟨rfl, Hbox.out _ Hb6.out⟩
  | true =>
  cases q3 with
  | false =>
    go_wp2_with (first
      | (go_at_call 43; (with_reducible refine (Hq3.out w6 Hb6.out).mono ?_); rintro e w7 ⟨rfl, hbn⟩; have hbm := Hb6.out.trans (hbn.mono Hb6.out.size); obtain ⟨k0, k1, k2, k3, k4, k5⟩ := vbF_cells (HV.out w7 hbm); have Hb7 := hide hbm; clear hbn hbm)
      | (go_at_call 43; (with_reducible refine (Hq2.out w5 Hb5.out).mono ?_); rintro e w6 ⟨rfl, hbn⟩; have hbm := Hb5.out.trans (hbn.mono Hb5.out.size); obtain ⟨k0, k1, k2, k3, k4, k5⟩ := vbF_cells (HV.out w6 hbm); have Hb6 := hide hbm; clear hbn hbm)
      | (go_at_call 43; (with_reducible refine (Hq1.out W4 Hb4.out).mono ?_); rintro e w5 ⟨rfl, hbn⟩; have hbm := Hb4.out.trans (hbn.mono Hb4.out.size); obtain ⟨k0, k1, k2, k3, k4, k5⟩ := vbF_cells (HV.out w5 hbm); have Hb5 := hide hbm; clear hbn hbm)
      | fail)
    go_ret
    exact ⟨rfl, Hbox.out _ Hb7.out⟩
  | true =>
  cases q4 with
  | false =>
    go_wp2_with (first
      | (go_at_call 43; (with_reducible refine (Hq4.out w7 Hb7.out).mono ?_); rintro e w8 ⟨rfl, hbn⟩; have hbm := Hb7.out.trans (hbn.mono Hb7.out.size); obtain ⟨k0, k1, k2, k3, k4, k5⟩ := vbF_cells (HV.out w8 hbm); have Hb8 := hide hbm; clear hbn hbm)
      | (go_at_call 43; (with_reducible refine (Hq3.out w6 Hb6.out).mono ?_); rintro e w7 ⟨rfl, hbn⟩; have hbm := Hb6.out.trans (hbn.mono Hb6.out.size); obtain ⟨k0, k1, k2, k3, k4, k5⟩ := vbF_cells (HV.out w7 hbm); have Hb7 := hide hbm; clear hbn hbm)
      | (go_at_call 43; (with_reducible refine (Hq2.out w5 Hb5.out).mono ?_); rintro e w6 ⟨rfl, hbn⟩; have hbm := Hb5.out.trans (hbn.mono Hb5.out.size); obtain ⟨k0, k1, k2, k3, k4, k5⟩ := vbF_cells (HV.out w6 hbm); have Hb6 := hide hbm; clear hbn hbm)
      | (go_at_call 43; (with_reducible refine (Hq1.out W4 Hb4.out).mono ?_); rintro e w5 ⟨rfl, hbn⟩; have hbm := Hb4.out.trans (hbn.mono Hb4.out.size); obtain ⟨k0, k1, k2, k3, k4, k5⟩ := vbF_cells (HV.out w5 hbm); have Hb5 := hide hbm; clear hbn hbm)
      | fail)
    go_ret
    exact ⟨rfl, Hbox.out _ Hb8.out⟩
  | true =>
  go_wp2_with (first
    | (go_at_call 43; (with_reducible refine (Hq4.out w7 Hb7.out).mono ?_); rintro e w8 ⟨rfl, hbn⟩; have hbm := Hb7.out.trans (hbn.mono Hb7.out.size); obtain ⟨k0, k1, k2, k3, k4, k5⟩ := vbF_cells (HV.out w8 hbm); have Hb8 := hide hbm; clear hbn hbm)
    | (go_at_call 43; (with_reducible refine (Hq3.out w6 Hb6.out).mono ?_); rintro e w7 ⟨rfl, hbn⟩; have hbm := Hb6.out.trans (hbn.mono Hb6.out.size); obtain ⟨k0, k1, k2, k3, k4, k5⟩ := vbF_cells (HV.out w7 hbm); have Hb7 := hide hbm; clear hbn hbm)
    | (go_at_call 43; (with_reducible refine (Hq2.out w5 Hb5.out).mono ?_); rintro e w6 ⟨rfl, hbn⟩; have hbm := Hb5.out.trans (hbn.mono Hb5.out.size); obtain ⟨k0, k1, k2, k3, k4, k5⟩ := vbF_cells (HV.out w6 hbm); have Hb6 := hide hbm; clear hbn hbm)
    | (go_at_call 43; (with_reducible refine (Hq1.out W4 Hb4.out).mono ?_); rintro e w5 ⟨rfl, hbn⟩; have hbm := Hb4.out.trans (hbn.mono Hb4.out.size); obtain ⟨k0, k1, k2, k3, k4, k5⟩ := vbF_cells (HV.out w5 hbm); have Hb5 := hide hbm; clear hbn hbm)
    | fail)
  obtain ⟨wz, hwz⟩ : ∃ wz : World, wz = w8 := ⟨_, rfl⟩
  clear hwz wz
  clear Hq1 Hq2 Hq3 Hq4
  go_loopw [11] (fun i wr => ∃ k : Nat, t + 1 ≤ k ∧ k ≤ b1 ∧ i = .int .i64 (k : Int) ∧ allG (fun k => hasA (P k l) 5 && hasA (P k r1) 5) k (b1 - k) = R1 ∧ Below W4.heap.size W4 wr) (fun i _ => b1 - (intOf i).toNat)
  case atStart => exact ⟨t + 1, Nat.le_refl _, by have := Hrb.out; omega, by go_num, HR1.out, Hb8.out⟩
  case round =>
    clear HR1 Hb8 k0 k1 k2 k3 k4 k5
    obtain ⟨k, ha, hb, rfl, hg, hbr⟩ := hrel
    rename World => wo
    obtain ⟨k0, k1, k2, k3, k4, k5⟩ := vbF_cells (HV.out wo hbr)
    have Hbr := hide hbr
    clear hbr
    by_cases hlt : k < b1
    · have hltI : (k : Int) < (b1 : Int) := by omega
      have hkb : k < b := by have := Hrb.out; omega
      have hlr : l < r ∧ r1 < r := by have := Hrb.out; omega
      have HA := hide (HHk.out wo Hbr.out k l hkb hlr.1).1
      have HB := hide (fun (W1 : World) (hb : Below W4.heap.size W4 W1) => (HHk.out W1 hb k r1 hkb hlr.2).1)
      rw [allG_step _ _ _ (by omega)] at hg
      obtain ⟨qa, hqa⟩ : ∃ q, hasA (P k l) 5 = q := ⟨_, rfl⟩
      obtain ⟨qb, hqb⟩ : ∃ q, hasA (P k r1) 5 = q := ⟨_, rfl⟩
      rw [hqa] at HA
      simp only [hqb] at HB
      rw [hqa, hqb] at hg
      clear hqa hqb hkb hlr
      cases qa with
      | false =>
        have Hg := hide (show R1 = false from hg.symm)
        clear hg
        go_wp2_with (first
          | (go_at_call 43; (with_reducible refine HA.out.mono ?_); rintro e w9 ⟨rfl, hbn⟩; have Hb9 := hide (Hbr.out.trans (hbn.mono Hbr.out.size)); clear hbn)
          | fail)
        go_ret
        exact ⟨by rw [Hg.out]; rfl, Hbox.out _ Hb9.out⟩
      | true =>
      cases qb with
      | false =>
        have Hg := hide (show R1 = false from hg.symm)
        clear hg
        go_wp2_with (first
          | (go_at_call 43; (with_reducible refine (HB.out w9 Hb9.out).mono ?_); rintro e w10 ⟨rfl, hbn⟩; have Hb10 := hide (Hb9.out.trans (hbn.mono Hb9.out.size)); clear hbn)
          | (go_at_call 43; (with_reducible refine HA.out.mono ?_); rintro e w9 ⟨rfl, hbn⟩; have hbm := (Hbr.out.trans (hbn.mono Hbr.out.size)); obtain ⟨k0, k1, k2, k3, k4, k5⟩ := vbF_cells (HV.out w9 hbm); have Hb9 := hide hbm; clear hbn hbm)
          | fail)
        go_ret
        exact ⟨by rw [Hg.out]; rfl, Hbox.out _ Hb10.out⟩
      | true =>
        have Hg := hide (show allG (fun k => hasA (P k l) 5 && hasA (P k r1) 5) (k + 1) (b1 - k - 1) = R1 from hg)
        clear hg
        go_wp2_with (first
          | (go_at_call 43; (with_reducible refine (HB.out w9 Hb9.out).mono ?_); rintro e w10 ⟨rfl, hbn⟩; have Hb10 := hide (Hb9.out.trans (hbn.mono Hb9.out.size)); clear hbn)
          | (go_at_call 43; (with_reducible refine HA.out.mono ?_); rintro e w9 ⟨rfl, hbn⟩; have hbm := (Hbr.out.trans (hbn.mono Hbr.out.size)); obtain ⟨k0, k1, k2, k3, k4, k5⟩ := vbF_cells (HV.out w9 hbm); have Hb9 := hide hbm; clear hbn hbm)
          | fail)
        go_roundw
        case rel => exact ⟨k + 1, by omega, by omega, by go_num, by rw [← Nat.sub_sub]; exact Hg.out, Hb10.out⟩
        case measure => simp [intOf]; omega
    · obtain rfl : k = b1 := by omega
      rw [Nat.sub_self] at hg
      have hR1 : R1 = true := hg.symm
      subst hR1
      clear hg hb
      have hge : ¬ (k : Int) < (k : Int) := by omega
      go_wp2
      go_loopw [12, 13] (fun j i wr => ∃ (L : Bool) (x : Nat), l + 1 ≤ x ∧ x ≤ r1 ∧ j = .bool L ∧ i = .int .i64 (x : Int) ∧ (allG (fun y => hasA (P k y) 10) x (r1 - x) && (L || anyG (fun y => hasA (P t y) 10) x (r1 - x))) = R2 ∧ Below W4.heap.size W4 wr) (fun _ i _ => r1 - (intOf i).toNat)
      case atStart => exact ⟨q8, l + 1, Nat.le_refl _, by have := Hrb.out; omega, rfl, by go_num, HR2.out, Hbr.out⟩
      case round =>
        clear HR2 Hbr k0 k1 k2 k3 k4 k5
        obtain ⟨L, x, hc, hd, rfl, rfl, hg, hbr⟩ := hrel
        rename World => wi
        obtain ⟨k0, k1, k2, k3, k4, k5⟩ := vbF_cells (HV.out wi hbr)
        have Hbr := hide hbr
        clear hbr
        by_cases hlt2 : x < r1
        · have hltI : (x : Int) < (r1 : Int) := by omega
          have hxr : x < r := by have := Hrb.out; omega
          have hkb : k < b ∧ t < b := by have := Hrb.out; omega
          have HA := hide (HHk.out wi Hbr.out k x hkb.1 hxr).2
          have HB := hide (fun (W1 : World) (hb : Below W4.heap.size W4 W1) => (HHk.out W1 hb t x hkb.2 hxr).2)
          rw [allG_step _ _ _ (by omega), anyG_step _ _ _ (by omega)] at hg
          obtain ⟨qa, hqa⟩ : ∃ q, hasA (P k x) 10 = q := ⟨_, rfl⟩
          obtain ⟨qb, hqb⟩ : ∃ q, hasA (P t x) 10 = q := ⟨_, rfl⟩
          rw [hqa] at HA
          simp only [hqb] at HB
          rw [hqa, hqb] at hg
          clear hqa hqb hkb hxr
          cases qa with
          | false =>
            have Hg := hide (show R2 = false from hg.symm)
            clear hg
            go_wp2_with (first
              | (go_at_call 43; (with_reducible refine HA.out.mono ?_); rintro e w9 ⟨rfl, hbn⟩; have Hb9 := hide (Hbr.out.trans (hbn.mono Hbr.out.size)); clear hbn)
              | fail)
            go_ret
            exact ⟨by rw [Hg.out]; rfl, Hbox.out _ Hb9.out⟩
          | true =>
          cases L with
          | true =>
            have Hg := hide (show (allG (fun y => hasA (P k y) 10) (x + 1) (r1 - x - 1) && (true || anyG (fun y => hasA (P t y) 10) (x + 1) (r1 - x - 1))) = R2 from hg)
            clear hg
            go_wp2_with (first
              | (go_at_call 43; (with_reducible refine HA.out.mono ?_); rintro e w9 ⟨rfl, hbn⟩; have hbm := (Hbr.out.trans (hbn.mono Hbr.out.size)); obtain ⟨k0, k1, k2, k3, k4, k5⟩ := vbF_cells (HV.out w9 hbm); have Hb9 := hide hbm; clear hbn hbm)
              | fail)
            go_roundw
            case rel => exact ⟨true, x + 1, by omega, by omega, rfl, by go_num, by rw [← Nat.sub_sub]; exact Hg.out, Hb9.out⟩
            case measure => simp [intOf]; omega
          | false =>
            have Hg := hide (show (allG (fun y => hasA (P k y) 10) (x + 1) (r1 - x - 1) && (qb || anyG (fun y => hasA (P t y) 10) (x + 1) (r1 - x - 1))) = R2 from hg)
            clear hg
            go_wp2_with (first
              | (go_at_call 43; (with_reducible refine (HB.out w9 Hb9.out).mono ?_); rintro e w10 ⟨rfl, hbn⟩; have Hb10 := hide (Hb9.out.trans (hbn.mono Hb9.out.size)); clear hbn)
              | (go_at_call 43; (with_reducible refine HA.out.mono ?_); rintro e w9 ⟨rfl, hbn⟩; have hbm := (Hbr.out.trans (hbn.mono Hbr.out.size)); obtain ⟨k0, k1, k2, k3, k4, k5⟩ := vbF_cells (HV.out w9 hbm); have Hb9 := hide hbm; clear hbn hbm)
              | fail)
            go_roundw
            case rel => exact ⟨qb, x + 1, by omega, by omega, rfl, by go_num, by rw [← Nat.sub_sub]; exact Hg.out, Hb10.out⟩
            case measure => simp [intOf]; omega
        · obtain rfl : x = r1 := by omega
          rw [Nat.sub_self] at hg
          have Hg := hide (show R2 = L by rw [← hg]; simp [allG, anyG])
          clear hg hd
          have hge2 : ¬ (x : Int) < (x : Int) := by omega
          go_wp2
          go_ret
          exact ⟨by rw [Hg.out]; rfl, Hbox.out _ Hbr.out⟩
end Go.Proofs.YtdgmjbcfopkibaaDoor
