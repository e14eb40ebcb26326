/- narratorref03: the same error and the same width. -/
import Derived.Test.YtdkppdjonlldhaaGreatDoorV6
namespace Go.Proofs.YtdkppdjonlldhaaGreatDoor
open Go.RowKit

set_option maxHeartbeats 1000000 in
theorem chars03 (w : World) (s : ByteArray) (hs : s.size ≤ 4000000) (hv : Lib.validD s.data.toList = true) : Calls Tryz.prog 43 #[.string s] w fun e w' => ∃ A c, e = .returned (.slice A (runesD s.data.toList).length c) ∧ RnRow w' w'.heap.size A (runesD s.data.toList) ∧ Below w.heap.size w w' := by
  have H := hide (fun w => decodeOf w s hs _ _ (decFrom_valid _ hv))
  clear hv
  go_enter Tryz.func43, Tryz.ntmps43
  go_wp2_with (go_at_call 65; refine (H.out _).mono ?_; rintro e w1 ⟨A, c, rfl, hr, hb⟩)
  go_ret
  exact ⟨A, c, rfl, hr, hb⟩

set_option maxHeartbeats 1000000 in
theorem check03 (w : World) (s : ByteArray) (hs : s.size ≤ 4000000) : Calls Tryz.prog 28 #[.string s] w fun e w' => e = .returned (.int .i64 (clErr s.data.toList)) ∧ Below w.heap.size w w' := by
  obtain ⟨l, hl⟩ : ∃ l, s.data.toList = l := ⟨_, rfl⟩
  have hl' : s.toList = l := by rw [ByteArray.toList_eq]; exact hl
  have hsz : l.length = s.size := by rw [← hl]; rfl
  rw [hl]
  by_cases h0 : l = []
  · have E := hide (clErr_syntax (Or.inl h0))
    have h1 : s.toList = [] := by rw [hl']; exact h0
    rw [E.out]
    clear hl hl' hsz
    go_enter Tryz.func28, Tryz.ntmps28
    go_wp2
    go_ret
    exact ⟨rfl, Below.refl _ _⟩
  · have h1 : (s.toList.isEmpty) = false := by rw [hl']; simp [h0]
    have h2 : ¬ s.toList = [] := by rw [hl']; exact h0
    cases hv : Lib.validD l with
    | false =>
      have E := hide (clErr_syntax (Or.inr hv))
      rw [E.out]
      have HV : Hid (Lib.validD s.data.toList = false) := hide (by rw [hl]; exact hv)
      clear hl hl' hsz hv
      go_enter Tryz.func28, Tryz.ntmps28
      go_wp2_with (go_at_call 42; refine (valid01 _ s (by omega)).mono ?_; rw [HV.out]; rintro e w1 ⟨rfl, hb⟩)
      go_ret
      exact ⟨rfl, hb⟩
    | true =>
      obtain ⟨r, rs, hr⟩ := runesD_ne h0
      have E := clErr_cons (l := l) (by simp [h0, hv]) hr
      have hlen := runesD_len l
      rw [hr] at hlen
      obtain ⟨V, hV⟩ : ∃ V, clErr l = V := ⟨_, rfl⟩
      rw [hV]
      rw [hV] at E
      have HE := hide E
      have HV : Hid (Lib.validD s.data.toList = true) := hide (by rw [hl]; exact hv)
      have HC := hide (fun w => chars03 w s hs (by rw [hl]; exact hv))
      rw [hl, hr] at HC
      simp only [List.length_cons] at hlen
      have hlen2 : rs.length < 4000000 := by omega
      clear hl hl' hsz hv E hr hlen h0 hV
      cases hm : isMark r with
      | true =>
        have hc1 := mark_cw hm
        go_enter Tryz.func28, Tryz.ntmps28
        go_wp2_with (first
          | (go_at_call 42; refine (valid01 _ s (by omega)).mono ?_; rw [HV.out]; rintro e w1 ⟨rfl, hb⟩)
          | (go_at_call 43; refine (HC.out _).mono ?_; rintro e w2 ⟨A, c, rfl, hrow, hb2⟩; obtain ⟨b, off, rfl, hbl, c0⟩ := hrow.get1 (k := 0) (by simp); simp only [One, Nat.add_zero, List.getElem_cons_zero] at c0)
          | (go_at_call 44; refine (mark02 _ _).mono ?_; rintro e w3 ⟨rfl, hb3⟩))
        go_ret
        exact ⟨ret_int (by rw [HE.out, if_pos (Or.inl hc1)]), (hb.trans (hb2.mono hb.size)).trans (hb3.mono (Nat.le_trans hb.size hb2.size))⟩
      | false =>
        by_cases hw : cw r < 1
        · go_enter Tryz.func28, Tryz.ntmps28
          go_wp2_with (first
            | (go_at_call 42; refine (valid01 _ s (by omega)).mono ?_; rw [HV.out]; rintro e w1 ⟨rfl, hb⟩)
            | (go_at_call 43; refine (HC.out _).mono ?_; rintro e w2 ⟨A, c, rfl, hrow, hb2⟩; obtain ⟨b, off, rfl, hbl, c0⟩ := hrow.get1 (k := 0) (by simp); simp only [One, Nat.add_zero, List.getElem_cons_zero] at c0)
            | (go_at_call 44; refine (mark02 _ _).mono ?_; rintro e w3 ⟨rfl, hb3⟩; have c03 := (hb3.cell (p := ⟨b, off, none⟩) hbl).trans c0)
            | (go_at_call 45; refine (width02 _ _).mono ?_; rintro e w4 ⟨rfl, hb4⟩))
          go_ret
          exact ⟨ret_int (by rw [HE.out, if_pos (Or.inl hw)]), ((hb.trans (hb2.mono hb.size)).trans (hb3.mono (Nat.le_trans hb.size hb2.size))).trans (hb4.mono (Nat.le_trans hb.size (Nat.le_trans hb2.size hb3.size)))⟩
        · have hwb : decide (cw r < 1) = false := by simpa using hw
          have HW := hide hw
          clear hw
          go_enter Tryz.func28, Tryz.ntmps28
          go_wp2_with (first
            | (go_at_call 42; refine (valid01 _ s (by omega)).mono ?_; rw [HV.out]; rintro e w1 ⟨rfl, hb⟩)
            | (go_at_call 43; refine (HC.out _).mono ?_; rintro e w2 ⟨A, c, rfl, hrow, hb2⟩; obtain ⟨b, off, rfl, hbl, c0⟩ := hrow.get1 (k := 0) (by simp); simp only [One, Nat.add_zero, List.getElem_cons_zero] at c0)
            | (go_at_call 44; refine (mark02 _ _).mono ?_; rintro e w3 ⟨rfl, hb3⟩; have c03 := (hb3.cell (p := ⟨b, off, none⟩) hbl).trans c0)
            | (go_at_call 45; refine (width02 _ _).mono ?_; rintro e w4 ⟨rfl, hb4⟩))
          have hrow4 := ((hrow.below (One.stays _ _) hb3).more hb3.size).below (One.stays _ _) hb4
          have hbx := ((hb.trans (hb2.mono hb.size)).trans (hb3.mono (Nat.le_trans hb.size hb2.size))).trans (hb4.mono (Nat.le_trans hb.size (Nat.le_trans hb2.size hb3.size)))
          have HROW := hide (hrow4.more hb4.size)
          clear hrow hrow4 hb hb2 hb3 hb4 c0 c03
          go_loopw [4] (fun i wr => ∃ k : Nat, k ≤ rs.length ∧ i = .int .i64 (k + 1) ∧ (rs.take k).all isMark = true ∧ Below w4.heap.size w4 wr) (fun i _ => rs.length + 1 - (intOf i).toNat)
          case atStart => exact ⟨0, Nat.zero_le _, rfl, by simp, Below.refl _ _⟩
          case round =>
            obtain ⟨k, hk, rfl, ha, hb⟩ := hrel
            have Ha := hide ha
            clear ha
            by_cases hlt : k < rs.length
            · obtain ⟨b', off', e0, hbb, hc⟩ := HROW.out.get1 (k := k + 1) (by simp; omega)
              cases e0
              rw [List.getElem_cons_succ] at hc
              have hcell := (hb.cell (p := ⟨b, off + (k + 1), none⟩) hbb).trans hc
              clear hc
              cases hmk : isMark rs[k] with
              | true =>
                go_wp2_with (go_at_call 44; refine (mark02 _ _).mono ?_; rintro e w5 ⟨rfl, hb1⟩)
                go_roundw
                case rel => exact ⟨k + 1, by omega, by go_num, by rw [all_take_succ _ _ _ hlt, Ha.out, hmk]; rfl, hb.trans (hb1.mono hb.size)⟩
                case measure => simp [intOf]; omega
              | false =>
                have hall := hide (all_not _ _ _ hlt hmk)
                go_wp2_with (go_at_call 44; refine (mark02 _ _).mono ?_; rintro e w5 ⟨rfl, hb1⟩)
                go_ret
                exact ⟨ret_int (by rw [HE.out, if_pos (Or.inr hall.out)]), hbx.trans ((hb.trans (hb1.mono hb.size)).mono hbx.size)⟩
            · have hall : rs.all isMark = true := by have h := Ha.out; rw [List.take_of_length_le (by omega)] at h; exact h
              have HALL := hide hall
              clear hall
              go_wp2
              all_goals
                go_ret
                first
                  | exact ⟨ret_int (by rw [HE.out, if_neg (by rw [HALL.out]; have := HW.out; simp; omega), if_pos (by omega)]), hbx.trans (hb.mono hbx.size)⟩
                  | exact ⟨ret_int (by rw [HE.out, if_neg (by rw [HALL.out]; have := HW.out; simp; omega), if_neg (by omega)]), hbx.trans (hb.mono hbx.size)⟩

set_option maxHeartbeats 1000000 in
theorem width03 (w : World) (s : ByteArray) (hs : s.size ≤ 4000000) : Calls Tryz.prog 29 #[.string s] w fun e w' => e = .returned (.int .i64 (clW s.data.toList)) ∧ Below w.heap.size w w' := by
  have H := hide (check03 w s hs)
  unfold clW
  by_cases h0 : clErr s.data.toList = 0
  · rw [if_pos h0]
    rw [h0] at H
    have hne : s.data.toList ≠ [] := by
      intro h; rw [h] at h0; revert h0; decide
    have hv : Lib.validD s.data.toList = true := by
      cases hv : Lib.validD s.data.toList with
      | true => rfl
      | false => rw [clErr_syntax (Or.inr hv)] at h0; cases h0
    obtain ⟨r, rs, hr⟩ := runesD_ne hne
    have HC := hide (fun w => chars03 w s hs hv)
    have hlen := runesD_len s.data.toList
    have hsz : s.data.toList.length = s.size := rfl
    rw [hr] at hlen HC ⊢
    rw [List.headD_cons]
    simp only [List.length_cons] at hlen
    have hlen2 : rs.length < 4000000 := by omega
    clear h0 hlen hsz hne hr hv
    go_enter Tryz.func29, Tryz.ntmps29
    go_wp2_with (first
      | (go_at_call 28; refine (H.out).mono ?_; rintro e w1 ⟨rfl, hb⟩)
      | (go_at_call 43; refine (HC.out _).mono ?_; rintro e w2 ⟨A, c, rfl, hrow, hb2⟩; obtain ⟨b, off, rfl, hbl, c0⟩ := hrow.get1 (k := 0) (by simp); simp only [One, Nat.add_zero, List.getElem_cons_zero] at c0)
      | (go_at_call 45; refine (width02 _ _).mono ?_; rintro e w3 ⟨rfl, hb3⟩))
    go_ret
    exact ⟨rfl, (hb.trans (hb2.mono hb.size)).trans (hb3.mono (Nat.le_trans hb.size hb2.size))⟩
  · rw [if_neg h0]
    have hne : ((clErr s.data.toList) != 0) = true := by simp [h0]
    clear h0
    go_enter Tryz.func29, Tryz.ntmps29
    go_wp2_with (go_at_call 28; refine (H.out).mono ?_; rintro e w1 ⟨rfl, hb⟩)
    go_ret
    exact ⟨rfl, hb⟩
end Go.Proofs.YtdkppdjonlldhaaGreatDoor
