/- progress.percent, narratorref27.percent. -/
import Derived.Test.YtnhcelckgfmljaaDoorPr2
namespace Go.Proofs.YtnhcelckgfmljaaDoor
open Go.RowKit

theorem sget (s : ByteArray) (k : Nat) (h : k < s.size) : s.data.toList[k]? = some s[k] := by
  rw [List.getElem?_eq_getElem (by simpa using h)]; rfl
theorem slen (s : ByteArray) : s.data.toList.length = s.size := rfl

set_option maxHeartbeats 400000 in
theorem digitP (w : World) (c : UInt8) : Calls Tryd.prog 30 #[.int .u8 c.toNat] w fun e w' => e = .returned (.bool (isDig c)) ∧ w = w' := by
  unfold isDig
  rcases (show c.toNat < 48 ∨ (48 ≤ c.toNat ∧ c.toNat ≤ 57) ∨ 57 < c.toNat by omega) with h | ⟨h1, h2⟩ | h
  all_goals
    go_enter Tryd.func30, Tryd.ntmps30
    go_wp2
    go_ret
    refine ⟨ret_bool ?_, rfl⟩
    first | (symm; simp; omega) | (rw [Bool.eq_iff_iff]; simp; omega)
/-- What percent returns. -/
def pcE (r : Option (Nat × Nat × Nat)) : Ending :=
  match r with
  | none => .returned (.tuple #[.int .i64 (-1), .int .i64 (-1), .int .i64 0])
  | some (a, b, n) => .returned (.tuple #[.int .i64 a, .int .i64 b, .int .i64 n])

theorem pcAt_nodig (s : ByteArray) (k : Nat) (h : k < s.size) (hd : isDig s[k] = false) : pcAt s.data.toList k = none :=
  startB_no (by unfold startB; rw [sget s k h]; simp [hd])
theorem pcAt_mid (s : ByteArray) (k : Nat) (h : k + 1 < s.size) (hd : isDig s[k] = true) : pcAt s.data.toList (k + 1) = none :=
  startB_no (by unfold startB; rw [sget s _ h]; simp [sget s k (by omega), hd])
theorem pcAt_no (s : ByteArray) (k : Nat) (h : ¬ (dn s.data.toList k ≤ 3 ∧ s.data.toList[k + dn s.data.toList k]? = some 37 ∧ dv s.data.toList k (dn s.data.toList k) ≤ 100)) : pcAt s.data.toList k = none := by
  unfold pcAt; rw [if_neg (fun hh => h hh.2)]
theorem pcAt_yes (s : ByteArray) (k : Nat) (hs : startB s.data.toList k = true) (h1 : dn s.data.toList k ≤ 3) (h2 : s.data.toList[k + dn s.data.toList k]? = some 37) (h3 : dv s.data.toList k (dn s.data.toList k) ≤ 100) :
    pcAt s.data.toList k = some (k, k + dn s.data.toList k + 1, dv s.data.toList k (dn s.data.toList k)) := by
  unfold pcAt; rw [if_pos ⟨hs, h1, h2, h3⟩]

/-- Where the walk of the digits stops. -/
theorem dn_ways (s : ByteArray) (k j : Nat) (hk : k < s.size) (hj : j = dn s.data.toList k) :
    (k + j = s.size ∧ j ≤ 4) ∨ (∃ h : k + j < s.size, isDig s[k + j] = false ∧ j ≤ 4) ∨ (∃ h : k + j < s.size, isDig s[k + j] = true ∧ j = 4) := by
  have hb := dn_le s.data.toList k
  rw [slen, ← hj] at hb
  rcases Nat.lt_or_ge (k + j) s.size with h | h
  · right
    cases hd : isDig s[k + j] with
    | false => exact .inl ⟨h, hd, hb.1⟩
    | true =>
      refine .inr ⟨h, hd, ?_⟩
      rcases Nat.lt_or_ge j 4 with h4 | h4
      · have := dn_stop s.data.toList k s[k + j] (by omega) (by rw [← hj]; exact sget s _ h)
        rw [hd] at this; cases this
      · omega
  · left; omega
theorem dv_step' (s : ByteArray) (k j : Nat) (h : k + j < s.size) : dv s.data.toList k (j + 1) = 10 * dv s.data.toList k j + (s[k + j].toNat - 48) := dv_step s.data.toList k j h
theorem dv_bd (s : ByteArray) (k j : Nat) (h : j ≤ dn s.data.toList k) : dv s.data.toList k j ≤ 9999 :=
  (dv_le s.data.toList k j (by have := dn_le s.data.toList k; omega) fun i c hi hc => dn_dig s.data.toList k i c (by omega) hc).1

set_option maxRecDepth 100000 in
set_option maxHeartbeats 4000000 in
theorem percentP (w : World) (s : ByteArray) (hs : s.size ≤ 1000) : Calls Tryd.prog 21 #[.string s] w fun e w' => e = pcE (percF s.data.toList) ∧ w = w' := by
  obtain ⟨R, hR⟩ : ∃ R, pcE (percF s.data.toList) = R := ⟨_, rfl⟩
  rw [hR]
  have HF := hide (fun i (h1 : i < s.size) (h2 : ∀ j, j < i → pcAt s.data.toList j = none) r (hr : pcAt s.data.toList i = some r) => (show pcE (some r) = R by rw [← hR]; unfold percF; rw [firstAt _ s.data.toList.length i h1 h2 hr]))
  have HN := hide (fun (h2 : ∀ j, j < s.size → pcAt s.data.toList j = none) => (show pcE none = R by rw [← hR]; unfold percF; rw [firstNo _ s.data.toList.length h2]))
  clear hR
  go_enter Tryd.func21, Tryd.ntmps21
  go_wp2
  go_loop [10] (fun i => ∃ k : Nat, k ≤ s.size ∧ i = .int .i64 k ∧ ∀ j, j < k → pcAt s.data.toList j = none) (fun i => s.size - (intOf i).toNat)
  case atStart => exact ⟨0, Nat.zero_le _, rfl, fun j hj => by omega⟩
  case round =>
    obtain ⟨k, hk, rfl, hno⟩ := hrel
    have Hno := hide hno
    clear hno
    by_cases hlt : k < s.size
    · cases hd : isDig s[k] with
      | false =>
        have Hn := hide (pcAt_nodig s k hlt hd)
        go_wp2_with (go_at_call 30; refine (digitP _ _).mono ?_; rintro e w1 ⟨rfl, rfl⟩)
        go_round
        case rel => exact ⟨k + 1, by omega, by go_num, fun j hj => by rcases Nat.lt_succ_iff_lt_or_eq.1 hj with h | rfl; exact Hno.out j h; exact Hn.out⟩
        case measure => simp [intOf]; omega
      | true =>
        have hstart : (0 < k ∧ ∃ m, ∃ h : m < s.size, k = m + 1 ∧ isDig s[m] = true) ∨ (0 < k ∧ ∃ m, ∃ h : m < s.size, k = m + 1 ∧ isDig s[m] = false) ∨ k = 0 := by
          cases k with
          | zero => exact .inr (.inr rfl)
          | succ m =>
            cases hm : isDig (s[m]'(by omega)) with
            | true => exact .inl ⟨by omega, m, by omega, rfl, hm⟩
            | false => exact .inr (.inl ⟨by omega, m, by omega, rfl, hm⟩)
        rcases hstart with ⟨h0, m, hml, hm, hmd⟩ | hst
        · have Hn := hide (show pcAt s.data.toList k = none by subst hm; exact pcAt_mid s m hlt hmd)
          have hix : (k : Int) - 1 = m := by omega
          have Hm := hide hm
          clear hm
          go_wp2_with (go_at_call 30; refine (digitP _ _).mono ?_; rintro e w1 ⟨rfl, rfl⟩)
          go_round
          case rel => exact ⟨k + 1, by omega, by go_num, fun j hj => by rcases Nat.lt_succ_iff_lt_or_eq.1 hj with h | rfl; exact Hno.out j h; exact Hn.out⟩
          case measure => simp [intOf]; omega
        · have hsB := hide (show startB s.data.toList k = true by
            unfold startB
            rw [sget s k hlt]
            rcases hst with ⟨h0, m, hml, hm, hmd⟩ | hk0
            · subst hm; simp [hd, sget s m hml, hmd]
            · subst hk0; simp [hd])
          rcases hst with ⟨h0, m, hml, hm, hmd⟩ | hk0
          all_goals first
            | (have hix : (k : Int) - 1 = m := by omega
               have Hm := hide hm
               clear hm
               go_wp2_with (go_at_call 30; refine (digitP _ _).mono ?_; rintro e w1 ⟨rfl, rfl⟩))
            | (have hz : decide (0 < k) = false := by simp [hk0]
               have Hk0 := hide hk0
               clear hk0
               go_wp2_with (go_at_call 30; refine (digitP _ _).mono ?_; rintro e w1 ⟨rfl, rfl⟩))
          all_goals
            clear hd
            obtain ⟨D, hD⟩ : ∃ D, dn s.data.toList k = D := ⟨_, rfl⟩
            have hdl := dn_le s.data.toList k
            rw [hD, slen] at hdl
            have HV := hide (fun j (h : j ≤ D) => dv_bd s k j (by rw [hD]; exact h))
            have HG := hide (fun j (h : j < D) (hl : k + j < s.size) => dn_dig s.data.toList k j s[k + j] (by rw [hD]; exact h) (sget s _ hl))
            have HW := hide (fun j (h : j = D) => dn_ways s k j hlt (by rw [hD]; exact h))
            have HPn := hide (pcAt_no s k)
            have HPy := hide (pcAt_yes s k hsB.out)
            rw [hD] at HPn HPy
            clear hD
            go_loop [6, 7] (fun e n => ∃ j : Nat, j ≤ D ∧ e = .int .i64 ((k + j : Nat) : Nat) ∧ n = .int .i64 (dv s.data.toList k j)) (fun e _ => s.size - (intOf e).toNat)
            case atStart => exact ⟨0, Nat.zero_le _, by simp, rfl⟩
            case round =>
              obtain ⟨j, hj, rfl, rfl⟩ := hrel
              have hvb := HV.out j hj
              by_cases hjd : j < D
              · have hkl : k + j < s.size := by omega
                have hdj := HG.out j hjd hkl
                have hdb := dig_bd hdj
                have Hst := hide (dv_step' s k j hkl)
                go_wp2_with (go_at_call 30; refine (digitP _ _).mono ?_; rintro e w1 ⟨rfl, rfl⟩)
                go_round
                case rel => exact ⟨j + 1, by omega, by go_num, int_eq (by rw [Hst.out]; omega)⟩
                case measure => simp [intOf]; omega
              · obtain rfl : j = D := by omega
                rcases HW.out j rfl with ⟨hks, hj4⟩ | ⟨hkl, hdj, hj4⟩ | ⟨hkl, hdj, hj4⟩
                · have hge : ¬ ((k : Int) + (j : Int) < (s.size : Int)) := by omega
                  have Hn := hide (HPn.out (by rintro ⟨-, h, -⟩; rw [List.getElem?_eq_none (by rw [slen]; omega)] at h; cases h))
                  have Hks := hide hks
                  clear hks
                  go_wp2
                  all_goals
                    go_round
                    case rel => exact ⟨k + 1, by omega, by go_num, fun i hi => by rcases Nat.lt_succ_iff_lt_or_eq.1 hi with h | rfl; exact Hno.out i h; exact Hn.out⟩
                    case measure => simp [intOf]; omega
                · rcases (show 3 < j ∨ (j ≤ 3 ∧ s[k + j] ≠ 37) ∨ (j ≤ 3 ∧ s[k + j] = 37 ∧ 100 < dv s.data.toList k j) ∨ (j ≤ 3 ∧ s[k + j] = 37 ∧ dv s.data.toList k j ≤ 100) by
                    by_cases c1 : 3 < j
                    · exact .inl c1
                    · by_cases c2 : s[k + j] = 37
                      · rcases Nat.lt_or_ge 100 (dv s.data.toList k j) with c3 | c3
                        · exact .inr (.inr (.inl ⟨by omega, c2, c3⟩))
                        · exact .inr (.inr (.inr ⟨by omega, c2, c3⟩))
                      · exact .inr (.inl ⟨by omega, c2⟩)) with h3 | ⟨h3, h37⟩ | ⟨h3, h37, h100⟩ | ⟨h3, h37, h100⟩
                  · have Hn := hide (HPn.out (fun hh => absurd hh.1 (by omega)))
                    go_wp2_with (go_at_call 30; refine (digitP _ _).mono ?_; rintro e w1 ⟨rfl, rfl⟩)
                    go_round
                    case rel => exact ⟨k + 1, by omega, by go_num, fun i hi => by rcases Nat.lt_succ_iff_lt_or_eq.1 hi with h | rfl; exact Hno.out i h; exact Hn.out⟩
                    case measure => simp [intOf]; omega
                  · have Hn := hide (HPn.out (fun hh => h37 (by have := hh.2.1; rw [sget s _ hkl] at this; exact Option.some.inj this)))
                    have hne : ((s[k + j].toNat : Int) == 37) = false := by
                      rw [beq_eq_false_iff_ne]; intro hc; exact h37 (UInt8.toNat_inj.1 (by show s[k + j].toNat = 37; omega))
                    clear h37
                    go_wp2_with (go_at_call 30; refine (digitP _ _).mono ?_; rintro e w1 ⟨rfl, rfl⟩)
                    go_round
                    case rel => exact ⟨k + 1, by omega, by go_num, fun i hi => by rcases Nat.lt_succ_iff_lt_or_eq.1 hi with h | rfl; exact Hno.out i h; exact Hn.out⟩
                    case measure => simp [intOf]; omega
                  · have Hn := hide (HPn.out (fun hh => absurd hh.2.2 (by omega)))
                    have hne : ((s[k + j].toNat : Int) == 37) = true := by rw [h37]; rfl
                    clear h37
                    go_wp2_with (go_at_call 30; refine (digitP _ _).mono ?_; rintro e w1 ⟨rfl, rfl⟩)
                    go_round
                    case rel => exact ⟨k + 1, by omega, by go_num, fun i hi => by rcases Nat.lt_succ_iff_lt_or_eq.1 hi with h | rfl; exact Hno.out i h; exact Hn.out⟩
                    case measure => simp [intOf]; omega
                  · have Hy := hide (HPy.out h3 (by rw [sget s _ hkl, h37]) h100)
                    have hne : ((s[k + j].toNat : Int) == 37) = true := by rw [h37]; rfl
                    clear h37
                    go_wp2_with (go_at_call 30; refine (digitP _ _).mono ?_; rintro e w1 ⟨rfl, rfl⟩)
                    go_ret3
                    exact ⟨by rw [← HF.out k hlt Hno.out _ Hy.out]; simp [pcE], rfl⟩
                · have Hn := hide (HPn.out (fun hh => absurd hh.1 (by omega)))
                  have Hj4 := hide hj4
                  have hj4' : 4 ≤ j := by omega
                  have hj3 : 3 < j := by omega
                  clear hj4
                  go_wp2_with (go_at_call 30; refine (digitP _ _).mono ?_; rintro e w1 ⟨rfl, rfl⟩)
                  all_goals
                    go_round
                    case rel => exact ⟨k + 1, by omega, by go_num, fun i hi => by rcases Nat.lt_succ_iff_lt_or_eq.1 hi with h | rfl; exact Hno.out i h; exact Hn.out⟩
                    case measure => simp [intOf]; omega
    · go_wp2
      go_ret3
      exact ⟨HN.out fun j hj => Hno.out j (by omega), rfl⟩
end Go.Proofs.YtnhcelckgfmljaaDoor
