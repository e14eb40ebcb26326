/- The reference's label, Words. -/
import Derived.Test.YtonnjokjbknngaaDoorZ6
import Derived.Test.YtonnjokjbknngaaDoorZ29
namespace Go.Proofs.YtonnjokjbknngaaDoor
open Go.RowKit Go.Lib Go.Shelf

set_option maxRecDepth 100000 in
set_option maxHeartbeats 1000000 in
theorem labelR (w : World) (s : ByteArray) (hs : s.size ≤ 3000000) : Calls Tryd.prog 58 #[.string s] w fun e w' => e = .returned (.bool (labB s.data.toList)) ∧ w = w' := by
  obtain ⟨R, hR⟩ : ∃ b, labB s.data.toList = b := ⟨_, rfl⟩
  rw [hR]
  match hl : s.data.toList with
  | [] =>
    obtain rfl := ba_of hl
    have HR := hide (show R = false by rw [← hR]; rfl)
    clear hR hl
    go_enter Tryd.func58, Tryd.ntmps58
    go_wp2
    go_ret
    exact ⟨ret_bool HR.out.symm, rfl⟩
  | c :: t =>
    have hlen : s.size = t.length + 1 := by show s.data.toList.length = _; rw [hl]; rfl
    have hp0 : 0 < s.size := by omega
    have hz0 : (0 : Int) < (s.size : Int) := by omega
    have hs0 : s[0]'hp0 = c := by rw [get_at, hl]; rfl
    have hne : (s.toList == []) = false := by rw [ByteArray.toList_eq, hl]; rfl
    have l0 := c.toNat_lt
    have HL := hide hl
    rw [hl] at hR
    by_cases h16 : 16 < s.size
    · have q : (16 : Int) < (s.size : Int) := by omega
      have HR := hide (show R = false by rw [← hR]; unfold labB; dsimp only; rw [decide_eq_false (show ¬ t.length + 1 ≤ 16 by omega)]; rfl)
      clear hR hl h16
      go_enter Tryd.func58, Tryd.ntmps58
      go_wp2
      go_ret
      exact ⟨ret_bool HR.out.symm, rfl⟩
    have q16' : decide ((16 : Int) < (s.size : Int)) = false := decide_eq_false (by omega)
    by_cases hlow : lowB c = true
    · have HR := hide (show (c :: t).all okB = R by rw [← hR]; unfold labB; dsimp only; rw [decide_eq_true (show t.length + 1 ≤ 16 by omega), hlow]; rfl)
      unfold lowB at hlow
      simp only [Bool.and_eq_true, decide_eq_true_iff] at hlow
      have q1' : decide ((c.toNat : Int) < 97) = false := decide_eq_false (by omega)
      have q2' : decide ((122 : Int) < (c.toNat : Int)) = false := decide_eq_false (by omega)
      have hs16 : s.size ≤ 16 := by omega
      clear hR hl hlow h16
      go_enter Tryd.func58, Tryd.ntmps58
      go_wp2
      go_loop [3] (fun i => ∃ k : Nat, k ≤ s.size ∧ i = .int .i64 k ∧ ((c :: t).drop k).all okB = R) (fun i => s.size - (intOf i).toNat)
      case atStart => exact ⟨0, Nat.zero_le _, rfl, HR.out⟩
      case round =>
        obtain ⟨k, hk, rfl, hall⟩ := hrel
        have Hall := hide hall
        clear hall
        by_cases hlt : k < s.size
        · have hltI : (k : Int) < (s.size : Int) := by omega
          have hkl : k < (c :: t).length := by simp; omega
          have hdr := List.drop_eq_getElem_cons hkl
          have hsk : s[k]'hlt = (c :: t)[k]'hkl := by
            rw [get_at, HL.out]
            simp only [List.getD_eq_getElem?_getD, List.getElem?_eq_getElem hkl]
            rfl
          have hall := Hall.out
          rw [hdr, List.all_cons] at hall
          obtain ⟨d, hd⟩ : ∃ d, (c :: t)[k]'hkl = d := ⟨_, rfl⟩
          rw [hd] at hsk hall
          have l1 := d.toNat_lt
          have Ha := hide hall
          clear hall hdr hd hkl Hall
          rcases (show d.toNat < 48 ∨ (48 ≤ d.toNat ∧ d.toNat ≤ 57) ∨ (58 ≤ d.toNat ∧ d.toNat < 97) ∨ (97 ≤ d.toNat ∧ d.toNat ≤ 122) ∨ 122 < d.toNat by omega) with h | h | h | h | h
          · have hok : okB d = false := by unfold okB lowB digB; simp; omega
            have HF := hide (show R = false by rw [← Ha.out, hok]; rfl)
            have p1 : decide ((d.toNat : Int) < 97) = true := decide_eq_true (by omega)
            have p3 : decide ((d.toNat : Int) < 48) = true := decide_eq_true (by omega)
            clear h hok Ha
            go_wp2
            go_ret
            exact ⟨ret_bool HF.out.symm, rfl⟩
          · have hok : okB d = true := by unfold okB lowB digB; simp; omega
            have HF := hide (show ((c :: t).drop (k + 1)).all okB = R by rw [← Ha.out, hok]; rfl)
            have p1 : decide ((d.toNat : Int) < 97) = true := decide_eq_true (by omega)
            have p3 : decide ((d.toNat : Int) < 48) = false := decide_eq_false (by omega)
            have p4 : decide ((57 : Int) < (d.toNat : Int)) = false := decide_eq_false (by omega)
            clear h hok Ha
            go_wp2
            go_round
            case rel => exact ⟨k + 1, by omega, by go_num, HF.out⟩
            case measure => simp [intOf]; omega
          · have hok : okB d = false := by unfold okB lowB digB; simp; omega
            have HF := hide (show R = false by rw [← Ha.out, hok]; rfl)
            have p1 : decide ((d.toNat : Int) < 97) = true := decide_eq_true (by omega)
            have p3 : decide ((d.toNat : Int) < 48) = false := decide_eq_false (by omega)
            have p4 : decide ((57 : Int) < (d.toNat : Int)) = true := decide_eq_true (by omega)
            clear h hok Ha
            go_wp2
            go_ret
            exact ⟨ret_bool HF.out.symm, rfl⟩
          · have hok : okB d = true := by unfold okB lowB digB; simp; omega
            have HF := hide (show ((c :: t).drop (k + 1)).all okB = R by rw [← Ha.out, hok]; rfl)
            have p1 : decide ((d.toNat : Int) < 97) = false := decide_eq_false (by omega)
            have p2 : decide ((122 : Int) < (d.toNat : Int)) = false := decide_eq_false (by omega)
            clear h hok Ha
            go_wp2
            go_round
            case rel => exact ⟨k + 1, by omega, by go_num, HF.out⟩
            case measure => simp [intOf]; omega
          · have hok : okB d = false := by unfold okB lowB digB; simp; omega
            have HF := hide (show R = false by rw [← Ha.out, hok]; rfl)
            have p1 : decide ((d.toNat : Int) < 97) = false := decide_eq_false (by omega)
            have p2 : decide ((122 : Int) < (d.toNat : Int)) = true := decide_eq_true (by omega)
            have p3 : decide ((d.toNat : Int) < 48) = false := decide_eq_false (by omega)
            have p4 : decide ((57 : Int) < (d.toNat : Int)) = true := decide_eq_true (by omega)
            clear h hok Ha
            go_wp2
            go_ret
            exact ⟨ret_bool HF.out.symm, rfl⟩
        · have hkl : (c :: t).length ≤ k := by simp; omega
          have hall := Hall.out
          rw [List.drop_of_length_le hkl] at hall
          have HF := hide (show R = true from hall.symm)
          clear hall Hall hkl
          obtain rfl : k = s.size := by omega
          go_wp2
          go_ret
          exact ⟨ret_bool HF.out.symm, rfl⟩
    · have HR := hide (show R = false by rw [← hR]; unfold labB; dsimp only; rw [show lowB c = false by simpa using hlow]; simp)
      have hcase : c.toNat < 97 ∨ (97 ≤ c.toNat ∧ 122 < c.toNat) := by
        unfold lowB at hlow
        simp only [Bool.and_eq_true, decide_eq_true_iff] at hlow
        omega
      clear hR hl hlow
      rcases hcase with q1 | ⟨q1, q2⟩
      · have q1' : decide ((c.toNat : Int) < 97) = true := decide_eq_true (by omega)
        go_enter Tryd.func58, Tryd.ntmps58
        go_wp2
        go_ret
        exact ⟨ret_bool HR.out.symm, rfl⟩
      · have q1' : decide ((c.toNat : Int) < 97) = false := decide_eq_false (by omega)
        have q2' : decide ((122 : Int) < (c.toNat : Int)) = true := decide_eq_true (by omega)
        go_enter Tryd.func58, Tryd.ntmps58
        go_wp2
        go_ret
        exact ⟨ret_bool HR.out.symm, rfl⟩
end Go.Proofs.YtonnjokjbknngaaDoor
