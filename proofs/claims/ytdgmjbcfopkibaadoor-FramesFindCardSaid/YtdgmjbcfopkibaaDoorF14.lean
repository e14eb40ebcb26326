/- narratorref23.Arms. -/
import Derived.Test.YtdgmjbcfopkibaaDoorF3
import Derived.Test.YtdgmjbcfopkibaaDoorV6
namespace Go.Proofs.YtdgmjbcfopkibaaDoor
open Go.RowKit Go.Lib

def armBytes : List UInt8 := [97, 97, 53, 53, 97, 97, 53, 53, 97, 97, 53, 53, 54, 54, 54, 54, 99, 99, 99, 99, 51, 51, 51, 51, 57, 57, 57, 57, 55, 55, 55, 55, 55, 55, 55, 55, 100, 100, 100, 100, 100, 100, 100, 100, 101, 101, 101, 101, 101, 101, 101, 101, 98, 98, 98, 98, 98, 98, 98, 98, 102, 102, 102, 102, 102, 102, 102, 102, 102, 102, 102, 102, 102, 102, 102, 102, 97, 97, 53, 53, 97, 53, 54, 54, 54, 99, 99, 99, 51, 51, 51, 57, 57, 57, 55, 55, 55, 100, 100, 100, 101, 101, 101, 98, 98, 98, 102, 102, 102, 54, 99, 57, 51, 48, 48, 48, 56, 49, 50, 52, 56, 49, 50, 52, 97, 53, 97, 53]
theorem armBytes_eq : (⟨([97, 97, 53, 53, 97, 97, 53, 53, 97, 97, 53, 53, 54, 54, 54, 54, 99, 99, 99, 99, 51, 51, 51, 51, 57, 57, 57, 57, 55, 55, 55, 55, 55, 55, 55, 55, 100, 100, 100, 100, 100, 100, 100, 100, 101, 101, 101, 101, 101, 101, 101, 101, 98, 98, 98, 98, 98, 98, 98, 98, 102, 102, 102, 102].append [102, 102, 102, 102, 102, 102, 102, 102, 102, 102, 102, 102, 97, 97, 53, 53, 97, 53, 54, 54, 54, 99, 99, 99, 51, 51, 51, 57, 57, 57, 55, 55, 55, 100, 100, 100, 101, 101, 101, 98, 98, 98, 102, 102, 102, 54, 99, 57, 51, 48, 48, 48, 56, 49, 50, 52, 56, 49, 50, 52, 97, 53, 97, 53]).toArray⟩ : ByteArray) = ⟨armBytes.toArray⟩ := rfl
theorem arm_byte : ∀ i : Fin 128, (if 97 ≤ (armBytes.getD i.val 0).toNat then (armBytes.getD i.val 0).toNat - 97 + 10 else (armBytes.getD i.val 0).toNat - 48) = armTab.getD i.val 0 ∧ 48 ≤ (armBytes.getD i.val 0).toNat ∧ (armBytes.getD i.val 0).toNat ≤ 122 := by decide +kernel
theorem get_byte (l : List UInt8) (i : Nat) (h : i < (⟨l.toArray⟩ : ByteArray).size) : (⟨l.toArray⟩ : ByteArray)[i]'h = l.getD i 0 := by
  have hl : i < l.length := by simpa [ByteArray.size] using h
  rw [List.getD_eq_getElem?_getD, List.getElem?_eq_getElem hl]
  rfl

set_option maxRecDepth 100000 in
set_option maxHeartbeats 2000000 in
theorem arms23P (w : World) (s : ByteArray) (hs : s.size ≤ 500) : Calls Tryd.prog 13 #[.string s] w fun e w' => e = .returned (.int .i64 (armT s.data.toList)) ∧ Below w.heap.size w w' := by
  have HV := hide (fun W => valid01 W s hs)
  obtain ⟨V, hV⟩ : ∃ V, validD s.data.toList = V := ⟨_, rfl⟩
  rw [hV] at HV
  cases V with
  | false =>
    have HE := hide (show armT s.data.toList = 0 from armT_invalid hV)
    clear hV
    go_enter Tryd.func13, Tryd.ntmps13
    go_wp2_with (go_at_call 25; refine (HV.out _).mono ?_; rintro e w1 ⟨rfl, hb1⟩)
    go_ret
    exact ⟨by rw [HE.out]; rfl, hb1⟩
  | true =>
    obtain ⟨R, hR⟩ : ∃ R, runesD s.data.toList = R := ⟨_, rfl⟩
    have HD := hide (fun W => decodeOf W s hs R [] (by rw [decFrom_valid _ hV, hR]))
    obtain ⟨n, hn⟩ : ∃ n, R.length = n := ⟨_, rfl⟩
    have hbd : ∀ r ∈ R, GoodR r := by rw [← hR]; exact runesL_good _ _
    have Hn := hide hn
    by_cases h1 : n = 1
    · obtain ⟨r, hr⟩ := List.length_eq_one_iff.1 (hn.trans h1)
      have hg := hbd r (by rw [hr]; simp)
      have hgb : -2147483648 ≤ r ∧ r ≤ 2147483647 := by unfold GoodR at hg; omega
      have e1 : armT s.data.toList = armC r := armT_one (hR.trans hr)
      rw [e1]
      have q1 : ((n : Int) != 1) = false := by rw [h1]; rfl
      have hn0 : 0 < n := by omega
      have hn0I : (0 : Int) < (n : Int) := by omega
      have Hr := hide hr
      clear hbd hR hn hg e1 h1 hV
      by_cases r45 : r = 45
      · subst r45
        clear hgb
        go_enter Tryd.func13, Tryd.ntmps13
        go_wp2_with (first
          | (go_at_call 25; refine (HV.out _).mono ?_; rintro e w1 ⟨rfl, hb1⟩)
          | (go_at_call 26; refine (HD.out _).mono ?_; rintro e w2 ⟨A2, c2, rfl, hr2, hb2⟩; rw [Hn.out]; rw [Hr.out] at hr2; obtain ⟨b2, o2, rfl, -, c3⟩ := hr2.get1 (k := 0) (by simp); unfold One at c3; simp only [List.getElem_cons_zero, Nat.add_zero] at c3; clear hr2)
          | fail)
        go_ret
        exact ⟨rfl, hb1.trans (hb2.mono hb1.size)⟩
      by_cases r124 : r = 124
      · subst r124
        clear hgb
        go_enter Tryd.func13, Tryd.ntmps13
        go_wp2_with (first
          | (go_at_call 25; refine (HV.out _).mono ?_; rintro e w1 ⟨rfl, hb1⟩)
          | (go_at_call 26; refine (HD.out _).mono ?_; rintro e w2 ⟨A2, c2, rfl, hr2, hb2⟩; rw [Hn.out]; rw [Hr.out] at hr2; obtain ⟨b2, o2, rfl, -, c3⟩ := hr2.get1 (k := 0) (by simp); unfold One at c3; simp only [List.getElem_cons_zero, Nat.add_zero] at c3; clear hr2)
          | fail)
        go_ret
        exact ⟨rfl, hb1.trans (hb2.mono hb1.size)⟩
      by_cases r43 : r = 43
      · subst r43
        clear hgb
        go_enter Tryd.func13, Tryd.ntmps13
        go_wp2_with (first
          | (go_at_call 25; refine (HV.out _).mono ?_; rintro e w1 ⟨rfl, hb1⟩)
          | (go_at_call 26; refine (HD.out _).mono ?_; rintro e w2 ⟨A2, c2, rfl, hr2, hb2⟩; rw [Hn.out]; rw [Hr.out] at hr2; obtain ⟨b2, o2, rfl, -, c3⟩ := hr2.get1 (k := 0) (by simp); unfold One at c3; simp only [List.getElem_cons_zero, Nat.add_zero] at c3; clear hr2)
          | fail)
        go_ret
        exact ⟨rfl, hb1.trans (hb2.mono hb1.size)⟩
      have q45 : (r == 45) = false := beq_eq_false_iff_ne.2 r45
      have q124 : (r == 124) = false := beq_eq_false_iff_ne.2 r124
      have q43 : (r == 43) = false := beq_eq_false_iff_ne.2 r43
      by_cases hin : 9472 ≤ r ∧ r ≤ 9599
      · obtain ⟨i, hi⟩ : ∃ i : Nat, r = ((9472 + i : Nat) : Int) := ⟨(r - 9472).toNat, by omega⟩
        have hi128 : i < 128 := by omega
        have hri : r - 9472 = (i : Int) := by omega
        have e2 : armC r = armTab.getD i 0 := by rw [hi]; exact armC_tab i hi128
        obtain ⟨b1, b2', b3⟩ := arm_byte ⟨i, hi128⟩
        dsimp only at b1 b2' b3
        have d1 : decide (r < 9472) = false := decide_eq_false (by omega)
        have d2 : decide (9599 < r) = false := decide_eq_false (by omega)
        have hsz : i < (⟨armBytes.toArray⟩ : ByteArray).size := by show i < 128; exact hi128
        have hgt := get_byte armBytes i hsz
        obtain ⟨d, hd⟩ : ∃ d, armBytes.getD i 0 = d := ⟨_, rfl⟩
        rw [hd] at b1 b2' b3 hgt
        have HT := hide (e2.trans b1.symm)
        clear hi e2 b1 hd r45 r124 r43 hin
        have Hgt := hide hgt
        have Hsz := hide hsz
        clear hgt
        go_enter Tryd.func13, Tryd.ntmps13
        go_upto_region 16 with (first
          | (go_at_call 25; refine (HV.out _).mono ?_; rintro e w1 ⟨rfl, hb1⟩)
          | (go_at_call 26; refine (HD.out _).mono ?_; rintro e w2 ⟨A2, c2, rfl, hr2, hb2⟩; rw [Hn.out]; rw [Hr.out] at hr2; obtain ⟨b2, o2, rfl, -, c3⟩ := hr2.get1 (k := 0) (by simp); unfold One at c3; simp only [List.getElem_cons_zero, Nat.add_zero] at c3; clear hr2)
          | fail)
        rw [armBytes_eq]
        obtain ⟨TB, hTB⟩ : ∃ s : ByteArray, (⟨armBytes.toArray⟩ : ByteArray) = s := ⟨_, rfl⟩
        have hlt : i < TB.size := by rw [← hTB]; exact Hsz.out
        have hgt : TB[i]'hlt = d := by subst hTB; exact Hgt.out
        have hltI : (i : Int) < (TB.size : Int) := by omega
        have hi0 : (0 : Int) ≤ (i : Int) := by omega
        have l0 := d.toNat_lt
        rw [hTB]
        clear hTB Hgt Hsz hsz
        by_cases h97 : 97 ≤ d.toNat
        · have q97 : decide (97 ≤ (d.toNat : Int)) = true := decide_eq_true (by omega)
          have q97' : decide (97 ≤ d.toNat) = true := decide_eq_true h97
          have HT2 := hide (show armC r = d.toNat - 97 + 10 by rw [HT.out, if_pos h97])
          have hds : (d.toNat : Int) - 97 = ((d.toNat - 97 : Nat) : Int) := by omega
          go_wp2
          go_ret
          exact ⟨by rw [HT2.out]; exact ret_int (by push_cast; omega), hb1.trans (hb2.mono hb1.size)⟩
        · have q97 : decide (97 ≤ (d.toNat : Int)) = false := decide_eq_false (by omega)
          have q97' : decide (97 ≤ d.toNat) = false := decide_eq_false h97
          have HT2 := hide (show armC r = d.toNat - 48 by rw [HT.out, if_neg h97])
          have hds : (d.toNat : Int) - 48 = ((d.toNat - 48 : Nat) : Int) := by omega
          go_wp2
          go_ret
          exact ⟨by rw [HT2.out]; exact ret_int (by omega), hb1.trans (hb2.mono hb1.size)⟩
      · have hz : armC r = 0 := by unfold armC; rw [if_neg r45, if_neg r124, if_neg r43, if_neg hin]
        have HZ := hide hz
        have hq : decide (r < 9472) = true ∨ (decide (r < 9472) = false ∧ decide (9599 < r) = true) := by
          by_cases h : r < 9472
          · exact .inl (decide_eq_true h)
          · exact .inr ⟨decide_eq_false h, decide_eq_true (by omega)⟩
        clear hin hz r45 r124 r43
        rcases hq with d1 | ⟨d1, d2⟩
        all_goals
          go_enter Tryd.func13, Tryd.ntmps13
          go_wp2_with (first
            | (go_at_call 25; refine (HV.out _).mono ?_; rintro e w1 ⟨rfl, hb1⟩)
            | (go_at_call 26; refine (HD.out _).mono ?_; rintro e w2 ⟨A2, c2, rfl, hr2, hb2⟩; rw [Hn.out]; rw [Hr.out] at hr2; obtain ⟨b2, o2, rfl, -, c3⟩ := hr2.get1 (k := 0) (by simp); unfold One at c3; simp only [List.getElem_cons_zero, Nat.add_zero] at c3; clear hr2)
            | fail)
          go_ret
          exact ⟨by rw [HZ.out]; rfl, hb1.trans (hb2.mono hb1.size)⟩
    · have q1 : ((n : Int) != 1) = true := by rw [bne_iff_ne]; omega
      have HE := hide (show armT s.data.toList = 0 from armT_not (by rw [hR, hn]; exact h1))
      clear hbd hR hn h1 hV
      go_enter Tryd.func13, Tryd.ntmps13
      go_wp2_with (first
        | (go_at_call 25; refine (HV.out _).mono ?_; rintro e w1 ⟨rfl, hb1⟩)
        | (go_at_call 26; refine (HD.out _).mono ?_; rintro e w2 ⟨A2, c2, rfl, hr2, hb2⟩; rw [Hn.out])
        | fail)
      go_ret
      exact ⟨by rw [HE.out]; rfl, hb1.trans (hb2.mono hb1.size)⟩
end Go.Proofs.YtdgmjbcfopkibaaDoor
