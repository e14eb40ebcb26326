/- The reference's Decode. -/
import Derived.Test.YtonnjokjbknngaaDoorZ15
namespace Go.Proofs.YtonnjokjbknngaaDoor
open Go.RowKit Go.Lib Go.Shelf

set_option maxRecDepth 100000 in
set_option maxHeartbeats 4000000 in
theorem decR (w : World) (s : ByteArray) (hs : s.size ≤ 100000) : Calls Tryd.prog 16 #[.string s] w (DecRet w s.data.toList) := by
  have hown0 : OwnIns (w.alloc (.cells #[] 41)) w.heap.size (.slice (some ⟨w.heap.size, 0, none⟩) 0 0) [] := own_lit w w.heap.size 41 2 0 #[] (Nat.le_refl _) (by omega) rfl
  have hb0 := (Below.refl w.heap.size w).alloc (Nat.le_refl _) (.cells #[] 41)
  go_enter Tryd.func16, Tryd.ntmps16
  go_wp2
  go_loopw [5, 4] (fun pv v wr => ∃ (p : Nat) (acc : List Ins) (f : Nat), pv = .int .i64 p ∧ p ≤ s.size ∧ s.size < p + f ∧ acc.length ≤ 500 ∧ decC s.data.toList = decG f (s.data.toList.drop p) acc ∧ OwnIns wr w.heap.size v acc ∧ Below w.heap.size w wr) (fun pv _ _ => s.size - (intOf pv).toNat)
  case atStart => exact ⟨0, [], s.size + 1, rfl, Nat.zero_le _, by omega, by simp, rfl, hown0, hb0⟩
  case round =>
    clear hown0 hb0
    obtain ⟨p, acc, f, rfl, hp, hf, hal, hdec, hown, hbr⟩ := hrel
    rename World => wo
    obtain ⟨f, rfl⟩ : ∃ g, f = g + 1 := ⟨f - 1, by omega⟩
    have HO := hide hown
    have HB := hide hbr
    have hwo : w.heap.size ≤ wo.heap.size := hbr.size
    obtain ⟨n, hn⟩ : ∃ n, acc.length = n := ⟨_, rfl⟩
    by_cases hlt : p < s.size
    · have hltI : (p : Int) < (s.size : Int) := by omega
      have hpl : p < s.data.toList.length := hlt
      have hdr : s.data.toList.drop p = (s[p]'hlt) :: s.data.toList.drop (p + 1) := by rw [List.drop_eq_getElem_cons hpl]; rfl
      obtain ⟨b, hbb⟩ : ∃ b, (s[p]'hlt) = b := ⟨_, rfl⟩
      obtain ⟨t, ht⟩ : ∃ t, s.data.toList.drop (p + 1) = t := ⟨_, rfl⟩
      have htl : t.length = s.size - (p + 1) := by rw [← ht, List.length_drop]; rfl
      rw [hdr, hbb, ht, decG_cons] at hdec
      have l0 := b.toNat_lt
      obtain ⟨A1, c1, rfl⟩ := own_form hown
      have HJ := hide (fun W => jumpP W b.toNat)
      obtain ⟨JB, hJ⟩ : ∃ x, jumpB b.toNat = x := ⟨_, rfl⟩
      simp only [hJ] at HJ
      obtain ⟨SZ, hSZ⟩ : ∃ z, szN b.toNat = z := ⟨_, rfl⟩
      rw [hn] at hdec
      obtain ⟨L, hL⟩ : ∃ x, loA b.toNat n = x := ⟨_, rfl⟩
      rw [hL, hSZ] at hdec
      have hcase : (((b.toNat : Int) == 1) = true ∧ JB = false ∧ SZ = 4 ∧ L = -999999999) ∨ (((b.toNat : Int) == 1) = false ∧ JB = true ∧ SZ = 2 ∧ L = (n : Int) + 1) ∨ (((b.toNat : Int) == 1) = false ∧ JB = false ∧ SZ = 0 ∧ L = 0) := by
        rw [← hL, ← hSZ, ← hJ]
        unfold loA szN jumpB
        by_cases h1 : b.toNat = 1
        · left; rw [h1]; exact ⟨rfl, rfl, rfl, rfl⟩
        · have h1' : ¬ (b.toNat : Int) = 1 := by omega
          rw [if_neg h1, if_neg h1']
          have hq : ((b.toNat : Int) == 1) = false := by rw [beq_eq_false_iff_ne]; exact h1'
          by_cases h2 : b.toNat = 17 ∨ b.toNat = 18
          · right; left; rw [if_pos h2, if_pos (by omega)]; exact ⟨hq, decide_eq_true (by omega), rfl, rfl⟩
          · right; right; rw [if_neg h2, if_neg (by omega)]; exact ⟨hq, decide_eq_false (by omega), rfl, rfl⟩
      have Hdec := hide hdec
      have Hn := hide hn
      have Ht := hide ht
      rw [hn] at hal HO ⊢
      have htl1 : t.length + p + 1 = s.size := by omega
      have Htl := hide htl1
      clear hdec hdr hpl ht htl htl1 hL hSZ hJ hown hbr hn
      by_cases h5 : n = 500
      · have HR := hide (show decC s.data.toList = (5, []) by rw [Hdec.out, if_pos h5])
        have q5 : ((n : Int) == 500) = true := by rw [h5]; rfl
        clear h5 hcase
        go_wp2
        go_ret2
        exact decRet_err HR.out (HB.out.alloc hwo _)
      have q5 : ((n : Int) == 500) = false := by rw [beq_eq_false_iff_ne]; omega
      have h499 : n ≤ 499 := by omega
      by_cases h20 : 20 < b.toNat
      · have HR := hide (show decC s.data.toList = (9, []) by rw [Hdec.out, if_neg h5, if_pos h20])
        have h21 : (20 : Int) < (b.toNat : Int) := by omega
        clear h5 hcase
        go_wp2
        go_ret2
        exact decRet_err HR.out (HB.out.alloc hwo _)
      have h21 : decide ((20 : Int) < (b.toNat : Int)) = false := decide_eq_false (by omega)
      by_cases h4 : t.length < SZ
      · have HR := hide (show decC s.data.toList = (4, []) by rw [Hdec.out, if_neg h5, if_neg h20, if_pos h4])
        have h4' : (s.size : Int) - p - 1 < (SZ : Int) := by have := Htl.out; omega
        clear h5 h20 h4
        rcases hcase with ⟨c1, rfl, rfl, rfl⟩ | ⟨c1, rfl, rfl, rfl⟩ | ⟨c1, rfl, rfl, rfl⟩
        · go_wp2_with (first | (go_at_call 35; refine (HJ.out _).mono ?_; rintro e w3 ⟨rfl, rfl⟩) | fail)
          go_ret2
          exact decRet_err HR.out (HB.out.alloc hwo _)
        · go_wp2_with (first | (go_at_call 35; refine (HJ.out _).mono ?_; rintro e w3 ⟨rfl, rfl⟩) | fail)
          go_ret2
          exact decRet_err HR.out (HB.out.alloc hwo _)
        · exfalso; have := Htl.out; omega
      have hd := Hdec.out
      rw [if_neg h5, if_neg h20, if_neg h4] at hd
      have hszt : SZ ≤ t.length := by omega
      have hszs : p + 1 + SZ ≤ s.size := by have := Htl.out; omega
      have hszI : decide ((s.size : Int) - p - 1 < (SZ : Int)) = false := decide_eq_false (by omega)
      have hszI2 : (SZ : Int) ≤ (s.size : Int) - p - 1 := by omega
      have Hd := hide hd
      clear hd Hdec h5 h20 h4
      have Hget := hide (fun j (hj : j < SZ) => (show s[p + 1 + j]'(by omega) = t[j]'(by omega) by
        have h1 := Ht.out
        subst h1
        simp
        rfl))
      rcases hcase with ⟨q1, rfl, rfl, rfl⟩ | ⟨q1, rfl, rfl, rfl⟩ | ⟨q1, rfl, rfl, rfl⟩
      · go_wp2_with (first | (go_at_call 35; refine (HJ.out _).mono ?_; rintro e w3 ⟨rfl, rfl⟩) | fail)
        have Hvl := hide (fun j (hj : j < 4) => (show valBE (t.take (j + 1)) = 256 * valBE (t.take j) + (t[j]'(by omega)).toNat ∧ valBE (t.take j) < 16777216 by
          refine ⟨by rw [List.take_succ_eq_append_getElem (by omega), valBE_snoc], ?_⟩
          have h1 := valBE_lt (t.take j)
          have h2 : (t.take j).length ≤ 3 := by rw [List.length_take]; omega
          have h3 : 256 ^ (t.take j).length ≤ 256 ^ 3 := Nat.pow_le_pow_right (by omega) h2
          have h4 : 256 ^ 3 = 16777216 := by decide
          omega))
        go_loop [8, 9] (fun nv i => ∃ j : Nat, j ≤ 4 ∧ i = .int .i64 j ∧ nv = .int .i64 (valBE (t.take j) : Nat)) (fun _ i => 4 - (intOf i).toNat)
        case atStart => exact ⟨0, Nat.zero_le _, rfl, rfl⟩
        case round =>
          obtain ⟨j, hj, rfl, rfl⟩ := hrel
          by_cases hltj : j < 4
          · have hltjI : (j : Int) < 4 := by omega
            obtain ⟨hs1, hv⟩ := Hvl.out j hltj
            have hg := Hget.out j hltj
            obtain ⟨x, hx⟩ : ∃ x, t[j]'(by omega) = x := ⟨_, rfl⟩
            rw [hx] at hs1 hg
            have lx := x.toNat_lt
            have hpj : p + 1 + j < s.size := by omega
            have hpjI : (p : Int) + 1 + j < (s.size : Int) := by omega
            have Hs := hide hs1
            obtain ⟨V, hV⟩ : ∃ v, valBE (t.take j) = v := ⟨_, rfl⟩
            rw [hV] at hv Hs ⊢
            clear hs1 hx hV
            go_wp2
            exact ⟨⟨j + 1, by omega, by go_num, by rw [Hs.out]; go_num⟩, by simp [intOf]; omega⟩
          · obtain rfl : j = 4 := by omega
            have hVb : valBE (t.take 4) < 4294967296 := by
              have h1 := valBE_lt (t.take 4)
              have h2 : (t.take 4).length ≤ 4 := by rw [List.length_take]; omega
              have h3 : 256 ^ (t.take 4).length ≤ 256 ^ 4 := Nat.pow_le_pow_right (by omega) h2
              have h4 : 256 ^ 4 = 4294967296 := by decide
              omega
            have hd := Hd.out
            have hV0 : valBE (t.take 0) = 0 := by simp [valBE]
            have HV0 := hide hV0
            clear hV0
            obtain ⟨V, hV⟩ : ∃ v, valBE (t.take 4) = v := ⟨_, rfl⟩
            rw [hV] at hVb hd ⊢
            have Hd2 := hide hd
            have HV := hide hV
            have HOa := hide ((own_eq HO.out Hn.out rfl).alloc (.cells #[.int .i64 b.toNat, .int .i64 ((V : Int) - 999999999)] 41))
            clear hd hV Hd Hvl Hget
            go_wp2_with (first
              | (go_at_call 35; refine (HJ.out _).mono ?_; rintro e w3 ⟨rfl, rfl⟩)
              | (at_builtin; refine wpList_app _ (.tmp 70) (.tmp 72) 23 rfl (by rfl) el_ins w.heap.size (.slice A1 n c1) n _ (by rfl) HOa.out (by simp; omega) #[.int .i64 b.toNat, .int .i64 ((V : Int) - 999999999)] 1 1 41 _ (by rfl) (by simp) rfl (by simp [Value.oneCell']) (by omega) ?_; intro v7 w7 hown7 hg7; have HO7 := hide hown7; have HG7 := hide hg7; clear hown7 hg7)
              | fail)
            go_roundw
            case rel =>
              refine ⟨p + 1 + 4, acc ++ [⟨b.toNat, (V : Int) + -999999999⟩], f, by go_num, by omega, by omega, by rw [List.length_append, Hn.out]; simp; omega, ?_, ?_, (HB.out.alloc hwo _).grown HG7.out (by simp; omega) (fun j hj => (HOa.out.lt j hj).1)⟩
              · rw [Hd2.out, ← Ht.out, List.drop_drop]
              · exact own_eq HO7.out (by rw [List.length_append, Hn.out]; rfl) (by simp [Ins.enc]; omega)
            case measure => simp [intOf]; omega
      · go_wp2_with (first | (go_at_call 35; refine (HJ.out _).mono ?_; rintro e w3 ⟨rfl, rfl⟩) | fail)
        have Hvl := hide (fun j (hj : j < 2) => (show valBE (t.take (j + 1)) = 256 * valBE (t.take j) + (t[j]'(by omega)).toNat ∧ valBE (t.take j) < 16777216 by
          refine ⟨by rw [List.take_succ_eq_append_getElem (by omega), valBE_snoc], ?_⟩
          have h1 := valBE_lt (t.take j)
          have h2 : (t.take j).length ≤ 3 := by rw [List.length_take]; omega
          have h3 : 256 ^ (t.take j).length ≤ 256 ^ 3 := Nat.pow_le_pow_right (by omega) h2
          have h4 : 256 ^ 3 = 16777216 := by decide
          omega))
        go_loop [8, 9] (fun nv i => ∃ j : Nat, j ≤ 2 ∧ i = .int .i64 j ∧ nv = .int .i64 (valBE (t.take j) : Nat)) (fun _ i => 2 - (intOf i).toNat)
        case atStart => exact ⟨0, Nat.zero_le _, rfl, rfl⟩
        case round =>
          obtain ⟨j, hj, rfl, rfl⟩ := hrel
          by_cases hltj : j < 2
          · have hltjI : (j : Int) < 2 := by omega
            obtain ⟨hs1, hv⟩ := Hvl.out j hltj
            have hg := Hget.out j hltj
            obtain ⟨x, hx⟩ : ∃ x, t[j]'(by omega) = x := ⟨_, rfl⟩
            rw [hx] at hs1 hg
            have lx := x.toNat_lt
            have hpj : p + 1 + j < s.size := by omega
            have hpjI : (p : Int) + 1 + j < (s.size : Int) := by omega
            have Hs := hide hs1
            obtain ⟨V, hV⟩ : ∃ v, valBE (t.take j) = v := ⟨_, rfl⟩
            rw [hV] at hv Hs ⊢
            clear hs1 hx hV
            go_wp2
            exact ⟨⟨j + 1, by omega, by go_num, by rw [Hs.out]; go_num⟩, by simp [intOf]; omega⟩
          · obtain rfl : j = 2 := by omega
            have hVb : valBE (t.take 2) < 4294967296 := by
              have h1 := valBE_lt (t.take 2)
              have h2 : (t.take 2).length ≤ 4 := by rw [List.length_take]; omega
              have h3 : 256 ^ (t.take 2).length ≤ 256 ^ 4 := Nat.pow_le_pow_right (by omega) h2
              have h4 : 256 ^ 4 = 4294967296 := by decide
              omega
            have hd := Hd.out
            have hV0 : valBE (t.take 0) = 0 := by simp [valBE]
            have HV0 := hide hV0
            clear hV0
            obtain ⟨V, hV⟩ : ∃ v, valBE (t.take 2) = v := ⟨_, rfl⟩
            rw [hV] at hVb hd ⊢
            have Hd2 := hide hd
            have HV := hide hV
            have HOa := hide ((own_eq HO.out Hn.out rfl).alloc (.cells #[.int .i64 b.toNat, .int .i64 ((V : Int) + n + 1)] 41))
            clear hd hV Hd Hvl Hget
            go_wp2_with (first
              | (go_at_call 35; refine (HJ.out _).mono ?_; rintro e w3 ⟨rfl, rfl⟩)
              | (at_builtin; refine wpList_app _ (.tmp 70) (.tmp 72) 23 rfl (by rfl) el_ins w.heap.size (.slice A1 n c1) n _ (by rfl) HOa.out (by simp; omega) #[.int .i64 b.toNat, .int .i64 ((V : Int) + n + 1)] 1 1 41 _ (by rfl) (by simp) rfl (by simp [Value.oneCell']) (by omega) ?_; intro v7 w7 hown7 hg7; have HO7 := hide hown7; have HG7 := hide hg7; clear hown7 hg7)
              | fail)
            go_roundw
            case rel =>
              refine ⟨p + 1 + 2, acc ++ [⟨b.toNat, (V : Int) + ((n : Int) + 1)⟩], f, by go_num, by omega, by omega, by rw [List.length_append, Hn.out]; simp; omega, ?_, ?_, (HB.out.alloc hwo _).grown HG7.out (by simp; omega) (fun j hj => (HOa.out.lt j hj).1)⟩
              · rw [Hd2.out, ← Ht.out, List.drop_drop]
              · exact own_eq HO7.out (by rw [List.length_append, Hn.out]; rfl) (by simp [Ins.enc]; omega)
            case measure => simp [intOf]; omega
      · go_wp2_with (first | (go_at_call 35; refine (HJ.out _).mono ?_; rintro e w3 ⟨rfl, rfl⟩) | fail)
        have Hvl := hide (fun j (hj : j < 0) => (show valBE (t.take (j + 1)) = 256 * valBE (t.take j) + (t[j]'(by omega)).toNat ∧ valBE (t.take j) < 16777216 by
          refine ⟨by rw [List.take_succ_eq_append_getElem (by omega), valBE_snoc], ?_⟩
          have h1 := valBE_lt (t.take j)
          have h2 : (t.take j).length ≤ 3 := by rw [List.length_take]; omega
          have h3 : 256 ^ (t.take j).length ≤ 256 ^ 3 := Nat.pow_le_pow_right (by omega) h2
          have h4 : 256 ^ 3 = 16777216 := by decide
          omega))
        go_loop [8, 9] (fun nv i => ∃ j : Nat, j ≤ 0 ∧ i = .int .i64 j ∧ nv = .int .i64 (valBE (t.take j) : Nat)) (fun _ i => 0 - (intOf i).toNat)
        case atStart => exact ⟨0, Nat.zero_le _, rfl, rfl⟩
        case round =>
          obtain ⟨j, hj, rfl, rfl⟩ := hrel
          by_cases hltj : j < 0
          · exact absurd hltj (by omega)
          · obtain rfl : j = 0 := by omega
            have hVb : valBE (t.take 0) < 4294967296 := by
              have h1 := valBE_lt (t.take 0)
              have h2 : (t.take 0).length ≤ 4 := by rw [List.length_take]; omega
              have h3 : 256 ^ (t.take 0).length ≤ 256 ^ 4 := Nat.pow_le_pow_right (by omega) h2
              have h4 : 256 ^ 4 = 4294967296 := by decide
              omega
            have hd := Hd.out
            have hV0 : valBE (t.take 0) = 0 := by simp [valBE]
            have HV0 := hide hV0
            clear hV0
            obtain ⟨V, hV⟩ : ∃ v, valBE (t.take 0) = v := ⟨_, rfl⟩
            rw [hV] at hVb hd ⊢
            have Hd2 := hide hd
            have HV := hide hV
            have HOa := hide ((own_eq HO.out Hn.out rfl).alloc (.cells #[.int .i64 b.toNat, .int .i64 (0)] 41))
            clear hd hV Hd Hvl Hget
            go_wp2_with (first
              | (go_at_call 35; refine (HJ.out _).mono ?_; rintro e w3 ⟨rfl, rfl⟩)
              | (at_builtin; refine wpList_app _ (.tmp 70) (.tmp 72) 23 rfl (by rfl) el_ins w.heap.size (.slice A1 n c1) n _ (by rfl) HOa.out (by simp; omega) #[.int .i64 b.toNat, .int .i64 (0)] 1 1 41 _ (by rfl) (by simp) rfl (by simp [Value.oneCell']) (by omega) ?_; intro v7 w7 hown7 hg7; have HO7 := hide hown7; have HG7 := hide hg7; clear hown7 hg7)
              | fail)
            go_roundw
            case rel =>
              refine ⟨p + 1 + 0, acc ++ [⟨b.toNat, (V : Int) + 0⟩], f, by go_num, by omega, by omega, by rw [List.length_append, Hn.out]; simp; omega, ?_, ?_, (HB.out.alloc hwo _).grown HG7.out (by simp; omega) (fun j hj => (HOa.out.lt j hj).1)⟩
              · rw [Hd2.out, ← Ht.out, List.drop_drop]
              · exact own_eq HO7.out (by rw [List.length_append, Hn.out]; rfl) (by
                have hv0 : V = 0 := HV.out.symm.trans HV0.out
                rw [hv0]; simp [Ins.enc])
            case measure => simp [intOf]; omega
    · obtain rfl : p = s.size := by omega
      rw [List.drop_of_length_le (show s.data.toList.length ≤ s.size from Nat.le_refl _), decG_nil] at hdec
      obtain ⟨A1, c1, rfl, -, hr1⟩ := InsRow.of_own hown
      have HC := hide (checkR wo A1 c1 acc hr1)
      have Hdec := hide hdec
      obtain ⟨E, hE⟩ : ∃ e, codeErr acc = e := ⟨_, rfl⟩
      rw [hE] at HC Hdec
      rw [hn] at HC
      clear hdec hr1 hE hown hbr
      rw [hn]
      by_cases hz : E = 0
      · subst hz
        have HR := hide (show decC s.data.toList = (0, acc) from Hdec.out)
        have HO2 := hide (fun (W : World) (hb : Below wo.heap.size wo W) => own_below HO.out hb (Nat.le_refl _))
        have Hn := hide hn
        rw [hn] at HO2
        clear hn
        go_wp2_with (go_at_call 29; refine HC.out.mono ?_; rintro e w1 ⟨rfl, hb1⟩)
        go_ret2
        exact decRet_ok HR.out (by have := HO2.out w1 hb1; rw [← Hn.out] at this; rw [← Hn.out]; exact this) (HB.out.trans (hb1.mono hwo))
      · have HR := hide (show decC s.data.toList = (E, []) by rw [Hdec.out, if_neg hz])
        have hq : (E != 0) = true := by simpa using hz
        clear hz hn
        go_wp2_with (go_at_call 29; refine HC.out.mono ?_; rintro e w1 ⟨rfl, hb1⟩)
        go_ret2
        exact decRet_err HR.out (HB.out.trans (hb1.mono hwo))
end Go.Proofs.YtonnjokjbknngaaDoor
