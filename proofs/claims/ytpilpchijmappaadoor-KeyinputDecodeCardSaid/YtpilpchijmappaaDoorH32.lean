/- narratorref14.starts, narratorref14.character. -/
import Derived.Test.YtpilpchijmappaaDoorH30
import Derived.Test.YtpilpchijmappaaDoorV5
import Derived.Test.YtpilpchijmappaaDoorHeld
import Derived.Deep.RegionHeld3
namespace Go.Proofs.YtpilpchijmappaaDoor
open Go.RowKit

set_option maxHeartbeats 400000 in
theorem starts14 (w : World) (s t : ByteArray) : Calls Tryd.prog 37 #[.string s, .string t] w fun e w' => e = .returned (.bool (t.data.toList.isPrefixOf s.data.toList)) ∧ w = w' := by
  obtain ⟨R, hR⟩ : ∃ b, t.data.toList.isPrefixOf s.data.toList = b := ⟨_, rfl⟩
  rw [hR]
  by_cases h : t.size ≤ s.size
  · have q1 : (t.size : Int) ≤ (s.size : Int) := by omega
    have q2 := str_beq (s.extract 0 t.size) t
    rw [extract_take] at q2
    obtain ⟨B, hB⟩ : ∃ b, decide (s.data.toList.take t.size = t.data.toList) = b := ⟨_, rfl⟩
    rw [hB] at q2
    have HR := hide (show R = B by
      rw [← hR, ← hB, Bool.eq_iff_iff, List.isPrefixOf_iff_prefix, decide_eq_true_iff, List.prefix_iff_eq_take]
      exact ⟨fun h => h.symm, fun h => h.symm⟩)
    clear hB hR
    go_enter Tryd.func37, Tryd.ntmps37
    go_wp2
    go_ret
    exact ⟨ret_bool HR.out.symm, rfl⟩
  · have q1 : ¬ (t.size : Int) ≤ (s.size : Int) := by omega
    have HR := hide (show R = false by
      rw [← hR, Bool.eq_false_iff]
      intro hp
      have := (List.isPrefixOf_iff_prefix.1 hp).length_le
      exact h this)
    clear hR
    go_enter Tryd.func37, Tryd.ntmps37
    go_wp2
    go_ret
    exact ⟨ret_bool HR.out.symm, rfl⟩

theorem charFrom_head (s : List UInt8) (f n : Nat) (hn : n ≤ s.length) : charFrom s (f + 1) n = (charStep s n).getD (charFrom s f (n + 1)) := by
  conv => lhs; unfold charFrom
  rw [if_pos hn]

set_option maxRecDepth 100000 in
set_option maxHeartbeats 2000000 in
theorem character14 (w : World) (s : ByteArray) (hsz : s.size ≤ 1000) : Calls Tryd.prog 38 #[.string s] w fun e w' => e = .returned (.tuple #[(charL s.data.toList).1.val, .int .i64 (charL s.data.toList).2]) ∧ Below w.heap.size w w' := by
  have hrf := Below.refl w.heap.size w
  match hs : s.data.toList with
  | [] =>
    obtain rfl := ba_of hs
    clear hs
    go_enter Tryd.func38, Tryd.ntmps38
    go_wp2
    exact bodyPost_ret (v := .tuple #[zeroKey.val, .int .i64 (-1)]) (by simp [results, Tryd.results38, go_sem, zeroKey, Key.val]) rfl ⟨rfl, hrf.alloc (Nat.le_refl _) _⟩
  | b :: t =>
    have hp0 : 0 < s.size := by show 0 < s.data.toList.length; rw [hs]; simp
    have hz0 : (0 : Int) < (s.size : Int) := by omega
    have hse : (s.toList == []) = false := by rw [ByteArray.toList_eq, hs]; rfl
    have hs0 : s[0]'hp0 = b := by rw [get_at, hs]; rfl
    have l0 := b.toNat_lt
    have hC := hide (fun W k => check14 W k)
    have HV := hide hs
    by_cases hb : 1 ≤ b.toNat ∧ b.toNat ≤ 26
    · have HR := hide (show charL (b :: t) = (if keyErr (ctlKey b) = 0 then (ctlKey b, (1 : Int)) else (zeroKey, 0)) by unfold charL; dsimp only; rw [if_pos hb])
      obtain ⟨g1, g2⟩ := hb
      have hctl : (⟨⟨#[]⟩, (b.toNat : Int) + 97 - 1, true, false, false⟩ : Key) = ctlKey b := key_ext rfl (by show (b.toNat : Int) + 97 - 1 = 96 + b.toNat; omega) rfl rfl rfl
      have HCt := hide hctl
      have hC2 := hide (fun W => hC.out W ⟨⟨#[]⟩, (b.toNat : Int) + 97 - 1, true, false, false⟩)
      rw [show keyErr ⟨⟨#[]⟩, (b.toNat : Int) + 97 - 1, true, false, false⟩ = keyErr (ctlKey b) by rw [hctl]] at hC2
      clear hctl hs hC
      obtain ⟨W2, hW2, hbox, hs2, hz, hk⟩ := boxKK w zeroKey ⟨⟨#[]⟩, (b.toNat : Int) + 97 - 1, true, false, false⟩
      have HK := hide (fun W (hb : Below W2.heap.size W2 W) => And.intro (hz.below hb (by omega)) (hk.below hb (by omega)))
      have Hbox := hide hbox
      clear hz hk hbox hs2
      subst hW2
      dsimp only [zeroKey] at HK Hbox
      by_cases hok : keyErr (ctlKey b) = 0
      · rw [hok] at hC2
        have HRy := hide (HR.out.trans (if_pos hok))
        unfold Key.val at hC2
        clear hok HR
        go_enter Tryd.func38, Tryd.ntmps38
        go_wp2_with (go_at_call 15; with_reducible refine (hC2.out _).mono ?_; rintro e w1 ⟨rfl, hb1⟩; obtain ⟨kz, kk⟩ := HK.out w1 hb1; obtain ⟨z0, z1, z2, z3, z4⟩ := kz.cells; obtain ⟨x0, x1, x2, x3, x4⟩ := kk.cells; obtain ⟨f0, f1, f2, f3, f4⟩ := kz.free; clear kz kk)
        refine bodyPost_ret (v := .tuple #[.agg #[.string ⟨#[]⟩, .int .i32 ((b.toNat : Int) + 97 - 1), .bool true, .bool false, .bool false], .int .i64 1]) (by simp [results, Tryd.results38, go_sem, z0, z1, z2, z3, z4]) rfl ⟨?_, ?_⟩
        · rw [HRy.out, ← HCt.out]; rfl
        · exact (((((Hbox.out.trans (hb1.mono Hbox.out.size)).setCell (Nat.le_refl _) _).setCell (Nat.le_refl _) _).setCell (Nat.le_refl _) _).setCell (Nat.le_refl _) _).setCell (Nat.le_refl _) _
      · obtain ⟨E, hE⟩ : ∃ E, keyErr (ctlKey b) = E := ⟨_, rfl⟩
        have HRy := hide (HR.out.trans (if_neg hok))
        rw [hE] at hC2 hok
        have hne : (E != 0) = true := by simpa using hok
        unfold Key.val at hC2
        clear hok hE HCt HR
        go_enter Tryd.func38, Tryd.ntmps38
        go_wp2_with (go_at_call 15; with_reducible refine (hC2.out _).mono ?_; rintro e w1 ⟨rfl, hb1⟩; obtain ⟨kz, kk⟩ := HK.out w1 hb1; obtain ⟨z0, z1, z2, z3, z4⟩ := kz.cells; obtain ⟨f0, f1, f2, f3, f4⟩ := kz.free; clear kz kk)
        refine bodyPost_ret (v := .tuple #[.agg #[.string ⟨#[]⟩, .int .i32 0, .bool false, .bool false, .bool false], .int .i64 0]) (by simp [results, Tryd.results38, go_sem, z0, z1, z2, z3, z4]) rfl ⟨?_, ?_⟩
        · rw [HRy.out]; rfl
        · exact (((((Hbox.out.trans (hb1.mono Hbox.out.size)).setCell (Nat.le_refl _) _).setCell (Nat.le_refl _) _).setCell (Nat.le_refl _) _).setCell (Nat.le_refl _) _).setCell (Nat.le_refl _) _
    · have HR := hide (show charL (b :: t) = charFrom s.data.toList 4 1 by rw [hs]; unfold charL; dsimp only; rw [if_neg hb])
      obtain ⟨ANS, hANS⟩ : ∃ a, charL (b :: t) = a := ⟨_, rfl⟩
      have HA := hide (show charFrom s.data.toList 4 1 = ANS by rw [← hANS]; exact HR.out.symm)
      rw [hANS]
      obtain ⟨L, hL⟩ : ∃ L, s.data.toList = L := ⟨_, rfl⟩
      rw [hL] at HA
      have hLl : L.length = s.size := by rw [← hL]; rfl
      have HL := hide hL
      have HLl := hide hLl
      obtain ⟨W1, hW1, hbox, hs1, hz⟩ := boxK w zeroKey
      have Hbox := hide hbox
      have HK := hide (fun W (hb : Below W1.heap.size W1 W) => hz.below hb (by omega))
      have hr1 := Below.refl W1.heap.size W1
      have hcase : (b.toNat < 1) ∨ (1 ≤ b.toNat ∧ 26 < b.toNat) := by omega
      clear hs hz hbox hs1 hb hANS HR hL hLl HV
      subst hW1
      dsimp only [zeroKey] at HK Hbox
      have HDc := hide (fun W n (hn : n ≤ s.size) => (show Calls Tryd.prog 51 #[.string ⟨#[]⟩, .string (s.extract 0 n)] W (DecPost (L.take n) W) from by
        have h := decode01 W ⟨#[]⟩ (s.extract 0 n) (by have : (⟨#[]⟩ : ByteArray).size = 0 := rfl; simp [ByteArray.size_extract]; omega)
        rw [show ((⟨#[]⟩ : ByteArray) ++ s.extract 0 n).data.toList = L.take n by rw [← HL.out, ← extract_take]; simp] at h
        exact h))
      have HEn := hide (fun W A c (r : Int) (h : RnRow W W.heap.size A [r]) (hr : -2147483648 ≤ r ∧ r ≤ 2147483647) => encode01 W A c [r] h (by simp) (by simpa using hr))
      go_enter Tryd.func38, Tryd.ntmps38
      go_upto_region 3 with fail
      go_cut [19] (fun s19 wx => s19 = .bool false ∧ wx = (w.alloc (.cells #[.string ⟨#[]⟩, .int .i32 0, .bool false, .bool false, .bool false] 23)))
      case first =>
        rcases hcase with hc | ⟨hc1, hc2⟩
        · go_wp2_with fail
          go_meet
          case rel => exact ⟨rfl, rfl⟩
        · have q : decide ((b.toNat : Int) ≤ 26) = false := decide_eq_false (by omega)
          go_wp2_with fail
          go_meet
          case rel => exact ⟨rfl, rfl⟩
      case rest =>
        obtain ⟨rfl, rfl⟩ := hcut
        clear hcase
        go_wp2
        go_loopw [5] (fun i wr => ∃ n f : Nat, 1 ≤ n ∧ n + f = 5 ∧ i = .int .i64 n ∧ charFrom L f n = ANS ∧ Below (w.heap.size + 1) (w.alloc (.cells #[.string ⟨#[]⟩, .int .i32 0, .bool false, .bool false, .bool false] 23)) wr) (fun i _ => 5 - (intOf i).toNat)
        case atStart => exact ⟨1, 4, by omega, by omega, rfl, HA.out, Below.refl _ _⟩
        case round =>
          obtain ⟨n, f, hn1, hnf, rfl, hch, hbr⟩ := hrel
          have Hch := hide hch
          obtain ⟨z0, z1, z2, z3, z4⟩ := (HK.out wr (hbr.mono (by simp))).cells
          obtain ⟨f0, f1, f2, f3, f4⟩ := (HK.out wr (hbr.mono (by simp))).free
          have Hbw := hide (Hbox.out.trans (hbr.mono (by omega)))
          clear hch HA
          have hend : ¬ (n ≤ 4 ∧ n ≤ s.size) → ANS = (zeroKey, -1) := fun h => by
            rw [← Hch.out]
            cases f with
            | zero => rfl
            | succ f => exact charFrom_end (by rw [HLl.out]; omega)
          by_cases hn4 : n ≤ 4
          case neg =>
            have q1 : ¬ (n : Int) ≤ 4 := by omega
            have HE := hide (hend (fun h => hn4 h.1))
            clear hend hn4
            go_wp2
            refine bodyPost_ret (v := .tuple #[.agg #[.string ⟨#[]⟩, .int .i32 0, .bool false, .bool false, .bool false], .int .i64 (-1)]) (by simp [results, Tryd.results38, go_sem, z0, z1, z2, z3, z4]) rfl ⟨by rw [HE.out]; rfl, ?_⟩
            exact (((((Hbw.out).setCell (Nat.le_refl _) _).setCell (Nat.le_refl _) _).setCell (Nat.le_refl _) _).setCell (Nat.le_refl _) _).setCell (Nat.le_refl _) _
          have q1 : (n : Int) ≤ 4 := by omega
          by_cases hns : n ≤ s.size
          case neg =>
            have q2 : ¬ (n : Int) ≤ (s.size : Int) := by omega
            have HE := hide (hend (fun h => hns h.2))
            clear hend hns
            go_wp2
            refine bodyPost_ret (v := .tuple #[.agg #[.string ⟨#[]⟩, .int .i32 0, .bool false, .bool false, .bool false], .int .i64 (-1)]) (by simp [results, Tryd.results38, go_sem, z0, z1, z2, z3, z4]) rfl ⟨by rw [HE.out]; rfl, ?_⟩
            exact (((((Hbw.out).setCell (Nat.le_refl _) _).setCell (Nat.le_refl _) _).setCell (Nat.le_refl _) _).setCell (Nat.le_refl _) _).setCell (Nat.le_refl _) _
          have q2 : (n : Int) ≤ (s.size : Int) := by omega
          obtain ⟨f, rfl⟩ : ∃ g, f = g + 1 := ⟨f - 1, by omega⟩
          have hch := Hch.out
          rw [charFrom_head _ _ _ (by rw [HLl.out]; exact hns)] at hch
          have HDn := HDc.out (wr) n hns
          unfold DecPost at HDn
          unfold charStep at hch
          obtain ⟨⟨OUT, KEPT⟩, hD⟩ : ∃ d, decFrom (L.take n) [] [] = d := ⟨_, rfl⟩
          rw [hD] at HDn hch
          dsimp only at HDn hch
          have HDn := hide HDn
          have HSl := hide (fun W1 (hb : Below wr.heap.size wr W1) => And.intro (HK.out W1 ((hbr.mono (by simp)).trans (hb.mono (by have := hbr.size; simp at this ⊢; omega)))).cells (HK.out W1 ((hbr.mono (by simp)).trans (hb.mono (by have := hbr.size; simp at this ⊢; omega)))).free)
          clear hD hend Hch
          by_cases hone : OUT.length = 1 ∧ KEPT = []
          · rw [if_pos hone] at hch
            obtain ⟨h1, rfl⟩ := hone
            obtain ⟨r, rfl⟩ : ∃ r, OUT = [r] := List.length_eq_one_iff.1 h1
            simp only [List.getD_cons_zero] at hch
            have HCk := hide (fun W => hC.out W (runeKey r))
            have HNK := hide (fun W => keyBox_new W (runeKey r))
            have hgood := (keyErr_rune r).1
            have h01 : keyErr (runeKey r) = 0 ∨ keyErr (runeKey r) = 1 := by
              unfold keyErr
              rw [if_pos (show (runeKey r).nm = [] from rfl)]
              split
              · exact .inl rfl
              · exact .inr rfl
            obtain ⟨E, hE⟩ : ∃ E, keyErr (runeKey r) = E := ⟨_, rfl⟩
            rw [hE] at HCk hch hgood h01
            unfold Key.val at HCk
            dsimp only [runeKey] at HCk HNK
            dsimp only [List.length_cons, List.length_nil] at HDn
            clear h1 hE
            rcases h01 with rfl | rfl
            · have hg := hgood rfl
              have Hrb := hide (show -2147483648 ≤ r ∧ r ≤ 2147483647 by
                unfold printB at hg
                simp only [Bool.and_eq_true, decide_eq_true_iff] at hg
                have := hg.1
                unfold GoodR at this
                omega)
              obtain ⟨XS, hXS⟩ : ∃ X : ByteArray, ⟨(encs [r]).toArray⟩ = X := ⟨_, rfl⟩
              have hXl : XS.data.toList = encs [r] := by rw [← hXS]
              have q3 := str_beq XS (s.extract 0 n)
              rw [hXl, extract_take, HL.out] at q3
              clear hg hgood hXl
              by_cases hB : encs [r] = L.take n
              · rw [decide_eq_true hB] at q3
                have q4 : (XS.toList != (s.extract 0 n).toList) = false := by unfold bne; rw [q3]; rfl
                have HE := hide (show ANS = (runeKey r, (n : Int)) by rw [← hch, if_pos ⟨rfl, hB⟩]; rfl)
                clear hB hch
                go_wp2_with (go_at_call 51; with_reducible refine HDn.out.mono ?_; rintro e w5 ⟨A, c, rfl, hrow, hb5⟩; obtain ⟨bA, off, rfl, hbA, hcell⟩ := hrow.get1 (k := 0) (by simp); have Hrow := hide hrow; have Hb5 := hide hb5; simp only [One, Nat.add_zero, List.getElem_cons_zero] at hcell; clear hrow hb5)
                have HKc := hide (fun W (hb : Below (w5.alloc (.cells #[.string ⟨#[]⟩, .int .i32 r, .bool false, .bool false, .bool false] 23)).heap.size (w5.alloc (.cells #[.string ⟨#[]⟩, .int .i32 r, .bool false, .bool false, .bool false] 23)) W) => (KeyBox.below (HNK.out w5) hb (by simp)).cells)
                have hW5 := (Below.refl w5.heap.size w5).alloc (Nat.le_refl _) (.cells #[.string ⟨#[]⟩, .int .i32 r, .bool false, .bool false, .bool false] 23)
                have HEr := hide (fun W (hb : Below (w5.alloc (.cells #[.string ⟨#[]⟩, .int .i32 r, .bool false, .bool false, .bool false] 23)).heap.size (w5.alloc (.cells #[.string ⟨#[]⟩, .int .i32 r, .bool false, .bool false, .bool false] 23)) W) => HEn.out W (some ⟨bA, off, none⟩) c r (((Hrow.out.below (One.stays _ _) hW5).below (One.stays _ _) (hb.mono (by simp))).more (by have := hb.size; simp at this; omega)) Hrb.out)
                rw [hXS] at HEr
                have HSz := hide (fun W (hb : Below (w5.alloc (.cells #[.string ⟨#[]⟩, .int .i32 r, .bool false, .bool false, .bool false] 23)).heap.size (w5.alloc (.cells #[.string ⟨#[]⟩, .int .i32 r, .bool false, .bool false, .bool false] 23)) W) => HSl.out W (Hb5.out.trans ((hW5.trans (hb.mono (by simp))).mono Hb5.out.size)))
                have HSb := hide (fun W (hb : Below (w5.alloc (.cells #[.string ⟨#[]⟩, .int .i32 r, .bool false, .bool false, .bool false] 23)).heap.size (w5.alloc (.cells #[.string ⟨#[]⟩, .int .i32 r, .bool false, .bool false, .bool false] 23)) W) => Hbw.out.trans ((Hb5.out.trans ((hW5.trans (hb.mono (by simp))).mono Hb5.out.size)).mono Hbw.out.size))
                have hbd := ((Below.refl (w5.alloc (.cells #[.string ⟨#[]⟩, .int .i32 r, .bool false, .bool false, .bool false] 23)).heap.size (w5.alloc (.cells #[.string ⟨#[]⟩, .int .i32 r, .bool false, .bool false, .bool false] 23))).drew)
                clear hW5
                go_region_held3 (fun W2 => W2.cell? ⟨w5.heap.size, 0, none⟩ = some (.string ⟨#[]⟩) ∧ W2.cell? ⟨w5.heap.size, 1, none⟩ = some (.int .i32 r) ∧ W2.cell? ⟨w5.heap.size, 2, none⟩ = some (.bool false) ∧ W2.cell? ⟨w5.heap.size, 3, none⟩ = some (.bool false) ∧ W2.cell? ⟨w5.heap.size, 4, none⟩ = some (.bool false))
                  (first | exact HKc.out _ hb8 | exact HKc.out _ hb7 | exact HKc.out _ hbd)
                  (first
                    | (go_at_call 25; refine (HEr.out _ hb7).mono ?_; rintro e w8 ⟨rfl, hbG⟩; have hb8 := hb7.trans (hbG.mono hb7.size))
                    | (go_at_call 15; refine (HCk.out _).mono ?_; rintro e w7 ⟨rfl, hbF⟩; have hb7 := hbd.trans (hbF.mono hbd.size))
                    | fail)
                all_goals
                  obtain ⟨⟨z0, z1, z2, z3, z4⟩, f0, f1, f2, f3, f4⟩ := HSz.out _ hb8
                  obtain ⟨x0, x1, x2, x3, x4⟩ := HKc.out _ hb8
                  have Hfin := hide (HSb.out _ hb8)
                  go_wp2
                  refine bodyPost_ret (v := .tuple #[.agg #[.string ⟨#[]⟩, .int .i32 r, .bool false, .bool false, .bool false], .int .i64 n]) (by simp [results, Tryd.results38, go_sem, z0, z1, z2, z3, z4]) rfl ⟨by rw [HE.out]; rfl, ?_⟩
                  exact (((((Hfin.out).setCell (Nat.le_refl _) _).setCell (Nat.le_refl _) _).setCell (Nat.le_refl _) _).setCell (Nat.le_refl _) _).setCell (Nat.le_refl _) _
              · rw [decide_eq_false hB] at q3
                have q4 : (XS.toList != (s.extract 0 n).toList) = true := by unfold bne; rw [q3]; rfl
                have HE := hide (show ANS = (zeroKey, 0) by rw [← hch, if_neg (fun h => hB h.2)]; rfl)
                clear hB hch
                go_wp2_with (go_at_call 51; with_reducible refine HDn.out.mono ?_; rintro e w5 ⟨A, c, rfl, hrow, hb5⟩; obtain ⟨bA, off, rfl, hbA, hcell⟩ := hrow.get1 (k := 0) (by simp); have Hrow := hide hrow; have Hb5 := hide hb5; simp only [One, Nat.add_zero, List.getElem_cons_zero] at hcell; clear hrow hb5)
                have HKc := hide (fun W (hb : Below (w5.alloc (.cells #[.string ⟨#[]⟩, .int .i32 r, .bool false, .bool false, .bool false] 23)).heap.size (w5.alloc (.cells #[.string ⟨#[]⟩, .int .i32 r, .bool false, .bool false, .bool false] 23)) W) => (KeyBox.below (HNK.out w5) hb (by simp)).cells)
                have hW5 := (Below.refl w5.heap.size w5).alloc (Nat.le_refl _) (.cells #[.string ⟨#[]⟩, .int .i32 r, .bool false, .bool false, .bool false] 23)
                have HEr := hide (fun W (hb : Below (w5.alloc (.cells #[.string ⟨#[]⟩, .int .i32 r, .bool false, .bool false, .bool false] 23)).heap.size (w5.alloc (.cells #[.string ⟨#[]⟩, .int .i32 r, .bool false, .bool false, .bool false] 23)) W) => HEn.out W (some ⟨bA, off, none⟩) c r (((Hrow.out.below (One.stays _ _) hW5).below (One.stays _ _) (hb.mono (by simp))).more (by have := hb.size; simp at this; omega)) Hrb.out)
                rw [hXS] at HEr
                have HSz := hide (fun W (hb : Below (w5.alloc (.cells #[.string ⟨#[]⟩, .int .i32 r, .bool false, .bool false, .bool false] 23)).heap.size (w5.alloc (.cells #[.string ⟨#[]⟩, .int .i32 r, .bool false, .bool false, .bool false] 23)) W) => HSl.out W (Hb5.out.trans ((hW5.trans (hb.mono (by simp))).mono Hb5.out.size)))
                have HSb := hide (fun W (hb : Below (w5.alloc (.cells #[.string ⟨#[]⟩, .int .i32 r, .bool false, .bool false, .bool false] 23)).heap.size (w5.alloc (.cells #[.string ⟨#[]⟩, .int .i32 r, .bool false, .bool false, .bool false] 23)) W) => Hbw.out.trans ((Hb5.out.trans ((hW5.trans (hb.mono (by simp))).mono Hb5.out.size)).mono Hbw.out.size))
                have hbd := ((Below.refl (w5.alloc (.cells #[.string ⟨#[]⟩, .int .i32 r, .bool false, .bool false, .bool false] 23)).heap.size (w5.alloc (.cells #[.string ⟨#[]⟩, .int .i32 r, .bool false, .bool false, .bool false] 23))).drew)
                clear hW5
                go_region_held3 (fun W2 => W2.cell? ⟨w5.heap.size, 0, none⟩ = some (.string ⟨#[]⟩) ∧ W2.cell? ⟨w5.heap.size, 1, none⟩ = some (.int .i32 r) ∧ W2.cell? ⟨w5.heap.size, 2, none⟩ = some (.bool false) ∧ W2.cell? ⟨w5.heap.size, 3, none⟩ = some (.bool false) ∧ W2.cell? ⟨w5.heap.size, 4, none⟩ = some (.bool false))
                  (first | exact HKc.out _ hb8 | exact HKc.out _ hb7 | exact HKc.out _ hbd)
                  (first
                    | (go_at_call 25; refine (HEr.out _ hb7).mono ?_; rintro e w8 ⟨rfl, hbG⟩; have hb8 := hb7.trans (hbG.mono hb7.size))
                    | (go_at_call 15; refine (HCk.out _).mono ?_; rintro e w7 ⟨rfl, hbF⟩; have hb7 := hbd.trans (hbF.mono hbd.size))
                    | fail)
                all_goals
                  obtain ⟨⟨z0, z1, z2, z3, z4⟩, f0, f1, f2, f3, f4⟩ := HSz.out _ hb8
                  obtain ⟨x0, x1, x2, x3, x4⟩ := HKc.out _ hb8
                  have Hfin := hide (HSb.out _ hb8)
                  go_wp2
                  refine bodyPost_ret (v := .tuple #[.agg #[.string ⟨#[]⟩, .int .i32 0, .bool false, .bool false, .bool false], .int .i64 0]) (by simp [results, Tryd.results38, go_sem, z0, z1, z2, z3, z4]) rfl ⟨by rw [HE.out]; rfl, ?_⟩
                  exact (((((Hfin.out).setCell (Nat.le_refl _) _).setCell (Nat.le_refl _) _).setCell (Nat.le_refl _) _).setCell (Nat.le_refl _) _).setCell (Nat.le_refl _) _
            · have HE := hide (show ANS = (zeroKey, 0) by rw [← hch, if_neg (fun h => by have := h.1; omega)]; rfl)
              clear hch hgood
              go_wp2_with (go_at_call 51; with_reducible refine HDn.out.mono ?_; rintro e w5 ⟨A, c, rfl, hrow, hb5⟩; obtain ⟨bA, off, rfl, hbA, hcell⟩ := hrow.get1 (k := 0) (by simp); have Hrow := hide hrow; have Hb5 := hide hb5; simp only [One, Nat.add_zero, List.getElem_cons_zero] at hcell; clear hrow hb5)
              have HKc := hide (fun W (hb : Below (w5.alloc (.cells #[.string ⟨#[]⟩, .int .i32 r, .bool false, .bool false, .bool false] 23)).heap.size (w5.alloc (.cells #[.string ⟨#[]⟩, .int .i32 r, .bool false, .bool false, .bool false] 23)) W) => (KeyBox.below (HNK.out w5) hb (by simp)).cells)
              have hW5 := (Below.refl w5.heap.size w5).alloc (Nat.le_refl _) (.cells #[.string ⟨#[]⟩, .int .i32 r, .bool false, .bool false, .bool false] 23)
              have HSz := hide (fun W (hb : Below (w5.alloc (.cells #[.string ⟨#[]⟩, .int .i32 r, .bool false, .bool false, .bool false] 23)).heap.size (w5.alloc (.cells #[.string ⟨#[]⟩, .int .i32 r, .bool false, .bool false, .bool false] 23)) W) => HSl.out W (Hb5.out.trans ((hW5.trans (hb.mono (by simp))).mono Hb5.out.size)))
              have HSb := hide (fun W (hb : Below (w5.alloc (.cells #[.string ⟨#[]⟩, .int .i32 r, .bool false, .bool false, .bool false] 23)).heap.size (w5.alloc (.cells #[.string ⟨#[]⟩, .int .i32 r, .bool false, .bool false, .bool false] 23)) W) => Hbw.out.trans ((Hb5.out.trans ((hW5.trans (hb.mono (by simp))).mono Hb5.out.size)).mono Hbw.out.size))
              clear hW5
              have k0 : (w5.alloc (.cells #[.string ⟨#[]⟩, .int .i32 r, .bool false, .bool false, .bool false] 23)).cell? ⟨w5.heap.size, 0, none⟩ = some (.string ⟨#[]⟩) := cell_block (block_new _ _) 0
              have k1 : (w5.alloc (.cells #[.string ⟨#[]⟩, .int .i32 r, .bool false, .bool false, .bool false] 23)).cell? ⟨w5.heap.size, 1, none⟩ = some (.int .i32 r) := cell_block (block_new _ _) 1
              have k2 : (w5.alloc (.cells #[.string ⟨#[]⟩, .int .i32 r, .bool false, .bool false, .bool false] 23)).cell? ⟨w5.heap.size, 2, none⟩ = some (.bool false) := cell_block (block_new _ _) 2
              have k3 : (w5.alloc (.cells #[.string ⟨#[]⟩, .int .i32 r, .bool false, .bool false, .bool false] 23)).cell? ⟨w5.heap.size, 3, none⟩ = some (.bool false) := cell_block (block_new _ _) 3
              have k4 : (w5.alloc (.cells #[.string ⟨#[]⟩, .int .i32 r, .bool false, .bool false, .bool false] 23)).cell? ⟨w5.heap.size, 4, none⟩ = some (.bool false) := cell_block (block_new _ _) 4
              have hlt : w5.heap.size < (w5.alloc (.cells #[.string ⟨#[]⟩, .int .i32 r, .bool false, .bool false, .bool false] 23)).heap.size := by simp
              generalize w5.alloc (.cells #[.string ⟨#[]⟩, .int .i32 r, .bool false, .bool false, .bool false] 23) = W6 at *
              have x0 := Held.cell k0 hlt
              have x1 := Held.cell k1 hlt
              have x2 := Held.cell k2 hlt
              have x3 := Held.cell k3 hlt
              have x4 := Held.cell k4 hlt
              clear k0 k1 k2 k3 k4
              refine wp_region_held_lit (by kernel_rfl) (by kernel_rfl) ?_
              repeat go_big_quiet_step ((go_at_call 15; exact held_call _ fun W hW => HCk.out W))
              refine wpQuiet_nil ?_
              intro w7 hb7
              clear x0 x1 x2 x3 x4
              obtain ⟨⟨z0, z1, z2, z3, z4⟩, f0, f1, f2, f3, f4⟩ := HSz.out _ hb7
              have Hfin := hide (HSb.out _ hb7)
              go_wp2
              refine bodyPost_ret (v := .tuple #[.agg #[.string ⟨#[]⟩, .int .i32 0, .bool false, .bool false, .bool false], .int .i64 0]) (by simp [results, Tryd.results38, go_sem, z0, z1, z2, z3, z4]) rfl ⟨by rw [HE.out]; rfl, ?_⟩
              exact (((((Hfin.out).setCell (Nat.le_refl _) _).setCell (Nat.le_refl _) _).setCell (Nat.le_refl _) _).setCell (Nat.le_refl _) _).setCell (Nat.le_refl _) _
          · rw [if_neg hone] at hch
            by_cases hpos : 0 < OUT.length
            · rw [if_pos hpos] at hch
              have HE := hide (show ANS = (zeroKey, 0) from hch.symm)
              have hposI : (0 : Int) < (OUT.length : Int) := by omega
              have hq : ((OUT.length : Int) == 1) = false ∨ (((OUT.length : Int) == 1) = true ∧ (KEPT == []) = false) := by
                by_cases h : OUT.length = 1
                · right
                  refine ⟨by rw [h]; rfl, ?_⟩
                  rw [beq_eq_false_iff_ne]
                  exact fun h2 => hone ⟨h, h2⟩
                · left; rw [beq_eq_false_iff_ne]; omega
              clear hch hone hpos
              rcases hq with h1 | ⟨h1, h2⟩
              all_goals
                go_wp2_with (go_at_call 51; with_reducible refine HDn.out.mono ?_; rintro e w5 ⟨A, c, rfl, hrow, hb5⟩; obtain ⟨⟨z0, z1, z2, z3, z4⟩, f0, f1, f2, f3, f4⟩ := HSl.out w5 hb5; have Hb5 := hide (Hbw.out.trans (hb5.mono Hbw.out.size)); clear hrow)
                refine bodyPost_ret (v := .tuple #[.agg #[.string ⟨#[]⟩, .int .i32 0, .bool false, .bool false, .bool false], .int .i64 0]) (by simp [results, Tryd.results38, go_sem, z0, z1, z2, z3, z4]) rfl ⟨by rw [HE.out]; rfl, ?_⟩
                exact (((((Hb5.out).setCell (Nat.le_refl _) _).setCell (Nat.le_refl _) _).setCell (Nat.le_refl _) _).setCell (Nat.le_refl _) _).setCell (Nat.le_refl _) _
            · rw [if_neg hpos] at hch
              obtain rfl : OUT = [] := List.eq_nil_of_length_eq_zero (by omega)
              have HE := hide (show charFrom L f (n + 1) = ANS from hch)
              clear hch hone hpos
              dsimp only [List.length_nil] at HDn
              go_wp2_with (go_at_call 51; with_reducible refine HDn.out.mono ?_; rintro e w5 ⟨A, c, rfl, hrow, hb5⟩; have Hb5 := hide (hbr.trans (hb5.mono (by have := hbr.size; simp at this; omega))); clear hrow hb5)
              go_roundw
              case rel => exact ⟨n + 1, f, by omega, by omega, by go_num, HE.out, Hb5.out⟩
              case measure => simp [intOf]; omega
end Go.Proofs.YtpilpchijmappaaDoor
