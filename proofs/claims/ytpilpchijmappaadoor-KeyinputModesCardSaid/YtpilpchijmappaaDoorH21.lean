/- The walk of the law KeyinputModes. -/
import Derived.Test.YtpilpchijmappaaDoorH16
import Derived.Test.YtpilpchijmappaaDoorH20
import Derived.Deep.DeepCutAuto
namespace Go.Proofs.YtpilpchijmappaaDoor
open Go.RowKit

theorem str_dec (a b : ByteArray) : (a.toList == b.toList) = decide (a = b) := by
  rw [ByteArray.toList_eq, ByteArray.toList_eq, Bool.eq_iff_iff]
  simp only [beq_iff_eq, decide_eq_true_iff]
  exact ⟨fun h => ba_ext h, fun h => by rw [h]⟩

set_option maxRecDepth 100000 in
set_option maxHeartbeats 2000000 in
theorem modesLawP (w : World) (k : Key) (m : Md) (hP : Pow w) : Calls Tryd.prog 5 #[k.val, m.val] w fun e w' => e = .returned (.bool true) ∧ Below w.heap.size w w' := by
  obtain ⟨W0, hW0, hbox, hs0, hk, hm⟩ := boxKM w k m
  have HK := hide (fun w1 (hb : Below W0.heap.size W0 w1) => And.intro (hk.below hb (by omega)).cells (hm.below hb (by omega)).cells)
  have HA := hide (fun w1 (hb : Below W0.heap.size W0 w1) => awakeP w1 (hP.below (hbox.trans (hb.mono (by omega)))))
  have HE := hide (fun m' w1 (hb : Below W0.heap.size W0 w1) => encodeP w1 k m' (hP.below (hbox.trans (hb.mono (by omega)))))
  obtain ⟨⟨k0, k1, k2, k3, k4⟩, m0, m1, m2, m3, m4, m5, m6, m7, m8, m9, m10⟩ := HK.out W0 (Below.refl _ _)
  have Hbox := hide hbox
  have hrf := Below.refl W0.heap.size W0
  have Hs0 := hide hs0
  obtain ⟨ins, nl, app, org, wrp, vis, alt, con, s0, s1, sh⟩ := m
  have HE1 := hide (HE.out ⟨ins, nl, app, org, wrp, vis, alt, con, s0, s1, sh⟩)
  have HE2 := hide (HE.out ⟨ins, nl, !app, org, wrp, vis, alt, con, s0, s1, sh⟩)
  have HE3 := hide (HE.out ⟨ins, !nl, app, org, wrp, vis, alt, con, s0, s1, sh⟩)
  have HE4 := hide (HE.out ⟨false, nl, app, false, false, false, false, false, 0, 0, 0⟩)
  obtain ⟨T1, hT1⟩ : ∃ T, encT app nl k = T := ⟨_, rfl⟩
  obtain ⟨T2, hT2⟩ : ∃ T, encT (!app) nl k = T := ⟨_, rfl⟩
  obtain ⟨T3, hT3⟩ : ∃ T, encT app (!nl) k = T := ⟨_, rfl⟩
  obtain ⟨E, hE⟩ : ∃ E, keyErr k = E := ⟨_, rfl⟩
  have HP1 := hide (fun (h : E = 0) => (hT1 ▸ hT2 ▸ modes_app (hE.trans h) app nl : decide (T1 = T2) = _))
  have HP2 := hide (fun (h : E = 0) => (hT1 ▸ hT3 ▸ modes_nl (hE.trans h) app nl : decide (T1 = T3) = _))
  dsimp only at HE1 HE2 HE3 HE4
  rw [hE, hT1] at HE1 HE4
  rw [hE, hT2] at HE2
  rw [hE, hT3] at HE3
  obtain ⟨nm, r, c, a, s⟩ := k
  clear hbox hk hm hs0 hP hT1 hT2 hT3 hE HE
  subst hW0
  unfold Key.val at HE1 HE2 HE3 HE4 ⊢
  unfold Md.val at HE1 HE2 HE3 HE4 ⊢
  dsimp only [Key.nm] at *
  by_cases h1 : E = 0
  · subst h1
    have hp1 := HP1.out rfl
    have hp2 := HP2.out rfl
    have hq1 : (T1.toList == T2.toList) = !(decide (nm.data.toList ∈ arrowL) && (!s && !a && !c)) := by rw [← hp1]; exact str_dec _ _
    have hq2 : (T1.toList == T3.toList) = !decide (nm.data.toList = nEnter) := by rw [← hp2]; exact str_dec _ _
    obtain ⟨M, hM⟩ : ∃ M, decide (nm.data.toList ∈ arrowL) = M := ⟨_, rfl⟩
    obtain ⟨F, hF⟩ : ∃ F, decide (nm.data.toList = nEnter) = F := ⟨_, rfl⟩
    obtain ⟨P, hPl⟩ : ∃ P, (!s && !a && !c) = P := ⟨_, rfl⟩
    rw [hM, hPl] at hq1
    rw [hF] at hq2
    have Hq1 := hide hq1
    have Hq2 := hide hq2
    have HM := hide hM
    have HF := hide hF
    have HPl := hide hPl
    clear hp1 hp2 hq1 hq2 HP1 HP2 hM hF hPl
    go_enter Tryd.func5, Tryd.ntmps5
    go_upto_region 11 with (first
          | (go_at_call 12; with_reducible refine (HE4.out w3 hb3).mono ?_; rintro e w4 ⟨rfl, hb4'⟩; have hb4 := hb3.trans (hb4'.mono hb3.size); obtain ⟨⟨g0, g1, g2, g3, g4⟩, g5, g6, g7, g8, g9, ga, gb, gc, gd, ge, gf⟩ := HK.out _ hb4)
          | (go_at_call 12; with_reducible refine (HE3.out _ hbB).mono ?_; rintro e w3 ⟨rfl, hb3'⟩; have hb3 := hbB.trans (hb3'.mono hbB.size); obtain ⟨⟨f0, f1, f2, f3, f4⟩, f5, f6, f7, f8, f9, fa, fb, fc, fd, fe, ff⟩ := HK.out _ hb3)
          | (go_at_call 12; with_reducible refine (HE2.out _ hbA).mono ?_; rintro e w2 ⟨rfl, hb2'⟩; have hb2 := hbA.trans (hb2'.mono hbA.size); obtain ⟨⟨d0, d1, d2, d3, d4⟩, d5, d6, d7, d8, d9, da, db, dc, dd, de, df⟩ := HK.out _ hb2; have hbB := hb2.alloc hb2.size (.cells #[.bool ins, .bool (!nl), .bool app, .bool org, .bool wrp, .bool vis, .bool alt, .bool con, .int .u8 s0, .int .u8 s1, .int .i64 sh] 26); obtain ⟨⟨e0, e1, e2, e3, e4⟩, e5, e6, e7, e8, e9, ea, eb, ec, ed, ee, ef⟩ := HK.out _ hbB)
          | (go_at_call 12; with_reducible refine (HE1.out _ hrf).mono ?_; rintro e w1 ⟨rfl, hb1⟩; obtain ⟨⟨x0, x1, x2, x3, x4⟩, x5, x6, x7, x8, x9, xa, xb, xc, xd, xe, xf⟩ := HK.out _ hb1; have hbA := hb1.alloc hb1.size (.cells #[.bool ins, .bool nl, .bool (!app), .bool org, .bool wrp, .bool vis, .bool alt, .bool con, .int .u8 s0, .int .u8 s1, .int .i64 sh] 26); obtain ⟨⟨y0, y1, y2, y3, y4⟩, y5, y6, y7, y8, y9, ya, yb, yc, yd, ye, yf⟩ := HK.out _ hbA)
          | fail)
    clear HE1 HE2 HE3 HE4
    go_cut [15] (fun s15 wx => s15 = .bool M ∧ wx = w4)
    case first =>
      by_cases hin : nm.data.toList ∈ arrowL
      · obtain rfl : true = M := by rw [← HM.out]; exact (decide_eq_true hin).symm
        simp only [arrowL, List.mem_cons, List.mem_nil_iff, or_false] at hin
        rcases hin with hn | hn | hn | hn | hn | hn
        all_goals
          first | (have t0 : (nm.toList == [85, 112]) = true := by rw [ByteArray.toList_eq, hn]; rfl) | (have t0 : (nm.toList == [85, 112]) = false := by rw [ByteArray.toList_eq, hn]; rfl)
          first | (have t1 : (nm.toList == [68, 111, 119, 110]) = true := by rw [ByteArray.toList_eq, hn]; rfl) | (have t1 : (nm.toList == [68, 111, 119, 110]) = false := by rw [ByteArray.toList_eq, hn]; rfl)
          first | (have t2 : (nm.toList == [82, 105, 103, 104, 116]) = true := by rw [ByteArray.toList_eq, hn]; rfl) | (have t2 : (nm.toList == [82, 105, 103, 104, 116]) = false := by rw [ByteArray.toList_eq, hn]; rfl)
          first | (have t3 : (nm.toList == [76, 101, 102, 116]) = true := by rw [ByteArray.toList_eq, hn]; rfl) | (have t3 : (nm.toList == [76, 101, 102, 116]) = false := by rw [ByteArray.toList_eq, hn]; rfl)
          first | (have t4 : (nm.toList == [72, 111, 109, 101]) = true := by rw [ByteArray.toList_eq, hn]; rfl) | (have t4 : (nm.toList == [72, 111, 109, 101]) = false := by rw [ByteArray.toList_eq, hn]; rfl)
          first | (have t5 : (nm.toList == [69, 110, 100]) = true := by rw [ByteArray.toList_eq, hn]; rfl) | (have t5 : (nm.toList == [69, 110, 100]) = false := by rw [ByteArray.toList_eq, hn]; rfl)
          clear hn
          go_wp2_with fail
          go_meet
          case rel => exact ⟨rfl, rfl⟩
      · obtain rfl : false = M := by rw [← HM.out]; exact (decide_eq_false hin).symm
        have t0 : (nm.toList == [85, 112]) = false := str_no10 (fun h => hin (by rw [h]; decide))
        have t1 : (nm.toList == [68, 111, 119, 110]) = false := str_no10 (fun h => hin (by rw [h]; decide))
        have t2 : (nm.toList == [82, 105, 103, 104, 116]) = false := str_no10 (fun h => hin (by rw [h]; decide))
        have t3 : (nm.toList == [76, 101, 102, 116]) = false := str_no10 (fun h => hin (by rw [h]; decide))
        have t4 : (nm.toList == [72, 111, 109, 101]) = false := str_no10 (fun h => hin (by rw [h]; decide))
        have t5 : (nm.toList == [69, 110, 100]) = false := str_no10 (fun h => hin (by rw [h]; decide))
        clear hin
        go_wp2_with fail
        go_meet
        case rel => exact ⟨rfl, rfl⟩
    case rest =>
      obtain ⟨rfl, rfl⟩ := hcut
      go_upto_region 12 with fail
      go_cut [16] (fun s16 wx => s16 = .bool P ∧ wx = wc)
      case first =>
        cases s <;> cases a <;> cases c
        all_goals
          obtain rfl := HPl.out
          go_wp2_with fail
          go_meet
          case rel => exact ⟨rfl, rfl⟩
      case rest =>
        obtain ⟨rfl, rfl⟩ := hcut
        have v1 := Hq1.out
        have v2 : (T1.toList != T2.toList) = (M && P) := by unfold bne; rw [v1, Bool.not_not]
        have u1 := Hq2.out
        have u2 : (T1.toList != T3.toList) = F := by unfold bne; rw [u1, Bool.not_not]
        have f1 : (nm.toList == [69, 110, 116, 101, 114]) = F := by
          rw [← HF.out, ByteArray.toList_eq]
          by_cases hn : nm.data.toList = nEnter
          · rw [decide_eq_true hn, hn]; rfl
          · rw [decide_eq_false hn]; simpa [nEnter] using hn
        clear Hq1 Hq2 HM HF HPl
        cases M <;> cases P <;> cases F
        all_goals
          simp only [Bool.and_true, Bool.and_false, Bool.not_true, Bool.not_false] at v1 v2 u1 u2 f1
          go_wp2_with (first
            | (go_at_call 11; refine (HA.out _ hb4).mono ?_; rintro e w5 ⟨rfl, hb5'⟩; have hb5 := hb4.trans (hb5'.mono hb4.size))
            | fail)
          go_ret
          exact ⟨rfl, Hbox.out.trans (hb5.mono Hbox.out.size)⟩
  · have hne : (E != 0) = true := by simpa using h1
    clear HP1 HP2 h1 HE2 HE3 HE4
    go_enter Tryd.func5, Tryd.ntmps5
    go_wp2_with (first
      | (go_at_call 12; with_reducible refine (HE1.out _ hrf).mono ?_; rintro e w1 ⟨rfl, hb1⟩)
      | (go_at_call 11; refine (HA.out _ hb1).mono ?_; rintro e w3 ⟨rfl, hb3'⟩; have hb3 := hb1.trans (hb3'.mono hb1.size))
      | fail)
    go_ret
    exact ⟨rfl, Hbox.out.trans (hb3.mono Hbox.out.size)⟩
end Go.Proofs.YtpilpchijmappaaDoor
