/- narratorref14.Encode, a number. -/
import Derived.Test.YtpilpchijmappaaDoorH13
namespace Go.Proofs.YtpilpchijmappaaDoor
open Go.RowKit

set_option maxRecDepth 100000 in
set_option maxHeartbeats 1000000 in
theorem encode14T (w : World) (k : Key) (m : Md) (hok : keyErr k = 0) (d : List UInt8) (hl : lookL k.nm letterTab = none) (hp : lookL k.nm tildeTab = some d) (h0 : k.nm ≠ []) :
    Calls Tryd.prog 13 #[k.val, m.val] w fun e w' => e = .returned (.tuple #[.string ⟨(keyEnc m.app m.nl k).toArray⟩, .int .i64 0]) ∧ Below w.heap.size w w' := by
  obtain ⟨W0, hW0, hbox, hs0, hk, hm⟩ := boxKM w k m
  have HK := hide (fun w1 (hb : Below W0.heap.size W0 w1) => And.intro (hk.below hb (by omega)).cells (hm.below hb (by omega)).cells)
  have HC := hide (fun w1 => check14 w1 k)
  rw [hok] at HC
  have HM := hide (fun w1 => number14 w1 k)
  have HL := hide (fun w1 => letter14 w1 k.name)
  rw [letB_none (n := k.name.data.toList) hl] at HL
  obtain ⟨t, ht, ht1, ht2, htd⟩ := til_num (k.nm, d) (lookL_some _ _ _ hp)
  have HTl := hide (fun w1 => tilde14 w1 k.name)
  rw [show tilN k.name.data.toList = (t : Int) from ht] at HTl
  have HG2 := hide (fun w1 => digits14 w1 t ht2)
  rw [htd] at HG2
  have HE := encName_tilde (app := m.app) (nl := m.nl) (c := k.control) (a := k.alt) (s := k.shift) hl hp
  rw [← keyEnc_name h0] at HE
  have hdd : (⟨d.toArray⟩ : ByteArray).size ≤ 2 := by
    have h := (tab_size (k.nm, d) (lookL_some _ _ _ hp)).2
    simpa [ByteArray.size] using h
  obtain ⟨X, hX⟩ : ∃ X : ByteArray, (⟨d.toArray⟩ : ByteArray) = X := ⟨_, rfl⟩
  have HX := hide (show d = X.data.toList by rw [← hX])
  rw [hX] at HG2 hdd
  have hbd := modNum_bd k.control k.alt k.shift
  obtain ⟨N, hN⟩ : ∃ N, modNum k.control k.alt k.shift = N := ⟨_, rfl⟩
  rw [hN] at HM hbd HE
  have HG := hide (fun w1 => digits14 w1 N (by omega))
  rw [dgs_dg N (by omega)] at HG
  have hdz := dg_size N
  obtain ⟨D, hD⟩ : ∃ D, dg N = D := ⟨_, rfl⟩
  rw [hD] at HG hdz
  have HD := hide hD.symm
  obtain ⟨R, hR⟩ : ∃ R, keyEnc m.app m.nl k = R := ⟨_, rfl⟩
  rw [hR] at HE ⊢
  obtain ⟨⟨k0, k1, k2, k3, k4⟩, m0, m1, m2, m3, m4, m5, m6, m7, m8, m9, m10⟩ := HK.out W0 (Below.refl _ _)
  have Hbox := hide hbox
  have hrf := Below.refl W0.heap.size W0
  have Hs0 := hide hs0
  obtain ⟨nm, r, c, a, s⟩ := k
  obtain ⟨ins, nl, app, org, wrp, vis, alt, con, s0, s1, sh⟩ := m
  have ht1 : (0 : Int) < (t : Int) := by omega
  have ht3 : decide (0 < t) = true := by simp; omega
  clear hbox hk hm hs0 hD hN hok hp hl h0 hR ht htd hX
  subst hW0
  unfold Key.val at HC HM ⊢
  unfold Md.val
  dsimp only [Key.nm] at *
  have HEe := hide HE
  have e1 : (⟨#[27, 91]⟩ : ByteArray).size = 2 := rfl
  have e2 : (⟨#[59]⟩ : ByteArray).size = 1 := rfl
  have e3 : (⟨#[126]⟩ : ByteArray).size = 1 := rfl
  have hcat : (⟨#[27, 91]⟩ : ByteArray).size + X.size ≤ 9223372036854775807 := by omega
  have hcat1 : 2 + X.size ≤ 9223372036854775807 := by omega
  have hcat2 : 2 + X.size + 1 ≤ 9223372036854775807 := by omega
  have hcat3 : 2 + X.size + 1 + D.size ≤ 9223372036854775807 := by omega
  have hcat4 : 2 + X.size + 1 + D.size + 1 ≤ 9223372036854775807 := by omega
  clear HE e1 e2 e3 hdd
  rcases (show N = 1 ∨ (1 : Int) < (N : Int) by omega) with hN1 | hN1
  · subst hN1
    go_enter Tryd.func13, Tryd.ntmps13
    go_wp2_with (first
      | (go_at_call 15; refine (HC.out _).mono ?_; rintro e w1 ⟨rfl, hb1⟩; obtain ⟨⟨x0, x1, x2, x3, x4⟩, y0, y1, y2, y3, y4, y5, y6, y7, y8, y9, y10⟩ := HK.out w1 hb1)
      | (go_at_call 21; refine (HM.out _).mono ?_; rintro e w2 ⟨rfl, hb2'⟩; have hb2 := hb1.trans (hb2'.mono hb1.size); obtain ⟨⟨z0, z1, z2, z3, z4⟩, v0, v1, v2, v3, v4, v5, v6, v7, v8, v9, v10⟩ := HK.out w2 hb2)
      | (go_at_call 22; refine (HL.out _).mono ?_; rintro e w3 ⟨rfl, hb3'⟩; have hb3 := hb2.trans (hb3'.mono hb2.size); obtain ⟨⟨a0, a1, a2, a3, a4⟩, b0, b1, b2, b3, b4, b5, b6, b7, b8, b9, b10⟩ := HK.out w3 hb3)
      | (go_at_call 24; refine (HTl.out _).mono ?_; rintro e w4 ⟨rfl, hb4'⟩; have hb4 := hb3.trans (hb4'.mono hb3.size); obtain ⟨⟨c0, c1, c2, c3, c4⟩, d0, d1, d2, d3, d4, d5, d6, d7, d8, d9, d10⟩ := HK.out w4 hb4)
      | (go_at_call 23; refine (HG2.out _).mono ?_; rintro e w5 ⟨rfl, rfl⟩)
      | fail)
    go_ret2
    exact ⟨congrArg (fun x => Ending.returned (.tuple #[Value.string x, .int .i64 0])) (by rw [HEe.out]; exact ba_ext (by simp [HX.out])), Hbox.out.trans (hb4.mono Hbox.out.size)⟩
  · have hne : N ≠ 1 := by omega
    have HN := hide hne
    clear hne
    go_enter Tryd.func13, Tryd.ntmps13
    go_wp2_with (first
      | (go_at_call 15; refine (HC.out _).mono ?_; rintro e w1 ⟨rfl, hb1⟩; obtain ⟨⟨x0, x1, x2, x3, x4⟩, y0, y1, y2, y3, y4, y5, y6, y7, y8, y9, y10⟩ := HK.out w1 hb1)
      | (go_at_call 21; refine (HM.out _).mono ?_; rintro e w2 ⟨rfl, hb2'⟩; have hb2 := hb1.trans (hb2'.mono hb1.size); obtain ⟨⟨z0, z1, z2, z3, z4⟩, v0, v1, v2, v3, v4, v5, v6, v7, v8, v9, v10⟩ := HK.out w2 hb2)
      | (go_at_call 22; refine (HL.out _).mono ?_; rintro e w3 ⟨rfl, hb3'⟩; have hb3 := hb2.trans (hb3'.mono hb2.size); obtain ⟨⟨a0, a1, a2, a3, a4⟩, b0, b1, b2, b3, b4, b5, b6, b7, b8, b9, b10⟩ := HK.out w3 hb3)
      | (go_at_call 24; refine (HTl.out _).mono ?_; rintro e w4 ⟨rfl, hb4'⟩; have hb4 := hb3.trans (hb4'.mono hb3.size); obtain ⟨⟨c0, c1, c2, c3, c4⟩, d0, d1, d2, d3, d4, d5, d6, d7, d8, d9, d10⟩ := HK.out w4 hb4)
      | (go_at_call 23; with_reducible refine (HG.out w4).mono ?_; rintro e w6 ⟨rfl, rfl⟩)
      | (go_at_call 23; with_reducible refine (HG2.out w4).mono ?_; rintro e w5 ⟨rfl, rfl⟩)
      | fail)
    go_ret2
    exact ⟨congrArg (fun x => Ending.returned (.tuple #[Value.string x, .int .i64 0])) (by rw [HEe.out, if_neg HN.out]; exact ba_ext (by simp [HX.out, HD.out, dg])), Hbox.out.trans (hb4.mono Hbox.out.size)⟩
end Go.Proofs.YtpilpchijmappaaDoor
