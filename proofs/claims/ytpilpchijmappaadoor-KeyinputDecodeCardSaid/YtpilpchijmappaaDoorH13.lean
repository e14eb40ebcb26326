/- narratorref14.Encode. -/
import Derived.Test.YtpilpchijmappaaDoorH12
import Derived.Test.YtpilpchijmappaaDoorH6
import Derived.Test.YtpilpchijmappaaDoorV4
namespace Go.Proofs.YtpilpchijmappaaDoor
open Go.RowKit

theorem letB_some {n : List UInt8} {p : UInt8 × Bool} (h : lookL n letterTab = some p) : letB n = ⟨#[p.1]⟩ := by unfold letB; rw [h]
theorem letB_none {n : List UInt8} (h : lookL n letterTab = none) : letB n = ⟨#[]⟩ := by unfold letB; rw [h]
/-- The first byte of a name with a letter. -/
theorem let_first : ∀ p ∈ letterTab, ∃ x l, p.1 = x :: l ∧ (x == 70) = p.2.2 := by
  intro p hp
  simp only [letterTab, List.mem_cons, List.mem_nil_iff, or_false] at hp
  rcases hp with rfl | rfl | rfl | rfl | rfl | rfl | rfl | rfl | rfl | rfl <;> exact ⟨_, _, rfl, rfl⟩
theorem til_num : ∀ p ∈ tildeTab, ∃ t : Nat, tilN p.1 = (t : Int) ∧ 0 < t ∧ t < 100 ∧ dgs t = ⟨p.2.toArray⟩ := by
  intro p hp
  simp only [tildeTab, List.mem_cons, List.mem_nil_iff, or_false] at hp
  rcases hp with rfl | rfl | rfl | rfl | rfl | rfl | rfl | rfl | rfl | rfl | rfl | rfl
  · exact ⟨2, rfl, by omega, by omega, rfl⟩
  · exact ⟨3, rfl, by omega, by omega, rfl⟩
  · exact ⟨5, rfl, by omega, by omega, rfl⟩
  · exact ⟨6, rfl, by omega, by omega, rfl⟩
  · exact ⟨15, rfl, by omega, by omega, by unfold dgs dg; exact ba_ext (by simp)⟩
  · exact ⟨17, rfl, by omega, by omega, by unfold dgs dg; exact ba_ext (by simp)⟩
  · exact ⟨18, rfl, by omega, by omega, by unfold dgs dg; exact ba_ext (by simp)⟩
  · exact ⟨19, rfl, by omega, by omega, by unfold dgs dg; exact ba_ext (by simp)⟩
  · exact ⟨20, rfl, by omega, by omega, by unfold dgs dg; exact ba_ext (by simp)⟩
  · exact ⟨21, rfl, by omega, by omega, by unfold dgs dg; exact ba_ext (by simp)⟩
  · exact ⟨23, rfl, by omega, by omega, by unfold dgs dg; exact ba_ext (by simp)⟩
  · exact ⟨24, rfl, by omega, by omega, by unfold dgs dg; exact ba_ext (by simp)⟩
theorem sget0 (s : ByteArray) (x : UInt8) (l : List UInt8) (h : s.data.toList = x :: l) : ∃ hl : 0 < s.size, s[0] = x := by
  have h1 := congrArg List.length h
  rw [List.length_cons] at h1
  have h2 : s.data.toList.length = s.size := rfl
  have hl : 0 < s.size := by omega
  refine ⟨hl, ?_⟩
  show s.data.toList[0]'(by simpa using hl) = x
  simp [h]

/-- A key whose encoding has a letter. -/
theorem dgs_dg (n : Nat) (h : n < 10) : dgs n = dg n := by unfold dgs; rw [if_pos h]
set_option maxRecDepth 100000 in
set_option maxHeartbeats 1000000 in
theorem encode14L (w : World) (k : Key) (m : Md) (hok : keyErr k = 0) (p : UInt8 × Bool) (hp : lookL k.nm letterTab = some p) (h0 : k.nm ≠ []) :
    Calls Tryd.prog 13 #[k.val, m.val] w fun e w' => e = .returned (.tuple #[.string ⟨(keyEnc m.app m.nl k).toArray⟩, .int .i64 0]) ∧ Below w.heap.size w w' := by
  obtain ⟨W0, hW0, hbox, hs0, hk, hm⟩ := boxKM w k m
  have HK := hide (fun w1 (hb : Below W0.heap.size W0 w1) => And.intro (hk.below hb (by omega)).cells (hm.below hb (by omega)).cells)
  have HC := hide (fun w1 => check14 w1 k)
  rw [hok] at HC
  have HM := hide (fun w1 => number14 w1 k)
  have HL := hide (fun w1 => letter14 w1 k.name)
  rw [letB_some (n := k.name.data.toList) hp] at HL
  have HE := encName_letter (app := m.app) (nl := m.nl) (c := k.control) (a := k.alt) (s := k.shift) hp
  rw [← keyEnc_name h0] at HE
  obtain ⟨x, l, hx, hf⟩ := let_first (k.nm, p) (lookL_some _ _ _ hp)
  obtain ⟨hl0, hx0⟩ := sget0 k.name x l hx
  have hbd := modNum_bd k.control k.alt k.shift
  obtain ⟨N, hN⟩ : ∃ N, modNum k.control k.alt k.shift = N := ⟨_, rfl⟩
  rw [hN] at HM hbd HE
  have HG := hide (fun w1 => digits14 w1 N (by omega))
  rw [dgs_dg N (by omega)] at HG
  have hdz := dg_size N
  obtain ⟨D, hD⟩ : ∃ D, dg N = D := ⟨_, rfl⟩
  rw [hD] at HG hdz
  have HD := hide hD.symm
  obtain ⟨R, hR⟩ : ∃ R, keyEnc m.app m.nl k = R := ⟨_, rfl⟩
  rw [hR] at HE ⊢
  obtain ⟨⟨k0, k1, k2, k3, k4⟩, m0, m1, m2, m3, m4, m5, m6, m7, m8, m9, m10⟩ := HK.out W0 (Below.refl _ _)
  have Hbox := hide hbox
  have hrf := Below.refl W0.heap.size W0
  have Hs0 := hide hs0
  obtain ⟨nm, r, c, a, s⟩ := k
  obtain ⟨ins, nl, app, org, wrp, vis, alt, con, s0, s1, sh⟩ := m
  obtain ⟨L, f⟩ := p
  have hix : ((nm[0].toNat : Int) == 70) = f := by
    have hf' : (x == 70) = f := hf
    rw [← hf']
    dsimp only at hx0
    rw [hx0]
    rw [Bool.eq_iff_iff]
    simp
    constructor
    · intro h; exact UInt8.toNat_inj.1 (by simpa using (by omega : x.toNat = 70))
    · rintro rfl; rfl
  clear hbox hk hm hs0 hD hN hok hp hx hx0 hf h0 hR
  subst hW0
  unfold Key.val at HC HM ⊢
  unfold Md.val
  dsimp only [Key.nm] at *
  have HEe := hide HE
  have e1 : (⟨#[27, 91, 49, 59]⟩ : ByteArray).size = 4 := rfl
  have hcat : (⟨#[27, 91, 49, 59]⟩ : ByteArray).size + D.size ≤ 9223372036854775807 := by omega
  have hcat1 : 4 + D.size ≤ 9223372036854775807 := by omega
  have hcat2 : (⟨#[27, 91, 49, 59]⟩ ++ D : ByteArray).size + 1 ≤ 9223372036854775807 := by rw [ByteArray.size_append]; omega
  have hcat3 : (⟨#[27, 91, 49, 59]⟩ ++ D : ByteArray).size + (⟨#[L]⟩ : ByteArray).size ≤ 9223372036854775807 := by rw [ByteArray.size_append]; have : (⟨#[L]⟩ : ByteArray).size = 1 := rfl; omega
  clear HE e1
  rcases (show N = 1 ∨ (1 : Int) < (N : Int) by omega) with hN1 | hN1
  · subst hN1
    rcases (show f = true ∨ (f = false ∧ app = true) ∨ (f = false ∧ app = false) by cases f <;> cases app <;> simp) with rfl | ⟨rfl, rfl⟩ | ⟨rfl, rfl⟩
    all_goals
      go_enter Tryd.func13, Tryd.ntmps13
      go_wp2_with (first
        | (go_at_call 15; refine (HC.out _).mono ?_; rintro e w1 ⟨rfl, hb1⟩; obtain ⟨⟨x0, x1, x2, x3, x4⟩, y0, y1, y2, y3, y4, y5, y6, y7, y8, y9, y10⟩ := HK.out w1 hb1)
        | (go_at_call 21; refine (HM.out _).mono ?_; rintro e w2 ⟨rfl, hb2'⟩; have hb2 := hb1.trans (hb2'.mono hb1.size); obtain ⟨⟨z0, z1, z2, z3, z4⟩, v0, v1, v2, v3, v4, v5, v6, v7, v8, v9, v10⟩ := HK.out w2 hb2)
        | (go_at_call 22; refine (HL.out _).mono ?_; rintro e w3 ⟨rfl, hb3'⟩; have hb3 := hb2.trans (hb3'.mono hb2.size); obtain ⟨⟨a0, a1, a2, a3, a4⟩, b0, b1, b2, b3, b4, b5, b6, b7, b8, b9, b10⟩ := HK.out w3 hb3)
        | fail)
      go_ret2
      exact ⟨congrArg (fun x => Ending.returned (.tuple #[Value.string x, .int .i64 0])) (by rw [HEe.out]; exact ba_ext (by simp)), Hbox.out.trans (hb3.mono Hbox.out.size)⟩
  · have hne : N ≠ 1 := by omega
    have HEE := hide (HEe.out.trans (if_neg hne))
    clear hne HEe
    go_enter Tryd.func13, Tryd.ntmps13
    go_wp2_with (first
      | (go_at_call 15; refine (HC.out _).mono ?_; rintro e w1 ⟨rfl, hb1⟩; obtain ⟨⟨x0, x1, x2, x3, x4⟩, y0, y1, y2, y3, y4, y5, y6, y7, y8, y9, y10⟩ := HK.out w1 hb1)
      | (go_at_call 21; refine (HM.out _).mono ?_; rintro e w2 ⟨rfl, hb2'⟩; have hb2 := hb1.trans (hb2'.mono hb1.size); obtain ⟨⟨z0, z1, z2, z3, z4⟩, v0, v1, v2, v3, v4, v5, v6, v7, v8, v9, v10⟩ := HK.out w2 hb2)
      | (go_at_call 22; refine (HL.out _).mono ?_; rintro e w3 ⟨rfl, hb3'⟩; have hb3 := hb2.trans (hb3'.mono hb2.size); obtain ⟨⟨a0, a1, a2, a3, a4⟩, b0, b1, b2, b3, b4, b5, b6, b7, b8, b9, b10⟩ := HK.out w3 hb3)
      | (go_at_call 23; refine (HG.out _).mono ?_; rintro e w4 ⟨rfl, rfl⟩)
      | fail)
    go_ret2
    exact ⟨congrArg (fun x => Ending.returned (.tuple #[Value.string x, .int .i64 0])) (by rw [HEE.out]; exact ba_ext (by simp [HD.out, dg])), Hbox.out.trans (hb3.mono Hbox.out.size)⟩
end Go.Proofs.YtpilpchijmappaaDoor
