/- narratorref14.Encode, whole. -/
import Derived.Test.YtpilpchijmappaaDoorH14
namespace Go.Proofs.YtpilpchijmappaaDoor
open Go.RowKit

set_option maxRecDepth 100000 in
set_option maxHeartbeats 4000000 in
theorem encode14S (w : World) (k : Key) (m : Md) (hok : keyErr k = 0) (hsp : k.nm = nTab ∨ k.nm = nEnter ∨ k.nm = nEscape ∨ k.nm = nBack) :
    Calls Tryd.prog 13 #[k.val, m.val] w fun e w' => e = .returned (.tuple #[.string ⟨(keyEnc m.app m.nl k).toArray⟩, .int .i64 0]) ∧ Below w.heap.size w w' := by
  obtain ⟨W0, hW0, hbox, hs0, hk, hm⟩ := boxKM w k m
  have HK := hide (fun w1 (hb : Below W0.heap.size W0 w1) => And.intro (hk.below hb (by omega)).cells (hm.below hb (by omega)).cells)
  have HC := hide (fun w1 => check14 w1 k)
  rw [hok] at HC
  have HM := hide (fun w1 => number14 w1 k)
  have hbd := modNum_bd k.control k.alt k.shift
  obtain ⟨N, hN⟩ : ∃ N, modNum k.control k.alt k.shift = N := ⟨_, rfl⟩
  rw [hN] at HM
  have HL := hide (fun w1 => letter14 w1 k.name)
  have HTl := hide (fun w1 => tilde14 w1 k.name)
  obtain ⟨⟨k0, k1, k2, k3, k4⟩, m0, m1, m2, m3, m4, m5, m6, m7, m8, m9, m10⟩ := HK.out W0 (Below.refl _ _)
  have Hbox := hide hbox
  have Hs0 := hide hs0
  obtain ⟨nm, r, c, a, s⟩ := k
  obtain ⟨ins, nl, app, org, wrp, vis, alt, con, s0, s1, sh⟩ := m
  clear hbox hk hm hs0 hN hok hbd
  subst hW0
  unfold Key.val at HC HM ⊢
  unfold Md.val
  dsimp only [Key.nm] at *
  rcases hsp with hn | hn | hn | hn
  · obtain rfl := ba_of hn
    rw [show letB (⟨nTab.toArray⟩ : ByteArray).data.toList = ⟨#[]⟩ from rfl] at HL
    rw [show tilN (⟨nTab.toArray⟩ : ByteArray).data.toList = 0 from rfl] at HTl
    clear hn
    rcases (show s = true ∨ (s = false ∧ a = true) ∨ (s = false ∧ a = false) by cases s <;> cases a <;> simp) with rfl | ⟨rfl, rfl⟩ | ⟨rfl, rfl⟩
    all_goals
      go_enter Tryd.func13, Tryd.ntmps13
      go_wp2_with (first
        | (go_at_call 15; refine (HC.out _).mono ?_; rintro e w1 ⟨rfl, hb1⟩; obtain ⟨⟨x0, x1, x2, x3, x4⟩, y0, y1, y2, y3, y4, y5, y6, y7, y8, y9, y10⟩ := HK.out w1 hb1)
        | (go_at_call 21; refine (HM.out _).mono ?_; rintro e w2 ⟨rfl, hb2'⟩; have hb2 := hb1.trans (hb2'.mono hb1.size); obtain ⟨⟨z0, z1, z2, z3, z4⟩, v0, v1, v2, v3, v4, v5, v6, v7, v8, v9, v10⟩ := HK.out w2 hb2)
        | (go_at_call 22; refine (HL.out _).mono ?_; rintro e w3 ⟨rfl, hb3'⟩; have hb3 := hb2.trans (hb3'.mono hb2.size); obtain ⟨⟨a0, a1, a2, a3, a4⟩, b0, b1, b2, b3, b4, b5, b6, b7, b8, b9, b10⟩ := HK.out w3 hb3)
        | (go_at_call 24; refine (HTl.out _).mono ?_; rintro e w4 ⟨rfl, hb4'⟩; have hb4 := hb3.trans (hb4'.mono hb3.size); obtain ⟨⟨c0, c1, c2, c3, c4⟩, d0, d1, d2, d3, d4, d5, d6, d7, d8, d9, d10⟩ := HK.out w4 hb4)
        | fail)
      go_ret2
      exact ⟨congrArg (fun x => Ending.returned (.tuple #[Value.string x, .int .i64 0])) (ba_ext rfl), Hbox.out.trans (hb4.mono Hbox.out.size)⟩
  · obtain rfl := ba_of hn
    rw [show letB (⟨nEnter.toArray⟩ : ByteArray).data.toList = ⟨#[]⟩ from rfl] at HL
    rw [show tilN (⟨nEnter.toArray⟩ : ByteArray).data.toList = 0 from rfl] at HTl
    clear hn
    cases nl <;> cases a
    all_goals
      go_enter Tryd.func13, Tryd.ntmps13
      go_wp2_with (first
        | (go_at_call 15; refine (HC.out _).mono ?_; rintro e w1 ⟨rfl, hb1⟩; obtain ⟨⟨x0, x1, x2, x3, x4⟩, y0, y1, y2, y3, y4, y5, y6, y7, y8, y9, y10⟩ := HK.out w1 hb1)
        | (go_at_call 21; refine (HM.out _).mono ?_; rintro e w2 ⟨rfl, hb2'⟩; have hb2 := hb1.trans (hb2'.mono hb1.size); obtain ⟨⟨z0, z1, z2, z3, z4⟩, v0, v1, v2, v3, v4, v5, v6, v7, v8, v9, v10⟩ := HK.out w2 hb2)
        | (go_at_call 22; refine (HL.out _).mono ?_; rintro e w3 ⟨rfl, hb3'⟩; have hb3 := hb2.trans (hb3'.mono hb2.size); obtain ⟨⟨a0, a1, a2, a3, a4⟩, b0, b1, b2, b3, b4, b5, b6, b7, b8, b9, b10⟩ := HK.out w3 hb3)
        | (go_at_call 24; refine (HTl.out _).mono ?_; rintro e w4 ⟨rfl, hb4'⟩; have hb4 := hb3.trans (hb4'.mono hb3.size); obtain ⟨⟨c0, c1, c2, c3, c4⟩, d0, d1, d2, d3, d4, d5, d6, d7, d8, d9, d10⟩ := HK.out w4 hb4)
        | fail)
      go_ret2
      exact ⟨congrArg (fun x => Ending.returned (.tuple #[Value.string x, .int .i64 0])) (ba_ext rfl), Hbox.out.trans (hb4.mono Hbox.out.size)⟩
  · obtain rfl := ba_of hn
    rw [show letB (⟨nEscape.toArray⟩ : ByteArray).data.toList = ⟨#[]⟩ from rfl] at HL
    rw [show tilN (⟨nEscape.toArray⟩ : ByteArray).data.toList = 0 from rfl] at HTl
    clear hn
    cases a
    all_goals
      go_enter Tryd.func13, Tryd.ntmps13
      go_wp2_with (first
        | (go_at_call 15; refine (HC.out _).mono ?_; rintro e w1 ⟨rfl, hb1⟩; obtain ⟨⟨x0, x1, x2, x3, x4⟩, y0, y1, y2, y3, y4, y5, y6, y7, y8, y9, y10⟩ := HK.out w1 hb1)
        | (go_at_call 21; refine (HM.out _).mono ?_; rintro e w2 ⟨rfl, hb2'⟩; have hb2 := hb1.trans (hb2'.mono hb1.size); obtain ⟨⟨z0, z1, z2, z3, z4⟩, v0, v1, v2, v3, v4, v5, v6, v7, v8, v9, v10⟩ := HK.out w2 hb2)
        | (go_at_call 22; refine (HL.out _).mono ?_; rintro e w3 ⟨rfl, hb3'⟩; have hb3 := hb2.trans (hb3'.mono hb2.size); obtain ⟨⟨a0, a1, a2, a3, a4⟩, b0, b1, b2, b3, b4, b5, b6, b7, b8, b9, b10⟩ := HK.out w3 hb3)
        | (go_at_call 24; refine (HTl.out _).mono ?_; rintro e w4 ⟨rfl, hb4'⟩; have hb4 := hb3.trans (hb4'.mono hb3.size); obtain ⟨⟨c0, c1, c2, c3, c4⟩, d0, d1, d2, d3, d4, d5, d6, d7, d8, d9, d10⟩ := HK.out w4 hb4)
        | fail)
      go_ret2
      exact ⟨congrArg (fun x => Ending.returned (.tuple #[Value.string x, .int .i64 0])) (ba_ext rfl), Hbox.out.trans (hb4.mono Hbox.out.size)⟩
  · obtain rfl := ba_of hn
    rw [show letB (⟨nBack.toArray⟩ : ByteArray).data.toList = ⟨#[]⟩ from rfl] at HL
    rw [show tilN (⟨nBack.toArray⟩ : ByteArray).data.toList = 0 from rfl] at HTl
    clear hn
    cases a
    all_goals
      go_enter Tryd.func13, Tryd.ntmps13
      go_wp2_with (first
        | (go_at_call 15; refine (HC.out _).mono ?_; rintro e w1 ⟨rfl, hb1⟩; obtain ⟨⟨x0, x1, x2, x3, x4⟩, y0, y1, y2, y3, y4, y5, y6, y7, y8, y9, y10⟩ := HK.out w1 hb1)
        | (go_at_call 21; refine (HM.out _).mono ?_; rintro e w2 ⟨rfl, hb2'⟩; have hb2 := hb1.trans (hb2'.mono hb1.size); obtain ⟨⟨z0, z1, z2, z3, z4⟩, v0, v1, v2, v3, v4, v5, v6, v7, v8, v9, v10⟩ := HK.out w2 hb2)
        | (go_at_call 22; refine (HL.out _).mono ?_; rintro e w3 ⟨rfl, hb3'⟩; have hb3 := hb2.trans (hb3'.mono hb2.size); obtain ⟨⟨a0, a1, a2, a3, a4⟩, b0, b1, b2, b3, b4, b5, b6, b7, b8, b9, b10⟩ := HK.out w3 hb3)
        | (go_at_call 24; refine (HTl.out _).mono ?_; rintro e w4 ⟨rfl, hb4'⟩; have hb4 := hb3.trans (hb4'.mono hb3.size); obtain ⟨⟨c0, c1, c2, c3, c4⟩, d0, d1, d2, d3, d4, d5, d6, d7, d8, d9, d10⟩ := HK.out w4 hb4)
        | fail)
      go_ret2
      exact ⟨congrArg (fun x => Ending.returned (.tuple #[Value.string x, .int .i64 0])) (ba_ext rfl), Hbox.out.trans (hb4.mono Hbox.out.size)⟩
end Go.Proofs.YtpilpchijmappaaDoor
