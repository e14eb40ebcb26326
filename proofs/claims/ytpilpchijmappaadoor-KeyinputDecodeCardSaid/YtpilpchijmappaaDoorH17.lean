/- narratorref14.Encode; the walk of the law KeyinputEncode. -/
import Derived.Test.YtpilpchijmappaaDoorH15
import Derived.Test.YtpilpchijmappaaDoorH18
import Derived.Test.YtpilpchijmappaaDoorH16
import Derived.Test.YtpilpchijmappaaDoorHeld
namespace Go.Proofs.YtpilpchijmappaaDoor
open Go.RowKit

theorem encode14 (w : World) (k : Key) (m : Md) : Calls Tryd.prog 13 #[k.val, m.val] w fun e w' => e = .returned (.tuple #[.string (encT m.app m.nl k), .int .i64 (keyErr k)]) ∧ Below w.heap.size w w' := by
  by_cases hok : keyErr k = 0
  · unfold encT
    rw [if_pos hok, hok]
    by_cases g0 : k.nm = []
    · exact encode14C w k m hok g0
    · rcases name_kinds _ (keyErr_ok_name hok g0) with h | h | h | h | h | h
      · exact encode14S w k m hok (.inl h)
      · exact encode14S w k m hok (.inr (.inl h))
      · exact encode14S w k m hok (.inr (.inr (.inl h)))
      · exact encode14S w k m hok (.inr (.inr (.inr h)))
      · obtain ⟨p, hp⟩ := Option.isSome_iff_exists.1 h
        exact encode14L w k m hok p hp g0
      · obtain ⟨p, hp⟩ := Option.isSome_iff_exists.1 h
        have hm := lookL_some _ _ _ hp
        exact encode14T w k m hok p (til_look (k.nm, p) hm).1 hp g0
  · obtain ⟨W0, hW0, hbox, -, -, -⟩ := boxKM w k m
    have HC := hide (fun w1 => check14 w1 k)
    have hT : encT m.app m.nl k = ⟨#[]⟩ := by unfold encT; rw [if_neg hok]
    obtain ⟨E, hE⟩ : ∃ E, keyErr k = E := ⟨_, rfl⟩
    rw [hT]
    rw [hE] at HC hok ⊢
    have hne : (E != 0) = true := by simpa using hok
    have Hbox := hide hbox
    clear hbox hT hE hok
    subst hW0
    unfold Key.val at HC ⊢
    unfold Md.val
    go_enter Tryd.func13, Tryd.ntmps13
    go_wp2_with (go_at_call 15; refine (HC.out _).mono ?_; rintro e w1 ⟨rfl, hb1⟩)
    go_ret2
    exact ⟨rfl, Hbox.out.trans (hb1.mono Hbox.out.size)⟩
set_option maxRecDepth 100000 in
set_option maxHeartbeats 1000000 in
theorem encodeLawP (w : World) (k : Key) (m : Md) (hP : Pow w) : Calls Tryd.prog 3 #[k.val, m.val] w fun e w' => e = .returned (.bool true) ∧ Below w.heap.size w w' := by
  obtain ⟨W0, hW0, hbox, hs0, hk, hm⟩ := boxKM w k m
  have HK := hide (fun w1 (hb : Below W0.heap.size W0 w1) => And.intro (hk.below hb (by omega)).cells (hm.below hb (by omega)).cells)
  have HA := hide (fun w1 (hb : Below W0.heap.size W0 w1) => awakeP w1 (hP.below (hbox.trans (hb.mono (by omega)))))
  have HE1 := hide (fun w1 (hb : Below W0.heap.size W0 w1) => encodeP w1 k m (hP.below (hbox.trans (hb.mono (by omega)))))
  have HE2 := hide (fun w1 => encode14 w1 k m)
  have HC1 := hide (fun w1 (hb : Below W0.heap.size W0 w1) => checkP w1 k (hP.below (hbox.trans (hb.mono (by omega)))))
  have HC2 := hide (fun w1 => check14 w1 k)
  obtain ⟨T, hT⟩ : ∃ T, encT m.app m.nl k = T := ⟨_, rfl⟩
  obtain ⟨E, hE⟩ : ∃ E, keyErr k = E := ⟨_, rfl⟩
  rw [hT, hE] at HE1 HE2
  rw [hE] at HC1 HC2
  obtain ⟨⟨k0, k1, k2, k3, k4⟩, m0, m1, m2, m3, m4, m5, m6, m7, m8, m9, m10⟩ := HK.out W0 (Below.refl _ _)
  have Hbox := hide hbox
  have hrf := Below.refl W0.heap.size W0
  have Hs0 := hide hs0
  obtain ⟨nm, r, c, a, s⟩ := k
  obtain ⟨ins, nl, app, org, wrp, vis, alt, con, s0, s1, sh⟩ := m
  have hb2' := Nat.le_of_eq hs0.symm
  clear hbox hk hm hs0 hP hT hE
  subst hW0
  unfold Key.val at HE1 HE2 HC1 HC2 ⊢
  unfold Md.val at HE1 HE2 ⊢
  dsimp only at *
  by_cases hg : (40 : Int) < (nm.size : Int)
  · clear HE1 HE2 HC1 HC2
    go_enter Tryd.func3, Tryd.ntmps3
    go_wp2_with (go_at_call 11; refine (HA.out _ hrf).mono ?_; rintro e w1 ⟨rfl, hb1⟩)
    go_ret
    exact ⟨rfl, Hbox.out.trans (hb1.mono Hbox.out.size)⟩
  · go_enter Tryd.func3, Tryd.ntmps3
    go_wp2_with (first
      | (go_at_call 12; refine (HE1.out _ hrf).mono ?_; rintro e w1 ⟨rfl, hb1⟩; obtain ⟨⟨x0, x1, x2, x3, x4⟩, y0, y1, y2, y3, y4, y5, y6, y7, y8, y9, y10⟩ := HK.out w1 hb1)
      | (go_at_call 13; refine (HE2.out _).mono ?_; rintro e w2 ⟨rfl, hb2'⟩; have hb2 := hb1.trans (hb2'.mono hb1.size); obtain ⟨⟨z0, z1, z2, z3, z4⟩, v0, v1, v2, v3, v4, v5, v6, v7, v8, v9, v10⟩ := HK.out w2 hb2)
      | fail)
    have hlw : w.heap.size < w2.heap.size := by have := hb2.size; have := Hs0.out; omega
    have q0 := Held.cell z0 hlw
    have q1 := Held.cell z1 hlw
    have q2 := Held.cell z2 hlw
    have q3 := Held.cell z3 hlw
    have q4 := Held.cell z4 hlw
    clear k0 k1 k2 k3 k4 m0 m1 m2 m3 m4 m5 m6 m7 m8 m9 m10 x0 x1 x2 x3 x4 y0 y1 y2 y3 y4 y5 y6 y7 y8 y9 y10 z0 z1 z2 z3 z4 v0 v1 v2 v3 v4 v5 v6 v7 v8 v9 v10
    refine wp_region_held_lit (by kernel_rfl) (by kernel_rfl) ?_
    repeat go_big_quiet_step ((first
      | (go_at_call 14; exact held_call _ fun W hb => HC1.out W (hb2.trans (hb.mono hb2.size)))
      | (go_at_call 15; exact held_call _ fun W _ => HC2.out W)
      | (go_at_call 11; exact held_call _ fun W hb => HA.out W (hb2.trans (hb.mono hb2.size)))))
    refine wpQuiet_nil ?_
    intro w5 hb5
    clear q0 q1 q2 q3 q4
    go_wp2
    go_ret
    exact ⟨rfl, Hbox.out.trans ((hb2.trans (hb5.mono hb2.size)).mono Hbox.out.size)⟩
end Go.Proofs.YtpilpchijmappaaDoor
