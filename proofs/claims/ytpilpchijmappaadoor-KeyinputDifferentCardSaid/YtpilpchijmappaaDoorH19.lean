/- The walk of the law KeyinputDifferent. -/
import Derived.Test.YtpilpchijmappaaDoorH16
namespace Go.Proofs.YtpilpchijmappaaDoor
open Go.RowKit

theorem boxKKM (w : World) (k l : Key) (m : Md) : ∃ W, W = ((w.alloc (.cells #[.string k.name, .int .i32 k.rune, .bool k.control, .bool k.alt, .bool k.shift] 23)).alloc (.cells #[.string l.name, .int .i32 l.rune, .bool l.control, .bool l.alt, .bool l.shift] 23)).alloc (.cells #[.bool m.ins, .bool m.nl, .bool m.app, .bool m.org, .bool m.wrap, .bool m.vis, .bool m.alt, .bool m.con, .int .u8 m.s0, .int .u8 m.s1, .int .i64 m.sh] 26) ∧
    Below w.heap.size w W ∧ W.heap.size = w.heap.size + 1 + 1 + 1 ∧ KeyBox W w.heap.size k ∧ KeyBox W (w.heap.size + 1) l ∧ MdBox W (w.heap.size + 1 + 1) m := by
  obtain ⟨W1, h1, hb1, hs1, hk⟩ := boxK w k
  obtain ⟨W2, h2, hb2, hs2, hl, hm⟩ := boxKM W1 l m
  refine ⟨W2, by rw [h2, h1], hb1.trans (hb2.mono hb1.size), by omega, hk.below hb2 (by omega), ?_, ?_⟩
  · rw [← hs1]; exact hl
  · rw [← hs1]; exact hm

theorem ba_same {a b : ByteArray} (h : a.toList = b.toList) : a = b := by
  rw [ByteArray.toList_eq, ByteArray.toList_eq] at h
  exact ba_ext h

set_option maxRecDepth 100000 in
set_option maxHeartbeats 1000000 in
theorem differentLawP (w : World) (k l : Key) (m : Md) (hP : Pow w) : Calls Tryd.prog 4 #[k.val, l.val, m.val] w fun e w' => e = .returned (.bool true) ∧ Below w.heap.size w w' := by
  obtain ⟨W0, hW0, hbox, hs0, hk, hl, hm⟩ := boxKKM w k l m
  have HK := hide (fun w1 (hb : Below W0.heap.size W0 w1) => And.intro (hk.below hb (by omega)).cells (And.intro (hl.below hb (by omega)).cells (hm.below hb (by omega)).cells))
  have HA := hide (fun w1 (hb : Below W0.heap.size W0 w1) => awakeP w1 (hP.below (hbox.trans (hb.mono (by omega)))))
  have HE1 := hide (fun w1 (hb : Below W0.heap.size W0 w1) => encodeP w1 k m (hP.below (hbox.trans (hb.mono (by omega)))))
  have HE2 := hide (fun w1 (hb : Below W0.heap.size W0 w1) => encodeP w1 l m (hP.below (hbox.trans (hb.mono (by omega)))))
  have Hinj := hide (fun (h1 : keyErr k = 0) (h2 : keyErr l = 0) (h3 : encT m.app m.nl k = encT m.app m.nl l) => (show k = l by
    unfold encT at h3
    rw [if_pos h1, if_pos h2] at h3
    exact key_inj h1 h2 (by simpa using congrArg (fun b : ByteArray => b.data.toList) h3)))
  have Hsame := hide (fun (h : k = l) => (show encT m.app m.nl k = encT m.app m.nl l by rw [h]))
  obtain ⟨T1, hT1⟩ : ∃ T, encT m.app m.nl k = T := ⟨_, rfl⟩
  obtain ⟨T2, hT2⟩ : ∃ T, encT m.app m.nl l = T := ⟨_, rfl⟩
  obtain ⟨E1, hE1⟩ : ∃ E, keyErr k = E := ⟨_, rfl⟩
  obtain ⟨E2, hE2⟩ : ∃ E, keyErr l = E := ⟨_, rfl⟩
  rw [hT1, hE1] at HE1
  rw [hT2, hE2] at HE2
  rw [hT1, hT2] at Hinj Hsame
  rw [hE1, hE2] at Hinj
  obtain ⟨⟨k0, k1, k2, k3, k4⟩, ⟨l0, l1, l2, l3, l4⟩, m0, m1, m2, m3, m4, m5, m6, m7, m8, m9, m10⟩ := HK.out W0 (Below.refl _ _)
  have Hbox := hide hbox
  have hrf := Below.refl W0.heap.size W0
  have Hs0 := hide hs0
  obtain ⟨nm, r, c, a, s⟩ := k
  obtain ⟨nm', r', c', a', s'⟩ := l
  obtain ⟨ins, nl, app, org, wrp, vis, alt, con, s0, s1, sh⟩ := m
  clear hbox hk hl hm hs0 hP hT1 hT2 hE1 hE2
  subst hW0
  unfold Key.val at HE1 HE2 ⊢
  unfold Md.val at HE1 HE2 ⊢
  dsimp only at *
  by_cases h1 : E1 = 0
  · subst h1
    by_cases h2 : E2 = 0
    · subst h2
      by_cases he : nm = nm' ∧ r = r' ∧ c = c' ∧ a = a' ∧ s = s'
      · obtain ⟨rfl, rfl, rfl, rfl, rfl⟩ := he
        obtain rfl := Hsame.out rfl
        clear Hinj Hsame
        go_enter Tryd.func4, Tryd.ntmps4
        go_wp2_with (first
          | (go_at_call 12; with_reducible refine (HE2.out w1 hb1).mono ?_; rintro e w2 ⟨rfl, hb2'⟩; have hb2 := hb1.trans (hb2'.mono hb1.size); obtain ⟨⟨z0, z1, z2, z3, z4⟩, ⟨u0, u1, u2, u3, u4⟩, v0, v1, v2, v3, v4, v5, v6, v7, v8, v9, v10⟩ := HK.out w2 hb2)
          | (go_at_call 12; with_reducible refine (HE1.out _ hrf).mono ?_; rintro e w1 ⟨rfl, hb1⟩; obtain ⟨⟨x0, x1, x2, x3, x4⟩, ⟨t0, t1, t2, t3, t4⟩, y0, y1, y2, y3, y4, y5, y6, y7, y8, y9, y10⟩ := HK.out w1 hb1)
          | (go_at_call 11; refine (HA.out _ hb2).mono ?_; rintro e w3 ⟨rfl, hb3'⟩; have hb3 := hb2.trans (hb3'.mono hb2.size))
          | fail)
        go_ret
        exact ⟨rfl, Hbox.out.trans (hb3.mono Hbox.out.size)⟩
      · have hne : ¬ T1 = T2 := fun h => he (by have := Hinj.out rfl rfl h; simpa using this)
        have hTb : (T1.toList == T2.toList) = false := by
          rw [ByteArray.toList_eq, ByteArray.toList_eq]
          simp
          exact fun h => hne (ByteArray.ext h)
        clear Hinj Hsame hne
        go_enter Tryd.func4, Tryd.ntmps4
        go_wp2_with (first
          | (go_at_call 12; with_reducible refine (HE2.out w1 hb1).mono ?_; rintro e w2 ⟨rfl, hb2'⟩; have hb2 := hb1.trans (hb2'.mono hb1.size); obtain ⟨⟨z0, z1, z2, z3, z4⟩, ⟨u0, u1, u2, u3, u4⟩, v0, v1, v2, v3, v4, v5, v6, v7, v8, v9, v10⟩ := HK.out w2 hb2)
          | (go_at_call 12; with_reducible refine (HE1.out _ hrf).mono ?_; rintro e w1 ⟨rfl, hb1⟩; obtain ⟨⟨x0, x1, x2, x3, x4⟩, ⟨t0, t1, t2, t3, t4⟩, y0, y1, y2, y3, y4, y5, y6, y7, y8, y9, y10⟩ := HK.out w1 hb1)
          | (go_at_call 11; refine (HA.out _ hb2).mono ?_; rintro e w3 ⟨rfl, hb3'⟩; have hb3 := hb2.trans (hb3'.mono hb2.size))
          | fail)
        all_goals
          first
            | (go_ret; exact ⟨rfl, Hbox.out.trans (hb3.mono Hbox.out.size)⟩)
            | exact absurd ⟨ba_same (by assumption), by first | rfl | assumption, by first | rfl | assumption, by first | rfl | assumption, by first | rfl | assumption⟩ he
    · have hne : (E2 != 0) = true := by simpa using h2
      clear Hinj Hsame h2
      go_enter Tryd.func4, Tryd.ntmps4
      go_wp2_with (first
        | (go_at_call 12; with_reducible refine (HE2.out w1 hb1).mono ?_; rintro e w2 ⟨rfl, hb2'⟩; have hb2 := hb1.trans (hb2'.mono hb1.size))
        | (go_at_call 12; with_reducible refine (HE1.out _ hrf).mono ?_; rintro e w1 ⟨rfl, hb1⟩; obtain ⟨⟨x0, x1, x2, x3, x4⟩, ⟨t0, t1, t2, t3, t4⟩, y0, y1, y2, y3, y4, y5, y6, y7, y8, y9, y10⟩ := HK.out w1 hb1)
        | (go_at_call 11; refine (HA.out _ hb2).mono ?_; rintro e w3 ⟨rfl, hb3'⟩; have hb3 := hb2.trans (hb3'.mono hb2.size))
        | fail)
      go_ret
      exact ⟨rfl, Hbox.out.trans (hb3.mono Hbox.out.size)⟩
  · have hne : (E1 != 0) = true := by simpa using h1
    clear Hinj Hsame h1
    go_enter Tryd.func4, Tryd.ntmps4
    go_wp2_with (first
      | (go_at_call 12; with_reducible refine (HE2.out w1 hb1).mono ?_; rintro e w2 ⟨rfl, hb2'⟩; have hb2 := hb1.trans (hb2'.mono hb1.size))
      | (go_at_call 12; with_reducible refine (HE1.out _ hrf).mono ?_; rintro e w1 ⟨rfl, hb1⟩; obtain ⟨⟨x0, x1, x2, x3, x4⟩, ⟨t0, t1, t2, t3, t4⟩, y0, y1, y2, y3, y4, y5, y6, y7, y8, y9, y10⟩ := HK.out w1 hb1)
      | (go_at_call 11; refine (HA.out _ hb2).mono ?_; rintro e w3 ⟨rfl, hb3'⟩; have hb3 := hb2.trans (hb3'.mono hb2.size))
      | fail)
    go_ret
    exact ⟨rfl, Hbox.out.trans (hb3.mono Hbox.out.size)⟩
end Go.Proofs.YtpilpchijmappaaDoor
