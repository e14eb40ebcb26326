/- The walk of the law KeyinputLongest. -/
import Derived.Test.YtpilpchijmappaaDoorH29
namespace Go.Proofs.YtpilpchijmappaaDoor
open Go.RowKit

theorem boxMK (w : World) (k : Key) (m : Md) : ∃ W, W = (w.alloc (.cells #[.bool m.ins, .bool m.nl, .bool m.app, .bool m.org, .bool m.wrap, .bool m.vis, .bool m.alt, .bool m.con, .int .u8 m.s0, .int .u8 m.s1, .int .i64 m.sh] 26)).alloc (.cells #[.string k.name, .int .i32 k.rune, .bool k.control, .bool k.alt, .bool k.shift] 23) ∧
    Below w.heap.size w W ∧ W.heap.size = w.heap.size + 1 + 1 ∧ MdBox W w.heap.size m ∧ KeyBox W (w.heap.size + 1) k := by
  refine ⟨_, rfl, ((Below.refl _ w).alloc (Nat.le_refl _) _).alloc (by simp) _, by simp, block_alloc (block_new w _) _, ?_⟩
  have := keyBox_new (w.alloc (.cells #[.bool m.ins, .bool m.nl, .bool m.app, .bool m.org, .bool m.wrap, .bool m.vis, .bool m.alt, .bool m.con, .int .u8 m.s0, .int .u8 m.s1, .int .i64 m.sh] 26)) k
  rw [World.size_alloc] at this
  exact this
theorem extract_take (s : ByteArray) (n : Nat) : (s.extract 0 n).data.toList = s.data.toList.take n := by
  simp [ByteArray.data_extract]
theorem str_beq (a b : ByteArray) : (a.toList == b.toList) = decide (a.data.toList = b.data.toList) := by
  rw [ByteArray.toList_eq, ByteArray.toList_eq, Bool.eq_iff_iff]
  simp

set_option maxRecDepth 100000 in
set_option maxHeartbeats 2000000 in
theorem longestLawP (w : World) (s : ByteArray) (m : Md) (k : Key) (hP : Pow w) (hT : Tabs w) : Calls Tryd.prog 9 #[.string s, m.val, k.val] w fun e w' => e = .returned (.bool true) ∧ Below w.heap.size w w' := by
  obtain ⟨W0, hW0, hbox, hs0, hm, hk⟩ := boxMK w k m
  have HK := hide (fun w1 (hb : Below W0.heap.size W0 w1) => And.intro (hk.below hb (by omega)).cells (hm.below hb (by omega)).cells)
  have HA := hide (fun w1 (hb : Below W0.heap.size W0 w1) => awakeP w1 (hP.below (hbox.trans (hb.mono (by omega)))))
  have Hbox := hide hbox
  have hrf := Below.refl W0.heap.size W0
  obtain ⟨RB, hRB⟩ : ∃ R : World → Prop, R = fun wx => Below W0.heap.size W0 wx := ⟨_, rfl⟩
  have HRB := hide (fun wx => (show RB wx ↔ Below W0.heap.size W0 wx by rw [hRB]))
  clear hRB
  by_cases hlen : s.size ≤ 60
  case neg =>
    have hlI : (60 : Int) < (s.size : Int) := by omega
    clear hbox hk hm hs0 hP hT HK hlen
    subst hW0
    unfold Key.val Md.val
    go_enter Tryd.func9, Tryd.ntmps9
    go_wp2_with (go_at_call 11; refine (HA.out _ hrf).mono ?_; rintro e w5 ⟨rfl, hb5⟩)
    go_ret
    exact ⟨rfl, Hbox.out.trans (hb5.mono Hbox.out.size)⟩
  have hlI : ¬ (60 : Int) < (s.size : Int) := by omega
  have HE := hide (fun w1 k (hb : Below W0.heap.size W0 w1) => encodeP w1 k m (hP.below (hbox.trans (hb.mono (by omega)))))
  have HD := hide (decodeKP W0 s m (hP.below hbox) (hT.below hbox) (by omega))
  obtain ⟨⟨k0, k1, k2, k3, k4⟩, m0, m1, m2, m3, m4, m5, m6, m7, m8, m9, m10⟩ := HK.out W0 (Below.refl _ _)
  have hs60 : s.size ≤ 60 := hlen
  obtain ⟨hfound, hmost⟩ := decP_found m.app m.nl s.data.toList
  unfold DecRet decErr at HD
  obtain ⟨⟨KB, N⟩, hKB⟩ : ∃ x, decP m.app m.nl s.data.toList = x := ⟨_, rfl⟩
  obtain ⟨SB, hSB⟩ : ∃ b, shortB m.app m.nl s.data.toList = b := ⟨_, rfl⟩
  rw [hKB, hSB] at HD
  rw [hKB] at hfound hmost
  have Hfound := hide hfound
  have Hmost := hide hmost
  have HNK := hide (fun W => keyBox_new W KB)
  have HE1 := hide (fun W => HE.out W KB)
  have HE2 := hide (fun W => HE.out W k)
  clear hbox hk hm hs0 hP hT hlen hKB hSB hfound hmost HE
  subst hW0
  obtain ⟨ins, nl, app, org, wrp, vis, alt, con, s0, s1, sh⟩ := m
  obtain ⟨E2, hE2⟩ : ∃ E, keyErr k = E := ⟨_, rfl⟩
  obtain ⟨T2, hT2⟩ : ∃ E, encT app nl k = E := ⟨_, rfl⟩
  dsimp only at HE1 HE2 HD Hfound Hmost
  have HM2 := hide (fun (h : E2 = 0) (hp : T2.data.toList <+: s.data.toList) => (show T2.size ≤ N by
    have h2 : T2.data.toList = keyEnc app nl k := by rw [← hT2]; unfold encT; rw [if_pos (hE2.trans h)]
    have h3 := Hmost.out k (hE2.trans h) (by rw [← h2]; exact hp)
    rw [← h2] at h3
    exact h3))
  rw [hE2, hT2] at HE2
  obtain ⟨nm, r, c, a, s'⟩ := k
  obtain ⟨nmB, rB, cB, aB, sB⟩ := KB
  clear hE2 hT2 Hmost
  unfold Key.val Md.val at HE1 HE2 HD ⊢
  dsimp only at HE1 HE2 HD HNK ⊢
  have HD2 := hide (show ∃ d : Int, (if 0 < N then (0 : Int) else if SB = true then 4 else 3) = d ∧ ((d = 0 ∧ 0 < N) ∨ ((d == 0) = false ∧ N = 0)) from by
    by_cases h : 0 < N
    · exact ⟨0, if_pos h, .inl ⟨rfl, h⟩⟩
    · cases SB
      · exact ⟨3, by rw [if_neg h]; rfl, .inr ⟨rfl, by omega⟩⟩
      · exact ⟨4, by rw [if_neg h]; rfl, .inr ⟨rfl, by omega⟩⟩)
  obtain ⟨d, hd, hdc⟩ := HD2.out
  rw [hd] at HD
  have Hdc := hide hdc
  clear HD2 hd hdc
  go_enter Tryd.func9, Tryd.ntmps9
  go_upto_if 26 with (first
    | (go_at_call 17; with_reducible refine HD.out.mono ?_; rintro e w2 ⟨rfl, hb2⟩; have hb3 := hb2.alloc hb2.size (.cells #[.string nmB, .int .i32 rB, .bool cB, .bool aB, .bool sB] 23); obtain ⟨⟨y0, y1, y2, y3, y4⟩, x5, x6, x7, x8, x9, xa, xb, xc, xd, xe, xf⟩ := HK.out _ hb3; obtain ⟨z0, z1, z2, z3, z4⟩ := (HNK.out w2).cells)
    | fail)
  go_cut [] (fun wx => RB wx)
  case first =>
    obtain ⟨rfl, hN⟩ | ⟨hd, rfl⟩ := Hdc.out
    · have HF := Hfound.out
      rcases HF with HF | ⟨hE, hT, hN1, hN2⟩
      · exfalso
        simp only [Prod.mk.injEq] at HF
        omega
      · dsimp only at hE hT hN1 hN2
        obtain ⟨T1, hT1⟩ : ∃ E, encT app nl ⟨nmB, rB, cB, aB, sB⟩ = E := ⟨_, rfl⟩
        have hTT : T1.data.toList = s.data.toList.take N := by rw [← hT, ← hT1]; unfold encT; rw [if_pos hE]
        rw [hE, hT1] at HE1
        have hNs : N ≤ s.size := hN2
        have q1 : ¬ (N : Int) < 1 := by omega
        have q2 : ¬ (s.size : Int) < (N : Int) := by omega
        have q3 : (T1.toList == (s.extract 0 N).toList) = true := by rw [str_beq, extract_take, hTT]; simp
        have q4 : (T1.toList != (s.extract 0 N).toList) = false := by unfold bne; rw [q3]; rfl
        have HNN := hide hNs
        clear hE hT hN1 hN2 hT1 hTT hN
        go_wp2_with (first
          | (go_at_call 12; with_reducible refine (HE1.out _ hb3).mono ?_; rintro e w4 ⟨rfl, hb4'⟩; have hb4 := hb3.trans (hb4'.mono hb3.size))
          | fail)
        go_meet
        case rel => exact (HRB.out _).2 hb4
    · have HF := Hfound.out
      rcases HF with HF | ⟨hE, hT, hN1, hN2⟩
      · simp only [Prod.mk.injEq, zeroKey, Key.mk.injEq, and_true] at HF
        obtain ⟨rfl, rfl, rfl, rfl, rfl⟩ := HF
        go_wp2_with fail
        go_meet
        case rel => exact (HRB.out _).2 hb3
      · exfalso
        dsimp only at hN1
        omega
  case rest =>
    have hb4 := (HRB.out _).1 hcut
    obtain ⟨⟨v0, v1, v2, v3, v4⟩, v5, v6, v7, v8, v9, va, vb, vc, vd, ve, vf⟩ := HK.out _ hb4
    clear hcut HE1 Hfound HD HNK Hdc
    by_cases h2 : E2 = 0
    · by_cases h3 : T2.size ≤ s.size
      · by_cases h4 : T2.data.toList <+: s.data.toList
        · have h5 := HM2.out h2 h4
          subst h2
          have q1 : (T2.size : Int) ≤ (s.size : Int) := by omega
          have q2 : ¬ (N : Int) < (T2.size : Int) := by omega
          have q3 : ((s.extract 0 T2.size).toList == T2.toList) = true := by
            rw [str_beq, extract_take]
            obtain ⟨r, hr⟩ := h4
            rw [← hr]
            exact decide_eq_true (List.take_left' rfl)
          clear HM2 h4 h5
          go_wp2_with (first
            | (go_at_call 12; with_reducible refine (HE2.out _ hb4).mono ?_; rintro e w6 ⟨rfl, hb6'⟩; have hb6 := hb4.trans (hb6'.mono hb4.size))
            | (go_at_call 11; refine (HA.out _ hb6).mono ?_; rintro e w7 ⟨rfl, hb7'⟩; have hb7 := hb6.trans (hb7'.mono hb6.size))
            | fail)
          go_ret
          exact ⟨rfl, Hbox.out.trans (hb7.mono Hbox.out.size)⟩
        · subst h2
          have q1 : (T2.size : Int) ≤ (s.size : Int) := by omega
          have q3 : ((s.extract 0 T2.size).toList == T2.toList) = false := by
            rw [str_beq, extract_take]
            exact decide_eq_false (fun h => h4 (by rw [← h]; exact List.take_prefix _ _))
          clear HM2 h4
          go_wp2_with (first
            | (go_at_call 12; with_reducible refine (HE2.out _ hb4).mono ?_; rintro e w6 ⟨rfl, hb6'⟩; have hb6 := hb4.trans (hb6'.mono hb4.size))
            | (go_at_call 11; refine (HA.out _ hb6).mono ?_; rintro e w7 ⟨rfl, hb7'⟩; have hb7 := hb6.trans (hb7'.mono hb6.size))
            | fail)
          go_ret
          exact ⟨rfl, Hbox.out.trans (hb7.mono Hbox.out.size)⟩
      · subst h2
        have q1 : ¬ (T2.size : Int) ≤ (s.size : Int) := by omega
        clear HM2 h3
        go_wp2_with (first
          | (go_at_call 12; with_reducible refine (HE2.out _ hb4).mono ?_; rintro e w6 ⟨rfl, hb6'⟩; have hb6 := hb4.trans (hb6'.mono hb4.size))
          | (go_at_call 11; refine (HA.out _ hb6).mono ?_; rintro e w7 ⟨rfl, hb7'⟩; have hb7 := hb6.trans (hb7'.mono hb6.size))
          | fail)
        go_ret
        exact ⟨rfl, Hbox.out.trans (hb7.mono Hbox.out.size)⟩
    · have q1 : (E2 == 0) = false := by simpa using h2
      clear HM2 h2
      go_wp2_with (first
        | (go_at_call 12; with_reducible refine (HE2.out _ hb4).mono ?_; rintro e w6 ⟨rfl, hb6'⟩; have hb6 := hb4.trans (hb6'.mono hb4.size))
        | (go_at_call 11; refine (HA.out _ hb6).mono ?_; rintro e w7 ⟨rfl, hb7'⟩; have hb7 := hb6.trans (hb7'.mono hb6.size))
        | fail)
      go_ret
      exact ⟨rfl, Hbox.out.trans (hb7.mono Hbox.out.size)⟩
end Go.Proofs.YtpilpchijmappaaDoor
