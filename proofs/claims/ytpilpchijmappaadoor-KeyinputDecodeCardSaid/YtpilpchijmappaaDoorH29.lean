/- The walk of the law KeyinputRoundTrip. -/
import Derived.Test.YtpilpchijmappaaDoorH28
import Derived.Test.YtpilpchijmappaaDoorH16
namespace Go.Proofs.YtpilpchijmappaaDoor
open Go.RowKit

theorem key_len {app nl : Bool} {k : Key} (h : keyErr k = 0) : (keyEnc app nl k).length ≤ 7 := by
  rcases key_shape h with ⟨a1, a2, a3, a4⟩ | ⟨a1, a2, a3, a4⟩
  · rw [keyEnc_char a1, List.length_append]
    have := (encChar_pos k).2
    cases k.alt <;> simp <;> omega
  · rw [a4]; exact (named_len a3).1
theorem encT_size {app nl : Bool} {k : Key} : (encT app nl k).size ≤ 7 := by
  unfold encT
  by_cases h : keyErr k = 0
  · rw [if_pos h]; have := key_len (app := app) (nl := nl) h; simpa [ByteArray.size] using this
  · rw [if_neg h]; exact Nat.zero_le _
/-- Decode at an encoding. -/
theorem decode_back (w : World) (k : Key) (m : Md) (hP : Pow w) (hT : Tabs w) (h : keyErr k = 0) : Calls Tryd.prog 17 #[.string (encT m.app m.nl k), m.val] w fun e w' => e = .returned (.tuple #[k.val, .int .i64 ((encT m.app m.nl k).size : Int), .int .i64 0]) ∧ Below w.heap.size w w' := by
  refine (decodeKP w (encT m.app m.nl k) m hP hT (Nat.le_trans encT_size (by omega))).mono ?_
  rintro e w' ⟨he, hb⟩
  refine ⟨?_, hb⟩
  unfold DecRet decErr at he
  have hl : (encT m.app m.nl k).data.toList = keyEnc m.app m.nl k := by unfold encT; rw [if_pos h]
  have hs : (encT m.app m.nl k).size = (keyEnc m.app m.nl k).length := by rw [← hl]; rfl
  have hp := List.length_pos_iff.2 (key_nonempty (app := m.app) (nl := m.nl) h)
  rw [hl, dec_enc h] at he
  rw [he, hs, if_pos hp]

set_option maxRecDepth 100000 in
set_option maxHeartbeats 2000000 in
theorem roundTripLawP (w : World) (k : Key) (m : Md) (hP : Pow w) (hT : Tabs w) : Calls Tryd.prog 8 #[k.val, m.val] w fun e w' => e = .returned (.bool true) ∧ Below w.heap.size w w' := by
  obtain ⟨W0, hW0, hbox, hs0, hk, hm⟩ := boxKM w k m
  have HK := hide (fun w1 (hb : Below W0.heap.size W0 w1) => And.intro (hk.below hb (by omega)).cells (hm.below hb (by omega)).cells)
  have HA := hide (fun w1 (hb : Below W0.heap.size W0 w1) => awakeP w1 (hP.below (hbox.trans (hb.mono (by omega)))))
  have HE := hide (fun w1 (hb : Below W0.heap.size W0 w1) => encodeP w1 k m (hP.below (hbox.trans (hb.mono (by omega)))))
  have HC := hide (fun w1 (hb : Below W0.heap.size W0 w1) => checkP w1 k (hP.below (hbox.trans (hb.mono (by omega)))))
  have HD := hide (fun w1 (hb : Below W0.heap.size W0 w1) h => decode_back w1 k m (hP.below (hbox.trans (hb.mono (by omega)))) (hT.below (hbox.trans (hb.mono (by omega)))) h)
  obtain ⟨⟨k0, k1, k2, k3, k4⟩, m0, m1, m2, m3, m4, m5, m6, m7, m8, m9, m10⟩ := HK.out W0 (Below.refl _ _)
  have Hbox := hide hbox
  have hrf := Below.refl W0.heap.size W0
  have Hs0 := hide hs0
  obtain ⟨ins, nl, app, org, wrp, vis, alt, con, s0, s1, sh⟩ := m
  obtain ⟨T, hT1⟩ : ∃ T, encT app nl k = T := ⟨_, rfl⟩
  obtain ⟨E, hE⟩ : ∃ E, keyErr k = E := ⟨_, rfl⟩
  have hpos : E = 0 → 0 < T.size := fun h => by
    have hp := List.length_pos_iff.2 (key_nonempty (app := app) (nl := nl) (hE.trans h))
    rw [← hT1]; unfold encT; rw [if_pos (hE.trans h)]; simpa [ByteArray.size] using hp
  have hemp : E ≠ 0 → T = ⟨#[]⟩ := fun h => by rw [← hT1]; unfold encT; rw [if_neg (by rw [hE]; exact h)]
  dsimp only at HE HD
  rw [hE, hT1] at HE
  rw [hE, hT1] at HD
  rw [hE] at HC
  obtain ⟨nm, r, c, a, s⟩ := k
  have HNK := hide (fun W => keyBox_new W ⟨nm, r, c, a, s⟩)
  clear hbox hk hm hs0 hP hT hT1 hE
  subst hW0
  unfold Key.val at HE HC HD ⊢
  unfold Md.val at HE HD ⊢
  dsimp only at *
  by_cases h1 : E = 0
  · subst h1
    have hp := hpos rfl
    have hpI : (0 : Int) < (T.size : Int) := by omega
    have HD2 := hide (fun w1 hb => HD.out w1 hb rfl)
    clear hpos hemp HD HC
    go_enter Tryd.func8, Tryd.ntmps8
    go_wp2_with (first
      | (go_at_call 12; with_reducible refine (HE.out _ hrf).mono ?_; rintro e w1 ⟨rfl, hb1⟩; obtain ⟨⟨x0, x1, x2, x3, x4⟩, x5, x6, x7, x8, x9, xa, xb, xc, xd, xe, xf⟩ := HK.out _ hb1)
      | (go_at_call 17; with_reducible refine (HD2.out _ hb1).mono ?_; rintro e w2 ⟨rfl, hb2'⟩; have hb2 := hb1.trans (hb2'.mono hb1.size); have hb3 := hb2.alloc hb2.size (.cells #[.string nm, .int .i32 r, .bool c, .bool a, .bool s] 23); obtain ⟨⟨y0, y1, y2, y3, y4⟩, -⟩ := HK.out _ hb3; obtain ⟨z0, z1, z2, z3, z4⟩ := (HNK.out w2).cells)
      | (go_at_call 11; refine (HA.out _ hb3).mono ?_; rintro e w5 ⟨rfl, hb5'⟩; have hb5 := hb3.trans (hb5'.mono hb3.size))
      | fail)
    go_ret
    exact ⟨rfl, Hbox.out.trans (hb5.mono Hbox.out.size)⟩
  · have hne : (E != 0) = true := by simpa using h1
    obtain rfl := hemp h1
    clear hpos hemp h1 HD
    go_enter Tryd.func8, Tryd.ntmps8
    go_wp2_with (first
      | (go_at_call 12; with_reducible refine (HE.out _ hrf).mono ?_; rintro e w1 ⟨rfl, hb1⟩; obtain ⟨⟨x0, x1, x2, x3, x4⟩, x5, x6, x7, x8, x9, xa, xb, xc, xd, xe, xf⟩ := HK.out _ hb1)
      | (go_at_call 14; with_reducible refine (HC.out _ hb1).mono ?_; rintro e w2 ⟨rfl, hb2'⟩; have hb2 := hb1.trans (hb2'.mono hb1.size))
      | (go_at_call 11; refine (HA.out _ hb2).mono ?_; rintro e w3 ⟨rfl, hb3'⟩; have hb3 := hb2.trans (hb3'.mono hb2.size))
      | fail)
    go_ret
    exact ⟨rfl, Hbox.out.trans (hb3.mono Hbox.out.size)⟩
end Go.Proofs.YtpilpchijmappaaDoor
