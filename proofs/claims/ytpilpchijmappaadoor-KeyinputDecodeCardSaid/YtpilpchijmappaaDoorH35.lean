/- The walk of the law KeyinputDecode. -/
import Derived.Test.YtpilpchijmappaaDoorH34
import Derived.Test.YtpilpchijmappaaDoorH16
namespace Go.Proofs.YtpilpchijmappaaDoor
open Go.RowKit

theorem boxM (w : World) (m : Md) : ∃ W, W = w.alloc (.cells #[.bool m.ins, .bool m.nl, .bool m.app, .bool m.org, .bool m.wrap, .bool m.vis, .bool m.alt, .bool m.con, .int .u8 m.s0, .int .u8 m.s1, .int .i64 m.sh] 26) ∧ Below w.heap.size w W ∧ W.heap.size = w.heap.size + 1 ∧ MdBox W w.heap.size m :=
  ⟨_, rfl, (Below.refl _ w).alloc (Nat.le_refl _) _, by simp, block_new w _⟩

set_option maxRecDepth 100000 in
set_option maxHeartbeats 2000000 in
theorem decodeLawP (w : World) (s : ByteArray) (m : Md) (hP : Pow w) (hT : Tabs w) : Calls Tryd.prog 7 #[.string s, m.val] w fun e w' => e = .returned (.bool true) ∧ Below w.heap.size w w' := by
  obtain ⟨W0, hW0, hbox, hs0, hm⟩ := boxM w m
  have HK := hide (fun w1 (hb : Below W0.heap.size W0 w1) => (hm.below hb (by omega)).cells)
  have HA := hide (fun w1 (hb : Below W0.heap.size W0 w1) => awakeP w1 (hP.below (hbox.trans (hb.mono (by omega)))))
  have Hbox := hide hbox
  have hrf := Below.refl W0.heap.size W0
  by_cases hlen : s.size ≤ 60
  case neg =>
    have hlI : (60 : Int) < (s.size : Int) := by omega
    clear hbox hm hs0 hP hT HK hlen
    subst hW0
    unfold Md.val
    go_enter Tryd.func7, Tryd.ntmps7
    go_wp2_with (go_at_call 11; refine (HA.out _ hrf).mono ?_; rintro e w5 ⟨rfl, hb5⟩)
    go_ret
    exact ⟨rfl, Hbox.out.trans (hb5.mono Hbox.out.size)⟩
  have hlI : ¬ (60 : Int) < (s.size : Int) := by omega
  have HD := hide (decodeKP W0 s m (hP.below hbox) (hT.below hbox) (by omega))
  have HR := hide (fun W => decode14KP W s m (by omega))
  obtain ⟨m0, m1, m2, m3, m4, m5, m6, m7, m8, m9, m10⟩ := HK.out W0 (Below.refl _ _)
  unfold DecRet at HD HR
  obtain ⟨⟨KB, N⟩, hKB⟩ : ∃ x, decP m.app m.nl s.data.toList = x := ⟨_, rfl⟩
  obtain ⟨D, hD⟩ : ∃ b, decErr m.app m.nl s.data.toList = b := ⟨_, rfl⟩
  rw [hKB, hD] at HD HR
  have HNK := hide (fun W => keyBox_new W KB)
  clear hbox hm hs0 hP hT hlen hKB hD
  subst hW0
  obtain ⟨ins, nl, app, org, wrp, vis, alt, con, s0, s1, sh⟩ := m
  obtain ⟨nm, r, c, a, s'⟩ := KB
  unfold Key.val Md.val at HD HR
  unfold Md.val
  dsimp only at HD HR HNK HK HA Hbox hrf m0 m1 m2 m3 m4 m5 m6 m7 m8 m9 m10 ⊢
  go_enter Tryd.func7, Tryd.ntmps7
  go_wp2_with (first
    | (go_at_call 17; with_reducible refine HD.out.mono ?_; rintro e w2 ⟨rfl, hb2⟩; have hb3 := hb2.alloc hb2.size (.cells #[.string nm, .int .i32 r, .bool c, .bool a, .bool s'] 23); obtain ⟨x0, x1, x2, x3, x4, x5, x6, x7, x8, x9, xa⟩ := HK.out _ hb3; have kk := HNK.out w2; have Kk := hide kk; clear kk)
    | (go_at_call 18; with_reducible refine (HR.out _).mono ?_; rintro e w4 ⟨rfl, hb4'⟩; have hb4 := hb3.trans (hb4'.mono hb3.size); have hb5 := hb4.alloc hb4.size (.cells #[.string nm, .int .i32 r, .bool c, .bool a, .bool s'] 23); obtain ⟨y0, y1, y2, y3, y4⟩ := (HNK.out w4).cells; obtain ⟨z0, z1, z2, z3, z4⟩ := ((Kk.out.below hb4' (by simp)).alloc (.cells #[.string nm, .int .i32 r, .bool c, .bool a, .bool s'] 23)).cells)
    | (go_at_call 11; refine (HA.out _ hb5).mono ?_; rintro e w6 ⟨rfl, hb6'⟩; have hb6 := hb5.trans (hb6'.mono hb5.size))
    | fail)
  go_ret
  exact ⟨rfl, Hbox.out.trans (hb6.mono Hbox.out.size)⟩
end Go.Proofs.YtpilpchijmappaaDoor
