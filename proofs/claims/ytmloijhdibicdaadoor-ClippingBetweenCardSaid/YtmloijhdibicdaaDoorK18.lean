/- The walk of the law ClippingBetween. -/
import Derived.Test.YtmloijhdibicdaaDoorK17
namespace Go.Proofs.YtmloijhdibicdaaDoor
open Go.RowKit Go.Shelf

set_option maxRecDepth 100000 in
set_option maxHeartbeats 1000000 in
theorem betweenLawP (w : World) (A : Option Addr) (c : Nat) (v : Vw) (p q : Pl) (h : Rows2 w w.heap.size A v.rows) (hT : Tabs w) :
    Calls Tryd.prog 3 #[v.val A c, p.val, q.val] w fun e w' => e = .returned (.bool true) ∧ Below w.heap.size w w' := by
  obtain ⟨W0, hW0, hbox, hs0, hvb, hpb, hqb⟩ := boxes3 w v A c p q
  have HG := hide (greatP W0 A c v ((h.below hbox).more hbox.size))
  have HA := hide (fun w1 (hb : Below W0.heap.size W0 w1) => awakeP w1 (hT.below (hbox.trans (hb.mono hbox.size))))
  have HK := hide (fun w1 (hb1 : Below W0.heap.size W0 w1) => And.intro (hvb.below hb1 (by omega)).cells (And.intro (hpb.below hb1 (by omega)).cells (hqb.below hb1 (by omega)).cells))
  obtain ⟨⟨k0, k1, k2, k3, k4, k5⟩, ⟨p0, p1, p2⟩, q0, q1, q2⟩ := HK.out W0 (Below.refl _ _)
  have Hbox := hide hbox
  cases hg : v.great with
  | true =>
    rw [hg] at HG
    clear h hT hbox hs0 hvb hpb hqb
    subst hW0
    unfold Vw.val at HG ⊢
    unfold Pl.val
    go_enter Tryd.func3, Tryd.ntmps3
    go_wp2_with (first
      | (go_at_call 11; refine HG.out.mono ?_; rintro e w1 ⟨rfl, hb1⟩)
      | (go_at_call 12; refine (HA.out _ hb1).mono ?_; rintro e w2 ⟨rfl, hb2⟩)
      | fail)
    go_ret
    exact ⟨rfl, Hbox.out.trans ((hb1.trans (hb2.mono hb1.size)).mono Hbox.out.size)⟩
  | false =>
    have htame := Vw.tame hg
    rw [hg] at HG
    have HB1 := hide (fun w1 (hb : Below W0.heap.size W0 w1) => betweenP w1 A c v p q ((h.below (hbox.trans (hb.mono hbox.size))).more (hbox.trans (hb.mono hbox.size)).size) htame (hT.below (hbox.trans (hb.mono hbox.size))))
    have HB2 := hide (fun w1 (hb : Below W0.heap.size W0 w1) => between45P w1 A c v p q ((h.below (hbox.trans (hb.mono hbox.size))).more (hbox.trans (hb.mono hbox.size)).size) htame)
    obtain ⟨T, hTT⟩ : ∃ T, betT v p.row p.col q.row q.col = T := ⟨_, rfl⟩
    obtain ⟨E, hE⟩ : ∃ E, betE v p.row p.col q.row q.col = E := ⟨_, rfl⟩
    rw [hTT, hE] at HB1 HB2
    clear h hT hbox hs0 hvb hpb hqb hTT hE htame hg
    subst hW0
    unfold Vw.val at HG HB1 HB2 ⊢
    unfold Pl.val at HB1 HB2 ⊢
    go_enter Tryd.func3, Tryd.ntmps3
    go_wp2_with (first
      | (go_at_call 11; refine HG.out.mono ?_; rintro e w1 ⟨rfl, hb1⟩; obtain ⟨⟨x0, x1, x2, x3, x4, x5⟩, ⟨y0, y1, y2⟩, z0, z1, z2⟩ := HK.out w1 hb1)
      | (go_at_call 13; refine (HB1.out w1 hb1).mono ?_; rintro e w2 ⟨rfl, hb2'⟩; have hb2 := hb1.trans (hb2'.mono hb1.size); obtain ⟨⟨u0, u1, u2, u3, u4, u5⟩, ⟨r0, r1, r2⟩, s0, s1, s2⟩ := HK.out w2 hb2)
      | (go_at_call 14; refine (HB2.out w2 hb2).mono ?_; rintro e w3 ⟨rfl, hb3'⟩; have hb3 := hb2.trans (hb3'.mono hb2.size))
      | (go_at_call 12; refine (HA.out w3 hb3).mono ?_; rintro e w4 ⟨rfl, hb4'⟩; have hb4 := hb3.trans (hb4'.mono hb3.size))
      | fail)
    go_ret
    exact ⟨rfl, Hbox.out.trans (hb4.mono Hbox.out.size)⟩
end Go.Proofs.YtmloijhdibicdaaDoor
