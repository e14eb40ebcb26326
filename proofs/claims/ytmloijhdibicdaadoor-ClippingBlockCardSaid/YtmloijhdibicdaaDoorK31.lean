/- The walk of the law ClippingBlock. -/
import Derived.Test.YtmloijhdibicdaaDoorK17
import Derived.Test.YtmloijhdibicdaaDoorK30
namespace Go.Proofs.YtmloijhdibicdaaDoor
open Go.RowKit Go.Shelf

set_option maxRecDepth 100000 in
set_option maxHeartbeats 1000000 in
theorem blockLawP (w : World) (A : Option Addr) (c : Nat) (v : Vw) (r : Rg) (h : Rows2 w w.heap.size A v.rows) (hT : Tabs w) :
    Calls Tryd.prog 9 #[v.val A c, r.val] w fun e w' => e = .returned (.bool true) ∧ Below w.heap.size w w' := by
  obtain ⟨W0, hW0, hbox, hs0, hvb, hrb⟩ := boxes2 w v A c r
  have HG := hide (greatP W0 A c v ((h.below hbox).more hbox.size))
  have HA := hide (fun w1 (hb : Below W0.heap.size W0 w1) => awakeP w1 (hT.below (hbox.trans (hb.mono hbox.size))))
  have HK := hide (fun w1 (hb1 : Below W0.heap.size W0 w1) => And.intro (hvb.below hb1 (by omega)).cells (hrb.below hb1 (by omega)).cells)
  obtain ⟨⟨k0, k1, k2, k3, k4, k5⟩, p0, p1, p2, p3, p4, p5, p6, p7⟩ := HK.out W0 (Below.refl _ _)
  have Hbox := hide hbox
  cases hg : v.great with
  | true =>
    rw [hg] at HG
    clear h hT hbox hs0 hvb hrb
    subst hW0
    unfold Vw.val at HG ⊢
    unfold Rg.val
    go_enter Tryd.func9, Tryd.ntmps9
    go_wp2_with (first
      | (go_at_call 11; refine HG.out.mono ?_; rintro e w1 ⟨rfl, hb1⟩)
      | (go_at_call 12; refine (HA.out _ hb1).mono ?_; rintro e w2 ⟨rfl, hb2⟩)
      | fail)
    go_ret
    exact ⟨rfl, Hbox.out.trans ((hb1.trans (hb2.mono hb1.size)).mono Hbox.out.size)⟩
  | false =>
    have htame := Vw.tame hg
    rw [hg] at HG
    have HB1 := hide (fun w1 (hb : Below W0.heap.size W0 w1) => blockP w1 A c v r ((h.below (hbox.trans (hb.mono hbox.size))).more (hbox.trans (hb.mono hbox.size)).size) htame (hT.below (hbox.trans (hb.mono hbox.size))))
    have HB2 := hide (fun w1 (hb : Below W0.heap.size W0 w1) => block45P w1 A c v r ((h.below (hbox.trans (hb.mono hbox.size))).more (hbox.trans (hb.mono hbox.size)).size) htame)
    obtain ⟨T, hTT⟩ : ∃ T, blockT v r.top r.left r.bottom r.right = T := ⟨_, rfl⟩
    obtain ⟨E, hE⟩ : ∃ E, blockE v r.top r.left r.bottom r.right = E := ⟨_, rfl⟩
    rw [hTT, hE] at HB1 HB2
    clear h hT hbox hs0 hvb hrb hTT hE htame hg
    subst hW0
    unfold Vw.val at HG HB1 HB2 ⊢
    unfold Rg.val at HB1 HB2 ⊢
    go_enter Tryd.func9, Tryd.ntmps9
    go_wp2_with (first
      | (go_at_call 11; refine HG.out.mono ?_; rintro e w1 ⟨rfl, hb1⟩; obtain ⟨⟨x0, x1, x2, x3, x4, x5⟩, y0, y1, y2, y3, y4, y5, y6, y7⟩ := HK.out w1 hb1)
      | (go_at_call 27; refine (HB1.out w1 hb1).mono ?_; rintro e w2 ⟨rfl, hb2'⟩; have hb2 := hb1.trans (hb2'.mono hb1.size); obtain ⟨⟨u0, u1, u2, u3, u4, u5⟩, s0, s1, s2, s3, s4, s5, s6, s7⟩ := HK.out w2 hb2)
      | (go_at_call 28; refine (HB2.out w2 hb2).mono ?_; rintro e w3 ⟨rfl, hb3'⟩; have hb3 := hb2.trans (hb3'.mono hb2.size))
      | (go_at_call 12; refine (HA.out w3 hb3).mono ?_; rintro e w4 ⟨rfl, hb4'⟩; have hb4 := hb3.trans (hb4'.mono hb3.size))
      | fail)
    go_ret
    exact ⟨rfl, Hbox.out.trans (hb4.mono Hbox.out.size)⟩
end Go.Proofs.YtmloijhdibicdaaDoor
