/- The walk of the law ClippingOthers. -/
import Derived.Test.YtmloijhdibicdaaDoorK17
import Derived.Test.YtmloijhdibicdaaDoorK21
namespace Go.Proofs.YtmloijhdibicdaaDoor
open Go.RowKit Go.Shelf

set_option maxRecDepth 100000 in
set_option maxHeartbeats 1000000 in
theorem othersLawP (w : World) (A : Option Addr) (c : Nat) (v : Vw) (a b : Int) (h : Rows2 w w.heap.size A v.rows) (hT : Tabs w) :
    Calls Tryd.prog 5 #[v.val A c, .int .i64 a, .int .i64 b] w fun e w' => e = .returned (.bool true) ∧ Below w.heap.size w w' := by
  have hbox := (Below.refl w.heap.size w).alloc (Nat.le_refl _) (.cells #[.int .i64 v.width, .int .i64 v.height, .slice A v.rows.length c, .int .i64 v.row, .int .i64 v.col, .bool v.visible] 24)
  have hvb : VwBox _ w.heap.size v A c := block_new w (.cells #[.int .i64 v.width, .int .i64 v.height, .slice A v.rows.length c, .int .i64 v.row, .int .i64 v.col, .bool v.visible] 24)
  obtain ⟨W0, hW0⟩ : ∃ W0, W0 = w.alloc (.cells #[.int .i64 v.width, .int .i64 v.height, .slice A v.rows.length c, .int .i64 v.row, .int .i64 v.col, .bool v.visible] 24) := ⟨_, rfl⟩
  have hs0 : W0.heap.size = w.heap.size + 1 := by rw [hW0]; simp
  rw [← hW0] at hbox hvb
  have HG := hide (greatP W0 A c v ((h.below hbox).more hbox.size))
  have HA := hide (fun w1 (hb : Below W0.heap.size W0 w1) => awakeP w1 (hT.below (hbox.trans (hb.mono hbox.size))))
  have HK := hide (fun w1 (hb1 : Below W0.heap.size W0 w1) => (hvb.below hb1 (by omega)).cells)
  obtain ⟨k0, k1, k2, k3, k4, k5⟩ := HK.out W0 (Below.refl _ _)
  have Hbox := hide hbox
  cases hg : v.great with
  | true =>
    rw [hg] at HG
    clear h hT hbox hs0 hvb
    subst hW0
    unfold Vw.val at HG ⊢
    go_enter Tryd.func5, Tryd.ntmps5
    go_wp2_with (first
      | (go_at_call 11; refine HG.out.mono ?_; rintro e w1 ⟨rfl, hb1⟩)
      | (go_at_call 12; refine (HA.out _ hb1).mono ?_; rintro e w2 ⟨rfl, hb2⟩)
      | fail)
    go_ret
    exact ⟨rfl, Hbox.out.trans ((hb1.trans (hb2.mono hb1.size)).mono Hbox.out.size)⟩
  | false =>
    have htame := Vw.tame hg
    rw [hg] at HG
    have HL1 := hide (fun w1 (hb : Below W0.heap.size W0 w1) => linesP w1 A c v a b ((h.below (hbox.trans (hb.mono hbox.size))).more (hbox.trans (hb.mono hbox.size)).size) htame (hT.below (hbox.trans (hb.mono hbox.size))))
    have HL2 := hide (fun w1 (hb : Below W0.heap.size W0 w1) => lines45P w1 A c v a b ((h.below (hbox.trans (hb.mono hbox.size))).more (hbox.trans (hb.mono hbox.size)).size) htame)
    have HW1 := hide (fun w1 (hb : Below W0.heap.size W0 w1) => wordP w1 A c v a b ((h.below (hbox.trans (hb.mono hbox.size))).more (hbox.trans (hb.mono hbox.size)).size) htame (hT.below (hbox.trans (hb.mono hbox.size))))
    have HW2 := hide (fun w1 (hb : Below W0.heap.size W0 w1) => word45P w1 A c v a b ((h.below (hbox.trans (hb.mono hbox.size))).more (hbox.trans (hb.mono hbox.size)).size) htame)
    obtain ⟨T, hTT⟩ : ∃ T, linT v a b = T := ⟨_, rfl⟩
    obtain ⟨E, hE⟩ : ∃ E, linE v a b = E := ⟨_, rfl⟩
    rw [hTT, hE] at HL1 HL2
    obtain ⟨T2, hTT2⟩ : ∃ T, wordT v a b = T := ⟨_, rfl⟩
    obtain ⟨E2, hE2⟩ : ∃ E, wordE v a b = E := ⟨_, rfl⟩
    rw [hTT2, hE2] at HW1 HW2
    clear h hT hbox hs0 hvb hTT hE hTT2 hE2 htame hg
    subst hW0
    unfold Vw.val at HG HL1 HL2 HW1 HW2 ⊢
    go_enter Tryd.func5, Tryd.ntmps5
    go_wp2_with (first
      | (go_at_call 11; refine HG.out.mono ?_; rintro e w1 ⟨rfl, hb1⟩; obtain ⟨x0, x1, x2, x3, x4, x5⟩ := HK.out w1 hb1)
      | (go_at_call 15; refine (HL1.out w1 hb1).mono ?_; rintro e w2 ⟨rfl, hb2'⟩; have hb2 := hb1.trans (hb2'.mono hb1.size); obtain ⟨y0, y1, y2, y3, y4, y5⟩ := HK.out w2 hb2)
      | (go_at_call 16; refine (HL2.out w2 hb2).mono ?_; rintro e w3 ⟨rfl, hb3'⟩; have hb3 := hb2.trans (hb3'.mono hb2.size); obtain ⟨z0, z1, z2, z3, z4, z5⟩ := HK.out w3 hb3)
      | (go_at_call 17; refine (HW1.out w3 hb3).mono ?_; rintro e w4 ⟨rfl, hb4'⟩; have hb4 := hb3.trans (hb4'.mono hb3.size); obtain ⟨u0, u1, u2, u3, u4, u5⟩ := HK.out w4 hb4)
      | (go_at_call 18; refine (HW2.out w4 hb4).mono ?_; rintro e w5 ⟨rfl, hb5'⟩; have hb5 := hb4.trans (hb5'.mono hb4.size))
      | (go_at_call 12; refine (HA.out w5 hb5).mono ?_; rintro e w6 ⟨rfl, hb6'⟩; have hb6 := hb5.trans (hb6'.mono hb5.size))
      | fail)
    go_ret
    exact ⟨rfl, Hbox.out.trans (hb6.mono Hbox.out.size)⟩
end Go.Proofs.YtmloijhdibicdaaDoor
