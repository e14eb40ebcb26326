/- The walk of the law ClippingWords. -/
import Derived.Test.YtmloijhdibicdaaDoorK17
import Derived.Test.YtmloijhdibicdaaDoorK24
import Derived.Shelf.Vars
namespace Go.Proofs.YtmloijhdibicdaaDoor
open Go.RowKit Go.Shelf

def Mx (w : World) : Prop := 0 < w.heap.size ∧ ∃ m : Int, w.cell? ⟨0, 0, none⟩ = some (.int .i64 m)
theorem Mx.below {w w' : World} (h : Mx w) (hb : Below w.heap.size w w') : Mx w' :=
  ⟨Nat.lt_of_lt_of_le h.1 hb.size, let ⟨m, hm⟩ := h.2; ⟨m, (hb.cell (p := ⟨_, 0, none⟩) h.1).trans hm⟩⟩
theorem Mx.shaped {w : World} (h : w.ShapedOpen Tryd.prog) : Mx w := by
  have hc := cell_of_shapedOpen_int (P := Tryd.prog) (g := 0) (t := 3) (zero := #[.int .i64 0]) (k := .i64) h (of_decide_eq_true (by kernel_rfl)) (by kernel_rfl) rfl (by kernel_rfl) (by kernel_rfl) Tryd.underlying3
  obtain ⟨m, hm⟩ := hc
  exact ⟨World.block_lt_of_cell? w ⟨0, 0, none⟩ hm, m, hm⟩
theorem containsP (w : World) (hm : Mx w) (s sub : ByteArray) (hs : s.size ≤ 1000000) : Calls Tryd.prog 21 #[.string s, .string sub] w fun e w' => e = .returned (.bool (Lib.contains s.data.toList sub.data.toList)) ∧ w = w' := by
  obtain ⟨-, m, h⟩ := hm
  exact (Any.strings_Contains laysContains s sub m w (by omega) h).mono fun _ _ ⟨he, hw⟩ => ⟨he, hw.symm⟩

set_option maxRecDepth 100000 in
set_option maxHeartbeats 1000000 in
theorem wordsLawP (w : World) (A : Option Addr) (c : Nat) (v : Vw) (n1 n2 : Nat) (hn1 : n1 < 256) (hn2 : n2 < 256) (h : Rows2 w w.heap.size A v.rows) (hT : Tabs w) (hm : Mx w) :
    Calls Tryd.prog 6 #[v.val A c, .int .u8 (n1 : Int), .int .u8 (n2 : Int)] w fun e w' => e = .returned (.bool true) ∧ Below w.heap.size w w' := by
  have hbox := (Below.refl w.heap.size w).alloc (Nat.le_refl _) (.cells #[.int .i64 v.width, .int .i64 v.height, .slice A v.rows.length c, .int .i64 v.row, .int .i64 v.col, .bool v.visible] 24)
  have hvb : VwBox _ w.heap.size v A c := block_new w (.cells #[.int .i64 v.width, .int .i64 v.height, .slice A v.rows.length c, .int .i64 v.row, .int .i64 v.col, .bool v.visible] 24)
  obtain ⟨W0, hW0⟩ : ∃ W0, W0 = w.alloc (.cells #[.int .i64 v.width, .int .i64 v.height, .slice A v.rows.length c, .int .i64 v.row, .int .i64 v.col, .bool v.visible] 24) := ⟨_, rfl⟩
  have hs0 : W0.heap.size = w.heap.size + 1 := by rw [hW0]; simp
  rw [← hW0] at hbox hvb
  have HG := hide (greatP W0 A c v ((h.below hbox).more hbox.size))
  have HA := hide (fun w1 (hb : Below W0.heap.size W0 w1) => awakeP w1 (hT.below (hbox.trans (hb.mono hbox.size))))
  have HK := hide (fun w1 (hb1 : Below W0.heap.size W0 w1) => (hvb.below hb1 (by omega)).cells)
  have HR := hide (fun w1 (hb1 : Below W0.heap.size W0 w1) => (h.below (hbox.trans (hb1.mono hbox.size))).more (hbox.trans (hb1.mono hbox.size)).size)
  obtain ⟨k0, k1, k2, k3, k4, k5⟩ := HK.out W0 (Below.refl _ _)
  have Hbox := hide hbox
  have Hs0 := hide hs0
  cases hg : v.great with
  | true =>
    rw [hg] at HG
    clear h hT hm hbox hs0 hvb HR
    subst hW0
    unfold Vw.val at HG ⊢
    go_enter Tryd.func6, Tryd.ntmps6
    go_wp2_with (first
      | (go_at_call 11; refine HG.out.mono ?_; rintro e w1 ⟨rfl, hb1⟩)
      | (go_at_call 12; refine (HA.out _ hb1).mono ?_; rintro e w2 ⟨rfl, hb2⟩)
      | fail)
    go_ret
    exact ⟨rfl, Hbox.out.trans ((hb1.trans (hb2.mono hb1.size)).mono Hbox.out.size)⟩
  | false =>
    have htame := Vw.tame hg
    rw [hg] at HG
    have HC := hide (fun w1 (hb : Below W0.heap.size W0 w1) => checkV w1 A c v ((h.below (hbox.trans (hb.mono hbox.size))).more (hbox.trans (hb.mono hbox.size)).size) htame (hT.below (hbox.trans (hb.mono hbox.size))))
    cases hok : v.ok with
    | false =>
      have hne : (v.err != 0) = true := by unfold Vw.ok at hok; simpa using hok
      clear h hT hm hbox hs0 hvb htame hg hok HR
      subst hW0
      obtain ⟨V, hV⟩ : ∃ V, v.err = V := ⟨_, rfl⟩
      simp only [hV] at HC hne
      clear hV
      unfold Vw.val at HG HC ⊢
      go_enter Tryd.func6, Tryd.ntmps6
      go_wp2_with (first
        | (go_at_call 11; refine HG.out.mono ?_; rintro e w1 ⟨rfl, hb1⟩; obtain ⟨x0, x1, x2, x3, x4, x5⟩ := HK.out w1 hb1)
        | (go_at_call 19; refine (HC.out _ hb1).mono ?_; rintro e w2 ⟨rfl, hb2'⟩; have hb2 := hb1.trans (hb2'.mono hb1.size))
        | (go_at_call 12; refine (HA.out _ hb2).mono ?_; rintro e w3 ⟨rfl, hb3'⟩; have hb3 := hb2.trans (hb3'.mono hb2.size))
        | fail)
      go_ret
      exact ⟨rfl, Hbox.out.trans (hb3.mono Hbox.out.size)⟩
    | true =>
      have he : v.err = 0 := by unfold Vw.ok at hok; simpa using hok
      have hp := Vw.proper hok
      have hh1 := hp.h1
      have hh2 := hp.h2
      have hw1' := hp.w1
      have hw2' := hp.w2
      have hlen := hp.len
      simp only [he] at HC
      have hne0 : (v.height == 0) = false := by rw [beq_eq_false_iff_ne]; omega
      have hne1 : (v.width + 1 == 0) = false := by rw [beq_eq_false_iff_ne]; omega
      have hwr : IntKind.i64.wrap (v.width + 1) = v.width + 1 := IntWalk.i64_in _ (by omega)
      obtain ⟨y, hyv⟩ : ∃ y : Nat, (n1 : Int) % v.height = (y : Int) := ⟨((n1 : Int) % v.height).toNat, by have := Int.emod_nonneg (n1 : Int) (show v.height ≠ 0 by omega); omega⟩
      obtain ⟨x, hxv⟩ : ∃ x : Nat, (n2 : Int) % (v.width + 1) = (x : Int) := ⟨((n2 : Int) % (v.width + 1)).toNat, by have := Int.emod_nonneg (n2 : Int) (show v.width + 1 ≠ 0 by omega); omega⟩
      have hyl : (y : Int) < v.height := by rw [← hyv]; exact Int.emod_lt_of_pos _ (by omega)
      have hxl : (x : Int) ≤ v.width := by have := Int.emod_lt_of_pos (n2 : Int) (show 0 < v.width + 1 by omega); omega
      have hlaw := wordsLaw v htame hok y x hyl hxl
      have h12 := htame.1
      have hy : y < v.rows.length := by omega
      have hyI : (y : Int) < (v.rows.length : Int) := by omega
      have hy12 : y < 12 := by omega
      obtain ⟨hl1, hl2⟩ := rowOf_tame htame hy
      have HWd := hide (fun w1 (hb : Below W0.heap.size W0 w1) => wordP w1 A c v y x (HR.out w1 hb) htame (hT.below (hbox.trans (hb.mono hbox.size))))
      have HM := hide (fun w1 (hb : Below W0.heap.size W0 w1) => hm.below (hbox.trans (hb.mono hbox.size)))
      obtain ⟨bR, oR, rfl, hbR, -⟩ := (HR.out _ (Below.refl _ _)).get1 hy
      have HRow := hide (fun w1 (hb1 : Below W0.heap.size W0 w1) => (show ∃ A1 c1, w1.cell? ⟨bR, oR + y, none⟩ = some (.slice A1 (rowOf v y).length c1) ∧ (rowOf v y).length ≤ c1 ∧ GlRow w1 w1.heap.size A1 (rowOf v y) by
        obtain ⟨b', o', he, -, A1, c1, d0, d1, d2⟩ := (HR.out w1 hb1).get1 hy
        cases he
        rw [rowOf_get hy] at d0 d1 d2
        exact ⟨A1, c1, d0, d1, d2⟩))
      obtain ⟨row, hrow⟩ : ∃ row, rowOf v y = row := ⟨_, rfl⟩
      rw [hrow] at HRow hl1 hl2 hlaw
      have HIx := hide (fun w1 A1 c1 (hg : GlRow w1 w1.heap.size A1 row) => indexVP w1 A1 c1 row (x : Int) hg (by omega) (by omega) (by omega))
      rw [idx_index (by omega)] at HIx
      have HTx := hide (fun w1 A1 c1 (hg : GlRow w1 w1.heap.size A1 row) => textVP w1 A1 c1 row hg (by omega) (fun g hg => by have := hl2 g hg; omega))
      have hts := textB_size0 hl1 hl2
      obtain ⟨rl, hrl⟩ : ∃ rl, row.length = rl := ⟨_, rfl⟩
      rw [hrl] at HRow HIx HTx hl1 hlaw
      have Hrl := hide hrl
      obtain ⟨I, hI⟩ : ∃ I, idx row x = I := ⟨_, rfl⟩
      rw [hI] at HIx hlaw
      obtain ⟨E, hE⟩ : ∃ E, wordE v y x = E := ⟨_, rfl⟩
      obtain ⟨T, hTT⟩ : ∃ T, wordT v y x = T := ⟨_, rfl⟩
      rw [hE, hTT] at HWd hlaw
      obtain ⟨R, hR⟩ : ∃ R, textB row = R := ⟨_, rfl⟩
      rw [hR] at HTx hlaw hts
      clear h hT hm hbox hs0 hvb htame hg hok he hp hlen hrow hrl hI hE hTT hR hl2 HR
      subst hW0
      unfold Vw.val at HG HC HWd ⊢
      rcases hlaw with ⟨rfl, rfl, hge | ⟨k, g, rfl, hk, hkg, hsp⟩⟩ | ⟨rfl, k, g, rfl, hk, hkg, hTe, hTz, hc1, hc2⟩
      · go_enter Tryd.func6, Tryd.ntmps6
        go_wp2_with (first
          | (go_at_call 11; refine HG.out.mono ?_; rintro e w1 ⟨rfl, hb1⟩; obtain ⟨x0, x1, x2, x3, x4, x5⟩ := HK.out w1 hb1)
          | (go_at_call 19; refine (HC.out _ hb1).mono ?_; rintro e w2 ⟨rfl, hb2'⟩; have hb2 := hb1.trans (hb2'.mono hb1.size); obtain ⟨y0, y1, y2, y3, y4, y5⟩ := HK.out w2 hb2)
          | fail)
        go_quiet (fail)
        go_wp2_with (first
          | (go_at_call 17; refine (HWd.out _ (below_drewN hb2 _)).mono ?_; rintro e w3 ⟨rfl, hb3'⟩; have hb3 := (below_drewN hb2 _).trans (hb3'.mono (below_drewN hb2 _).size); obtain ⟨z0, z1, z2, z3, z4, z5⟩ := HK.out w3 hb3; obtain ⟨A1, c1, d0, d1, d2⟩ := HRow.out w3 hb3)
          | (go_at_call 20; refine (HIx.out w3 A1 c1 d2).mono ?_; rintro e w4 ⟨rfl, hb4'⟩; have hb4 := hb3.trans (hb4'.mono hb3.size); obtain ⟨u0, u1, u2, u3, u4, u5⟩ := HK.out w4 hb4; obtain ⟨A2, c2, e0, e1, e2⟩ := HRow.out w4 hb4)
          | (go_at_call 12; refine (HA.out _ hb4).mono ?_; rintro e w5 ⟨rfl, hb5'⟩; have hb5 := hb4.trans (hb5'.mono hb4.size))
          | fail)
        go_ret
        exact ⟨rfl, Hbox.out.trans (hb5.mono Hbox.out.size)⟩
      · have hkI : (k : Int) < (rl : Int) := by omega
        have hspb : (g.text.toList == [32]) = true := by rw [ByteArray.toList_eq, hsp]; rfl
        have Hkg := hide hkg
        obtain ⟨gt, gw, gs⟩ := g
        dsimp only at hspb
        clear hkg hsp
        go_enter Tryd.func6, Tryd.ntmps6
        go_wp2_with (first
          | (go_at_call 11; refine HG.out.mono ?_; rintro e w1 ⟨rfl, hb1⟩; obtain ⟨x0, x1, x2, x3, x4, x5⟩ := HK.out w1 hb1)
          | (go_at_call 19; refine (HC.out _ hb1).mono ?_; rintro e w2 ⟨rfl, hb2'⟩; have hb2 := hb1.trans (hb2'.mono hb1.size); obtain ⟨y0, y1, y2, y3, y4, y5⟩ := HK.out w2 hb2)
          | fail)
        go_quiet (fail)
        go_wp2_with (first
          | (go_at_call 17; refine (HWd.out _ (below_drewN hb2 _)).mono ?_; rintro e w3 ⟨rfl, hb3'⟩; have hb3 := (below_drewN hb2 _).trans (hb3'.mono (below_drewN hb2 _).size); obtain ⟨z0, z1, z2, z3, z4, z5⟩ := HK.out w3 hb3; obtain ⟨A1, c1, d0, d1, d2⟩ := HRow.out w3 hb3)
          | (go_at_call 20; refine (HIx.out w3 A1 c1 d2).mono ?_; rintro e w4 ⟨rfl, hb4'⟩; have hb4 := hb3.trans (hb4'.mono hb3.size); obtain ⟨u0, u1, u2, u3, u4, u5⟩ := HK.out w4 hb4; obtain ⟨A2, c2, e0, e1, e2⟩ := HRow.out w4 hb4; obtain ⟨bk, ok, rfl, -, g0, g1, g2⟩ := e2.get (show k < row.length by rw [Hrl.out]; exact hk); rw [(List.getElem?_eq_some_iff.1 Hkg.out).2] at g0 g1 g2; dsimp only at g0 g1 g2)
          | (go_at_call 12; refine (HA.out _ hb4).mono ?_; rintro e w5 ⟨rfl, hb5'⟩; have hb5 := hb4.trans (hb5'.mono hb4.size))
          | fail)
        go_ret
        exact ⟨rfl, Hbox.out.trans (hb5.mono Hbox.out.size)⟩
      · have hkI : (k : Int) < (rl : Int) := by omega
        have hTe2 : T.toList.isEmpty = false := by rw [ByteArray.toList_eq]; cases hq : T.data.toList with | nil => exact absurd hq hTe | cons => rfl
        have Hkg := hide hkg
        obtain ⟨gt, gw, gs⟩ := g
        dsimp only at hc1
        have HC1 := hide (fun W hm => containsP W hm T gt (by omega))
        have HC2 := hide (fun W hm => containsP W hm R T (by omega))
        rw [hc1] at HC1
        rw [hc2] at HC2
        clear hkg hc1 hc2 hTe hTz
        go_enter Tryd.func6, Tryd.ntmps6
        go_wp2_with (first
          | (go_at_call 11; refine HG.out.mono ?_; rintro e w1 ⟨rfl, hb1⟩; obtain ⟨x0, x1, x2, x3, x4, x5⟩ := HK.out w1 hb1)
          | (go_at_call 19; refine (HC.out _ hb1).mono ?_; rintro e w2 ⟨rfl, hb2'⟩; have hb2 := hb1.trans (hb2'.mono hb1.size); obtain ⟨y0, y1, y2, y3, y4, y5⟩ := HK.out w2 hb2)
          | fail)
        go_quiet (fail)
        go_wp2_with (first
          | (go_at_call 17; refine (HWd.out _ (below_drewN hb2 _)).mono ?_; rintro e w3 ⟨rfl, hb3'⟩; have hb3 := (below_drewN hb2 _).trans (hb3'.mono (below_drewN hb2 _).size); obtain ⟨z0, z1, z2, z3, z4, z5⟩ := HK.out w3 hb3; obtain ⟨A1, c1, d0, d1, d2⟩ := HRow.out w3 hb3)
          | (go_at_call 20; refine (HIx.out w3 A1 c1 d2).mono ?_; rintro e w4 ⟨rfl, hb4'⟩; have hb4 := hb3.trans (hb4'.mono hb3.size); obtain ⟨u0, u1, u2, u3, u4, u5⟩ := HK.out w4 hb4; obtain ⟨A2, c2, e0, e1, e2⟩ := HRow.out w4 hb4; have HE2 := hide e2; obtain ⟨bk, ok, rfl, -, g0, g1, g2⟩ := e2.get (show k < row.length by rw [Hrl.out]; exact hk); rw [(List.getElem?_eq_some_iff.1 Hkg.out).2] at g0 g1 g2; dsimp only at g0 g1 g2)
          | (go_at_call 12; refine (HA.out _ hb5).mono ?_; rintro e w6 ⟨rfl, hb6'⟩; have hb6 := hb5.trans (hb6'.mono hb5.size))
          | (go_at_call 21; with_reducible refine (HC2.out w5 (HM.out _ hb5)).mono ?_; rintro e w5' ⟨rfl, rfl⟩)
          | (go_at_call 21; with_reducible refine (HC1.out w4 (HM.out _ hb4)).mono ?_; rintro e w4' ⟨rfl, rfl⟩)
          | (go_at_call 22; refine (HTx.out w4 _ _ HE2.out).mono ?_; rintro e w5 ⟨rfl, hb5'⟩; have hb5 := hb4.trans (hb5'.mono hb4.size))
          | fail)
        go_ret
        exact ⟨rfl, Hbox.out.trans (hb6.mono Hbox.out.size)⟩
end Go.Proofs.YtmloijhdibicdaaDoor
