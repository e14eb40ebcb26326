/- The walk of the law ClippingWhole. -/
import Derived.Test.YtmloijhdibicdaaDoorK17
namespace Go.Proofs.YtmloijhdibicdaaDoor
open Go.RowKit Go.Shelf

set_option maxRecDepth 100000 in
set_option maxHeartbeats 1500000 in
theorem wholeLawP (w : World) (A : Option Addr) (c : Nat) (v : Vw) (h : Rows2 w w.heap.size A v.rows) (hT : Tabs w) :
    Calls Tryd.prog 8 #[v.val A c] w fun e w' => e = .returned (.bool true) ∧ Below w.heap.size w w' := by
  have hbox := (Below.refl w.heap.size w).alloc (Nat.le_refl _) (.cells #[.int .i64 v.width, .int .i64 v.height, .slice A v.rows.length c, .int .i64 v.row, .int .i64 v.col, .bool v.visible] 24)
  have hvb : VwBox _ w.heap.size v A c := block_new w (.cells #[.int .i64 v.width, .int .i64 v.height, .slice A v.rows.length c, .int .i64 v.row, .int .i64 v.col, .bool v.visible] 24)
  obtain ⟨W0, hW0⟩ : ∃ W0, W0 = w.alloc (.cells #[.int .i64 v.width, .int .i64 v.height, .slice A v.rows.length c, .int .i64 v.row, .int .i64 v.col, .bool v.visible] 24) := ⟨_, rfl⟩
  have hs0 : W0.heap.size = w.heap.size + 1 := by rw [hW0]; simp
  rw [← hW0] at hbox hvb
  have HG := hide (greatP W0 A c v ((h.below hbox).more hbox.size))
  have HA := hide (fun w1 (hb : Below W0.heap.size W0 w1) => awakeP w1 (hT.below (hbox.trans (hb.mono hbox.size))))
  have HK := hide (fun w1 (hb1 : Below W0.heap.size W0 w1) => (hvb.below hb1 (by omega)).cells)
  obtain ⟨k0, k1, k2, k3, k4, k5⟩ := HK.out W0 (Below.refl _ _)
  have Hbox := hide hbox
  have Hs0 := hide hs0
  cases hg : v.great with
  | true =>
    rw [hg] at HG
    clear h hT hbox hs0 hvb
    subst hW0
    unfold Vw.val at HG ⊢
    go_enter Tryd.func8, Tryd.ntmps8
    go_wp2_with (first
      | (go_at_call 11; refine HG.out.mono ?_; rintro e w1 ⟨rfl, hb1⟩)
      | (go_at_call 12; refine (HA.out _ hb1).mono ?_; rintro e w2 ⟨rfl, hb2⟩)
      | fail)
    go_ret
    exact ⟨rfl, Hbox.out.trans ((hb1.trans (hb2.mono hb1.size)).mono Hbox.out.size)⟩
  | false =>
    have htame := Vw.tame hg
    rw [hg] at HG
    have HC := hide (fun w1 (hb : Below W0.heap.size W0 w1) => checkV w1 A c v ((h.below (hbox.trans (hb.mono hbox.size))).more (hbox.trans (hb.mono hbox.size)).size) htame (hT.below (hbox.trans (hb.mono hbox.size))))
    cases hok : v.ok with
    | false =>
      have hne : (v.err != 0) = true := by unfold Vw.ok at hok; simpa using hok
      clear h hT hbox hs0 hvb htame hg hok
      subst hW0
      obtain ⟨V, hV⟩ : ∃ V, v.err = V := ⟨_, rfl⟩
      simp only [hV] at HC hne
      clear hV
      unfold Vw.val at HG HC ⊢
      go_enter Tryd.func8, Tryd.ntmps8
      go_wp2_with (first
        | (go_at_call 11; refine HG.out.mono ?_; rintro e w1 ⟨rfl, hb1⟩; obtain ⟨x0, x1, x2, x3, x4, x5⟩ := HK.out w1 hb1)
        | (go_at_call 19; refine (HC.out _ hb1).mono ?_; rintro e w2 ⟨rfl, hb2'⟩; have hb2 := hb1.trans (hb2'.mono hb1.size))
        | (go_at_call 12; refine (HA.out _ hb2).mono ?_; rintro e w3 ⟨rfl, hb3'⟩; have hb3 := hb2.trans (hb3'.mono hb2.size))
        | fail)
      go_ret
      exact ⟨rfl, Hbox.out.trans (hb3.mono Hbox.out.size)⟩
    | true =>
      have he : v.err = 0 := by unfold Vw.ok at hok; simpa using hok
      have hp := Vw.proper hok
      have hh1 := hp.h1
      have hh2 := hp.h2
      obtain ⟨b1, b2, b3⟩ := bet_whole v hok
      have HB := hide (fun w1 (hb : Below W0.heap.size W0 w1) => betweenP w1 A c v ⟨0, 0, 0⟩ ⟨0, v.height - 1, v.width⟩ ((h.below (hbox.trans (hb.mono hbox.size))).more (hbox.trans (hb.mono hbox.size)).size) htame (hT.below (hbox.trans (hb.mono hbox.size))))
      have HL := hide (fun w1 (hb : Below W0.heap.size W0 w1) => linesP w1 A c v 0 v.height ((h.below (hbox.trans (hb.mono hbox.size))).more (hbox.trans (hb.mono hbox.size)).size) htame (hT.below (hbox.trans (hb.mono hbox.size))))
      dsimp only at HB
      rw [b1, b3] at HB
      rw [b2] at HL
      have hcnt : v.height - 1 ≤ ((Lib.countByte (linT v 0 v.height).data.toList 10 : Nat) : Int) := by
        have h1 := count_join (linesFrom (fun y => textB (rowOf v y)) (0 : Int).toNat (v.height - 0).toNat)
        rw [linesFrom_len] at h1
        have h2 : linT v 0 v.height = joinN (linesFrom (fun y => textB (rowOf v y)) (0 : Int).toNat (v.height - 0).toNat) := by unfold linT; rw [if_pos b2]
        rw [h2]
        unfold Lib.countByte
        omega
      obtain ⟨T, hTT⟩ : ∃ T, linT v 0 v.height = T := ⟨_, rfl⟩
      rw [hTT] at HB HL hcnt
      obtain ⟨C, hCC⟩ : ∃ C, Lib.countByte T.data.toList 10 = C := ⟨_, rfl⟩
      have HCt := hide (fun W => Any.strings_Count_one laysCount T 10 W)
      rw [hCC] at HCt hcnt
      simp only [he] at HC
      clear h hT hbox hs0 hvb htame hg hok he hp b1 b2 b3 hTT hCC
      subst hW0
      unfold Vw.val at HG HC HB HL ⊢
      unfold Pl.val at HB
      dsimp only at HB
      go_enter Tryd.func8, Tryd.ntmps8
      go_wp2_with (first
        | (go_at_call 11; refine HG.out.mono ?_; rintro e w1 ⟨rfl, hb1⟩; obtain ⟨x0, x1, x2, x3, x4, x5⟩ := HK.out w1 hb1)
        | (go_at_call 19; refine (HC.out _ hb1).mono ?_; rintro e w2 ⟨rfl, hb2'⟩; have hb2 := hb1.trans (hb2'.mono hb1.size); obtain ⟨y0, y1, y2, y3, y4, y5⟩ := HK.out w2 hb2)
        | (go_at_call 13; refine (HB.out _ hb2).mono ?_; rintro e w3 ⟨rfl, hb3'⟩; have hb3 := hb2.trans (hb3'.mono hb2.size); obtain ⟨z0, z1, z2, z3, z4, z5⟩ := HK.out w3 hb3)
        | (go_at_call 15; refine (HL.out _ hb3).mono ?_; rintro e w4 ⟨rfl, hb4'⟩; have hb4 := hb3.trans (hb4'.mono hb3.size))
        | fail)
      obtain ⟨u0, u1, u2, u3, u4, u5⟩ := HK.out w4 hb4
      have hlw : w.heap.size < w4.heap.size := by have := hb4.size; have := Hs0.out; omega
      have q1 := Held.cell u1 hlw
      have e1 : IntKind.i64.wrap (v.height - 1) = v.height - 1 := IntWalk.i64_in _ (by omega)
      have hge : decide (v.height - 1 ≤ (C : Int)) = true := by simpa using hcnt
      clear k0 k1 k2 k3 k4 k5 x0 x1 x2 x3 x4 x5 y0 y1 y2 y3 y4 y5 z0 z1 z2 z3 z4 z5 u0 u1 u2 u3 u4 u5
      refine wp_region_held_lit (by kernel_rfl) (by kernel_rfl) ?_
      repeat go_big_quiet_step ((first
        | (go_at_call 26; exact held_call_same _ fun W _ => (HCt.out W).mono fun _ _ hh => ⟨hh.1, hh.2.symm⟩)
        | (go_at_call 12; exact held_call _ fun W hb => HA.out W (hb4.trans (hb.mono hb4.size)))))
      refine wpQuiet_nil ?_
      intro w5 hb5
      clear q1
      go_wp2
      go_ret
      exact ⟨rfl, Hbox.out.trans ((hb4.trans (hb5.mono hb4.size)).mono Hbox.out.size)⟩
end Go.Proofs.YtmloijhdibicdaaDoor
