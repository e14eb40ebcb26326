/- narratorref23.from. -/
import Derived.Test.YtdgmjbcfopkibaaDoorG3
import Derived.Test.YtdgmjbcfopkibaaDoorF5
namespace Go.Proofs.YtdgmjbcfopkibaaDoor
open Go.RowKit Go.Shelf

/-- What from returns. -/
def fromRg (v : Vw) (t l : Nat) : Rg := (frameF v t l).getD zeroRg

set_option maxRecDepth 100000 in
set_option maxHeartbeats 4000000 in
theorem from23 (w : World) (A : Option Addr) (c : Nat) (v : Vw) (W t l : Nat) (h : Rows2 w w.heap.size A v.rows) (htame : v.Tame) (hok : v.ok = true) (ht : t < v.rows.length) (hl : l < W) (hW : v.width = W) :
    Calls Tryd.prog 23 #[v.val A c, .int .i64 (t : Int), .int .i64 (l : Int)] w fun e w' => e = .returned (fromRg v t l).val ∧ Below w.heap.size w w' := by
  obtain ⟨W1, hW1, hbx, hs1, hvb, hrb⟩ := boxes2 w v A c zeroRg
  have hW1' := hW1.symm
  clear hW1
  unfold zeroRg at hW1'
  dsimp only at hW1'
  have hni := Vw.nice htame hok
  have hWn : v.width.toNat = W := by rw [hW]; rfl
  rw [hWn] at hni
  have hw2 := hni.w2
  have hht := hni.height
  have hn12 := htame.1
  have hsz1 : w.heap.size < W1.heap.size := by omega
  have hsz2 : w.heap.size + 1 < W1.heap.size := by omega
  have HRw := hide (fun (w1 : World) (hb : Below w.heap.size w w1) => (h.below hb).more hb.size)
  have HHas := hide (has23 W1 A c v t l 6 6 (HRw.out W1 hbx) htame ht (by omega) rfl (by omega) (by omega))
  have HClo := hide (fun (w1 : World) (hb : Below w.heap.size w w1) (b r : Nat) (h1 : t + 2 ≤ b) (h2 : b ≤ v.rows.length) (h3 : l + 2 ≤ r) (h4 : r ≤ W) => closed23 w1 A c v W t l b r (HRw.out w1 hb) htame h1 h2 h3 h4 hW hht hw2)
  have HTit := hide (fun (w1 : World) (hb : Below w.heap.size w w1) (b r : Nat) (h1 : t + 2 ≤ b) (h2 : b ≤ v.rows.length) (h3 : l + 2 ≤ r) (h4 : r ≤ W) (hcl : closedB v.pic t l b r = true) => title23 w1 A c v W t l b r (HRw.out w1 hb) htame hok h1 h2 h3 h4 hW hcl 2 0 (-1) ⟨#[]⟩)
  obtain ⟨RES, hRES⟩ : ∃ R, fromRg v t l = R := ⟨_, rfl⟩
  have hres : RES = ((fromF v.pic v.rows.length W t l).map (fun x => (⟨2, 0, -1, t, l, x.1, x.2, titleB v.pic (v.rows.getD t []) t l x.2⟩ : Rg))).getD zeroRg := by
    rw [← hRES]; unfold fromRg frameF; rw [hWn]
  rw [hRES]
  obtain ⟨P, hP⟩ : ∃ P, v.pic = P := ⟨_, rfl⟩
  simp only [hP] at HHas HClo HTit hres
  obtain ⟨row, hrow⟩ : ∃ row, v.rows.getD t [] = row := ⟨_, rfl⟩
  simp only [hrow] at HTit hres
  obtain ⟨H, hn⟩ : ∃ n, v.rows.length = n := ⟨_, rfl⟩
  simp only [hn] at HClo HTit hres
  rw [hn] at hht ht hn12
  have Hn := hide hn
  have HV := hide (fun (W2 : World) (hb : Below W1.heap.size W1 W2) => (hvb.below hb hsz1).cells)
  have HRb := hide (fun (W2 : World) (hb : Below W1.heap.size W1 W2) => (hrb.below hb hsz2))
  have HB := hide (fun (W2 : World) (hb : Below W1.heap.size W1 W2) => hbx.trans (hb.mono hbx.size))
  have Hrf := hide (Below.refl W1.heap.size W1)
  obtain ⟨k0, k1, k2, k3, k4, k5⟩ := hvb.cells
  obtain ⟨width, height, rows, row0, col0, vis⟩ := v
  unfold Vw.val at HHas HClo HTit ⊢
  unfold Rg.val at HTit
  dsimp only at hW hht hn hW1' HHas HClo HTit HV k0 k1 k2 k3 k4 k5 ⊢
  subst hW hht
  rw [hn] at HHas HClo HTit HV hW1' k2 ⊢
  obtain ⟨q, hq⟩ : ∃ q, hasA (P t l) 6 = q := ⟨_, rfl⟩
  rw [hq] at HHas
  have Hs1 := hide hs1
  cases q with
  | false =>
    have HF := hide (show RES = zeroRg by rw [hres]; unfold fromF; rw [hq]; rfl)
    clear h htame hok hni hWn HRw hRES hres hP hrow hn HClo HTit hq hvb hrb hsz1 hsz2 hs1 Hn hbx
    go_enter Tryd.func23, Tryd.ntmps23
    go_upto_region 2 with (go_at_call 43; (with_reducible refine HHas.out.mono ?_); rintro e w6 ⟨rfl, hbm⟩; have hbw := HB.out w6 hbm; have hbox := HRb.out w6 hbm; clear hbm)
    have HXc := hide (rgSet_box (r := zeroRg) hbox).cells
    have Hbb := hide (rgSet_below (b := w.heap.size + 1) zeroRg hbw (by omega))
    obtain ⟨z0, z1, z2, z3, z4, z5, z6, z7⟩ := hbox.cells
    have f0 := frozen_block hbox 0
    have f1 := frozen_block hbox 1
    have f2 := frozen_block hbox 2
    have f3 := frozen_block hbox 3
    have f4 := frozen_block hbox 4
    have f5 := frozen_block hbox 5
    have f6 := frozen_block hbox 6
    have f7 := frozen_block hbox 7
    clear hbox hbw k0 k1 k2 k3 k4 k5 hW1'
    go_wp2
    obtain ⟨x0, x1, x2, x3, x4, x5, x6, x7⟩ := HXc.out
    have hbb := Hbb.out
    unfold rgSet zeroRg at x0 x1 x2 x3 x4 x5 x6 x7 hbb
    dsimp only at x0 x1 x2 x3 x4 x5 x6 x7 hbb
    rw [HF.out]
    exact bodyPost_ret (v := zeroRg.val) (by simp [results, Tryd.results23, go_sem, x0, x1, x2, x3, x4, x5, x6, x7, zeroRg, Rg.val]) rfl ⟨rfl, hbb⟩
  | true =>
    obtain ⟨R, hR⟩ : ∃ R, rgtG P H t l (l + 2) (W - l - 1) = R := ⟨_, rfl⟩
    have HF := hide (show RES = (R.map (fun x => (⟨2, 0, -1, t, l, x.1, x.2, titleB P row t l x.2⟩ : Rg))).getD zeroRg by rw [hres]; unfold fromF; rw [hq, if_pos rfl, hR])
    have HR := hide (show rgtG P H t l (l + 2) (W + 1 - (l + 2)) = R by rw [show W + 1 - (l + 2) = W - l - 1 by omega]; exact hR)
    clear h htame hok hni hWn HRw hRES hres hP hrow hn hq hvb hrb hsz1 hsz2 hs1 Hn hR hbx
    go_enter Tryd.func23, Tryd.ntmps23
    go_upto_region 3 with (go_at_call 43; (with_reducible refine HHas.out.mono ?_); rintro e w6 ⟨rfl, hbm⟩; have Hb6 := hide hbm; clear hbm)
    clear hW1' Hrf k0 k1 k2 k3 k4 k5
    go_wp2
    go_loopw [7] (fun i wr => ∃ r : Nat, l + 2 ≤ r ∧ r ≤ W + 1 ∧ i = .int .i64 (r : Int) ∧ rgtG P H t l r (W + 1 - r) = R ∧ Below W1.heap.size W1 wr) (fun i _ => W + 1 - (intOf i).toNat)
    case atStart => exact ⟨l + 2, Nat.le_refl _, by omega, by go_num, HR.out, Hb6.out⟩
    case round =>
      clear HR Hb6
      obtain ⟨r, h0, h1, rfl, hg, hbr⟩ := hrel
      rename World => wr
      obtain ⟨k0, k1, k2, k3, k4, k5⟩ := HV.out wr hbr
      have Hbr := hide hbr
      clear hbr
      by_cases hlt : r ≤ W
      · have hltI : (r : Int) ≤ (W : Int) := by omega
        rw [rgtG_step _ _ _ _ _ _ (by omega)] at hg
        obtain ⟨B, hB⟩ : ∃ B, bottomG P t l r (t + 2) (H - t - 1) = B := ⟨_, rfl⟩
        rw [hB] at hg
        have HBt := hide (show bottomG P t l r (t + 2) (H + 1 - (t + 2)) = B by rw [show H + 1 - (t + 2) = H - t - 1 by omega]; exact hB)
        have Hg := hide hg
        clear hB hg
        go_wp2
        go_loopw [8] (fun j wi => ∃ b : Nat, t + 2 ≤ b ∧ b ≤ H + 1 ∧ j = .int .i64 (b : Int) ∧ bottomG P t l r b (H + 1 - b) = B ∧ Below W1.heap.size W1 wi) (fun j _ => H + 1 - (intOf j).toNat)
        case atStart => exact ⟨t + 2, Nat.le_refl _, by omega, by go_num, HBt.out, Hbr.out⟩
        case round =>
          clear HBt Hbr k0 k1 k2 k3 k4 k5
          obtain ⟨b, g0, g1, rfl, hg2, hbi⟩ := hrel
          rename World => wi
          obtain ⟨k0, k1, k2, k3, k4, k5⟩ := HV.out wi hbi
          by_cases hlb : b ≤ H
          · have hlbI : (b : Int) ≤ (H : Int) := by omega
            rw [bottomG_step _ _ _ _ _ _ (by omega)] at hg2
            have HC := hide (HClo.out wi (HB.out wi hbi) b r g0 hlb h0 hlt)
            obtain ⟨q, hq⟩ : ∃ q, closedB P t l b r = q := ⟨_, rfl⟩
            rw [hq] at HC hg2
            have Hbi := hide hbi
            clear hbi
            cases q with
            | true =>
              have HRv := hide (show R = some (b, r) by have := Hg.out; rw [← hg2] at this; exact this.symm)
              have HT := hide (fun (W2 : World) (hb : Below W1.heap.size W1 W2) => HTit.out W2 (HB.out W2 hb) b r g0 hlb h0 hlt hq)
              clear hg2 Hg hq
              go_upto_region 11 with (first
                | (go_at_call 44; (with_reducible refine HC.out.mono ?_); rintro e w6 ⟨rfl, hb6⟩; have Hb6 := hide (Hbi.out.trans (hb6.mono Hbi.out.size)); clear hb6)
                | fail)
              obtain ⟨T, hT⟩ : ∃ T, titleB P row t l r = T := ⟨_, rfl⟩
              simp only [hT] at HT
              -- the frame's own box
              have hnb := block_new w6 (.cells #[.int .i64 2, .int .i64 0, .int .i64 (-1), .int .i64 (t : Int), .int .i64 (l : Int), .int .i64 (b : Int), .int .i64 (r : Int), .string ⟨#[]⟩] 36)
              have hb7 := Hb6.out.alloc Hb6.out.size (.cells #[.int .i64 2, .int .i64 0, .int .i64 (-1), .int .i64 (t : Int), .int .i64 (l : Int), .int .i64 (b : Int), .int .i64 (r : Int), .string ⟨#[]⟩] 36)
              obtain ⟨W7, hW7⟩ : ∃ W7, w6.alloc (.cells #[.int .i64 2, .int .i64 0, .int .i64 (-1), .int .i64 (t : Int), .int .i64 (l : Int), .int .i64 (b : Int), .int .i64 (r : Int), .string ⟨#[]⟩] 36) = W7 := ⟨_, rfl⟩
              rw [hW7] at hnb hb7
              have hnb : RgBox W7 w6.heap.size ⟨2, 0, -1, t, l, b, r, ⟨#[]⟩⟩ := hnb
              have hs7 : w6.heap.size < W7.heap.size := block_lt hnb
              rw [hW7]
              have HT7 := hide (HT.out W7 hb7)
              have HK7 := hide (fun (W2 : World) (hb : Below W7.heap.size W7 W2) => And.intro (hnb.below hb hs7) (hb7.trans (hb.mono hb7.size)))
              obtain ⟨k0, k1, k2, k3, k4, k5⟩ := HV.out W7 hb7
              obtain ⟨r0, r1', r2, r3, r4, r5, r6, r7⟩ := hnb.cells
              dsimp only at r0 r1' r2 r3 r4 r5 r6 r7
              have Hhs := hide (And.intro (Nat.le_of_lt hs7) (And.intro Hb6.out.size Hs1.out))
              clear hs7 hnb hb7 HClo HTit
              go_upto_region 12 with (first
                | (go_at_call 45; (with_reducible refine HT7.out.mono ?_); rintro e w8 ⟨rfl, hb8⟩; obtain ⟨hn8, hb8w⟩ := HK7.out w8 hb8; have r7' := hn8.cells.2.2.2.2.2.2.2; have f7' := frozen_block hn8 7; dsimp only at r7'; have Hn8 := hide hn8; have Hb8w := hide hb8w; clear hn8 hb8w)
                | fail)
              clear hW7 k0 k1 k2 k3 k4 k5 r0 r1' r2 r3 r4 r5 r6 r7
              try clear r7'
              try clear f7'
              have hbB : W1.heap.size ≤ w6.heap.size := Hb6.out.size
              have hW8b := Hb8w.out.setCell (p := ⟨w6.heap.size, 7, none⟩) hbB (.string T)
              have hn8 := Hn8.out
              unfold RgBox at hn8
              dsimp only at hn8
              have e := blk_setF (i := 7) hn8 (.string T)
              simp only [List.setIfInBounds_toArray, List.set_cons_zero, List.set_cons_succ] at e
              have e : RgBox _ w6.heap.size ⟨2, 0, -1, t, l, b, r, T⟩ := e
              obtain ⟨W8, hW8⟩ : ∃ W8, w8.setCell ⟨w6.heap.size, 7, none⟩ (.string T) = W8 := ⟨_, rfl⟩
              rw [hW8] at hW8b e ⊢
              clear hW8 hn8
              have hbox := HRb.out W8 hW8b
              have hb6w := HB.out W8 hW8b
              have HXc := hide (rgSet_box (r := ⟨2, 0, -1, t, l, b, r, T⟩) hbox).cells
              have Hbb := hide (rgSet_below (b := w.heap.size + 1) ⟨2, 0, -1, t, l, b, r, T⟩ hb6w (by omega))
              obtain ⟨r0, r1', r2, r3, r4, r5, r6, r7⟩ := e.cells
              dsimp only at r0 r1' r2 r3 r4 r5 r6 r7
              obtain ⟨z0, z1, z2, z3, z4, z5, z6, z7⟩ := hbox.cells
              have f0 := frozen_block hbox 0
              have f1 := frozen_block hbox 1
              have f2 := frozen_block hbox 2
              have f3 := frozen_block hbox 3
              have f4 := frozen_block hbox 4
              have f5 := frozen_block hbox 5
              have f6 := frozen_block hbox 6
              have f7 := frozen_block hbox 7
              have HT2 := hide hT
              clear hbox hb6w hW8b e hbB hT
              go_wp2
              obtain ⟨x0, x1, x2, x3, x4, x5, x6, x7⟩ := HXc.out
              have hbb := Hbb.out
              unfold rgSet at x0 x1 x2 x3 x4 x5 x6 x7 hbb
              dsimp only at x0 x1 x2 x3 x4 x5 x6 x7 hbb
              have hfin : RES = ⟨2, 0, -1, t, l, b, r, T⟩ := by rw [HF.out, HRv.out]; simp only [Option.map_some, Option.getD_some, HT2.out]
              rw [hfin]
              exact bodyPost_ret (v := (⟨2, 0, -1, t, l, b, r, T⟩ : Rg).val) (by simp [results, Tryd.results23, go_sem, x0, x1, x2, x3, x4, x5, x6, x7, Rg.val]) rfl ⟨rfl, hbb⟩
            | false =>
              have Hg2 := hide (show bottomG P t l r (b + 1) (H + 1 - b - 1) = B from hg2)
              clear hg2 hq
              go_wp2_with (first
                | (go_at_call 44; (with_reducible refine HC.out.mono ?_); rintro e w6 ⟨rfl, hb6⟩; have Hb6 := hide (Hbi.out.trans (hb6.mono Hbi.out.size)); clear hb6)
                | fail)
              go_roundw
              case rel => exact ⟨b + 1, by omega, by omega, by go_num, by rw [← Nat.sub_sub]; exact Hg2.out, Hb6.out⟩
              case measure => simp [intOf]; omega
          · obtain rfl : b = H + 1 := by omega
            rw [Nat.sub_self] at hg2
            have Hg2 := hide (show rgtG P H t l (r + 1) (W + 1 - r - 1) = R by have := Hg.out; rw [← hg2] at this; exact this)
            have hnl : ¬ ((H : Int) + 1) ≤ (H : Int) := by omega
            have Hbi := hide hbi
            clear hg2 hbi
            go_wp2
            go_roundw
            case rel => exact ⟨r + 1, by omega, by omega, by go_num, by rw [← Nat.sub_sub]; exact Hg2.out, Hbi.out⟩
            case measure => simp [intOf]; omega
      · obtain rfl : r = W + 1 := by omega
        rw [Nat.sub_self] at hg
        have HRv := hide (show R = none from hg.symm)
        have hnl : ¬ ((W : Int) + 1) ≤ (W : Int) := by omega
        have hbox := HRb.out wr Hbr.out
        have hbw := HB.out wr Hbr.out
        clear hg hlt
        have HXc := hide (rgSet_box (r := zeroRg) hbox).cells
        have Hbb := hide (rgSet_below (b := w.heap.size + 1) zeroRg hbw (by omega))
        obtain ⟨z0, z1, z2, z3, z4, z5, z6, z7⟩ := hbox.cells
        have f0 := frozen_block hbox 0
        have f1 := frozen_block hbox 1
        have f2 := frozen_block hbox 2
        have f3 := frozen_block hbox 3
        have f4 := frozen_block hbox 4
        have f5 := frozen_block hbox 5
        have f6 := frozen_block hbox 6
        have f7 := frozen_block hbox 7
        clear hbox hbw
        go_wp2
        obtain ⟨x0, x1, x2, x3, x4, x5, x6, x7⟩ := HXc.out
        have hbb := Hbb.out
        unfold rgSet zeroRg at x0 x1 x2 x3 x4 x5 x6 x7 hbb
        dsimp only at x0 x1 x2 x3 x4 x5 x6 x7 hbb
        rw [HF.out, HRv.out]
        exact bodyPost_ret (v := zeroRg.val) (by simp [results, Tryd.results23, go_sem, x0, x1, x2, x3, x4, x5, x6, x7, zeroRg, Rg.val]) rfl ⟨rfl, hbb⟩
end Go.Proofs.YtdgmjbcfopkibaaDoor
