/- The walk of the law FramesFind. -/
import Derived.Test.YtdgmjbcfopkibaaDoorG5
import Derived.Test.YtdgmjbcfopkibaaDoorF16
import Derived.Test.YtdgmjbcfopkibaaDoorF13
import Derived.Deep.RegionHeld3
namespace Go.Proofs.YtdgmjbcfopkibaaDoor
open Go.RowKit

set_option maxRecDepth 100000 in
set_option maxHeartbeats 8000000 in
theorem findLawP (w : World) (A : Option Addr) (c : Nat) (v : Vw) (h : Rows2 w w.heap.size A v.rows) (hT : Tabs w) :
    Calls Tryd.prog 3 #[v.val A c] w fun e w' => e = .returned (.bool true) ∧ Below w.heap.size w w' := by
  have hbox := (Below.refl w.heap.size w).alloc (Nat.le_refl _) (.cells #[.int .i64 v.width, .int .i64 v.height, .slice A v.rows.length c, .int .i64 v.row, .int .i64 v.col, .bool v.visible] 24)
  have hvb : VwBox _ w.heap.size v A c := block_new w (.cells #[.int .i64 v.width, .int .i64 v.height, .slice A v.rows.length c, .int .i64 v.row, .int .i64 v.col, .bool v.visible] 24)
  have HG := hide (great23 _ A c v ((h.below hbox).more hbox.size))
  have HA := hide (fun w1 (hb : Below w.heap.size w w1) => awakeP w1 (hT.below hb))
  have Hvb := hide hvb
  have Hbox := hide hbox
  obtain ⟨k0, k1, k2, k3, k4, k5⟩ := hvb.cells
  cases hg : v.wideB with
  | true =>
    rw [hg] at HG
    clear h hT hvb hg hbox
    unfold Vw.val at HG ⊢
    go_enter Tryd.func3, Tryd.ntmps3
    go_wp2_with (first
      | (go_at_call 7; refine HG.out.mono ?_; rintro e w1 ⟨rfl, hb1⟩; have hbw := Hbox.out.trans (hb1.mono (by simp)))
      | (go_at_call 8; refine (HA.out _ hbw).mono ?_; rintro e w2 ⟨rfl, hb2⟩)
      | fail)
    go_ret
    exact ⟨rfl, hbw.trans (hb2.mono hbw.size)⟩
  | false =>
    rw [hg] at HG
    have htame := Vw.tame (wide_small hg).1
    have HF := hide (fun w1 (hb : Below w.heap.size w w1) => findFP w1 A c v ((h.below hb).more hb.size) htame (hT.below hb) (fun hok => wide_count hg hok))
    have HF2 := hide (fun w1 (hb : Below w.heap.size w w1) => find23 w1 A c v ((h.below hb).more hb.size) htame (fun hok => wide_count hg hok))
    have hlen : (framesT v).length ≤ 200 := by
      by_cases hok : v.ok = true
      · exact Nat.le_trans (framesT_len hok) (wide_count hg hok)
      · unfold framesT; rw [if_neg hok]; exact Nat.zero_le _
    obtain ⟨fs, hfs⟩ : ∃ fs, framesT v = fs := ⟨_, rfl⟩
    simp only [hfs] at HF HF2
    rw [hfs] at hlen
    clear h hT hvb hg htame hbox hfs
    unfold Vw.val at HG HF HF2 ⊢
    go_enter Tryd.func3, Tryd.ntmps3
    go_upto_region 3 with (first
      | (go_at_call 7; refine HG.out.mono ?_; rintro e w1 ⟨rfl, hb1⟩; have Hb1 := hide hb1; clear hb1)
      | fail)
    have hbw := Hbox.out.trans (Hb1.out.mono (by simp))
    have hlw : w.heap.size < w1.heap.size := by have := Hb1.out.size; simp at this; omega
    have Hv1 := hide (Hvb.out.below Hb1.out (by simp))
    have HS := hide (fun (W2 : World) (hb : Below w1.heap.size w1 W2) => (Hv1.out.below hb hlw).cells)
    have HB := hide (fun (W2 : World) (hb : Below w1.heap.size w1 W2) => hbw.trans (hb.mono hbw.size))
    have hbd := (Below.refl w1.heap.size w1).drew
    clear k0 k1 k2 k3 k4 k5 HG Hvb Hbox
    go_region_held3 (fun W2 => (W2.cell? ⟨w.heap.size, 0, none⟩ = some (.int .i64 v.width) ∧ W2.cell? ⟨w.heap.size, 1, none⟩ = some (.int .i64 v.height) ∧ W2.cell? ⟨w.heap.size, 2, none⟩ = some (.slice A v.rows.length c) ∧ W2.cell? ⟨w.heap.size, 3, none⟩ = some (.int .i64 v.row) ∧ W2.cell? ⟨w.heap.size, 4, none⟩ = some (.int .i64 v.col) ∧ W2.cell? ⟨w.heap.size, 5, none⟩ = some (.bool v.visible)))
      (first | exact HS.out _ hb8 | exact HS.out _ hb7 | exact HS.out _ hb6 | exact HS.out _ hb5 | exact HS.out _ hbd)
      (first
        | (go_at_call 10; refine (HF.out _ (HB.out _ hbd)).mono ?_; rintro e w5 ⟨vg, rfl, hown5, hbI⟩; have hb5 := hbd.trans (hbI.mono hbd.size))
        | (go_at_call 11; refine (HF2.out _ (HB.out _ hb5)).mono ?_; rintro e w6 ⟨vg2, rfl, hown6, hbJ⟩; have hb6 := hb5.trans (hbJ.mono hb5.size); have hown5b := own_below hown5 hbJ (Nat.le_refl _))
        | (go_at_call 9; refine (same23P w6 _ _ vg vg2 fs hown5b hown6 (by omega)).mono ?_; rintro e w7 ⟨rfl, hbK⟩; have hb7 := hb6.trans (hbK.mono hb6.size))
        | (go_at_call 8; refine (HA.out _ (HB.out _ hb7)).mono ?_; rintro e w8 ⟨rfl, hbL⟩; have hb8 := hb7.trans (hbL.mono hb7.size))
        | fail)
    all_goals
      go_wp2
      go_ret
      exact ⟨rfl, HB.out _ hb8⟩
end Go.Proofs.YtdgmjbcfopkibaaDoor
