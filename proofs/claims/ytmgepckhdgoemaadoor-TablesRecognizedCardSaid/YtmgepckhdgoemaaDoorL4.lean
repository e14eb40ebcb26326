/- The statements of chapter 24: small; the walk of TablesGutters. -/
import Derived.Test.YtmgepckhdgoemaaDoorL3
namespace Go.Proofs.YtmgepckhdgoemaaDoor
open Go.RowKit

def smallB (v : Vw) : Bool := !v.great && v.ok
set_option maxHeartbeats 1000000 in
theorem smallP (w : World) (A : Option Addr) (c : Nat) (v : Vw) (h : Rows2 w w.heap.size A v.rows) :
    Calls Tryd.prog 5 #[v.val A c] w fun e w' => e = .returned (.bool (smallB v)) ∧ Below w.heap.size w w' := by
  have hbox := (Below.refl w.heap.size w).alloc (Nat.le_refl _) (.cells #[.int .i64 v.width, .int .i64 v.height, .slice A v.rows.length c, .int .i64 v.row, .int .i64 v.col, .bool v.visible] 24)
  have hvb : VwBox _ w.heap.size v A c := block_new w (.cells #[.int .i64 v.width, .int .i64 v.height, .slice A v.rows.length c, .int .i64 v.row, .int .i64 v.col, .bool v.visible] 24)
  have HG := hide (greatP _ A c v ((h.below hbox).more hbox.size))
  have Hvb := hide hvb
  have hs0 : w.heap.size + 1 = (w.alloc (.cells #[.int .i64 v.width, .int .i64 v.height, .slice A v.rows.length c, .int .i64 v.row, .int .i64 v.col, .bool v.visible] 24)).heap.size := by simp
  cases hg : v.great with
  | true =>
    have hsm : smallB v = false := by unfold smallB; rw [hg]; rfl
    rw [hg] at HG
    rw [hsm]
    clear hvb h hsm hs0
    unfold Vw.val at HG ⊢
    go_enter Tryd.func5, Tryd.ntmps5
    go_wp2_with (go_at_call 16; refine HG.out.mono ?_; rintro e w1 ⟨rfl, hb1⟩)
    go_ret
    exact ⟨rfl, hbox.trans (hb1.mono (by simp))⟩
  | false =>
    have htame := Vw.tame hg
    have hsm : smallB v = v.ok := by unfold smallB; rw [hg]; rfl
    have hok : v.ok = (v.err == 0) := rfl
    have HC := hide (fun w1 (hb1 : Below w.heap.size w w1) => check15 w1 A c v ((h.below hb1).more hb1.size) htame)
    rw [hg] at HG
    rw [hsm, hok]
    obtain ⟨V, hV⟩ : ∃ V, v.err = V := ⟨_, rfl⟩
    rw [hV]
    simp only [hV] at HC
    clear hvb h hsm hok htame hV hg
    unfold Vw.val at HG HC ⊢
    go_enter Tryd.func5, Tryd.ntmps5
    go_wp2_with (first
      | (go_at_call 16; refine HG.out.mono ?_; rintro e w1 ⟨rfl, hb1⟩; have hbw := hbox.trans (hb1.mono (by simp)); obtain ⟨k0, k1, k2, k3, k4, k5⟩ := (Hvb.out.below hb1 (by simp)).cells)
      | (go_at_call 17; refine (HC.out _ hbw).mono ?_; rintro e w2 ⟨rfl, hb2⟩)
      | fail)
    go_ret
    exact ⟨rfl, hbw.trans (hb2.mono hbw.size)⟩
end Go.Proofs.YtmgepckhdgoemaaDoor
