/- Chapter 45: the line of clipping.Block. -/
import Derived.Test.YtmloijhdibicdaaDoorK26
import Derived.Test.YtmloijhdibicdaaDoorK13
namespace Go.Proofs.YtmloijhdibicdaaDoor
open Go.RowKit Go.Shelf

set_option maxRecDepth 100000 in
set_option maxHeartbeats 1000000 in
theorem block1P (w : World) (bv br : Nat) (v : Vw) (r : Rg) (A : Option Addr) (c : Nat) (hv : VwBox w bv v A c) (hr : RgBox w br r) (hrows : Rows2 w w.heap.size A v.rows) (htame : v.Tame) (y left right : Nat) (hy : y < v.rows.length) (hl : r.left = left) (hR : r.right = right) :
    Calls Tryd.prog 61 #[.int .i64 y, .pointer (some ⟨bv, 0, none⟩), .pointer (some ⟨br, 0, none⟩)] w fun e w' => e = .returned (.string (cutB left right (rowOf v y))) ∧ Below w.heap.size w w' := by
  obtain ⟨bR, oR, rfl, hbR, A1, c1, d0, d1, d2⟩ := hrows.get1 hy
  obtain ⟨hl1, hl2⟩ := rowOf_tame htame hy
  rw [rowOf_get hy] at d0 d1 d2
  have HT := hide (fun W (hb : Below w.heap.size w W) => cutP W A1 c1 (rowOf v y) left right ((d2.below (GlAt.stays _) hb).more hb.size) (by omega) hl2)
  have k2 := Held.cell hv.cells.2.2.1 (block_lt hv)
  have r4 := Held.cell hr.cells.2.2.2.2.1 (block_lt hr)
  have r6 := Held.cell hr.cells.2.2.2.2.2.2.1 (block_lt hr)
  rw [hl] at r4
  rw [hR] at r6
  have e0 := Held.cell d0 (World.block_lt_of_cell? w ⟨bR, oR + y, none⟩ d0)
  have hyI : (y : Int) < (v.rows.length : Int) := by omega
  have hy12 : y < 12 := by have := htame.1; omega
  obtain ⟨rl, hrl⟩ : ∃ rl, (rowOf v y).length = rl := ⟨_, rfl⟩
  rw [hrl] at HT e0
  clear hrl d0 d1 d2 hl1 hl2 hy hrows htame hl hR hv hr
  go_enter Tryd.func61, Tryd.ntmps61
  go_wp2
  refine wp_region_held_lit (by kernel_rfl) (by kernel_rfl) ?_
  repeat go_big_quiet_step ((go_at_call 62; exact held_call _ fun W hb => HT.out W hb))
  refine wpQuiet_nil ?_
  intro w3 hb3
  go_wp2
  go_ret
  exact ⟨rfl, hb3⟩
end Go.Proofs.YtmloijhdibicdaaDoor
