/- The walk of the law TablesCells. -/
import Derived.Test.YtbbhkibbkecojaaDoorL7
namespace Go.Proofs.YtbbhkibbkecojaaDoor
open Go.RowKit

theorem colsT_len (v : Vw) (r : Rg) : (colsT v r).length ≤ 200 := by
  unfold colsT
  split
  · rename_i h
    obtain ⟨-, W, T, B, e1, e2, e3, -⟩ := valid24_facts h
    rw [colsR_length, e1]
    have := (partsTo_bd (gut v.rows r.top.toNat r.bottom.toNat) W).1
    simp only [Int.toNat_natCast]
    omega
  · simp

set_option maxRecDepth 100000 in
set_option maxHeartbeats 4000000 in
theorem cellsLawP (w : World) (A : Option Addr) (c : Nat) (v : Vw) (r : Rg) (row col : Int) (h : Rows2 w w.heap.size A v.rows) (hT : Tabs w) (hc : v.rows.length ≤ c) :
    Calls Tryd.prog 3 #[v.val A c, r.val, .int .i64 row, .int .i64 col] w fun e w' => e = .returned (.bool true) ∧ Below w.heap.size w w' := by
  obtain ⟨W0, hW0, hbox, hs0, hvb, hrb⟩ := boxes2 w v A c r
  have HGr := hide (greatP W0 A c v ((h.below hbox).more hbox.size))
  have HA := hide (fun w1 (hb1 : Below w.heap.size w w1) => awakeP w1 (hT.below hb1))
  rw [hW0] at hbox hs0 hvb hrb HGr
  clear hW0
  simp only [World.size_alloc] at HGr
  cases hg : v.great with
  | true =>
    rw [hg] at HGr
    obtain ⟨k0, k1, k2, k3, k4, k5⟩ := hvb.cells
    clear h hT hvb hrb hg
    unfold Vw.val at HGr ⊢
    unfold Rg.val
    go_enter Tryd.func3, Tryd.ntmps3
    go_wp2_with (first
      | (go_at_call 10; refine HGr.out.mono ?_; rintro e w1 ⟨rfl, hb1⟩; have hbw := hbox.trans (hb1.mono (by omega)))
      | (go_at_call 11; refine (HA.out _ hbw).mono ?_; rintro e w2 ⟨rfl, hb2⟩)
      | fail)
    go_ret
    exact ⟨rfl, hbw.trans (hb2.mono hbw.size)⟩
  | false =>
    have htame := Vw.tame hg
    rw [hg] at HGr
    have HF := hide (fun (w1 : World) (hb1 : Below w.heap.size w w1) => cellTP w1 A c v r row col ((h.below hb1).more hb1.size) htame (hT.below hb1) hc)
    have HF2 := hide (fun (w1 : World) (hb1 : Below w.heap.size w w1) => cell24P w1 A c v r row col ((h.below hb1).more hb1.size) htame hc)
    have HG := hide (fun (w1 : World) (hb1 : Below w.heap.size w w1) => colsP w1 A c v r ((h.below hb1).more hb1.size) htame (hT.below hb1) hc)
    have HG2 := hide (fun (w1 : World) (hb1 : Below w.heap.size w w1) => cols24P w1 A c v r ((h.below hb1).more hb1.size) htame hc)
    have hcl := colsT_len v r
    obtain ⟨cs, hcs⟩ : ∃ cs, colsT v r = cs := ⟨_, rfl⟩
    obtain ⟨R, hR⟩ : ∃ R, cellT v r row col = R := ⟨_, rfl⟩
    rw [hcs] at hcl
    simp only [hcs] at HG HG2
    simp only [hR] at HF HF2
    obtain ⟨s, er⟩ := R
    dsimp only at HF HF2
    clear h hT hg htame hcs hR
    obtain ⟨k0, k1, k2, k3, k4, k5⟩ := hvb.cells
    obtain ⟨rk, ri, rp, rt, rl, rb, rr, rlb⟩ := r
    obtain ⟨r0, r1, r2, r3, r4, r5, r6, r7⟩ := hrb.cells
    dsimp only at r0 r1 r2 r3 r4 r5 r6 r7
    unfold Vw.val at HGr HF HF2 HG HG2 ⊢
    unfold Rg.val at HF HF2 HG HG2 ⊢
    dsimp only at HGr hbox hs0 hvb hrb
    have HS0 := hide (fun (W2 : World) (hb : Below (w.heap.size + 1 + 1) _ W2) => And.intro (hvb.below hb (by omega)).cells (hrb.below hb (by omega)).cells)
    go_enter Tryd.func3, Tryd.ntmps3
    go_wp2_with (first
      | (go_at_call 10; refine HGr.out.mono ?_; rintro e w1 ⟨rfl, hb1⟩; obtain ⟨⟨x0, x1, x2, x3, x4, x5⟩, y0, y1, y2, y3, y4, y5, y6, y7⟩ := HS0.out w1 hb1; have hbw1 := hbox.trans (hb1.mono (by omega)))
      | (go_at_call 12; refine (HF.out _ hbw1).mono ?_; rintro e w2 ⟨rfl, hb2⟩; have hb12 := hb1.trans (hb2.mono (by have := hb1.size; omega)); obtain ⟨⟨z0, z1, z2, z3, z4, z5⟩, u0, u1, u2, u3, u4, u5, u6, u7⟩ := HS0.out w2 hb12; have hbw2 := hbox.trans (hb12.mono (by omega)))
      | (go_at_call 13; refine (HF2.out _ hbw2).mono ?_; rintro e w3 ⟨rfl, hb3⟩; have hb13 := hb12.trans (hb3.mono (by have := hb12.size; omega)); obtain ⟨⟨t0, t1, t2, t3, t4, t5⟩, q0, q1, q2, q3, q4, q5, q6, q7⟩ := HS0.out w3 hb13; have hbw3 := hbox.trans (hb13.mono (by omega)))
      | fail)
    clear k0 k1 k2 k3 k4 k5 r0 r1 r2 r3 r4 r5 r6 r7 x0 x1 x2 x3 x4 x5 y0 y1 y2 y3 y4 y5 y6 y7 z0 z1 z2 z3 z4 z5 u0 u1 u2 u3 u4 u5 u6 u7 HF HF2 HGr
    have hbd := (Below.refl w3.heap.size w3).drew
    have hl3 : w.heap.size + 1 + 1 ≤ w3.heap.size := by have := hb13.size; omega
    have HS := hide (fun (W2 : World) (hb : Below w3.heap.size w3 W2) => HS0.out W2 (hb13.trans (hb.mono hl3)))
    have HB := hide (fun (W2 : World) (hb : Below w3.heap.size w3 W2) => hbw3.trans (hb.mono (by omega)))
    go_region_held3 (fun W2 => (W2.cell? ⟨w.heap.size, 0, none⟩ = some (.int .i64 v.width) ∧ W2.cell? ⟨w.heap.size, 1, none⟩ = some (.int .i64 v.height) ∧ W2.cell? ⟨w.heap.size, 2, none⟩ = some (.slice A v.rows.length c) ∧ W2.cell? ⟨w.heap.size, 3, none⟩ = some (.int .i64 v.row) ∧ W2.cell? ⟨w.heap.size, 4, none⟩ = some (.int .i64 v.col) ∧ W2.cell? ⟨w.heap.size, 5, none⟩ = some (.bool v.visible)) ∧
        W2.cell? ⟨w.heap.size + 1, 0, none⟩ = some (.int .i64 rk) ∧ W2.cell? ⟨w.heap.size + 1, 1, none⟩ = some (.int .i64 ri) ∧ W2.cell? ⟨w.heap.size + 1, 2, none⟩ = some (.int .i64 rp) ∧ W2.cell? ⟨w.heap.size + 1, 3, none⟩ = some (.int .i64 rt) ∧ W2.cell? ⟨w.heap.size + 1, 4, none⟩ = some (.int .i64 rl) ∧ W2.cell? ⟨w.heap.size + 1, 5, none⟩ = some (.int .i64 rb) ∧ W2.cell? ⟨w.heap.size + 1, 6, none⟩ = some (.int .i64 rr) ∧ W2.cell? ⟨w.heap.size + 1, 7, none⟩ = some (.string rlb))
      (first | exact HS.out _ hb8 | exact HS.out _ hb7 | exact HS.out _ hb6 | exact HS.out _ hb5 | exact HS.out _ hbd)
      (first
        | (go_at_call 15; refine (HG.out _ (HB.out _ hbd)).mono ?_; rintro e w5 ⟨vg, rfl, hown5, hbI⟩; have hb5 := hbd.trans (hbI.mono hbd.size))
        | (go_at_call 16; refine (HG2.out _ (HB.out _ hb5)).mono ?_; rintro e w6 ⟨vg2, rfl, hown6, hbJ⟩; have hb6 := hb5.trans (hbJ.mono hb5.size); have hown5b := own_below hown5 hbJ (Nat.le_refl _))
        | (go_at_call 14; refine (same24P w6 _ _ vg vg2 cs hown5b hown6 (by omega)).mono ?_; rintro e w7 ⟨rfl, hbK⟩; have hb7 := hb6.trans (hbK.mono hb6.size))
        | (go_at_call 11; refine (HA.out _ (HB.out _ hb7)).mono ?_; rintro e w8 ⟨rfl, hbL⟩; have hb8 := hb7.trans (hbL.mono hb7.size))
        | fail)
    all_goals
      go_wp2
      go_ret
      exact ⟨rfl, HB.out _ hb8⟩
end Go.Proofs.YtbbhkibbkecojaaDoor
