/- Progress: narratorref27.Same (equal lists); the walk of the law ProgressFind. -/
import Derived.Test.YtalmbcelkllpjaaDoorW16
import Derived.Test.YtalmbcelkllpjaaDoorW18
import Derived.Deep.RegionHeld3
namespace Go.Proofs.YtalmbcelkllpjaaDoor
open Go.RowKit

set_option maxHeartbeats 2000000 in
theorem same27P (w : World) (b1 b2 : Nat) (v1 v2 : Value) (l : List Rg) (h1 : w.ownsRow b1 43 8 v1 l.length (l.flatMap Rg.enc)) (h2 : w.ownsRow b2 43 8 v2 l.length (l.flatMap Rg.enc)) (hl : l.length ≤ 1000) :
    Calls Tryd.prog 20 #[v1, v2] w fun e w' => e = .returned (.bool true) ∧ Below w.heap.size w w' := by
  obtain ⟨A1, c1, rfl⟩ := own_form h1
  obtain ⟨A2, c2, rfl⟩ := own_form h2
  have H1 := hide h1
  have H2 := hide h2
  clear h1 h2
  obtain ⟨n, hn⟩ : ∃ n, l.length = n := ⟨_, rfl⟩
  rw [hn] at H1 H2 hl ⊢
  have Hn := hide hn
  clear hn
  go_enter Tryd.func20, Tryd.ntmps20
  go_wp2
  go_loopw [5] (fun i wr => ∃ k : Nat, k ≤ n ∧ i = .int .i64 k ∧ Below w.heap.size w wr) (fun i _ => n - (intOf i).toNat)
  case atStart => exact ⟨0, Nat.zero_le _, rfl, Below.refl _ _⟩
  case round =>
    rename World => wo
    obtain ⟨k, hk, rfl, hb⟩ := hrel
    by_cases hlt : k < n
    · obtain ⟨g1, d1, he1, -, hg1⟩ := own_form1 H1.out (by omega)
      obtain ⟨g2, d2, he2, -, hg2⟩ := own_form1 H2.out (by omega)
      cases he1
      cases he2
      obtain ⟨x, hx⟩ : ∃ x, l[k]? = some x := ⟨_, List.getElem?_eq_getElem (by rw [Hn.out]; exact hlt)⟩
      have hf : ∀ j u, (Rg.enc x)[j]? = some u → wo.cell? ⟨g1, k * 8 + j, none⟩ = some u ∧ wo.cell? ⟨g2, k * 8 + j, none⟩ = some u := fun j u hu => by
        have hj : j < 8 := (List.getElem?_eq_some_iff.1 hu).1
        have hfl := flat_get (enc := Rg.enc) (sz := 8) (fun _ => rfl) l k x j u hx hu
        exact ⟨by rw [hb.cell (p := ⟨g1, k * 8 + j, none⟩) hg1, H1.out.cellAt (k * 8 + j) (by omega), hfl], by rw [hb.cell (p := ⟨g2, k * 8 + j, none⟩) hg2, H2.out.cellAt (k * 8 + j) (by omega), hfl]⟩
      obtain ⟨x0, y0⟩ := hf 0 _ rfl
      obtain ⟨x1, y1⟩ := hf 1 _ rfl
      obtain ⟨x2, y2⟩ := hf 2 _ rfl
      obtain ⟨x3, y3⟩ := hf 3 _ rfl
      obtain ⟨x4, y4⟩ := hf 4 _ rfl
      obtain ⟨x5, y5⟩ := hf 5 _ rfl
      obtain ⟨x6, y6⟩ := hf 6 _ rfl
      obtain ⟨x7, y7⟩ := hf 7 _ rfl
      rw [Nat.add_zero] at x0 y0
      have hltn : (k : Int) < (n : Int) := by omega
      obtain ⟨xk, xi, xp, xt, xl, xb, xr, xlb⟩ := x
      dsimp only at x0 x1 x2 x3 x4 x5 x6 x7 y0 y1 y2 y3 y4 y5 y6 y7
      clear hx hf
      have hbd := hb.drew
      go_wp2
      go_region_held3 (fun W2 => W2.cell? ⟨g1, k * 8, none⟩ = some (.int .i64 xk) ∧ W2.cell? ⟨g1, k * 8 + 1, none⟩ = some (.int .i64 xi) ∧ W2.cell? ⟨g1, k * 8 + 2, none⟩ = some (.int .i64 xp) ∧ W2.cell? ⟨g1, k * 8 + 3, none⟩ = some (.int .i64 xt) ∧ W2.cell? ⟨g1, k * 8 + 4, none⟩ = some (.int .i64 xl) ∧
        W2.cell? ⟨g1, k * 8 + 5, none⟩ = some (.int .i64 xb) ∧ W2.cell? ⟨g1, k * 8 + 6, none⟩ = some (.int .i64 xr) ∧ W2.cell? ⟨g1, k * 8 + 7, none⟩ = some (.string xlb) ∧
        W2.cell? ⟨g2, k * 8, none⟩ = some (.int .i64 xk) ∧ W2.cell? ⟨g2, k * 8 + 1, none⟩ = some (.int .i64 xi) ∧ W2.cell? ⟨g2, k * 8 + 2, none⟩ = some (.int .i64 xp) ∧ W2.cell? ⟨g2, k * 8 + 3, none⟩ = some (.int .i64 xt) ∧ W2.cell? ⟨g2, k * 8 + 4, none⟩ = some (.int .i64 xl) ∧
        W2.cell? ⟨g2, k * 8 + 5, none⟩ = some (.int .i64 xb) ∧ W2.cell? ⟨g2, k * 8 + 6, none⟩ = some (.int .i64 xr) ∧ W2.cell? ⟨g2, k * 8 + 7, none⟩ = some (.string xlb)) (go_keep) (fail)
      go_wp2
      go_roundw
      case rel => exact ⟨k + 1, by omega, by go_num, hbd⟩
      case measure => simp [intOf]; omega
    · obtain rfl : k = n := by omega
      go_wp2
      go_ret
      exact ⟨rfl, hb⟩


set_option maxRecDepth 100000 in
set_option maxHeartbeats 4000000 in
theorem findLawP (w : World) (A : Option Addr) (c : Nat) (v : Vw) (r : Rg) (h : Rows2 w w.heap.size A v.rows) (hT : Tabs27 w) :
    Calls Tryd.prog 9 #[v.val A c, r.val] w fun e w' => e = .returned (.bool true) ∧ Below w.heap.size w w' := by
  obtain ⟨W0, hW0, hbox, hs0, hvb, hrb⟩ := boxes2 w v A c r
  have HGr := hide (greatP W0 A c v ((h.below hbox).more hbox.size))
  have HA := hide (fun w1 (hb1 : Below w.heap.size w w1) => awakeP w1 (hT.below hb1))
  rw [hW0] at hbox hs0 hvb hrb HGr
  clear hW0
  simp only [World.size_alloc] at HGr
  cases hg : v.great with
  | true =>
    rw [hg] at HGr
    obtain ⟨k0, k1, k2, k3, k4, k5⟩ := hvb.cells
    clear h hT hvb hrb hg
    unfold Vw.val at HGr ⊢
    unfold Rg.val
    go_enter Tryd.func9, Tryd.ntmps9
    go_wp2_with (first
      | (go_at_call 17; refine HGr.out.mono ?_; rintro e w1 ⟨rfl, hb1⟩; have hbw := hbox.trans (hb1.mono (by omega)))
      | (go_at_call 11; refine (HA.out _ hbw).mono ?_; rintro e w2 ⟨rfl, hb2⟩)
      | fail)
    go_ret
    exact ⟨rfl, hbw.trans (hb2.mono hbw.size)⟩
  | false =>
    have htame := Vw.tame hg
    rw [hg] at HGr
    have HF := hide (fun (w1 : World) (hb1 : Below w.heap.size w w1) => valueP w1 A c v r ((h.below hb1).more hb1.size) htame (hT.below hb1))
    have HF2 := hide (fun (w1 : World) (hb1 : Below w.heap.size w w1) => value27 w1 A c v r ((h.below hb1).more hb1.size) htame)
    have HG := hide (fun (w1 : World) (hb1 : Below w.heap.size w w1) => findP w1 A c v ((h.below hb1).more hb1.size) htame (hT.below hb1))
    have HG2 := hide (fun (w1 : World) (hb1 : Below w.heap.size w w1) => find27 w1 A c v ((h.below hb1).more hb1.size) htame)
    have hcl := Nat.le_trans (progT_len v) htame.1
    obtain ⟨cs, hcs⟩ : ∃ cs, progT v = cs := ⟨_, rfl⟩
    obtain ⟨R, hR⟩ : ∃ R, valV v r = R := ⟨_, rfl⟩
    rw [hcs] at hcl
    simp only [hcs] at HG HG2
    simp only [hR] at HF HF2
    obtain ⟨s, er⟩ := R
    dsimp only at HF HF2
    clear h hT hg htame hcs hR
    obtain ⟨k0, k1, k2, k3, k4, k5⟩ := hvb.cells
    obtain ⟨rk, ri, rp, rt, rl, rb, rr, rlb⟩ := r
    obtain ⟨r0, r1, r2, r3, r4, r5, r6, r7⟩ := hrb.cells
    dsimp only at r0 r1 r2 r3 r4 r5 r6 r7
    unfold Vw.val at HGr HF HF2 HG HG2 ⊢
    unfold Rg.val at HF HF2 ⊢
    dsimp only at HGr hbox hs0 hvb hrb HF HF2
    have HS0 := hide (fun (W2 : World) (hb : Below (w.heap.size + 1 + 1) _ W2) => And.intro (hvb.below hb (by omega)).cells (hrb.below hb (by omega)).cells)
    go_enter Tryd.func9, Tryd.ntmps9
    go_wp2_with (first
      | (go_at_call 17; refine HGr.out.mono ?_; rintro e w1 ⟨rfl, hb1⟩; obtain ⟨⟨x0, x1, x2, x3, x4, x5⟩, y0, y1, y2, y3, y4, y5, y6, y7⟩ := HS0.out w1 hb1; have hbw1 := hbox.trans (hb1.mono (by omega)))
      | (go_at_call 21; refine (HF.out _ hbw1).mono ?_; rintro e w2 ⟨rfl, hb2⟩; have hb12 := hb1.trans (hb2.mono (by have := hb1.size; omega)); obtain ⟨⟨z0, z1, z2, z3, z4, z5⟩, u0, u1, u2, u3, u4, u5, u6, u7⟩ := HS0.out w2 hb12; have hbw2 := hbox.trans (hb12.mono (by omega)))
      | (go_at_call 22; refine (HF2.out _ hbw2).mono ?_; rintro e w3 ⟨rfl, hb3⟩; have hb13 := hb12.trans (hb3.mono (by have := hb12.size; omega)); obtain ⟨⟨t0, t1, t2, t3, t4, t5⟩, q0, q1, q2, q3, q4, q5, q6, q7⟩ := HS0.out w3 hb13; have hbw3 := hbox.trans (hb13.mono (by omega)))
      | fail)
    clear k0 k1 k2 k3 k4 k5 r0 r1 r2 r3 r4 r5 r6 r7 x0 x1 x2 x3 x4 x5 y0 y1 y2 y3 y4 y5 y6 y7 z0 z1 z2 z3 z4 z5 u0 u1 u2 u3 u4 u5 u6 u7 HF HF2 HGr
    have hbd := (Below.refl w3.heap.size w3).drew
    have hl3 : w.heap.size + 1 + 1 ≤ w3.heap.size := by have := hb13.size; omega
    have HS := hide (fun (W2 : World) (hb : Below w3.heap.size w3 W2) => HS0.out W2 (hb13.trans (hb.mono hl3)))
    have HB := hide (fun (W2 : World) (hb : Below w3.heap.size w3 W2) => hbw3.trans (hb.mono (by omega)))
    go_region_held3 (fun W2 => (W2.cell? ⟨w.heap.size, 0, none⟩ = some (.int .i64 v.width) ∧ W2.cell? ⟨w.heap.size, 1, none⟩ = some (.int .i64 v.height) ∧ W2.cell? ⟨w.heap.size, 2, none⟩ = some (.slice A v.rows.length c) ∧ W2.cell? ⟨w.heap.size, 3, none⟩ = some (.int .i64 v.row) ∧ W2.cell? ⟨w.heap.size, 4, none⟩ = some (.int .i64 v.col) ∧ W2.cell? ⟨w.heap.size, 5, none⟩ = some (.bool v.visible)) ∧
        W2.cell? ⟨w.heap.size + 1, 0, none⟩ = some (.int .i64 rk) ∧ W2.cell? ⟨w.heap.size + 1, 1, none⟩ = some (.int .i64 ri) ∧ W2.cell? ⟨w.heap.size + 1, 2, none⟩ = some (.int .i64 rp) ∧ W2.cell? ⟨w.heap.size + 1, 3, none⟩ = some (.int .i64 rt) ∧ W2.cell? ⟨w.heap.size + 1, 4, none⟩ = some (.int .i64 rl) ∧ W2.cell? ⟨w.heap.size + 1, 5, none⟩ = some (.int .i64 rb) ∧ W2.cell? ⟨w.heap.size + 1, 6, none⟩ = some (.int .i64 rr) ∧ W2.cell? ⟨w.heap.size + 1, 7, none⟩ = some (.string rlb))
      (first | exact HS.out _ hb8 | exact HS.out _ hb7 | exact HS.out _ hb6 | exact HS.out _ hb5 | exact HS.out _ hbd)
      (first
        | (go_at_call 19; refine (HG.out _ (HB.out _ hbd)).mono ?_; rintro e w5 ⟨vg, rfl, hown5, hbI⟩; have hb5 := hbd.trans (hbI.mono hbd.size))
        | (go_at_call 23; refine (HG2.out _ (HB.out _ hb5)).mono ?_; rintro e w6 ⟨vg2, rfl, hown6, hbJ⟩; have hb6 := hb5.trans (hbJ.mono hb5.size); have hown5b := own_below hown5 hbJ (Nat.le_refl _))
        | (go_at_call 20; refine (same27P w6 _ _ vg vg2 cs hown5b hown6 (by omega)).mono ?_; rintro e w7 ⟨rfl, hbK⟩; have hb7 := hb6.trans (hbK.mono hb6.size))
        | (go_at_call 11; refine (HA.out _ (HB.out _ hb7)).mono ?_; rintro e w8 ⟨rfl, hbL⟩; have hb8 := hb7.trans (hbL.mono hb7.size))
        | fail)
    all_goals
      go_wp2
      go_ret
      exact ⟨rfl, HB.out _ hb8⟩
end Go.Proofs.YtalmbcelkllpjaaDoor
