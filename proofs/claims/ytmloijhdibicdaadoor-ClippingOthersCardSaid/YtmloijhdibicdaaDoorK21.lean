/- Chapter 45: narratorref45.Word. -/
import Derived.Test.YtmloijhdibicdaaDoorK20
namespace Go.Proofs.YtmloijhdibicdaaDoor
open Go.RowKit Go.Shelf

set_option maxRecDepth 100000 in
set_option maxHeartbeats 1000000 in
theorem word45P (w : World) (A : Option Addr) (c : Nat) (v : Vw) (r k : Int) (h : Rows2 w w.heap.size A v.rows) (ht : v.Tame) :
    Calls Tryd.prog 18 #[v.val A c, .int .i64 r, .int .i64 k] w fun e w' => e = .returned (.tuple #[.string (wordT v r k), .int .i64 (wordE v r k)]) ∧ Below w.heap.size w w' := by
  have hbox := (Below.refl w.heap.size w).alloc (Nat.le_refl _) (.cells #[.int .i64 v.width, .int .i64 v.height, .slice A v.rows.length c, .int .i64 v.row, .int .i64 v.col, .bool v.visible] 24)
  have hvb : VwBox _ w.heap.size v A c := block_new w (.cells #[.int .i64 v.width, .int .i64 v.height, .slice A v.rows.length c, .int .i64 v.row, .int .i64 v.col, .bool v.visible] 24)
  obtain ⟨W0, hW0⟩ : ∃ W0, W0 = w.alloc (.cells #[.int .i64 v.width, .int .i64 v.height, .slice A v.rows.length c, .int .i64 v.row, .int .i64 v.col, .bool v.visible] 24) := ⟨_, rfl⟩
  have hs0 : W0.heap.size = w.heap.size + 1 := by rw [hW0]; simp
  rw [← hW0] at hbox hvb
  have HC := hide (check15 W0 A c v ((h.below hbox).more hbox.size) ht)
  have HP := hide (fun W1 => position45 W1 A c v r k)
  have HK := hide (fun w1 (hb1 : Below W0.heap.size W0 w1) => (hvb.below hb1 (by omega)).cells)
  have HR := hide (fun w1 (hb1 : Below W0.heap.size W0 w1) => (h.below (hbox.trans (hb1.mono hbox.size))).more (hbox.trans (hb1.mono hbox.size)).size)
  have HTm := hide (fun y (hy : y < v.rows.length) => rowOf_tame ht hy)
  have hways := wordWays v r k
  have Hok := hide (fun (h0 : v.err = 0) => (Vw.proper (show v.ok = true by unfold Vw.ok; rw [h0]; rfl)))
  have HIy := hide (fun w1 (hb1 : Below W0.heap.size W0 w1) (y : Nat) (hy : y < v.rows.length) (h0 : 0 ≤ k) (h1 : k ≤ 1000) => index45P w1 A c v y k ((h.below (hbox.trans (hb1.mono hbox.size))).more (hbox.trans (hb1.mono hbox.size)).size) ht hy h0 h1)
  obtain ⟨k0, k1, k2, k3, k4, k5⟩ := HK.out W0 (Below.refl _ _)
  have Hbox := hide hbox
  have h12 := ht.1
  clear h ht hbox hs0 hvb
  subst hW0
  unfold Vw.val at HC HP HIy ⊢
  obtain ⟨E, hE⟩ : ∃ E, wordE v r k = E := ⟨_, rfl⟩
  obtain ⟨T, hTT⟩ : ∃ T, wordT v r k = T := ⟨_, rfl⟩
  rw [hE, hTT] at hways ⊢
  clear hE hTT
  rcases hways with ⟨he, rfl, rfl⟩ | ⟨he, hp, rfl, rfl⟩ | ⟨he, hp, hsome, hnone⟩
  · obtain ⟨V, hV⟩ : ∃ V, v.err = V := ⟨_, rfl⟩
    rw [hV] at he HC ⊢
    clear hV HP HR HTm HK Hok HIy
    go_enter Tryd.func18, Tryd.ntmps18
    go_wp2_with (go_at_call 37; refine HC.out.mono ?_; rintro e w1 ⟨rfl, hb1⟩; have hbw := Hbox.out.trans (hb1.mono Hbox.out.size))
    go_ret2
    exact ⟨rfl, hbw⟩
  all_goals
    have Hpr := hide (Hok.out he)
    rw [he] at HC
    simp only [hp] at HP
    clear he Hok
  · clear HR HTm Hpr hp HIy
    go_enter Tryd.func18, Tryd.ntmps18
    go_wp2_with (first
      | (go_at_call 37; refine HC.out.mono ?_; rintro e w1 ⟨rfl, hb1⟩; obtain ⟨x0, x1, x2, x3, x4, x5⟩ := HK.out w1 hb1)
      | (go_at_call 38; refine (HP.out _).mono ?_; rintro e w2 ⟨rfl, hb2'⟩; have hb2 := hb1.trans (hb2'.mono hb1.size))
      | fail)
    go_ret2
    exact ⟨rfl, Hbox.out.trans (hb2.mono Hbox.out.size)⟩
  · obtain ⟨g1, g2, g3, g4⟩ := posB_of hp
    have hw2 := Hpr.out.w2
    have hlen := Hpr.out.len
    obtain ⟨y, rfl⟩ : ∃ y : Nat, r = y := ⟨r.toNat, by omega⟩
    rw [Int.toNat_natCast] at hsome hnone
    have hy : y < v.rows.length := by omega
    have hyI : (y : Int) < (v.rows.length : Int) := by omega
    have hy12 : y < 12 := by omega
    obtain ⟨bR, oR, rfl, hbR, -⟩ := (HR.out _ (Below.refl _ _)).get1 hy
    have HRow := hide (fun w1 (hb1 : Below _ _ w1) => (show ∃ A1 c1, w1.cell? ⟨bR, oR + y, none⟩ = some (.slice A1 (rowOf v y).length c1) ∧ (rowOf v y).length ≤ c1 ∧ GlRow w1 w1.heap.size A1 (rowOf v y) by
      obtain ⟨b', o', he, -, A1, c1, d0, d1, d2⟩ := (HR.out w1 hb1).get1 hy
      cases he
      rw [rowOf_get hy] at d0 d1 d2
      exact ⟨A1, c1, d0, d1, d2⟩))
    have HIx := hide (fun w1 hb1 => HIy.out w1 hb1 y hy g3 (by omega))
    obtain ⟨hl1, hl2⟩ := HTm.out y hy
    obtain ⟨row, hrow⟩ : ∃ row, rowOf v y = row := ⟨_, rfl⟩
    rw [hrow] at HRow hl1 hl2 hsome hnone HIx
    have Hl2 := hide hl2
    obtain ⟨rl, hrl⟩ : ∃ rl, row.length = rl := ⟨_, rfl⟩
    have Hrl := hide hrl
    obtain ⟨i0, hi0⟩ : ∃ i0, cidx row k = i0 := ⟨_, rfl⟩
    rw [hi0] at HIx
    rw [hi0, hrl] at hsome hnone
    obtain ⟨WS, hWS⟩ : ∃ WS, wordsTo (kindAt row) rl = WS := ⟨_, rfl⟩
    have HWS := hide hWS
    have hwb := words_bd (kindAt row) rl
    rw [hWS] at hwb
    have Hwb := hide hwb.2
    obtain ⟨n, hn⟩ : ∃ n, WS.length = n := ⟨_, rfl⟩
    have Hn := hide hn
    have hnl : n ≤ 140 := by omega
    have hrl140 : rl ≤ 140 := by omega
    have Hsome := hide (fun (j : Nat) (p : Nat × Nat) (hj : WS[j]? = some p) (hno : NoSpan WS i0 j) (hp : (decide (p.1 ≤ i0) && decide (i0 < p.2)) = true) => hsome p (by unfold wordAt; rw [hWS]; exact find_at _ _ j _ hj hno hp))
    have Hnone := hide (fun (hno : NoSpan WS i0 n) => hnone (by unfold wordAt; rw [hWS]; exact find_no _ _ fun j y hy => hno j y (by rw [← hn]; exact (List.getElem?_eq_some_iff.1 hy).1) hy))
    clear hsome hnone HTm Hpr hp hlen hrow hl2 hrl hi0 hWS hwb hn hy HIy
    go_enter Tryd.func18, Tryd.ntmps18
    go_wp2_with (first
      | (go_at_call 37; refine HC.out.mono ?_; rintro e w1 ⟨rfl, hb1⟩; obtain ⟨x0, x1, x2, x3, x4, x5⟩ := HK.out w1 hb1)
      | (go_at_call 38; refine (HP.out _).mono ?_; rintro e w2 ⟨rfl, hb2'⟩; have hb2 := hb1.trans (hb2'.mono hb1.size); obtain ⟨y0, y1, y2, y3, y4, y5⟩ := HK.out w2 hb2)
      | (go_at_call 39; refine (HIx.out w2 hb2).mono ?_; rintro e w3 ⟨rfl, hb3'⟩; have hb3 := hb2.trans (hb3'.mono hb2.size); obtain ⟨z0, z1, z2, z3, z4, z5⟩ := HK.out w3 hb3; obtain ⟨A1, c1, d0, d1, d2⟩ := HRow.out w3 hb3; have HWd := hide (words22P w3 A1 c1 row d2 (by omega)); rw [Hrl.out] at d0; rw [Hrl.out, HWS.out, Hn.out] at HWd; have Hd2 := hide d2; have Hd1 := hide d1; clear d1 d2)
      | (go_at_call 43; refine HWd.out.mono ?_; rintro e w4 ⟨vw, rfl, hown, hb4⟩; obtain ⟨A4, c4, rfl⟩ := own_form hown)
      | fail)
    have hb34 := hb3.trans (hb4.mono hb3.size)
    have d0' := (hb4.cell (p := ⟨bR, oR + y, none⟩) (World.block_lt_of_cell? w3 ⟨bR, oR + y, none⟩ d0)).trans d0
    clear x0 x1 x2 x3 x4 x5 y0 y1 y2 y3 y4 y5 z0 z1 z2 z3 z4 z5 k0 k1 k2 k3 k4 k5 HIx HWd HC HP d0
    obtain ⟨x0, x1, x2, x3, x4, x5⟩ := HK.out w4 hb34
    have hbW4 := Hbox.out.trans (hb34.mono Hbox.out.size)
    go_loop [11] (fun i => ∃ j : Nat, j ≤ n ∧ i = .int .i64 j ∧ NoSpan WS i0 j) (fun i => n - (intOf i).toNat)
    case atStart => exact ⟨0, Nat.zero_le _, rfl, fun j y hj => by omega⟩
    case round =>
      obtain ⟨j, hj, rfl, hno⟩ := hrel
      have Hno := hide hno
      clear hno
      by_cases hlt : j < n
      · have hjl : j < WS.length := by rw [Hn.out]; exact hlt
        have hge := List.getElem?_eq_getElem hjl
        obtain ⟨⟨p1, p2⟩, hp⟩ : ∃ p, WS[j] = p := ⟨_, rfl⟩
        rw [hp] at hge
        have hpb := Hwb.out _ (List.mem_of_getElem? hge)
        dsimp only at hpb
        obtain ⟨gS, d4, he4, -, hgS⟩ := own_form1 hown (by omega)
        cases he4
        have s0 := (hown.cellAt (j * 2) (by omega)).trans (by simpa using flat_get (enc := spanV) (sz := 2) (fun _ => rfl) WS j _ 0 (.int .i64 p1) hge rfl)
        have s1 := (hown.cellAt (j * 2 + 1) (by omega)).trans (flat_get (enc := spanV) (sz := 2) (fun _ => rfl) WS j _ 1 (.int .i64 p2) hge rfl)
        have Hge := hide hge
        have hjI : (j : Int) < (n : Int) := by omega
        clear hp hge
        rcases (show (decide (p1 ≤ i0) = true ∧ decide (i0 < p2) = true ∧ (decide (p1 ≤ i0) && decide (i0 < p2)) = true) ∨ (decide (p1 ≤ i0) = false ∧ (decide (p1 ≤ i0) && decide (i0 < p2)) = false) ∨ (decide (p1 ≤ i0) = true ∧ decide (i0 < p2) = false ∧ (decide (p1 ≤ i0) && decide (i0 < p2)) = false) by
          by_cases h1 : p1 ≤ i0 <;> by_cases h2 : i0 < p2 <;> simp [h1, h2]) with ⟨t1, t2, t3⟩ | ⟨t1, t3⟩ | ⟨t1, t2, t3⟩
        · obtain ⟨hEE, hTT⟩ := Hsome.out j _ Hge.out Hno.out t3
          dsimp only at hTT
          obtain ⟨A', c', hrun, hrow'⟩ := cutRow Hd2.out Hd1.out (show p1 ≤ p2 by omega) (show p2 ≤ row.length by rw [Hrl.out]; omega)
          have hcl : ((row.take p2).drop p1).length = p2 - p1 := by rw [List.length_drop, List.length_take, Hrl.out]; omega
          have HTx := hide (fun n => Calls.quiet_of_same ((text15 (w4.drewN n) A' c' ((row.take p2).drop p1) ((hrow'.below (GlAt.stays _) (below_drewN hb4 n)).more (below_drewN hb4 n).size) (by rw [hcl]; omega) (fun g hg => by have := Hl2.out g (List.mem_of_mem_take (List.mem_of_mem_drop hg)); omega)).mono fun e w' h => ⟨h.1, h.2.symm⟩))
          rw [hcl, ← hTT] at HTx
          rw [Hrl.out] at hrun
          subst hEE
          clear hrow' hcl hTT t3
          go_wp2
          go_quiet ((go_at_call 41; with_reducible exact HTx.out _))
          go_wp2
          go_ret2
          exact ⟨rfl, below_drewN hbW4 _⟩
        all_goals
          have Hno2 := hide (Hno.out.succ Hge.out t3)
          clear t3
          go_wp2
          go_round
          case rel => exact ⟨j + 1, by omega, by go_num, Hno2.out⟩
          case measure => simp [intOf]; omega
      · obtain rfl : j = n := by omega
        obtain ⟨hEE, hTT⟩ := Hnone.out Hno.out
        subst hEE hTT
        go_wp2
        go_ret2
        exact ⟨rfl, hbW4⟩
end Go.Proofs.YtmloijhdibicdaaDoor
