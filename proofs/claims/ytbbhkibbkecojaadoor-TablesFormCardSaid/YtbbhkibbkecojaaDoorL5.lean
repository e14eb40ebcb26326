/- The walk of the law TablesGutters. -/
import Derived.Test.YtbbhkibbkecojaaDoorL4
import Derived.Test.YtbbhkibbkecojaaDoorT14
namespace Go.Proofs.YtbbhkibbkecojaaDoor
open Go.RowKit

theorem gut_start (rows : List (List Gl)) (t c : Nat) : gut rows t t c = true := by unfold gut rowsIn allB; simp
theorem gut_snoc (rows : List (List Gl)) (t b : Nat) (ht : t ≤ b) (hb : b < rows.length) (c : Nat) : gut rows t (b + 1) c = (gut rows t b c && gut rows b (b + 1) c) := by
  have e : rowsIn rows t (b + 1) = rowsIn rows t b ++ rowsIn rows b (b + 1) := by
    unfold rowsIn
    rw [show b + 1 - t = (b - t) + 1 by omega, show b + 1 - b = 1 by omega]
    rw [List.take_succ_eq_append_getElem (by rw [List.length_drop]; omega), List.getElem_drop, List.drop_eq_getElem_cons hb]
    congr 1
    simp only [List.take_succ_cons, List.take_zero]
    congr 2
    omega
  unfold gut allB
  rw [e, List.all_append]
theorem gutT_yes {v : Vw} {W t b : Nat} (hok : v.ok = true) (hW : v.width = W) (h1 : t < b) (h2 : b ≤ v.rows.length) : gutT v t b = bits W (gut v.rows t b) := by
  unfold gutT
  rw [valid24_of hok h1 h2, if_pos rfl, hW]
  simp

theorem vb_cells {w : World} {b : Nat} {v0 v1 v2 v3 v4 v5 : Value} {t : TypeId} (h : w.heap[b]? = some (.cells #[v0, v1, v2, v3, v4, v5] t (0, 0))) : w.cell? ⟨b, 0, none⟩ = some v0 ∧ w.cell? ⟨b, 1, none⟩ = some v1 ∧
    w.cell? ⟨b, 2, none⟩ = some v2 ∧ w.cell? ⟨b, 3, none⟩ = some v3 ∧ w.cell? ⟨b, 4, none⟩ = some v4 ∧ w.cell? ⟨b, 5, none⟩ = some v5 :=
  ⟨cell_block h 0, cell_block h 1, cell_block h 2, cell_block h 3, cell_block h 4, cell_block h 5⟩
set_option maxRecDepth 100000 in
set_option maxHeartbeats 4000000 in
theorem guttersLawP (w : World) (A : Option Addr) (c : Nat) (v : Vw) (h : Rows2 w w.heap.size A v.rows) (hT : Tabs w) (hc : v.rows.length ≤ c) (a b : Nat) (ha : a < 256) (hb : b < 256) :
    Calls Tryd.prog 7 #[v.val A c, .int .u8 a, .int .u8 b] w fun e w' => e = .returned (.bool true) ∧ Below w.heap.size w w' := by
  have hbox := (Below.refl w.heap.size w).alloc (Nat.le_refl _) (.cells #[.int .i64 v.width, .int .i64 v.height, .slice A v.rows.length c, .int .i64 v.row, .int .i64 v.col, .bool v.visible] 24)
  have hvb : VwBox _ w.heap.size v A c := block_new w (.cells #[.int .i64 v.width, .int .i64 v.height, .slice A v.rows.length c, .int .i64 v.row, .int .i64 v.col, .bool v.visible] 24)
  have HS := hide (smallP _ A c v ((h.below hbox).more hbox.size))
  have HA := hide (fun w1 (hb1 : Below w.heap.size w w1) => awakeP w1 (hT.below hb1))
  cases hsm : smallB v with
  | false =>
    rw [hsm] at HS
    clear h hT hvb hsm
    unfold Vw.val at HS ⊢
    go_enter Tryd.func7, Tryd.ntmps7
    go_wp2_with (first
      | (go_at_call 17; refine HS.out.mono ?_; rintro e w1 ⟨rfl, hb1⟩; have hbw := hbox.trans (hb1.mono (by simp)))
      | (go_at_call 11; refine (HA.out _ hbw).mono ?_; rintro e w2 ⟨rfl, hb2⟩)
      | fail)
    go_ret
    exact ⟨rfl, hbw.trans (hb2.mono hbw.size)⟩
  | true =>
    have hgo : v.great = false ∧ v.ok = true := by unfold smallB at hsm; simpa using hsm
    obtain ⟨hg, hok⟩ := hgo
    have htame := Vw.tame hg
    have hpr := Vw.proper hok
    have hni := Vw.nice htame hok
    rw [hsm] at HS
    obtain ⟨W, hW⟩ : ∃ W : Nat, v.width = W := ⟨_, hni.width⟩
    have hW1 : 1 ≤ W ∧ W ≤ 200 := by have := hni.w1; have := hni.w2; rw [hW] at *; simp at *; omega
    obtain ⟨n, hn⟩ : ∃ n, v.rows.length = n := ⟨_, rfl⟩
    have hht : v.height = n := by rw [← hn]; exact hni.height
    have hn1 : 1 ≤ n ∧ n ≤ 12 := by have := hpr.h1; have := htame.1; omega
    obtain ⟨t, ht⟩ : ∃ t : Nat, (a : Int) % (n : Int) = (t : Int) := ⟨a % n, by rw [Int.natCast_emod]⟩
    have htn : t < n := by have := Int.emod_lt_of_pos (a : Int) (show (0 : Int) < n by omega); omega
    obtain ⟨u, hu⟩ : ∃ u : Nat, (b : Int) % ((n : Int) - (t : Int)) = (u : Int) := ⟨((b : Int) % ((n : Int) - (t : Int))).toNat, by have := Int.emod_nonneg (b : Int) (show ((n : Int) - (t : Int)) ≠ 0 by omega); omega⟩
    have hun : u < n - t := by have := Int.emod_lt_of_pos (b : Int) (show (0 : Int) < (n : Int) - t by omega); omega
    obtain ⟨B, hB⟩ : ∃ B : Nat, (t : Int) + 1 + (u : Int) = (B : Int) := ⟨t + 1 + u, by omega⟩
    have htB : t < B ∧ B ≤ n := by omega
    have HG := hide (fun (w1 : World) (hb1 : Below w.heap.size w w1) (x y : Nat) (h1 : x < y) (h2 : y ≤ n) => (gutP w1 A c v x y ((h.below hb1).more hb1.size) htame (hT.below hb1) hc).mono fun e w' h => (show ∃ vv, e = .returned vv ∧ w'.ownsRow w1.heap.size 4 1 vv W ((bits W (gut v.rows x y)).map .bool) ∧ Below w1.heap.size w1 w' by
      rw [gutT_yes hok hW h1 (by omega), bits_length] at h; exact h))
    have Hsn := hide (fun (b : Nat) (h1 : t ≤ b) (h2 : b < n) (c : Nat) => gut_snoc v.rows t b h1 (by omega) c)
    clear h hT hsm hok hg htame hpr hni
    have Hvb := hide hvb
    clear hvb
    unfold VwBox at Hvb
    obtain ⟨width, height, rows, row, col, vis⟩ := v
    dsimp only at hW hht hn hc HS HG Hsn Hvb hbox
    subst hW hht
    unfold Vw.val at HS HG ⊢
    dsimp only at HS HG ⊢
    rw [hn] at HS HG hbox Hvb ⊢
    have Hn := hide hn
    clear hn
    go_enter Tryd.func7, Tryd.ntmps7
    go_wp2_with fail
    refine HS.out.mono ?_
    rintro e w1 ⟨rfl, hb1⟩
    have hbw := hbox.trans (hb1.mono (by simp))
    have hvb1 := block_below Hvb.out hb1 (by simp)
    obtain ⟨k0, k1, k2, k3, k4, k5⟩ := vb_cells hvb1
    go_wp2_with fail
    refine (HG.out _ hbw t B htB.1 htB.2).mono ?_
    rintro e w2 ⟨vv, rfl, hown, hb2⟩
    obtain ⟨g, cap, rfl, hgo, hgl⟩ := own_form1 hown (by omega)
    have hbw2 := hbw.trans (hb2.mono hbw.size)
    have hs1 : w.heap.size < w1.heap.size := by have := hb1.size; simp at this; omega
    have hs2 : w.heap.size < w2.heap.size := by have := hb2.size; omega
    have hvb2 := block_below hvb1 hb2 hs1
    obtain ⟨q0, q1, q2, q3, q4, q5⟩ := vb_cells hvb2
    go_wp2
    have HG2 := hide (fun wr (hb : Below w2.heap.size w2 wr) => HG.out wr (hbw2.trans (hb.mono hbw2.size)))
    have HA2 := hide (fun wr (hb : Below w2.heap.size w2 wr) => HA.out wr (hbw2.trans (hb.mono hbw2.size)))
    have Hcell := hide (fun wr (hb : Below w2.heap.size w2 wr) k (hk : k < W) => (hb.cell (p := ⟨g, k, none⟩) hgl).trans ((hown.cellAt k (by omega)).trans (bits_get W (gut rows t B) hk)))
    have Hvb2 := hide hvb2
    clear hvb1 hvb2 k0 k1 k2 k3 k4 k5 q0 q1 q2 q3 q4 q5 hown hb1 hb2 hbw HA HG HS Hvb ht hu hB
    go_loopw [44] (fun i wr => ∃ k : Nat, k ≤ W ∧ i = .int .i64 k ∧ Below w2.heap.size w2 wr) (fun i _ => W - (intOf i).toNat)
    case atStart => exact ⟨0, Nat.zero_le _, rfl, Below.refl _ _⟩
    case round =>
      rename World => wo
      obtain ⟨k, hk, rfl, hbo⟩ := hrel
      have hso := hbo.size
      by_cases hlt : k < W
      · have hltk : (k : Int) < (W : Int) := by omega
        go_wp2
        go_loopw [11, 12] (fun is i wr => ∃ r : Nat, (t ≤ r ∧ r ≤ B) ∧ i = .int .i64 r ∧ is = .bool (gut rows t r k) ∧ Below w2.heap.size w2 wr) (fun _ i _ => B - (intOf i).toNat)
        case atStart => exact ⟨t, by omega, rfl, by rw [gut_start], hbo⟩
        case round =>
          clear hbo hso
          obtain ⟨r, hr, rfl, rfl, hbi⟩ := hrel
          have hsi := hbi.size
          obtain ⟨x0, x1, x2, x3, x4, x5⟩ := vb_cells (block_below Hvb2.out hbi (by omega))
          by_cases hlr : r < B
          · have Hst := hide (Hsn.out r hr.1 (by omega) k)
            have HGr := hide (HG2.out wr hbi r (r + 1) (by omega) (by omega))
            have hcast : ((r + 1 : Nat) : Int) = (r : Int) + 1 := by omega
            rw [hcast] at HGr
            have hltr : (r : Int) < (B : Int) := by omega
            clear hcast
            obtain ⟨z, hz⟩ : ∃ z, gut rows t r k = z := ⟨_, rfl⟩
            rw [hz] at Hst ⊢
            obtain ⟨y, hy⟩ : ∃ y, gut rows r (r + 1) k = y := ⟨_, rfl⟩
            rw [hy] at Hst
            have Hy := hide hy
            clear hz hy
            cases z
            all_goals
              go_wp2_with (first
                | (go_at_call 22; refine HGr.out.mono ?_; rintro e w4 ⟨vv, rfl, hown, hb4⟩; obtain ⟨g4, cap4, rfl, hgo4, hgl4⟩ := own_form1 hown (by omega); have hb24 := hbi.trans (hb4.mono hsi); have y4 := (hown.cellAt k (by omega)).trans ((bits_get W (gut rows r (r + 1)) hlt).trans (congrArg (fun b => some (Value.bool b)) Hy.out)))
                | fail)
              go_roundw
              case rel => exact ⟨r + 1, by omega, by go_num, by rw [Hst.out]; first | rfl | simp, hb24⟩
              case measure => simp [intOf]; omega
          · obtain rfl : r = B := by omega
            have z4 := Hcell.out wr hbi k hlt
            clear x0 x1 x2 x3 x4 x5
            go_wp2
            go_roundw
            case rel => exact ⟨k + 1, by omega, by go_num, hbi⟩
            case measure => simp [intOf]; omega
      · go_wp2_with (go_at_call 11; refine (HA2.out _ hbo).mono ?_; rintro e w5 ⟨rfl, hb5⟩)
        go_ret
        exact ⟨rfl, (hbw2.trans (hbo.mono hbw2.size)).trans (hb5.mono (by have := hbw2.size; omega))⟩
end Go.Proofs.YtbbhkibbkecojaaDoor
