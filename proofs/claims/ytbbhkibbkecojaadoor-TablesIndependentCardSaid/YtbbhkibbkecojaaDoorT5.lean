/- Tables: narratorref24.Gutters. -/
import Derived.Test.YtbbhkibbkecojaaDoorT4
namespace Go.Proofs.YtbbhkibbkecojaaDoor
open Go.RowKit

theorem sizedB_of {a b : Int} (h : sizedB a b = true) : 1 ≤ a ∧ a ≤ 132 ∧ 1 ≤ b ∧ b ≤ 60 := by
  unfold sizedB at h; simp at h; omega
theorem rowErr_width {width : Int} {l : List Gl} (h : rowErr width l = 0) : (widthOf l : Int) ≤ width := by
  unfold rowErr at h
  by_cases h1 : firstErr glErr l = 0
  · rw [if_neg (by simp [h1])] at h
    by_cases h2 : width < widthOf l
    · rw [if_pos h2] at h; omega
    · omega
  · rw [if_pos h1] at h; exact absurd h h1
structure Vw.Proper (v : Vw) : Prop where
  w1 : 1 ≤ v.width
  w2 : v.width ≤ 132
  h1 : 1 ≤ v.height
  h2 : v.height ≤ 60
  len : (v.rows.length : Int) = v.height
  cur : v.curB = false
  rows : ∀ r ∈ v.rows, rowErr v.width r = 0
theorem Vw.proper {v : Vw} (h : v.ok = true) : v.Proper := by
  unfold Vw.ok Vw.err at h
  rw [beq_iff_eq] at h
  cases h0 : sizedB v.width v.height with
  | false => rw [if_pos h0] at h; omega
  | true =>
    rw [if_neg (by simp [h0])] at h
    by_cases h1 : (v.rows.length : Int) = v.height
    · rw [if_neg (by simp [h1])] at h
      cases h2 : v.curB with
      | true => rw [if_pos h2] at h; omega
      | false =>
        rw [if_neg (by simp [h2])] at h
        obtain ⟨a1, a2, a3, a4⟩ := sizedB_of h0
        exact ⟨a1, a2, a3, a4, h1, h2, firstErr_zero h⟩
    · rw [if_pos h1] at h; omega

theorem gutters24_no (w : World) (A : Option Addr) (c : Nat) (v : Vw) (t b : Int) (h : Rows2 w w.heap.size A v.rows) (ht : v.Tame) (hv : valid24 v t b = false) :
    Calls Tryd.prog 23 #[v.val A c, .int .i64 t, .int .i64 b] w fun e w' => e = .returned (.slice none 0 0) ∧ Below w.heap.size w w' := by
  have hbox := (Below.refl w.heap.size w).alloc (Nat.le_refl _) (.cells #[.int .i64 v.width, .int .i64 v.height, .slice A v.rows.length c, .int .i64 v.row, .int .i64 v.col, .bool v.visible] 24)
  have HC := hide (valid24P _ A c v t b ((h.below hbox).more hbox.size) ht)
  clear h
  rw [hv] at HC
  unfold Vw.val at HC ⊢
  go_enter Tryd.func23, Tryd.ntmps23
  go_wp2_with (go_at_call 36; refine HC.out.mono ?_; rintro e w1 ⟨rfl, hb1⟩)
  go_ret
  exact ⟨rfl, hbox.trans (hb1.mono (by simp))⟩

set_option maxRecDepth 100000 in
set_option maxHeartbeats 4000000 in
theorem gutters24_yes (w : World) (A : Option Addr) (c : Nat) (v : Vw) (W t b : Nat) (h : Rows2 w w.heap.size A v.rows) (ht : v.Tame) (hv : valid24 v t b = true) (hW : v.width = W) (hc : v.rows.length ≤ c) :
    Calls Tryd.prog 23 #[v.val A c, .int .i64 t, .int .i64 b] w fun e w' => ∃ g cap, e = .returned (.slice (some ⟨g, 0, none⟩) W cap) ∧ w'.ownsRow w.heap.size 4 1 (.slice (some ⟨g, 0, none⟩) W cap) W ((bits W (gut v.rows t b)).map .bool) ∧ Below w.heap.size w w' := by
  have hbox := (Below.refl w.heap.size w).alloc (Nat.le_refl _) (.cells #[.int .i64 v.width, .int .i64 v.height, .slice A v.rows.length c, .int .i64 v.row, .int .i64 v.col, .bool v.visible] 24)
  have HC := hide (valid24P _ A c v t b ((h.below hbox).more hbox.size) ht)
  rw [hv] at HC
  unfold valid24 validB at hv
  simp only [Bool.and_eq_true, decide_eq_true_eq] at hv
  obtain ⟨hok, ⟨-, htb⟩, hbh⟩ := hv
  have hp := Vw.proper hok
  obtain ⟨pw1, pw2, ph1, ph2, plen, -, prows⟩ := hp
  have hw := fun r hr => rowErr_width (prows r hr)
  have HH := hide h
  have HW := hide hw
  have HTame := hide ht.2
  have hlen := ht.1
  clear h hw ht prows hok
  obtain ⟨width, height, rows, row, col, vis⟩ := v
  dsimp only at HH HW HTame hlen hW hc HC hbox pw1 pw2 ph1 ph2 plen htb hbh ⊢
  subst hW
  have htb' : t < b := by omega
  have hb' : b ≤ rows.length := by omega
  have hW1 : 1 ≤ W := by omega
  have hW2 : W ≤ 200 := by omega
  clear plen ph1 ph2 pw1 pw2 hbh htb
  unfold Vw.val at HC ⊢
  dsimp only at HC ⊢
  obtain ⟨ba, off, rfl, hbb, -⟩ := HH.out.get1 (show t < rows.length by omega)
  have Hc := hide hc
  have hRl := hide (rowsIn_length rows t b hb')
  obtain ⟨ti, hti, htz, htsz, htby⟩ := info_parts el_bool.info
  go_enter Tryd.func23, Tryd.ntmps23
  go_wp2_with (first
    | (go_at_call 36; refine HC.out.mono ?_; rintro e w1 ⟨rfl, hb1⟩; have k0 : w1.cell? ⟨w.heap.size, 0, none⟩ = some (.int .i64 W) := (hb1.cell (p := ⟨w.heap.size, 0, none⟩) (by simp)).trans (cell_block (block_new _ _) 0); have hs1 := hb1.size)
    | (refine wpList_make_full _ rfl (.tmp 18) (.tmp 18) 43 rfl w1.heap.size 4 ti (.bool false) 1 Tryd.underlying43 hti htz htsz .i64 .i64 _ _ W rfl rfl rfl rfl (by rw [htby]; omega) (by unfold maxLen; omega) (Nat.le_refl _) ?_; intro w2 hown2 hg2; have hb2 : Below w1.heap.size w1 w2 := (Below.refl _ _).grown hg2 (Nat.le_refl _) (by simp)))
  clear hti htz htsz htby HC k0
  have hbB : Below (w.heap.size + 1) (w.alloc (.cells #[.int .i64 W, .int .i64 height, .slice (some ⟨ba, off, none⟩) rows.length c, .int .i64 row, .int .i64 col, .bool vis] 24)) w2 := (show Below (w.heap.size + 1) _ w1 by simpa using hb1).trans (hb2.mono (by simpa using hs1))
  have hg1 : w.heap.size + 1 ≤ w1.heap.size := by simpa using hs1
  obtain ⟨g, hg⟩ : ∃ g, w1.heap.size = g := ⟨_, rfl⟩
  rw [hg] at hown2 hg1 ⊢
  have hown3 := own_more hown2 hg1
  clear hb1 hb2 hs1 hg hown2
  go_loopw [8] (fun i wr => ∃ j : Nat, j ≤ W ∧ i = .int .i64 j ∧ wr.ownsRow (w.heap.size + 1) 4 1 (.slice (some ⟨g, 0, none⟩) W W) W ((bits W fun c => if c < j then true else false).map .bool) ∧ Below (w.heap.size + 1) (w.alloc (.cells #[.int .i64 W, .int .i64 height, .slice (some ⟨ba, off, none⟩) rows.length c, .int .i64 row, .int .i64 col, .bool vis] 24)) wr) (fun i _ => W - (intOf i).toNat)
  case atStart => exact ⟨0, Nat.zero_le _, rfl, own_eq hown3 rfl (by rw [show (Value.bool false).cells = #[.bool false] from rfl, toList_madeCells_one, Nat.mul_one, bits_congr W (f' := fun _ => false) fun c _ => by simp, bits_const]), hbB⟩
  case round =>
    clear hown3 hbB
    obtain ⟨j, hj, rfl, hown, hb⟩ := hrel
    have k0 : wr.cell? ⟨w.heap.size, 0, none⟩ = some (.int .i64 W) := (hb.cell (p := ⟨w.heap.size, 0, none⟩) (Nat.lt_succ_self _)).trans (cell_block (block_new _ _) 0)
    have hgl := (hown.lt g rfl).2
    by_cases hlj : j < W
    · have e0 := hown.cellAt j (by omega)
      rw [bits_get W _ hlj] at e0
      have f0 := hown.frozenAt j
      go_wp2
      go_roundw
      case rel =>
        obtain ⟨s1, s2⟩ := hown.stored j (.bool true)
        exact ⟨j + 1, by omega, by go_num, own_eq s1 rfl (bits_upto W (fun _ => true) _ j rfl), below_own hb hown s2 (Nat.le_refl _) (by have := hb.size; simpa using this)⟩
      case measure => simp [intOf]; omega
    · have hown4 := own_eq hown rfl (show _ = (bits W (allB ((rowsIn rows t b).take 0))).map .bool by rw [bits_congr W fun c hc => if_pos (by omega)]; rfl)
      clear hown hj
      rename World => wa
      go_wp2
      go_loopw [9] (fun i wr => ∃ s : Nat, (t ≤ s ∧ s ≤ b) ∧ i = .int .i64 s ∧ wr.ownsRow (w.heap.size + 1) 4 1 (.slice (some ⟨g, 0, none⟩) W W) W ((bits W (allB ((rowsIn rows t b).take (s - t)))).map .bool) ∧ Below (w.heap.size + 1) (w.alloc (.cells #[.int .i64 W, .int .i64 height, .slice (some ⟨ba, off, none⟩) rows.length c, .int .i64 row, .int .i64 col, .bool vis] 24)) wr) (fun i _ => b - (intOf i).toNat)
      case atStart => exact ⟨t, ⟨Nat.le_refl _, by omega⟩, rfl, by simpa using hown4, hb⟩
      case round =>
        clear hown4 hb k0 hgl
        rename World => wo
        obtain ⟨s, ⟨hs1, hs2⟩, rfl, hown, hbr⟩ := hrel
        have k0 : wo.cell? ⟨w.heap.size, 0, none⟩ = some (.int .i64 W) := (hbr.cell (p := ⟨w.heap.size, 0, none⟩) (Nat.lt_succ_self _)).trans (cell_block (block_new _ _) 0)
        have k2 : wo.cell? ⟨w.heap.size, 2, none⟩ = some (.slice (some ⟨ba, off, none⟩) rows.length c) := (hbr.cell (p := ⟨w.heap.size, 2, none⟩) (Nat.lt_succ_self _)).trans (cell_block (block_new _ _) 2)
        have hlw : w.heap.size < wo.heap.size := by have := hbr.size; simp at this; omega
        have hbw := hbox.trans (hbr.mono (Nat.le_succ _))
        have hglt := (hown.lt g rfl).2
        by_cases hlt : s < b
        · obtain ⟨b', off', hab, -, A1, c1, d0, d1, d2⟩ := (HH.out.below hbw).get1 (show s < rows.length by omega)
          cases hab
          obtain ⟨r, hr⟩ : ∃ r, rows[s] = r := ⟨_, rfl⟩
          have hmem : r ∈ rows := by rw [← hr]; exact List.getElem_mem _
          obtain ⟨hrl, -⟩ := HTame.out _ hmem
          rw [hr] at d0 d1 d2
          have hrow := hide (d2.more hbw.size)
          have Hget := hide ((rowsIn_get rows t b (s - t) hb' (by omega)).trans ((by congr 1; omega : rows[t + (s - t)] = rows[s]).trans hr))
          clear d2 hr
          have hltr : (s : Int) < (rows.length : Int) := by omega
          have hltr2 : s < rows.length := by omega
          have hltb : decide ((s : Int) < (b : Int)) = true := by simp; omega
          obtain ⟨wd, hwd⟩ : ∃ wd, wd = wo.drew := ⟨_, rfl⟩
          have hdr : Below wo.heap.size wo wd := by rw [hwd]; exact (Below.refl _ _).drew
          have hsd : wd.heap.size = wo.heap.size := by rw [hwd]; rfl
          have hlwd : w.heap.size < wd.heap.size := by rw [hsd]; exact hlw
          have hBk := hide (darkP wd A1 c1 r W (by rw [hsd]; exact hrow.out.below (GlAt.stays _) hdr) (by omega) d1 hW1 (by omega))
          have Hwd := hide hwd
          clear hwd
          have kd0 : wd.cell? ⟨w.heap.size, 0, none⟩ = some (.int .i64 W) := by rw [Hwd.out]; exact k0
          have kd2 : wd.cell? ⟨w.heap.size, 2, none⟩ = some (.slice (some ⟨ba, off, none⟩) rows.length c) := by rw [Hwd.out]; exact k2
          have dd0 : wd.cell? ⟨ba, off + s, none⟩ = some (.slice A1 r.length c1) := by rw [Hwd.out]; exact d0
          go_wp2
          refine wp_region_still_tail 7 (by kernel_rfl) (by kernel_rfl) ?_
          change wpStill _ _ wo.drew (fun a' => wpList _ _ _ _ a' wo.drew) _ _
          rw [← Hwd.out]
          simp only [List.take_succ_cons, List.take_zero, List.drop_succ_cons, List.drop_zero]
          repeat still_step
          refine wpStill_nil ?_
          go_wp2_with (go_at_call 42; refine hBk.out.mono ?_; rintro e w2 ⟨g2, cap2, rfl, hown2, hb2⟩; have q0 : w2.cell? ⟨w.heap.size, 0, none⟩ = some (.int .i64 W) := (hb2.cell (p := ⟨w.heap.size, 0, none⟩) hlwd).trans kd0)
          have hbd2 := hdr.trans (hb2.mono (by rw [hsd]; exact Nat.le_refl _))
          have hg2 := (hown2.lt g2 rfl).1
          have hcells : ∀ j, j < W → w2.cell? ⟨g2, j, none⟩ = some (.bool (!bk r j)) := fun j hj => by rw [hown2.cellAt j (by omega), bits_get W _ hj]
          have hownb := own_below hown hbd2 (Nat.le_refl _)
          have hbr2 := hbr.trans (hbd2.mono hlw)
          have hne : g2 ≠ g := by omega
          have Hcells := hide hcells
          have Hownb := hide hownb
          clear hcells hown2 hownb hown hsd
          go_loopw [11] (fun i wr => ∃ j : Nat, j ≤ W ∧ i = .int .i64 j ∧ wr.ownsRow (w.heap.size + 1) 4 1 (.slice (some ⟨g, 0, none⟩) W W) W ((bits W (fun c => if c < j then allB ((rowsIn rows t b).take (s - t + 1)) c else allB ((rowsIn rows t b).take (s - t)) c)).map .bool) ∧
            (∀ j, j < W → wr.cell? ⟨g2, j, none⟩ = some (.bool (!bk r j))) ∧ Below (w.heap.size + 1) (w.alloc (.cells #[.int .i64 W, .int .i64 height, .slice (some ⟨ba, off, none⟩) rows.length c, .int .i64 row, .int .i64 col, .bool vis] 24)) wr) (fun i _ => W - (intOf i).toNat)
          case atStart => exact ⟨0, Nat.zero_le _, rfl, by simpa using Hownb.out, Hcells.out, hbr2⟩
          case round =>
            clear q0
            obtain ⟨j, hj, rfl, hownx, hcx, hbx⟩ := hrel
            have q0 : wr.cell? ⟨w.heap.size, 0, none⟩ = some (.int .i64 W) := (hbx.cell (p := ⟨w.heap.size, 0, none⟩) (Nat.lt_succ_self _)).trans (cell_block (block_new _ _) 0)
            clear Hcells Hownb
            have HX := hide hcx
            clear hcx
            by_cases hlj : j < W
            · have e0 := hownx.cellAt j (by omega)
              rw [bits_get W _ hlj] at e0
              have f0 := hownx.frozenAt j
              have e1 := HX.out j hlj
              have Hs := hide (allB_snoc (rowsIn rows t b) (s - t) (by rw [hRl.out]; omega) j)
              rw [Hget.out] at Hs
              simp only [Nat.lt_irrefl, if_false] at e0
              cases hx : allB ((rowsIn rows t b).take (s - t)) j <;> cases hy : bk r j
              all_goals
                rw [hx] at e0
                rw [hy] at e1
                rw [hx, hy] at Hs
                go_wp2
                go_roundw
                case rel =>
                  obtain ⟨s1, s2⟩ := hownx.stored j (.bool (allB ((rowsIn rows t b).take (s - t + 1)) j))
                  rw [Hs.out] at s1 s2
                  exact ⟨j + 1, by omega, by go_num, own_eq s1 rfl (bits_upto W _ _ j Hs.out), fun j' hj' => s2.cell (HX.out j' hj') (by simpa using hne), below_own hbx hownx s2 (Nat.le_refl _) (by have := hbx.size; simpa using this)⟩
                case measure => simp [intOf]; omega
            · go_wp2
              go_roundw
              case rel => exact ⟨s + 1, by omega, by go_num, own_eq hownx rfl (by rw [show s + 1 - t = s - t + 1 by omega, bits_congr W fun c hc => if_pos (by omega)]), hbx⟩
              case measure => simp [intOf]; omega
        · go_wp2
          go_ret
          refine ⟨g, W, rfl, own_eq (own_more hown (Nat.le_succ _)) rfl ?_, hbw⟩
          unfold gut
          rw [List.take_of_length_le (by rw [hRl.out]; omega)]
end Go.Proofs.YtbbhkibbkecojaaDoor
