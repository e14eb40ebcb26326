/- view.Check. -/
import Derived.Test.YtdkppdjonlldhaaGreatDoorV11
namespace Go.Proofs.YtdkppdjonlldhaaGreatDoor
open Go.RowKit

set_option maxHeartbeats 4000000 in
set_option maxRecDepth 100000 in
theorem checkV (w : World) (A : Option Addr) (c : Nat) (v : Vw) (h : Rows2 w w.heap.size A v.rows) (ht : v.Tame) (hT : Tabs w) :
    Calls Tryz.prog 6 #[v.val A c] w fun e w' => e = .returned (.int .i64 v.err) ∧ Below w.heap.size w w' := by
  have HH := hide h
  have HT := hide hT
  clear h hT
  obtain ⟨V, hV⟩ : ∃ V, v.err = V := ⟨_, rfl⟩
  rw [hV]
  obtain ⟨width, height, rows, row, col, vis⟩ := v
  have hways := curWays ⟨width, height, rows, row, col, vis⟩ _ rfl
  have HTame := hide ht
  have hlen := ht.1
  clear ht
  unfold Vw.val
  unfold Vw.err at hV
  dsimp only at HH hV hways hlen ⊢
  cases hs : sizedB width height with
  | false =>
    rw [hs, if_pos rfl] at hV
    subst hV
    go_enter Tryz.func6, Tryz.ntmps6
    go_wp2_with (go_at_call 16; refine (sizedP _ _ _).mono ?_; rintro e w1 ⟨rfl, rfl⟩)
    go_ret
    exact ⟨rfl, (Below.refl _ _).alloc (Nat.le_refl _) _⟩
  | true =>
    rw [hs, if_neg (by simp)] at hV
    cases hm : ((rows.length : Int) != height) with
    | true =>
      rw [if_pos (by simpa using hm)] at hV
      subst hV
      go_enter Tryz.func6, Tryz.ntmps6
      go_wp2_with (go_at_call 16; refine (sizedP _ _ _).mono ?_; rintro e w1 ⟨rfl, rfl⟩)
      go_ret
      exact ⟨rfl, (Below.refl _ _).alloc (Nat.le_refl _) _⟩
    | false =>
      rw [if_neg (by simpa using hm)] at hV
      rcases hways with ⟨hc, h1⟩ | ⟨hc, h1, h2⟩ | ⟨hc, h1, h2, h3⟩ | ⟨hc, h1, h2, h3, h4⟩ | ⟨hc, h1, h2, h3, h4⟩
      iterate 4
        · rw [hc, if_pos rfl] at hV
          subst hV
          clear hc
          go_enter Tryz.func6, Tryz.ntmps6
          go_wp2_with (go_at_call 16; refine (sizedP _ _ _).mono ?_; rintro e w1 ⟨rfl, rfl⟩)
          go_ret
          exact ⟨rfl, (Below.refl _ _).alloc (Nat.le_refl _) _⟩
      rw [hc, if_neg (by simp)] at hV
      clear hc
      have HV := hide hV
      clear hV
      go_enter Tryz.func6, Tryz.ntmps6
      go_wp2_with (go_at_call 16; refine (sizedP _ _ _).mono ?_; rintro e w1 ⟨rfl, rfl⟩)
      have hbox := (Below.refl w.heap.size w).alloc (Nat.le_refl _) (.cells #[.int .i64 width, .int .i64 height, .slice A rows.length c, .int .i64 row, .int .i64 col, .bool vis] 24)
      go_loopw [49] (fun i wr => ∃ k : Nat, k ≤ rows.length ∧ i = .int .i64 k ∧ (∀ i, i < k → ∀ x, rows[i]? = some x → rowErr width x = 0) ∧ Below (w.heap.size + 1) (w.alloc (.cells #[.int .i64 width, .int .i64 height, .slice A rows.length c, .int .i64 row, .int .i64 col, .bool vis] 24)) wr) (fun i _ => rows.length - (intOf i).toNat)
      case atStart => exact ⟨0, Nat.zero_le _, rfl, by simp, Below.refl _ _⟩
      case round =>
        rename World => wo
        obtain ⟨k, hk, rfl, ha, hbr⟩ := hrel
        have Ha := hide ha
        clear ha
        have k0 : wo.cell? ⟨w.heap.size, 0, none⟩ = some (.int .i64 width) := (hbr.cell (p := ⟨w.heap.size, 0, none⟩) (Nat.lt_succ_self _)).trans (cell_block (block_new _ _) 0)
        have k2 : wo.cell? ⟨w.heap.size, 2, none⟩ = some (.slice A rows.length c) := (hbr.cell (p := ⟨w.heap.size, 2, none⟩) (Nat.lt_succ_self _)).trans (cell_block (block_new _ _) 2)
        have hlw : w.heap.size < wo.heap.size := by have := hbr.size; simp at this; omega
        have hbw := hbox.trans (hbr.mono (Nat.le_succ _))
        have hbr' := hbr
        clear hbr
        by_cases hlt : k < rows.length
        · have hge : rows[k]? = some rows[k] := List.getElem?_eq_getElem hlt
          obtain ⟨hrl, hgl⟩ := HTame.out.2 _ (List.getElem_mem (h := hlt))
          obtain ⟨r, hr⟩ : ∃ r, rows[k] = r := ⟨_, rfl⟩
          obtain ⟨b, off, rfl, hbb, A1, c1, d0, d1, d2⟩ := (HH.out.below hbw).get1 hlt
          rw [hr] at hge hrl hgl d0 d1 d2
          have Hge := hide hge
          have hrow := hide (d2.more hbw.size)
          clear d2 hr hge
          go_wp2
          go_loopw [55] (fun i wr => ∃ j : Nat, j ≤ r.length ∧ i = .int .i64 j ∧ (∀ i, i < j → ∀ x, r[i]? = some x → glErr x = 0) ∧ Below wo.heap.size wo wr) (fun i _ => r.length - (intOf i).toNat)
          case atStart => exact ⟨0, Nat.zero_le _, rfl, by simp, Below.refl _ _⟩
          case round =>
            obtain ⟨j, hj, rfl, hb0, hbq⟩ := hrel
            have Hb0 := hide hb0
            clear hb0
            have hrow2 := hide ((hrow.out.below (GlAt.stays _) hbq).more hbq.size)
            have q0 : wr.cell? ⟨w.heap.size, 0, none⟩ = some (.int .i64 width) := (hbq.cell (p := ⟨w.heap.size, 0, none⟩) hlw).trans k0
            have hwr := hbw.trans (hbq.mono hbw.size)
            have hlq : w.heap.size < wr.heap.size := Nat.lt_of_lt_of_le hlw hbq.size
            by_cases hlj : j < r.length
            · have hgs := hgl _ (List.getElem_mem (h := hlj))
              obtain ⟨b2, off2, rfl, hb2, e0, e1, e2⟩ := hrow2.out.get hlj
              have HP := hide (fun w hT => glyphP w r[j] (by omega) hT)
              have hal := hwr.alloc hwr.size (.cells #[.string r[j].text, .bool r[j].wide, .int .i64 r[j].style] 42)
              have HT2 := hide (HT.out.below hal)
              have hbq2 := hbq.alloc hbq.size (.cells #[.string r[j].text, .bool r[j].wide, .int .i64 r[j].style] 42)
              cases he : (glErr r[j] != 0) with
              | true =>
                go_wp2_with (go_at_call 17; refine (HP.out _ HT2.out).mono ?_; rintro e w1 ⟨rfl, hb1⟩)
                go_ret
                refine ⟨ret_int ?_, hal.trans (hb1.mono hal.size)⟩
                have hne : glErr r[j] ≠ 0 := by simpa using he
                have h1 := firstErr_here (List.getElem?_eq_getElem hlj) Hb0.out hne
                have h2 : rowErr width r = glErr r[j] := by rw [rowErr_glyph (by rw [h1]; exact hne), h1]
                rw [← HV.out, firstErr_here Hge.out Ha.out (by rw [h2]; exact hne), h2]
              | false =>
                go_wp2_with (go_at_call 17; refine (HP.out _ HT2.out).mono ?_; rintro e w1 ⟨rfl, hb1⟩)
                go_roundw
                case rel =>
                  refine ⟨j + 1, by omega, by go_num, ?_, hbq2.trans (hb1.mono hbq2.size)⟩
                  intro i hi x hx
                  rcases Nat.lt_succ_iff_lt_or_eq.1 hi with h | rfl
                  · exact Hb0.out i h x hx
                  · rw [List.getElem?_eq_getElem hlj] at hx; cases hx; simpa using he
                case measure => simp [intOf]; omega
            · have hz : firstErr glErr r = 0 := firstErr_none _ _ fun i hi => Hb0.out i (by omega) _ (List.getElem?_eq_getElem hi)
              have x0 := Held.cell q0 hlq
              have HW := hide (fun W (hW : Below wr.heap.size wr W) => widthV W A1 c1 r ((hrow2.out.below (GlAt.stays _) hW).more hW.size) (by omega))
              cases hwd : decide (width < (widthOf r : Int)) with
              | true =>
                go_wp2
                refine wp_region_held_lit (by kernel_rfl) (by kernel_rfl) ?_
                repeat go_big_quiet_step ((go_at_call 14; exact held_call _ fun W hW => HW.out W hW))
                refine wpQuiet_nil ?_
                intro w2 hb2
                clear x0
                go_wp2
                go_ret
                refine ⟨ret_int ?_, hwr.trans (hb2.mono hwr.size)⟩
                have h2 := rowErr_wide hz hwd
                rw [← HV.out, firstErr_here Hge.out Ha.out (by rw [h2]; omega), h2]
              | false =>
                have h2 := hide (rowErr_last hz hwd)
                by_cases hn0 : r.length = 0
                · have hlb := hide (lastBlank_nil r hn0)
                  have hd : decide (0 < r.length) = false := by simp [hn0]
                  have hdI : decide ((0 : Int) < r.length) = false := by simp [hn0]
                  clear hn0
                  go_wp2
                  refine wp_region_held_lit (by kernel_rfl) (by kernel_rfl) ?_
                  repeat go_big_quiet_step ((go_at_call 14; exact held_call _ fun W hW => HW.out W hW))
                  refine wpQuiet_nil ?_
                  intro w2 hb2
                  clear x0
                  go_wp2
                  refine wp_region_held_lit (by kernel_rfl) (by kernel_rfl) ?_
                  repeat go_big_quiet_step (fail)
                  refine wpQuiet_nil ?_
                  intro w3 hb3
                  have hq := hb2.size
                  go_wp2
                  go_roundw
                  case rel =>
                    refine ⟨k + 1, by omega, by go_num, ?_, hbr'.trans ((hbq.mono ?_).trans ((hb2.mono ?_).trans (hb3.mono ?_)))⟩
                    · intro i hi x hx
                      rcases Nat.lt_succ_iff_lt_or_eq.1 hi with h | rfl
                      · exact Ha.out i h x hx
                      · rw [Hge.out] at hx; cases hx; rw [h2.out, hlb.out]; rfl
                    · exact hlw
                    · exact hlq
                    · omega
                  case measure => simp [intOf]; omega
                · obtain ⟨n, hn⟩ : ∃ n, r.length = n + 1 := ⟨r.length - 1, by omega⟩
                  have hd : decide (0 < r.length) = true := by simp; omega
                  have hdI : decide ((0 : Int) < r.length) = true := by simp; omega
                  have hix : (r.length : Int) - 1 = n := by omega
                  have hln : n < r.length := by omega
                  have hlb := hide (lastBlank_at r n hn hln)
                  have Hn := hide hn
                  clear hn
                  obtain ⟨b2, off2, rfl, hb2, e0, e1, e2⟩ := hrow2.out.get hln
                  go_wp2
                  refine wp_region_held_lit (by kernel_rfl) (by kernel_rfl) ?_
                  repeat go_big_quiet_step ((go_at_call 14; exact held_call _ fun W hW => HW.out W hW))
                  refine wpQuiet_nil ?_
                  intro w2 hb3
                  clear x0
                  replace e0 := (hb3.cell (p := ⟨b2, _, none⟩) hb2).trans e0
                  replace e1 := (hb3.cell (p := ⟨b2, _, none⟩) hb2).trans e1
                  replace e2 := (hb3.cell (p := ⟨b2, _, none⟩) hb2).trans e2
                  have hlt3 : b2 < w2.heap.size := Nat.lt_of_lt_of_le hb2 hb3.size
                  obtain ⟨⟨gt, gw, gs⟩, hg⟩ : ∃ g, r[n] = g := ⟨_, rfl⟩
                  rw [hg] at e0 e1 e2 hlb
                  dsimp only at e0 e1 e2
                  have x0 := Held.cell e0 hlt3
                  have x1 := Held.cell e1 hlt3
                  have x2 := Held.cell e2 hlt3
                  clear e0 e1 e2 hg
                  by_cases h1 : gt.toList = [32] <;> cases gw <;> by_cases h3 : gs = 0
                  · go_wp2
                    refine wp_region_held_lit (by kernel_rfl) (by kernel_rfl) ?_
                    repeat go_big_quiet_step ((go_at_call 18; exact held_call _ fun W hW => blankV W))
                    refine wpQuiet_nil ?_
                    intro w3 hb4
                    clear x0 x1 x2
                    go_wp2
                    go_ret
                    have hb3w := hwr.trans (hb3.mono hwr.size)
                    refine ⟨ret_int ?_, hb3w.trans (hb4.mono hb3w.size)⟩
                    have h5 := h2.out
                    rw [hlb.out, show isBlank ⟨gt, false, gs⟩ = true by simp [isBlank, h1, h3], if_pos rfl] at h5
                    rw [← HV.out, firstErr_here Hge.out Ha.out (by rw [h5]; omega), h5]
                  all_goals
                    replace hlb := hide (hlb.out.trans (show _ = false by simp [isBlank, h1, h3]))
                    go_wp2
                    refine wp_region_held_lit (by kernel_rfl) (by kernel_rfl) ?_
                    repeat go_big_quiet_step ((go_at_call 18; exact held_call _ fun W hW => blankV W))
                    refine wpQuiet_nil ?_
                    intro w3 hb4
                    clear x0 x1 x2
                    go_wp2
                    go_roundw
                    case rel =>
                      have hq := hb3.size
                      refine ⟨k + 1, by omega, by go_num, ?_, hbr'.trans ((hbq.mono ?_).trans ((hb3.mono ?_).trans (hb4.mono ?_)))⟩
                      · intro i hi x hx
                        rcases Nat.lt_succ_iff_lt_or_eq.1 hi with h | rfl
                        · exact Ha.out i h x hx
                        · rw [Hge.out] at hx; cases hx; rw [h2.out, hlb.out]; rfl
                      · exact hlw
                      · exact hlq
                      · omega
                    case measure => simp [intOf]; omega
        · go_wp2
          go_ret
          refine ⟨ret_int ?_, hbw⟩
          rw [← HV.out]
          refine Eq.symm ?_
          exact firstErr_none _ _ fun i hi => Ha.out i (by omega) _ (List.getElem?_eq_getElem hi)
end Go.Proofs.YtdkppdjonlldhaaGreatDoor
