/- narratorref27.Value. -/
import Derived.Test.YtalmbcelkllpjaaDoorW15
import Derived.Test.YtalmbcelkllpjaaDoorW17
import Derived.Deep.QuietTactic
import Derived.BigQuiet
namespace Go.Proofs.YtalmbcelkllpjaaDoor
open Go.RowKit

set_option maxRecDepth 100000 in
set_option maxHeartbeats 8000000 in
theorem value27 (w : World) (A : Option Addr) (c : Nat) (v : Vw) (r : Rg) (h : Rows2 w w.heap.size A v.rows) (ht : v.Tame) :
    Calls Tryd.prog 22 #[v.val A c, r.val] w fun e w' => e = .returned (.tuple #[.int .i64 (valV v r).1, .bool (valV v r).2]) ∧ Below w.heap.size w w' := by
  obtain ⟨W0, hW0, hbox, hs0, hvb, hrb⟩ := boxes2 w v A c r
  have HC := hide (check15 W0 A c v ((h.below hbox).more hbox.size) ht)
  have HR := hide (fun (w1 : World) (hb1 : Below w.heap.size w w1) => (h.below hb1).more hb1.size)
  have Htame := hide ht.2
  have hl12 := ht.1
  have hways := valWays v r
  obtain ⟨V, hV⟩ : ∃ V, v.err = V := ⟨_, rfl⟩
  rw [hV] at hways HC
  have HK := hide (fun w1 (hb1 : Below W0.heap.size W0 w1) => And.intro (hvb.below hb1 (by omega)).cells (hrb.below hb1 (by omega)).cells)
  have Hvb := hide hvb
  have Hrb := hide hrb
  obtain ⟨k0, k1, k2, k3, k4, k5⟩ := hvb.cells
  obtain ⟨q0, q1, q2, q3, q4, q5, q6, q7⟩ := hrb.cells
  rw [hW0] at HC hbox k0 k1 k2 k3 k4 k5 q0 q1 q2 q3 q4 q5 q6 q7
  have HW0 := hide hW0
  have Hs0 := hide hs0
  clear h ht hV hvb hrb hW0 hs0
  unfold Vw.val at HC ⊢
  unfold Rg.val
  rcases hways with ⟨t0, hv⟩ | ⟨t0, t1, hv⟩ | ⟨t0, t1, t2, hv⟩ | ⟨t0, t1, t2, t3, hv⟩ | ⟨t0, t1, t2, t3, t4, t5, hv⟩ | ⟨t0, t1, t2, t3, t4, t, row, htop, hrow, hok, hv⟩
  iterate 5
    · rw [hv]
      clear hv
      (try (have t6 : (0 : Int) ≤ r.top := by simpa using t2))
      go_enter Tryd.func22, Tryd.ntmps22
      go_wp2_with (go_at_call 36; refine HC.out.mono ?_; rintro e w1 ⟨rfl, hb1⟩; obtain ⟨⟨x0, x1, x2, x3, x4, x5⟩, y0, y1, y2, y3, y4, y5, y6, y7⟩ := HK.out w1 (by rw [HW0.out]; exact hb1))
      go_ret2
      exact ⟨rfl, hbox.trans (hb1.mono (by simp; omega))⟩
  · obtain ⟨RES, hRES⟩ : ∃ RES, valV v r = RES := ⟨_, rfl⟩
    rw [hRES] at hv ⊢
    have HV := hide hv
    clear hv hRES
    have hbd : v.height ≤ 60 := (Vw.proper hok).h2
    have hlen := (Vw.proper hok).len
    have htl : t < v.rows.length := (List.getElem?_eq_some_iff.1 hrow).1
    obtain ⟨hrl, -⟩ := Htame.out _ (List.mem_of_getElem? hrow)
    have htop0 : (0 : Int) ≤ r.top := by omega
    have htopl : r.top < (v.rows.length : Int) := by omega
    have htop60 : r.top ≤ 60 := by omega
    have Hrow := hide hrow
    have Htop := hide htop
    obtain ⟨bR, oR, rfl, -⟩ := (HR.out w (Below.refl _ _)).get1 htl
    clear hrow hok htop hlen
    go_enter Tryd.func22, Tryd.ntmps22
    go_wp2_with (go_at_call 36; refine HC.out.mono ?_; rintro e w1 ⟨rfl, hb1⟩; have hb1' := hb1; rw [← HW0.out] at hb1'; obtain ⟨⟨x0, x1, x2, x3, x4, x5⟩, y0, y1, y2, y3, y4, y5, y6, y7⟩ := HK.out w1 hb1'; have hbw := hbox.trans (hb1.mono (by simp; omega)); obtain ⟨bR', oR', he, hbR, A1, c1, d0, d1, d2⟩ := (HR.out w1 hbw).get1 htl; cases he; rw [show v.rows[t] = row from Option.some.inj ((List.getElem?_eq_getElem htl).symm.trans Hrow.out)] at d0 d1 d2; have Hgl := hide d2; have d1' := hide d1; rw [← Int.toNat_natCast t, ← Htop.out] at d0; clear d2)
    obtain ⟨N, hN⟩ : ∃ N, row.length = N := ⟨_, rfl⟩
    have HN := hide hN
    rw [hN] at hrl ⊢
    have hs1 := hb1.size
    have hs1' : w.heap.size + 1 + 1 ≤ w1.heap.size := by have := hb1.size; simp at this; omega
    have HB1 := hide hb1'
    clear hN hb1 hb1' d0 d1 x0 x1 x2 x3 x4 x5 y0 y1 y2 y3 y4 y5 y6 y7 k0 k1 k2 k3 k4 k5 q0 q1 q2 q3 q4 q5 q6 q7 HC hs1 hbox
    go_loopw [6, 8] (fun p i wr => ∃ k : Nat, k ≤ N ∧ i = .int .i64 k ∧ wr.ownsRow w1.heap.size 45 3 p (cutG r.left r.right 0 (row.take k)).length ((cutG r.left r.right 0 (row.take k)).flatMap Gl.enc) ∧ Below w1.heap.size w1 wr) (fun _ i _ => N - (intOf i).toNat)
    case atStart => exact ⟨0, Nat.zero_le _, rfl, World.ownsRow_nil _ _ _ _, Below.refl _ _⟩
    case round =>
      rename World => wo
      obtain ⟨k, hk, rfl, hown, hbo⟩ := hrel
      have hso := hbo.size
      by_cases hlt : k < N
      · have hkl : k < row.length := by rw [HN.out]; exact hlt
        have Hct := hide (cutG_take r.left r.right row k hkl)
        have hws := widthOf_snoc row k hkl
        have hwl := widthOf_take_le row k
        have hwl2 := widthOf_take_le row (k + 1)
        rw [HN.out] at hwl hwl2
        have hcl := cutG_len r.left r.right (row.take k) 0
        rw [List.length_take, HN.out, Nat.min_eq_left hk] at hcl
        have hglo := (Hgl.out.below (GlAt.stays _) hbo).more hso
        obtain ⟨bk, off, rfl, hbb, c0, c1', c2⟩ := hglo.get hkl
        have HW1 := hide (fun n => Calls.quiet_of_same ((width15 (wo.drewN n) (some ⟨bk, off, none⟩) c1 (row.take k) ((hglo.take k).below (GlAt.stays _) (below_drewN (Below.refl _ _) n)) (by rw [List.length_take]; omega)).mono fun e w' h => ⟨h.1, h.2.symm⟩))
        have HW2 := hide (fun n => Calls.quiet_of_same ((width15 (wo.drewN n) (some ⟨bk, off, none⟩) c1 (row.take (k + 1)) ((hglo.take (k + 1)).below (GlAt.stays _) (below_drewN (Below.refl _ _) n)) (by rw [List.length_take]; omega)).mono fun e w' h => ⟨h.1, h.2.symm⟩))
        rw [show (row.take k).length = k by rw [List.length_take, HN.out]; omega] at HW1
        rw [show (row.take (k + 1)).length = k + 1 by rw [List.length_take, HN.out]; omega] at HW2
        obtain ⟨⟨gt, gw, gs⟩, hx⟩ : ∃ x, row[k] = x := ⟨_, rfl⟩
        rw [hx] at c0 c1' c2 Hct hws
        dsimp only at c0 c1' c2
        clear hx hglo
        obtain ⟨W, hW⟩ : ∃ W, widthOf (row.take k) = W := ⟨_, rfl⟩
        rw [hW] at Hct hws hwl HW1
        obtain ⟨g, hg⟩ : ∃ g, glW ⟨gt, gw, gs⟩ = g := ⟨_, rfl⟩
        rw [hg] at Hct hws
        rw [hws] at HW2
        have hgl2 : g ≤ 2 := by rw [← hg]; exact glW_le _
        obtain ⟨PC, hPC⟩ : ∃ PC, cutG r.left r.right 0 (row.take k) = PC := ⟨_, rfl⟩
        rw [hPC] at Hct hown hcl
        obtain ⟨pl, hpl⟩ : ∃ pl, PC.length = pl := ⟨_, rfl⟩
        rw [hpl] at hown hcl
        have Hpl := hide hpl
        clear hW hg hPC hpl hws
        obtain ⟨Ap, cp, rfl⟩ := own_form hown
        obtain ⟨⟨x0, x1, x2, x3, x4, x5⟩, y0, y1, y2, y3, y4, y5, y6, y7⟩ := HK.out wo (HB1.out.trans (hbo.mono HB1.out.size))
        have hki : (0 : Int) ≤ (k : Int) := by omega
        have hkc : (k : Int) ≤ (c1 : Int) := by have := d1'.out; have := HN.out; omega
        have hk1i : (0 : Int) ≤ (k : Int) + 1 := by omega
        have hk1c : (k : Int) + 1 ≤ (c1 : Int) := by have := d1'.out; have := HN.out; omega
        have hkw : IntKind.i64.wrap ((k : Int) + 1) = (k : Int) + 1 := IntWalk.i64_in _ (by omega)
        have hkt : ((k : Int) + 1).toNat = k + 1 := by omega
        rcases (show (decide (r.left ≤ (W : Int)) = false) ∨ (decide (r.left ≤ (W : Int)) = true ∧ decide ((W : Int) + (g : Int) ≤ r.right) = false) ∨ (decide (r.left ≤ (W : Int)) = true ∧ decide ((W : Int) + (g : Int) ≤ r.right) = true) by
          by_cases a1 : r.left ≤ (W : Int) <;> by_cases a2 : (W : Int) + (g : Int) ≤ r.right <;> simp [a1, a2]) with t8 | ⟨t8, t9⟩ | ⟨t8, t9⟩
        all_goals
          go_wp2
          go_quiet ((first | (go_at_call 37; with_reducible exact HW1.out _) | (go_at_call 37; with_reducible exact HW2.out _)))
          go_wp2_with (first
            | (at_builtin; refine wpList_app _ (.tmp 69) (.tmp 74) 39 rfl rfl el_glyph w1.heap.size _ pl _ (by rfl) (own_below hown (below_drewN (Below.refl _ _) _) (Nat.le_refl _)) (below_drewN hbo _).size _ 1 1 _ _ (by rfl) rfl rfl (by simp [Value.oneCell']) (by omega) ?_; intro v6 w6 hown6 hg6; have hb6 := below_own (below_drewN hbo _) (own_below hown (below_drewN (Below.refl _ _) _) (Nat.le_refl _)) hg6 (Nat.le_refl _) (below_drewN hbo _).size)
            | fail)
          go_roundw
          case rel =>
            first
              | exact ⟨k + 1, by omega, by go_num, own_eq hown6 (by rw [Hct.out, if_pos (by simpa using And.intro t8 t9)]; simp [Hpl.out]) (by rw [Hct.out, if_pos (by simpa using And.intro t8 t9)]; simp [Gl.enc]), hb6⟩
              | exact ⟨k + 1, by omega, by go_num, own_eq (own_below hown (below_drewN (Below.refl _ _) _) (Nat.le_refl _)) (by rw [Hct.out, if_neg (by intro h; simp at t8; omega)]; simp [Hpl.out]) (by rw [Hct.out, if_neg (by intro h; simp at t8; omega)]; simp), below_drewN hbo _⟩
              | exact ⟨k + 1, by omega, by go_num, own_eq (own_below hown (below_drewN (Below.refl _ _) _) (Nat.le_refl _)) (by rw [Hct.out, if_neg (by intro h; simp at t9; omega)]; simp [Hpl.out]) (by rw [Hct.out, if_neg (by intro h; simp at t9; omega)]; simp), below_drewN hbo _⟩
          case measure => simp [intOf]; omega
      · obtain rfl : k = N := by omega
        have HTk := hide (show row.take k = row by rw [← HN.out, List.take_length])
        rw [HTk.out] at hown
        have hpl := cutG_len r.left r.right row 0
        obtain ⟨PC, hPC⟩ : ∃ PC, cutG r.left r.right 0 row = PC := ⟨_, rfl⟩
        rw [hPC] at hown hpl HV
        obtain ⟨Ap, cp, hp, hcp, hgl⟩ := Sl.of_own GlAt.lays hown
        subst hp
        have HI := hide (indicator27 wo Ap cp PC hgl (by rw [HN.out] at hpl; omega))
        have hbwo := hbw.trans (hbo.mono (by have := hbw.size; omega))
        have hbnd : ∀ a d n, indR PC = some (a, d, n) → a < d ∧ d ≤ PC.length ∧ n ≤ 100 := fun a d n h => indR_bd h
        clear hPC hpl hown
        obtain ⟨pl, hpl⟩ : ∃ pl, PC.length = pl := ⟨_, rfl⟩
        rw [hpl] at HI hbnd ⊢
        clear hgl hpl
        cases hi : indR PC with
        | none =>
          rw [hi] at HI HV
          unfold pcE at HI
          dsimp only at HI
          clear hi hbnd
          go_wp2_with (go_at_call 38; refine HI.out.mono ?_; rintro e w2 ⟨rfl, hb2⟩)
          go_ret2
          exact ⟨by rw [HV.out]; rfl, hbwo.trans (hb2.mono hbwo.size)⟩
        | some x =>
          obtain ⟨a, d, n⟩ := x
          rw [hi] at HI HV
          unfold pcE at HI
          dsimp only at HI
          clear hi hbnd
          go_wp2_with (go_at_call 38; refine HI.out.mono ?_; rintro e w2 ⟨rfl, hb2⟩)
          go_ret2
          exact ⟨by rw [HV.out]; rfl, hbwo.trans (hb2.mono hbwo.size)⟩
end Go.Proofs.YtalmbcelkllpjaaDoor
