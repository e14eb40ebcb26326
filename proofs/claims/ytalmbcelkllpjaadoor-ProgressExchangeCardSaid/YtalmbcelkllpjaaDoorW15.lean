/- progress.Value. -/
import Derived.Test.YtalmbcelkllpjaaDoorW10
namespace Go.Proofs.YtalmbcelkllpjaaDoor
open Go.RowKit

def valV (v : Vw) (r : Rg) : Int × Bool := match valT v r with | none => (0, false) | some n => (n, true)
theorem valV_no {v : Vw} {r : Rg} (h : ¬ (v.ok ∧ r.kind = 8 ∧ 0 ≤ r.top ∧ r.top < v.height ∧ r.bottom = r.top + 1)) : valV v r = (0, false) := by
  unfold valV valT; rw [if_neg h]
/-- The ways through the tests of Value. -/
theorem valWays (v : Vw) (r : Rg) : ((v.err != 0) = true ∧ valV v r = (0, false)) ∨ ((v.err != 0) = false ∧ (r.kind != 8) = true ∧ valV v r = (0, false)) ∨
    ((v.err != 0) = false ∧ (r.kind != 8) = false ∧ decide (r.top < 0) = true ∧ valV v r = (0, false)) ∨
    ((v.err != 0) = false ∧ (r.kind != 8) = false ∧ decide (r.top < 0) = false ∧ decide (v.height ≤ r.top) = true ∧ valV v r = (0, false)) ∨
    ((v.err != 0) = false ∧ (r.kind != 8) = false ∧ decide (r.top < 0) = false ∧ decide (v.height ≤ r.top) = false ∧ (r.bottom != r.top + 1) = true ∧ r.top ≤ 60 ∧ valV v r = (0, false)) ∨
    ((v.err != 0) = false ∧ (r.kind != 8) = false ∧ decide (r.top < 0) = false ∧ decide (v.height ≤ r.top) = false ∧ (r.bottom != r.top + 1) = false ∧ ∃ (t : Nat) (row : List Gl), r.top = t ∧ v.rows[t]? = some row ∧ v.ok = true ∧
      valV v r = match indR (cutG r.left r.right 0 row) with | none => (0, false) | some x => ((x.2.2 : Nat), true)) := by
  by_cases h0 : v.err = 0
  · have hok : v.ok = true := by unfold Vw.ok; simp [h0]
    by_cases h1 : r.kind = 8
    · by_cases h2 : r.top < 0
      · exact .inr (.inr (.inl ⟨by simp [h0], by simp [h1], by simp [h2], valV_no (by omega)⟩))
      · by_cases h3 : v.height ≤ r.top
        · exact .inr (.inr (.inr (.inl ⟨by simp [h0], by simp [h1], by simp; omega, by simp [h3], valV_no (by omega)⟩)))
        · by_cases h4 : r.bottom = r.top + 1
          · have hlen := (Vw.proper hok).len
            refine .inr (.inr (.inr (.inr (.inr ⟨by simp [h0], by simp [h1], by simp; omega, by simp; omega, by simp [h4], r.top.toNat, v.rows[r.top.toNat]'(by omega), by omega, List.getElem?_eq_getElem (by omega), hok, ?_⟩))))
            unfold valV valT
            rw [if_pos ⟨hok, h1, by omega, by omega, h4⟩, List.getElem?_eq_getElem (by omega)]
            simp only [Option.getD_some]
            cases indR (cutG r.left r.right 0 (v.rows[r.top.toNat]'(by omega))) <;> rfl
          · exact .inr (.inr (.inr (.inr (.inl ⟨by simp [h0], by simp [h1], by simp; omega, by simp; omega, by simp [h4], by have := (Vw.proper hok).h2; omega, valV_no (fun h => h4 h.2.2.2.2)⟩))))
    · exact .inr (.inl ⟨by simp [h0], by simp [h1], valV_no (fun h => h1 h.2.1)⟩)
  · exact .inl ⟨by simp [h0], valV_no (fun h => h0 (by have := h.1; unfold Vw.ok at this; simpa using this))⟩

set_option maxRecDepth 100000 in
set_option maxHeartbeats 8000000 in
theorem valueP (w : World) (A : Option Addr) (c : Nat) (v : Vw) (r : Rg) (h : Rows2 w w.heap.size A v.rows) (ht : v.Tame) (hT : Tabs27 w) :
    Calls Tryd.prog 21 #[v.val A c, r.val] w fun e w' => e = .returned (.tuple #[.int .i64 (valV v r).1, .bool (valV v r).2]) ∧ Below w.heap.size w w' := by
  obtain ⟨W0, hW0, hbox, hs0, hvb, hrb⟩ := boxes2 w v A c r
  have HC := hide (checkV W0 A c v ((h.below hbox).more hbox.size) ht (hT.1.below hbox))
  have HR := hide (fun (w1 : World) (hb1 : Below w.heap.size w w1) => (h.below hb1).more hb1.size)
  have Htame := hide ht.2
  have hl12 := ht.1
  have hways := valWays v r
  obtain ⟨V, hV⟩ : ∃ V, v.err = V := ⟨_, rfl⟩
  rw [hV] at hways HC
  have HK := hide (fun w1 (hb1 : Below W0.heap.size W0 w1) => And.intro (hvb.below hb1 (by omega)).cells (hrb.below hb1 (by omega)).cells)
  have Hvb := hide hvb
  have Hrb := hide hrb
  obtain ⟨k0, k1, k2, k3, k4, k5⟩ := hvb.cells
  obtain ⟨q0, q1, q2, q3, q4, q5, q6, q7⟩ := hrb.cells
  rw [hW0] at HC hbox k0 k1 k2 k3 k4 k5 q0 q1 q2 q3 q4 q5 q6 q7
  have HW0 := hide hW0
  have Hs0 := hide hs0
  clear h ht hT hV hvb hrb hW0 hs0
  unfold Vw.val at HC ⊢
  unfold Rg.val
  rcases hways with ⟨t0, hv⟩ | ⟨t0, t1, hv⟩ | ⟨t0, t1, t2, hv⟩ | ⟨t0, t1, t2, t3, hv⟩ | ⟨t0, t1, t2, t3, t4, t5, hv⟩ | ⟨t0, t1, t2, t3, t4, t, row, htop, hrow, hok, hv⟩
  iterate 5
    · rw [hv]
      clear hv
      (try (have t6 : (0 : Int) ≤ r.top := by simpa using t2))
      go_enter Tryd.func21, Tryd.ntmps21
      go_wp2_with (go_at_call 18; refine HC.out.mono ?_; rintro e w1 ⟨rfl, hb1⟩; obtain ⟨⟨x0, x1, x2, x3, x4, x5⟩, y0, y1, y2, y3, y4, y5, y6, y7⟩ := HK.out w1 (by rw [HW0.out]; exact hb1))
      go_ret2
      exact ⟨rfl, hbox.trans (hb1.mono (by simp; omega))⟩
  · obtain ⟨RES, hRES⟩ : ∃ RES, valV v r = RES := ⟨_, rfl⟩
    rw [hRES] at hv ⊢
    have HV := hide hv
    clear hv hRES
    have hbd : v.height ≤ 60 := (Vw.proper hok).h2
    have hlen := (Vw.proper hok).len
    have htl : t < v.rows.length := (List.getElem?_eq_some_iff.1 hrow).1
    obtain ⟨hrl, -⟩ := Htame.out _ (List.mem_of_getElem? hrow)
    have htop0 : (0 : Int) ≤ r.top := by omega
    have htopl : r.top < (v.rows.length : Int) := by omega
    have htop60 : r.top ≤ 60 := by omega
    have Hrow := hide hrow
    have Htop := hide htop
    obtain ⟨bR, oR, rfl, -⟩ := (HR.out w (Below.refl _ _)).get1 htl
    clear hrow hok htop hlen
    go_enter Tryd.func21, Tryd.ntmps21
    go_wp2_with (go_at_call 18; refine HC.out.mono ?_; rintro e w1 ⟨rfl, hb1⟩; have hb1' := hb1; rw [← HW0.out] at hb1'; obtain ⟨⟨x0, x1, x2, x3, x4, x5⟩, y0, y1, y2, y3, y4, y5, y6, y7⟩ := HK.out w1 hb1'; have hbw := hbox.trans (hb1.mono (by simp; omega)); obtain ⟨bR', oR', he, hbR, A1, c1, d0, d1, d2⟩ := (HR.out w1 hbw).get1 htl; cases he; rw [show v.rows[t] = row from Option.some.inj ((List.getElem?_eq_getElem htl).symm.trans Hrow.out)] at d0 d1 d2; have Hgl := hide d2; rw [← Int.toNat_natCast t, ← Htop.out] at d0; clear d2)
    obtain ⟨N, hN⟩ : ∃ N, row.length = N := ⟨_, rfl⟩
    have HN := hide hN
    rw [hN] at hrl ⊢
    have hs1 := hb1.size
    have hs1' : w.heap.size + 1 + 1 ≤ w1.heap.size := by have := hb1.size; simp at this; omega
    have HB1 := hide hb1'
    clear hN hb1 hb1' d0 d1 x0 x1 x2 x3 x4 x5 y0 y1 y2 y3 y4 y5 y6 y7 k0 k1 k2 k3 k4 k5 q0 q1 q2 q3 q4 q5 q6 q7 HC hs1 hbox
    go_loopw [6, 7, 49] (fun p a i wr => ∃ k : Nat, k ≤ N ∧ i = .int .i64 k ∧ a = .int .i64 (widthOf (row.take k)) ∧ wr.ownsRow w1.heap.size 45 3 p (cutG r.left r.right 0 (row.take k)).length ((cutG r.left r.right 0 (row.take k)).flatMap Gl.enc) ∧ Below w1.heap.size w1 wr) (fun _ _ i _ => N - (intOf i).toNat)
    case atStart => exact ⟨0, Nat.zero_le _, rfl, rfl, World.ownsRow_nil _ _ _ _, Below.refl _ _⟩
    case round =>
      rename World => wo
      obtain ⟨k, hk, rfl, rfl, hown, hbo⟩ := hrel
      have hso := hbo.size
      by_cases hlt : k < N
      · have hkl : k < row.length := by rw [HN.out]; exact hlt
        have Hct := hide (cutG_take r.left r.right row k hkl)
        have Hws := hide (widthOf_snoc row k hkl)
        have hwl := widthOf_take_le row k
        have hwl2 := widthOf_take_le row (k + 1)
        rw [HN.out] at hwl hwl2
        have hcl := cutG_len r.left r.right (row.take k) 0
        rw [List.length_take, HN.out, Nat.min_eq_left hk] at hcl
        obtain ⟨bk, off, rfl, hbb, c0, c1', c2⟩ := (Hgl.out.below (GlAt.stays _) hbo).get hkl
        obtain ⟨⟨gt, gw, gs⟩, hx⟩ : ∃ x, row[k] = x := ⟨_, rfl⟩
        rw [hx] at c0 c1' c2 Hct Hws
        dsimp only at c0 c1' c2
        clear hx
        obtain ⟨W, hW⟩ : ∃ W, widthOf (row.take k) = W := ⟨_, rfl⟩
        rw [hW] at Hct Hws hwl ⊢
        obtain ⟨g, hg⟩ : ∃ g, glW ⟨gt, gw, gs⟩ = g := ⟨_, rfl⟩
        rw [hg] at Hct Hws
        have hgl2 : g ≤ 2 := by rw [← hg]; exact glW_le _
        obtain ⟨PC, hPC⟩ : ∃ PC, cutG r.left r.right 0 (row.take k) = PC := ⟨_, rfl⟩
        rw [hPC] at Hct hown hcl
        obtain ⟨pl, hpl⟩ : ∃ pl, PC.length = pl := ⟨_, rfl⟩
        rw [hpl] at hown hcl
        have Hpl := hide hpl
        have Hg := hide hg
        clear hW hg hPC hpl
        obtain ⟨Ap, cp, rfl⟩ := own_form hown
        have hlit := block_new (wo.alloc (.cells #[.string gt, .bool gw, .int .i64 gs] 45)) (.cells #[.string gt, .bool gw, .int .i64 gs] 45)
        have hlit0 := block_alloc (block_new wo (.cells #[.string gt, .bool gw, .int .i64 gs] 45)) (.cells #[.string gt, .bool gw, .int .i64 gs] 45)
        rw [World.size_alloc] at hlit
        have hb2 : Below wo.heap.size wo ((wo.alloc (.cells #[.string gt, .bool gw, .int .i64 gs] 45)).alloc (.cells #[.string gt, .bool gw, .int .i64 gs] 45)) := ((Below.refl _ _).alloc (Nat.le_refl _) _).alloc (by simp) _
        have hs2 : ((wo.alloc (.cells #[.string gt, .bool gw, .int .i64 gs] 45)).alloc (.cells #[.string gt, .bool gw, .int .i64 gs] 45)).heap.size = wo.heap.size + 1 + 1 := by simp
        have hone : GlRow ((wo.alloc (.cells #[.string gt, .bool gw, .int .i64 gs] 45)).alloc (.cells #[.string gt, .bool gw, .int .i64 gs] 45)) ((wo.alloc (.cells #[.string gt, .bool gw, .int .i64 gs] 45)).alloc (.cells #[.string gt, .bool gw, .int .i64 gs] 45)).heap.size (some ⟨wo.heap.size + 1, 0, none⟩) [⟨gt, gw, gs⟩] :=
          Sl.of_block GlAt.lays hlit (by omega) rfl
        have HW1 := hide (widthV _ (some ⟨wo.heap.size + 1, 0, none⟩) 1 [⟨gt, gw, gs⟩] hone (by simp))
        rw [show widthOf [⟨gt, gw, gs⟩] = g by rw [← Hg.out]; simp [widthOf], show [(⟨gt, gw, gs⟩ : Gl)].length = 1 from rfl] at HW1
        have Hlit0 := hide hlit0
        have Hb2 := hide hb2
        have Hs2 := hide hs2
        have HKo := HK.out
        clear hlit hlit0 hb2 hs2 hone
        rcases (show (decide (r.left ≤ (W : Int)) = false) ∨ (decide (r.left ≤ (W : Int)) = true ∧ decide ((W : Int) + (g : Int) ≤ r.right) = false) ∨ (decide (r.left ≤ (W : Int)) = true ∧ decide ((W : Int) + (g : Int) ≤ r.right) = true) by
          by_cases a1 : r.left ≤ (W : Int) <;> by_cases a2 : (W : Int) + (g : Int) ≤ r.right <;> simp [a1, a2]) with t8 | ⟨t8, t9⟩ | ⟨t8, t9⟩
        all_goals
          go_wp2_with (first
            | (go_at_call 24; refine HW1.out.mono ?_; rintro e w5 ⟨rfl, hb5⟩; have hbo5 := Hb2.out.trans (hb5.mono Hb2.out.size); have hbw5 := hbo.trans (hbo5.mono hso); obtain ⟨⟨x0, x1, x2, x3, x4, x5⟩, y0, y1, y2, y3, y4, y5, y6, y7⟩ := HKo w5 (HB1.out.trans (hbw5.mono HB1.out.size)); have hcc := fun i => cell_block (block_below Hlit0.out hb5 (by rw [Hs2.out]; omega)) i; have cc0 := hcc 0; have cc1 := hcc 1; have cc2 := hcc 2)
            | (at_builtin; refine wpList_app w5 (.tmp 68) (.tmp 70) 39 rfl rfl el_glyph w1.heap.size _ pl _ (by rfl) (own_below hown hbo5 (Nat.le_refl _)) hbw5.size _ 1 1 _ _ (by rfl) rfl rfl (by simp [Value.oneCell']) (by omega) ?_; intro v6 w6 hown6 hg6; have hb6 := below_own hbw5 (own_below hown hbo5 (Nat.le_refl _)) hg6 (Nat.le_refl _) hbw5.size)
            | fail)
          go_roundw
          case rel =>
            first
              | exact ⟨k + 1, by omega, by go_num, int_eq (by rw [Hws.out]; omega), own_eq hown6 (by rw [Hct.out, if_pos (by simpa using And.intro t8 t9)]; simp [Hpl.out]) (by rw [Hct.out, if_pos (by simpa using And.intro t8 t9)]; simp [Gl.enc]), hb6⟩
              | exact ⟨k + 1, by omega, by go_num, int_eq (by rw [Hws.out]; omega), own_eq (own_below hown hbo5 (Nat.le_refl _)) (by rw [Hct.out, if_neg (by intro h; simp at t8; omega)]; simp [Hpl.out]) (by rw [Hct.out, if_neg (by intro h; simp at t8; omega)]; simp), hbw5⟩
              | exact ⟨k + 1, by omega, by go_num, int_eq (by rw [Hws.out]; omega), own_eq (own_below hown hbo5 (Nat.le_refl _)) (by rw [Hct.out, if_neg (by intro h; simp at t9; omega)]; simp [Hpl.out]) (by rw [Hct.out, if_neg (by intro h; simp at t9; omega)]; simp), hbw5⟩
          case measure => simp [intOf]; omega
      · obtain rfl : k = N := by omega
        have HTk := hide (show row.take k = row by rw [← HN.out, List.take_length])
        rw [HTk.out] at hown
        have hpl := cutG_len r.left r.right row 0
        obtain ⟨PC, hPC⟩ : ∃ PC, cutG r.left r.right 0 row = PC := ⟨_, rfl⟩
        rw [hPC] at hown hpl HV
        obtain ⟨Ap, cp, hp, hcp, hgl⟩ := Sl.of_own GlAt.lays hown
        subst hp
        have HI := hide (indicatorP wo Ap cp PC hgl (by rw [HN.out] at hpl; omega))
        have hbwo := hbw.trans (hbo.mono (by have := hbw.size; omega))
        have hbnd : ∀ a d n, indR PC = some (a, d, n) → a < d ∧ d ≤ PC.length ∧ n ≤ 100 := fun a d n h => indR_bd h
        clear hPC hpl hown
        obtain ⟨pl, hpl⟩ : ∃ pl, PC.length = pl := ⟨_, rfl⟩
        rw [hpl] at HI hbnd ⊢
        clear hgl hpl
        cases hi : indR PC with
        | none =>
          rw [hi] at HI HV
          unfold pcE at HI
          dsimp only at HI
          clear hi hbnd
          go_wp2_with (go_at_call 34; refine HI.out.mono ?_; rintro e w2 ⟨rfl, hb2⟩)
          go_ret2
          exact ⟨by rw [HV.out]; rfl, hbwo.trans (hb2.mono hbwo.size)⟩
        | some x =>
          obtain ⟨a, d, n⟩ := x
          rw [hi] at HI HV
          unfold pcE at HI
          dsimp only at HI
          clear hi hbnd
          go_wp2_with (go_at_call 34; refine HI.out.mono ?_; rintro e w2 ⟨rfl, hb2⟩)
          go_ret2
          exact ⟨by rw [HV.out]; rfl, hbwo.trans (hb2.mono hbwo.size)⟩
end Go.Proofs.YtalmbcelkllpjaaDoor
