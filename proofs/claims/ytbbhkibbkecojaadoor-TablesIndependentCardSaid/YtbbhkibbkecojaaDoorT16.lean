/- Tables: narratorref24.Cell, where the columns are looked at. -/
import Derived.Test.YtbbhkibbkecojaaDoorT15
import Derived.Outline
namespace Go.Proofs.YtbbhkibbkecojaaDoor
open Go.RowKit

set_option maxHeartbeats 8000000 in
set_option maxRecDepth 100000 in
/-- The glyphs without the spaces before and behind, and their text: what stands behind the first loop. -/
theorem cell24_late (w : World) (A : Option Addr) (c : Nat) (v : Vw) (r : Rg) (W T B s : Nat) (row col : Int) (h : Rows2 w w.heap.size A v.rows) (ht : v.Tame) (hc : v.rows.length ≤ c) (hok : v.ok = true) (hval : validB v.height r.top r.bottom = true)
    (e1 : v.width = W) (e2 : 1 ≤ W) (e3 : W ≤ 200) (e4 : r.top = T) (e5 : r.bottom = B) (e6 : T < B) (e7 : B ≤ v.rows.length) (hrow : 0 ≤ row) (hrow2 : row < r.bottom - r.top) (hs : (s : Int) = r.top + row) :
    Calls Tryd.prog 13 #[v.val A c, r.val, .int .i64 row, .int .i64 col] w fun e w' => e = .returned (.tuple #[.string (cellT v r row col).1, .int .i64 (cellT v r row col).2]) ∧ Below w.heap.size w w' := by
  obtain ⟨R, hR⟩ : ∃ R, cellT v r row col = R := ⟨_, rfl⟩
  rw [hR]
  unfold cellT partsT at hR
  rw [if_neg (by rw [hok]; simp), if_neg (by rw [hval]; simp), if_neg (by omega), if_neg (by omega), e1, e4, e5, show ((T : Int) + row) = ((s : Nat) : Int) by omega] at hR
  simp only [Int.toNat_natCast] at hR
  obtain ⟨W0, hW0, hbox, hs0, hvb, hrb⟩ := boxes2 w v A c r
  have HC := hide (check15 W0 A c v ((h.below hbox).more hbox.size) ht)
  have HV := hide (fun (w1 : World) (hb1 : Below w.heap.size w w1) => valid24P w1 A c v r.top r.bottom ((h.below hb1).more hb1.size) ht)
  have hv24 : valid24 v r.top r.bottom = true := by unfold valid24; rw [hok, hval]; rfl
  have HG := hide (fun (w1 : World) (hb1 : Below w.heap.size w w1) => gutters24_yes w1 A c v W T B ((h.below hb1).more hb1.size) ht (by rw [e4, e5] at hv24; exact hv24) e1 hc)
  rw [hv24] at HV
  have hsl : s < v.rows.length := by omega
  have HH := hide h
  obtain ⟨hrl, hrt⟩ := ht.2 _ (List.getElem_mem hsl)
  replace hrt := hide hrt
  have hgr : v.rows[s]?.getD [] = v.rows[s] := by rw [List.getElem?_eq_getElem hsl]; rfl
  rw [hgr] at hR
  have Hne := hide (ok_texts hok _ (List.getElem_mem hsl))
  have h0 : v.err = 0 := by unfold Vw.ok at hok; simpa using hok
  rw [h0] at HC
  have hlen8 := ht.1
  clear h ht hok hval h0 hgr e1 hv24
  rw [hW0] at hbox hs0 hvb hrb HC
  clear hW0
  simp only [World.size_alloc] at HC
  have hrow3 : row < (B : Int) - (T : Int) := by omega
  have hsb : (s : Int) ≤ 100 := by omega
  have hTb : (T : Int) ≤ 100 := by omega
  have hBb : (B : Int) ≤ 100 := by omega
  obtain ⟨rk, ri, rp, rt, rl, rb, rr, rlb⟩ := r
  dsimp only at e4 e5 hrow2 hs hvb hrb hbox HC HV HG hs0 ⊢
  subst e4 e5
  have hsum : (T : Int) + row = (s : Int) := hs.symm
  clear hrow2 hs
  unfold Vw.val at HC HV HG ⊢
  unfold Rg.val
  obtain ⟨f, hf⟩ : ∃ f, gut v.rows T B = f := ⟨_, rfl⟩
  rw [hf] at hR HG
  obtain ⟨ps, hps⟩ : ∃ ps, partsTo f W = ps := ⟨_, rfl⟩
  have hpl := (partsTo_bd f W).1
  rw [hps] at hR hpl
  have Hps := hide hps
  clear hf hps
  by_cases hneg : col < 0
  · rw [if_pos hneg] at hR
    subst hR
    go_enter Tryd.func13, Tryd.ntmps13
    go_wp2_with (first
      | (go_at_call 35; refine HC.out.mono ?_; rintro e w1 ⟨rfl, hb1⟩; obtain ⟨k0, k1, k2, k3, k4, k5⟩ := (hvb.below hb1 (by omega)).cells; obtain ⟨r0, r1, r2, r3, r4, r5, r6, r7⟩ := (hrb.below hb1 (by omega)).cells; dsimp only at r0 r1 r2 r3 r4 r5 r6 r7; have hs1 : w.heap.size + 1 + 1 ≤ w1.heap.size := (by have := hb1.size; omega))
      | (go_at_call 36; refine (HV.out _ (hbox.trans (hb1.mono (by omega)))).mono ?_; rintro e w2 ⟨rfl, hb2⟩; obtain ⟨q0, q1, q2, q3, q4, q5⟩ := ((hvb.below hb1 (by omega)).below hb2 (by omega)).cells; obtain ⟨x0, x1, x2, x3, x4, x5, x6, x7⟩ := ((hrb.below hb1 (by omega)).below hb2 (by omega)).cells; dsimp only at x0 x1 x2 x3 x4 x5 x6 x7; have hbb := (hbox.trans (hb1.mono (by omega))).trans (hb2.mono (by omega)))
      | (go_at_call 23; refine (HG.out _ hbb).mono ?_; rintro e w3 ⟨g, cap, rfl, hown, hb3⟩; have hcl : ∀ j, j < W → w3.cell? ⟨g, j, none⟩ = some (.bool (f j)) := (fun j hj => by rw [hown.cellAt j (by omega), bits_get W _ hj]); have HP := hide (parts24P w3 g cap W f (hown.lt g rfl).2 hcl (by omega)); clear hcl; rw [Hps.out] at HP; have hbb3 := hbb.trans (hb3.mono hbb.size))
      | (go_at_call 37; refine HP.out.mono ?_; rintro e w4 ⟨vv, rfl, hown4, hb4⟩))
    go_ret2
    exact ⟨rfl, hbb3.trans (hb4.mono hbb3.size)⟩
  rw [if_neg hneg] at hR
  obtain ⟨κ, hκ⟩ : ∃ κ : Nat, col = κ := ⟨col.toNat, by omega⟩
  subst hκ
  rw [Int.toNat_natCast] at hR
  cases hp : ps[κ]? with
  | none =>
    rw [hp] at hR
    dsimp only at hR
    subst hR
    have hge : ps.length ≤ κ := by simpa using hp
    clear hp
    go_enter Tryd.func13, Tryd.ntmps13
    go_wp2_with (first
      | (go_at_call 35; refine HC.out.mono ?_; rintro e w1 ⟨rfl, hb1⟩; obtain ⟨k0, k1, k2, k3, k4, k5⟩ := (hvb.below hb1 (by omega)).cells; obtain ⟨r0, r1, r2, r3, r4, r5, r6, r7⟩ := (hrb.below hb1 (by omega)).cells; dsimp only at r0 r1 r2 r3 r4 r5 r6 r7; have hs1 : w.heap.size + 1 + 1 ≤ w1.heap.size := (by have := hb1.size; omega))
      | (go_at_call 36; refine (HV.out _ (hbox.trans (hb1.mono (by omega)))).mono ?_; rintro e w2 ⟨rfl, hb2⟩; obtain ⟨q0, q1, q2, q3, q4, q5⟩ := ((hvb.below hb1 (by omega)).below hb2 (by omega)).cells; obtain ⟨x0, x1, x2, x3, x4, x5, x6, x7⟩ := ((hrb.below hb1 (by omega)).below hb2 (by omega)).cells; dsimp only at x0 x1 x2 x3 x4 x5 x6 x7; have hbb := (hbox.trans (hb1.mono (by omega))).trans (hb2.mono (by omega)))
      | (go_at_call 23; refine (HG.out _ hbb).mono ?_; rintro e w3 ⟨g, cap, rfl, hown, hb3⟩; have hcl : ∀ j, j < W → w3.cell? ⟨g, j, none⟩ = some (.bool (f j)) := (fun j hj => by rw [hown.cellAt j (by omega), bits_get W _ hj]); have HP := hide (parts24P w3 g cap W f (hown.lt g rfl).2 hcl (by omega)); clear hcl; rw [Hps.out] at HP; have hbb3 := hbb.trans (hb3.mono hbb.size))
      | (go_at_call 37; refine HP.out.mono ?_; rintro e w4 ⟨vv, rfl, hown4, hb4⟩; obtain ⟨A3, c3, rfl⟩ := own_form hown4))
    go_ret2
    exact ⟨rfl, hbb3.trans (hb4.mono hbb3.size)⟩
  | some p =>
    rw [hp] at hR
    dsimp only at hR
    have hlt : κ < ps.length := (List.getElem?_eq_some_iff.1 hp).1
    obtain ⟨g0, g1⟩ := span_get ps κ p hp
    replace g0 := hide g0
    replace g1 := hide g1
    clear hp
    obtain ⟨p1, p2⟩ := p
    dsimp only at g0 g1 hR
    obtain ⟨rw0, hrw0⟩ : ∃ rw0, v.rows[s] = rw0 := ⟨_, rfl⟩
    have Hrw := hide hrw0
    rw [hrw0] at hrl hrt hR Hne
    clear hrw0
    rw [cellOf_trim _ _ _ Hne.out] at hR
    have HR := hide hR
    clear hR
    have hq1 : decide (row < 0) = false := by simp; omega
    have hq2 : decide ((B : Int) - (T : Int) ≤ row) = false := by simp; omega
    have hq3 : decide ((κ : Int) < 0) = false := by simp
    have hq4 : decide (ps.length ≤ κ) = false := by simp; omega
    go_enter Tryd.func13, Tryd.ntmps13
    go_wp2_with (first
      | (go_at_call 35; refine HC.out.mono ?_; rintro e w1 ⟨rfl, hb1⟩; obtain ⟨k0, k1, k2, k3, k4, k5⟩ := (hvb.below hb1 (by omega)).cells; obtain ⟨r0, r1, r2, r3, r4, r5, r6, r7⟩ := (hrb.below hb1 (by omega)).cells; dsimp only at r0 r1 r2 r3 r4 r5 r6 r7; have hs1 : w.heap.size + 1 + 1 ≤ w1.heap.size := (by have := hb1.size; omega))
      | (go_at_call 36; refine (HV.out _ (hbox.trans (hb1.mono (by omega)))).mono ?_; rintro e w2 ⟨rfl, hb2⟩; obtain ⟨q0, q1, q2, q3, q4, q5⟩ := ((hvb.below hb1 (by omega)).below hb2 (by omega)).cells; obtain ⟨x0, x1, x2, x3, x4, x5, x6, x7⟩ := ((hrb.below hb1 (by omega)).below hb2 (by omega)).cells; dsimp only at x0 x1 x2 x3 x4 x5 x6 x7; have hbb := (hbox.trans (hb1.mono (by omega))).trans (hb2.mono (by omega)))
      | (go_at_call 23; refine (HG.out _ hbb).mono ?_; rintro e w3 ⟨g, cap, rfl, hown, hb3⟩; have hcl : ∀ j, j < W → w3.cell? ⟨g, j, none⟩ = some (.bool (f j)) := (fun j hj => by rw [hown.cellAt j (by omega), bits_get W _ hj]); have HP := hide (parts24P w3 g cap W f (hown.lt g rfl).2 hcl (by omega)); clear hcl; rw [Hps.out] at HP; have hbb3 := hbb.trans (hb3.mono hbb.size))
      | (go_at_call 37; refine HP.out.mono ?_; rintro e w4 ⟨vv, rfl, hown4, hb4⟩; obtain ⟨go, co, rfl, hgo, hgl⟩ := own_form1 hown4 (by omega); have hbw := hbb3.trans (hb4.mono hbb3.size); obtain ⟨y0, y1, y2, y3, y4, y5⟩ := ((((hvb.below hb1 (by omega)).below hb2 (by omega)).below hb3 (by have := hb2.size; omega)).below hb4 (by have := hb2.size; have := hb3.size; omega)).cells; obtain ⟨z0, z1, z2, z3, z4, z5, z6, z7⟩ := ((((hrb.below hb1 (by omega)).below hb2 (by omega)).below hb3 (by have := hb2.size; omega)).below hb4 (by have := hb2.size; have := hb3.size; omega)).cells; dsimp only at z0 z1 z2 z3 z4 z5 z6 z7; obtain ⟨ba, off, rfl, hbb', A1, c1, d0, d1, d2⟩ := (HH.out.below hbw).get1 hsl; rw [Hrw.out] at d0 d1 d2; have hHl : w.heap.size + 1 < w4.heap.size := (by have := hb2.size; have := hb3.size; have := hb4.size; omega); have hHl2 : w.heap.size < w4.heap.size := (by omega); have hbal : ba < w4.heap.size := (by have := hbw.size; omega)))
    have hx4 := (hown4.cellAt (κ * 2) (by omega)).trans g0.out
    have hx5 := (hown4.cellAt (κ * 2 + 1) (by omega)).trans g1.out
    have HX := hide (fun (wr : World) (hb : Below w4.heap.size w4 wr) => And.intro ((hb.cell (p := ⟨go, κ * 2, none⟩) hgl).trans hx4) ((hb.cell (p := ⟨go, κ * 2 + 1, none⟩) hgl).trans hx5))
    have HD := hide d2
    have hlti : (κ : Int) < (ps.length : Int) := by omega
    have hB4 := (Below.refl w4.heap.size w4).alloc (Nat.le_refl _) (.cells #[] 40)
    have hrc : rw0.length ≤ c1 := d1
    clear d2 d0 d1 hx4 hx5 hown4 HC HV HG HP k0 k1 k2 k3 k4 k5 r0 r1 r2 r3 r4 r5 r6 r7 q0 q1 q2 q3 q4 q5 x0 x1 x2 x3 x4 x5 x6 x7 y0 y1 y2 y3 y4 y5 z0 z1 z2 z3 z4 z5 z6 z7 hown hb1 hb2 hb3 hb4 hvb hrb hs0 hbox hbb hbb3 HH Hrw Hps g0 g1
    obtain ⟨P, hP⟩ : ∃ P : Nat → Nat × List Gl, (fun k => pickSt p1 p2 (rw0.take k)) = P := ⟨_, rfl⟩
    have HP0 := hide (show P 0 = (0, []) by rw [← hP]; rfl)
    have HPs := hide (fun k (hk : k < rw0.length) => show P (k + 1) = ((P k).1 + glW rw0[k], if decide ((p1 : Int) ≤ (P k).1) && decide (((P k).1 : Int) < p2) then (P k).2 ++ [rw0[k]] else (P k).2) by rw [← hP]; exact pickSt_snoc p1 p2 rw0 k hk)
    have HPl := hide (fun k (hk : k ≤ rw0.length) => show (P k).2.length ≤ k ∧ (P k).1 ≤ 2 * k by rw [← hP]; exact pickSt_len p1 p2 rw0 k hk)
    have HPm := hide (fun k (hk : k ≤ rw0.length) => show ∀ g ∈ (P k).2, g ∈ rw0 by rw [← hP]; exact pickSt_mem p1 p2 rw0 k hk)
    have HPe := hide (show pickSt p1 p2 rw0 = P rw0.length by rw [← hP]; show _ = pickSt p1 p2 (rw0.take rw0.length); rw [List.take_length])
    clear hP
    go_loopw [11, 12, 14] (fun o m i wr => ∃ k : Nat, k ≤ rw0.length ∧ i = .int .i64 k ∧ m = .int .i64 ((P k).1 : Nat) ∧ wr.ownsRow w4.heap.size 40 3 o (P k).2.length ((P k).2.flatMap Gl.enc) ∧ Below w4.heap.size w4 wr) (fun _ _ i _ => rw0.length - (intOf i).toNat)
    case atStart => exact ⟨0, by omega, rfl, by rw [HP0.out]; rfl, by rw [HP0.out]; exact own_lit w4 w4.heap.size 40 3 0 #[] (Nat.le_refl _) (by omega) rfl, hB4⟩
    case round =>
      clear hB4
      rename World => wo
      obtain ⟨k, hk, rfl, rfl, hown, hb⟩ := hrel
      have hsz := hb.size
      obtain ⟨hl1, hl2⟩ := HPl.out k hk
      obtain ⟨x4, x5⟩ := HX.out wo hb
      by_cases hlt : k < rw0.length
      · obtain ⟨b2, off2, rfl, hb2, c0, c1', c2⟩ := (HD.out.below (GlAt.stays _) (hb.mono (by omega))).get hlt
        have hst := HPs.out k hlt
        obtain ⟨m, hm⟩ : ∃ m, (P k).1 = m := ⟨_, rfl⟩
        obtain ⟨q, hq⟩ : ∃ q, (P k).2 = q := ⟨_, rfl⟩
        rw [hm, hq] at hst
        rw [hq] at hown hl1
        rw [hm] at hl2
        have Hst := hide hst
        have hg1 := glW_le rw0[k]
        obtain ⟨gk, hgk⟩ : ∃ gk, rw0[k] = gk := ⟨_, rfl⟩
        have HW := hide (fun (W : World) (hW : Below w4.heap.size w4 W) => width15 W (some ⟨b2, off2 + k * 3, none⟩) (c1 - k) [rw0[k]] (((HD.out.below (GlAt.stays _) (hW.mono (by omega))).take1 hlt).more (by have := hW.size; omega)) (by simp))
        rw [hgk] at c0 c1' c2 Hst hg1 HW
        have h1w : widthOf [gk] = glW gk := by simp [widthOf]
        rw [h1w] at HW
        obtain ⟨n, hn⟩ : ∃ n, glW gk = n := ⟨_, rfl⟩
        rw [hn] at HW hg1 Hst
        have hltk : (k : Int) < (rw0.length : Int) := by omega
        obtain ⟨A9, c9, rfl⟩ := own_form hown
        clear hst hgk h1w hn
        have hi1 : decide ((p1 : Int) ≤ (m : Int)) = decide (p1 ≤ m) := by simp
        have hi2 : decide ((m : Int) < (p2 : Int)) = decide (m < p2) := by simp
        have hx1 := Hst.out
        rw [hi1, hi2] at hx1
        clear hi1 hi2 Hst
        cases h1 : decide (p1 ≤ m) with
        | false =>
          rw [h1, Bool.false_and, if_neg (by simp)] at hx1
          have Hst := hide hx1
          clear hx1
          go_wp2_with (first
            | (go_at_call 38; refine (HW.out _ hb).mono ?_; rintro e w1 ⟨rfl, rfl⟩)
            | fail)
          go_roundw
          case rel => exact ⟨k + 1, by omega, by go_num, by rw [Hst.out]; go_num, by rw [Hst.out]; exact hown, hb⟩
          case measure => simp [intOf]; omega
        | true =>
          cases h2 : decide (m < p2) with
          | false =>
            rw [h1, h2, Bool.true_and, if_neg (by simp)] at hx1
            have Hst := hide hx1
            clear hx1
            go_wp2_with (first
              | (go_at_call 38; refine (HW.out _ hb).mono ?_; rintro e w1 ⟨rfl, rfl⟩)
              | fail)
            go_roundw
            case rel => exact ⟨k + 1, by omega, by go_num, by rw [Hst.out]; go_num, by rw [Hst.out]; exact hown, hb⟩
            case measure => simp [intOf]; omega
          | true =>
            rw [h1, h2, Bool.true_and, if_pos rfl] at hx1
            have Hst := hide hx1
            clear hx1
            go_wp2_with (first
              | (at_builtin; refine wpList_app _ (.tmp 84) (.tmp 89) 38 rfl rfl el_glyph w4.heap.size _ _ _ rfl hown hsz _ 1 1 _ _ rfl (by first | rfl | simp) rfl (by simp [Value.oneCell']) (by omega) ?_; intro v6 w6 hown6 hg6; have hb6 := below_own hb hown hg6 (Nat.le_refl _) hsz)
              | (go_at_call 38; refine (HW.out _ hb6).mono ?_; rintro e w1 ⟨rfl, rfl⟩)
              | fail)
            go_roundw
            case rel => exact ⟨k + 1, by omega, by go_num, by rw [Hst.out]; go_num, by rw [Hst.out]; exact own_eq hown6 (by simp) (by simp [Gl.enc]), hb6⟩
            case measure => simp [intOf]; omega
      · obtain rfl : k = rw0.length := by omega
        obtain ⟨q, hq⟩ : ∃ q, (P rw0.length).2 = q := ⟨_, rfl⟩
        rw [hq] at hown hl1
        have hqm := HPm.out rw0.length (Nat.le_refl _)
        rw [hq] at hqm
        have HRq := hide (show (textB (trimB (trimF q)), 0) = R by have := HR.out; rw [HPe.out, hq] at this; exact this)
        have hqs := hide (fun g (hg : g ∈ q) => hrt.out g (hqm g hg))
        obtain ⟨A9, c9, rfl, hc9, hgl9⟩ := Sl.of_own GlAt.lays hown
        have Hgl9 := hide hgl9
        clear hgl9 hown hqm hq
        have hbwo := hbw.trans (hb.mono (by omega))
        go_wp2
        go_loop [11] (fun x => ∃ (A' : Option Addr) (c' : Nat) (l : List Gl), x = .slice A' l.length c' ∧ l.length ≤ c' ∧ trimF q = trimF l ∧ l.length ≤ q.length ∧ (∀ g ∈ l, g ∈ q) ∧ GlRow wo wo.heap.size A' l) (fun x => lenOf x)
        case atStart => exact ⟨A9, c9, q, rfl, hc9, rfl, Nat.le_refl _, fun _ h => h, Hgl9.out⟩
        case round =>
          obtain ⟨A', c', l, rfl, hlc, htr, hll, hlq, hgl⟩ := hrel
          have Htr := hide htr
          have Hgl := hide hgl
          have Hlq := hide hlq
          clear htr hgl hlq Hgl9
          cases l with
          | nil =>
            obtain ⟨L0, hL0e⟩ : ∃ L0 : List Gl, L0 = [] := ⟨_, rfl⟩
            have hL0 : trimF [] = L0 := hL0e.symm
            simp only [List.length_nil] at hlc hll ⊢
            rw [← hL0e] at Hgl Hlq
            have hl00 : L0.length = 0 := by rw [hL0e]; rfl
            have Hl0 := hide hl00
            rw [← hl00] at hlc hll
            clear hL0e hl00
            have HTr2 := hide (show (textB (trimB L0), 0) = R by have := HRq.out; rw [Htr.out, hL0] at this; exact this)
            clear hL0 Htr
            go_wp2
            go_loop [11] (fun x => ∃ l3 : List Gl, x = .slice A' l3.length c' ∧ l3.length ≤ c' ∧ trimB L0 = trimB l3 ∧ l3.length ≤ q.length ∧ (∀ g ∈ l3, g ∈ q) ∧ GlRow wo wo.heap.size A' l3) (fun x => lenOf x)
            case atStart => exact ⟨L0, by rw [Hl0.out], hlc, rfl, hll, Hlq.out, Hgl.out⟩
            case round =>
              clear hlc hll
              obtain ⟨l3, rfl, hlc3, htr3, hll3, hlq3, hgl3⟩ := hrel
              have Htr3 := hide htr3
              have Hgl3 := hide hgl3
              have Hlq3 := hide hlq3
              clear htr3 hgl3 hlq3
              rcases snoc_cases l3 with h30 | ⟨l4, g4, h30⟩
              · subst h30
                simp only [List.length_nil] at hlc3 hll3 ⊢
                have HRl := hide (show (textB [], 0) = R by have := HTr2.out; rw [Htr3.out] at this; exact this)
                have HTx := hide (text15 wo A' c' [] (Sl.nil rfl) (by simp) (by simp))
                simp only [List.length_nil] at HTx
                go_wp2_with (go_at_call 26; refine HTx.out.mono ?_; rintro e5 w5 ⟨rfl, rfl⟩)
                go_ret2
                exact ⟨by rw [← HRl.out]; rfl, hbwo⟩
              · have h31 : l3.length = l4.length + 1 := by rw [h30]; simp
                obtain ⟨b3, off3, rfl, hb3, e40, -, -⟩ := Hgl3.out.get (show l4.length < l3.length by omega)
                have hlast : l3[l4.length]'(by omega) = g4 := by simp [h30]
                rw [hlast] at e40
                have hgl4 := Hgl3.out.take l4.length
                rw [show l3.take l4.length = l4 by rw [h30]; simp] at hgl4
                have Hgl4 := hide hgl4
                obtain ⟨N3, hN3⟩ : ∃ N3, l3.length = N3 := ⟨_, rfl⟩
                have HTx := hide (text15 wo (some ⟨b3, off3, none⟩) c' l3 Hgl3.out (by omega) (fun g hg => by have := hqs.out g (Hlq3.out g hg); omega))
                rw [hN3] at HTx h31 hlc3 hll3 ⊢
                obtain ⟨N4, hN4⟩ : ∃ N4, l4.length = N4 := ⟨_, rfl⟩
                rw [hN4] at e40 h31
                have HN4 := hide hN4
                have H30 := hide h30
                have hix : (N3 : Int) - 1 = (N4 : Int) := by omega
                have h3p : decide (0 < N3) = true := by simp; omega
                have h3p' : decide ((0 : Int) < (N3 : Int)) = true := by simp; omega
                have h43 : (N4 : Int) < (N3 : Int) := by omega
                have H31 := hide h31
                clear h30 hN3 hN4 hlast hgl4 h31
                cases hs4 : spaceB g4 with
                | true =>
                  have hsp : (g4.text.toList == [32]) = true := hs4
                  have Hsp := hide hs4
                  obtain ⟨tx, htx⟩ : ∃ tx, g4.text = tx := ⟨_, rfl⟩
                  rw [htx] at e40 hsp
                  clear htx hs4
                  go_wp2
                  go_round
                  case rel => exact ⟨l4, by rw [HN4.out], by rw [HN4.out]; have := H31.out; omega, by rw [Htr3.out, H30.out, trimB_space Hsp.out], by rw [HN4.out]; have := H31.out; omega, fun g hg => Hlq3.out g (by rw [H30.out]; simp [hg]), Hgl4.out⟩
                  case measure => have := H31.out; simp [lenOf]; omega
                | false =>
                  have hsp : (g4.text.toList == [32]) = false := hs4
                  have HRl := hide (show (textB l3, 0) = R by have := HTr2.out; rw [Htr3.out, H30.out, trimB_done hs4, ← H30.out] at this; exact this)
                  obtain ⟨tx, htx⟩ : ∃ tx, g4.text = tx := ⟨_, rfl⟩
                  rw [htx] at e40 hsp
                  clear htx hs4
                  go_wp2_with (go_at_call 26; refine HTx.out.mono ?_; rintro e5 w5 ⟨rfl, rfl⟩)
                  go_ret2
                  exact ⟨by rw [← HRl.out]; rfl, hbwo⟩
          | cons g l =>
            obtain ⟨b3, off3, rfl, hb3, e30, -, -⟩ := Hgl.out.get (show 0 < (g :: l).length by simp)
            simp only [List.getElem_cons_zero, Nat.zero_mul, Nat.add_zero] at e30
            cases hs3 : spaceB g with
            | true =>
              have hsp : (g.text.toList == [32]) = true := hs3
              have Htr2 := hide (show trimF q = trimF l by rw [Htr.out, trimF_space hs3])
              have hgl2 := Hgl.out.drop 1
              simp only [List.drop_succ_cons, List.drop_zero, Nat.one_mul] at hgl2
              have Hgl2 := hide hgl2
              obtain ⟨n, hn⟩ : ∃ n, l.length = n := ⟨_, rfl⟩
              simp only [List.length_cons] at hlc hll ⊢
              rw [hn] at hlc hll ⊢
              have Hn := hide hn
              obtain ⟨tx, htx⟩ : ∃ tx, g.text = tx := ⟨_, rfl⟩
              rw [htx] at e30 hsp
              have hp1 : decide (0 < n + 1) = true := by simp
              clear htx hs3 hn hgl2
              by_cases hc1 : c' = 1
              · subst hc1
                obtain rfl : n = 0 := by omega
                go_wp2
                go_round
                case rel => exact ⟨some ⟨b3, off3, none⟩, 0, l, by rw [Hn.out], by rw [Hn.out]; omega, Htr2.out, by rw [Hn.out]; omega, fun g' hg' => Hlq.out g' (by simp [hg']), by have := List.eq_nil_of_length_eq_zero Hn.out; subst this; exact Sl.nil rfl⟩
                case measure => simp [lenOf]
              · go_wp2
                go_round
                case rel => exact ⟨some ⟨b3, off3 + 3, none⟩, c' - 1, l, by rw [Hn.out], by rw [Hn.out]; omega, Htr2.out, by rw [Hn.out]; omega, fun g' hg' => Hlq.out g' (by simp [hg']), Hgl2.out⟩
                case measure => simp [lenOf]
            | false =>
              have hsp : (g.text.toList == [32]) = false := hs3
              obtain ⟨L0, hL0e⟩ : ∃ L0 : List Gl, L0 = g :: l := ⟨_, rfl⟩
              have hL0 : trimF (g :: l) = L0 := by rw [hL0e]; exact trimF_done hs3
              obtain ⟨tx, htx⟩ : ∃ tx, g.text = tx := ⟨_, rfl⟩
              rw [htx] at e30 hsp
              clear htx hs3
              have HTr2 := hide (show (textB (trimB L0), 0) = R by have := HRq.out; rw [Htr.out, hL0] at this; exact this)
              clear hL0 Htr
              have hlp : 0 < (g :: l).length := by simp
              rw [← hL0e] at Hgl Hlq hlc hll hlp ⊢
              clear hL0e
              obtain ⟨n0, hn0⟩ : ∃ n0, L0.length = n0 := ⟨_, rfl⟩
              rw [hn0] at hlc hll hlp ⊢
              have Hn0 := hide hn0
              clear hn0
              have hp1 : decide (0 < n0) = true := by simp; omega
              go_wp2
              obtain ⟨A', hA'⟩ : ∃ A', (some ⟨b3, off3, none⟩ : Option Addr) = A' := ⟨_, rfl⟩
              rw [hA'] at Hgl ⊢
              clear hA'
              
              go_loop [11] (fun x => ∃ l3 : List Gl, x = .slice A' l3.length c' ∧ l3.length ≤ c' ∧ trimB L0 = trimB l3 ∧ l3.length ≤ q.length ∧ (∀ g ∈ l3, g ∈ q) ∧ GlRow wo wo.heap.size A' l3) (fun x => lenOf x)
              case atStart => exact ⟨L0, by rw [Hn0.out], by rw [Hn0.out]; exact hlc, rfl, by rw [Hn0.out]; exact hll, Hlq.out, Hgl.out⟩
              case round =>
                clear hlc hll
                obtain ⟨l3, rfl, hlc3, htr3, hll3, hlq3, hgl3⟩ := hrel
                have Htr3 := hide htr3
                have Hgl3 := hide hgl3
                have Hlq3 := hide hlq3
                clear htr3 hgl3 hlq3
                rcases snoc_cases l3 with h30 | ⟨l4, g4, h30⟩
                · subst h30
                  simp only [List.length_nil] at hlc3 hll3 ⊢
                  have HRl := hide (show (textB [], 0) = R by have := HTr2.out; rw [Htr3.out] at this; exact this)
                  have HTx := hide (text15 wo A' c' [] (Sl.nil rfl) (by simp) (by simp))
                  simp only [List.length_nil] at HTx
                  go_wp2_with (go_at_call 26; refine HTx.out.mono ?_; rintro e5 w5 ⟨rfl, rfl⟩)
                  go_ret2
                  exact ⟨by rw [← HRl.out]; rfl, hbwo⟩
                · have h31 : l3.length = l4.length + 1 := by rw [h30]; simp
                  obtain ⟨b3, off3, rfl, hb3, e40, -, -⟩ := Hgl3.out.get (show l4.length < l3.length by omega)
                  have hlast : l3[l4.length]'(by omega) = g4 := by simp [h30]
                  rw [hlast] at e40
                  have hgl4 := Hgl3.out.take l4.length
                  rw [show l3.take l4.length = l4 by rw [h30]; simp] at hgl4
                  have Hgl4 := hide hgl4
                  obtain ⟨N3, hN3⟩ : ∃ N3, l3.length = N3 := ⟨_, rfl⟩
                  have HTx := hide (text15 wo (some ⟨b3, off3, none⟩) c' l3 Hgl3.out (by omega) (fun g hg => by have := hqs.out g (Hlq3.out g hg); omega))
                  rw [hN3] at HTx h31 hlc3 hll3 ⊢
                  obtain ⟨N4, hN4⟩ : ∃ N4, l4.length = N4 := ⟨_, rfl⟩
                  rw [hN4] at e40 h31
                  have HN4 := hide hN4
                  have H30 := hide h30
                  have hix : (N3 : Int) - 1 = (N4 : Int) := by omega
                  have h3p : decide (0 < N3) = true := by simp; omega
                  have h3p' : decide ((0 : Int) < (N3 : Int)) = true := by simp; omega
                  have h43 : (N4 : Int) < (N3 : Int) := by omega
                  have H31 := hide h31
                  clear h30 hN3 hN4 hlast hgl4 h31
                  cases hs4 : spaceB g4 with
                  | true =>
                    have hsp : (g4.text.toList == [32]) = true := hs4
                    have Hsp := hide hs4
                    obtain ⟨tx, htx⟩ : ∃ tx, g4.text = tx := ⟨_, rfl⟩
                    rw [htx] at e40 hsp
                    clear htx hs4
                    go_wp2
                    go_round
                    case rel => exact ⟨l4, by rw [HN4.out], by rw [HN4.out]; have := H31.out; omega, by rw [Htr3.out, H30.out, trimB_space Hsp.out], by rw [HN4.out]; have := H31.out; omega, fun g hg => Hlq3.out g (by rw [H30.out]; simp [hg]), Hgl4.out⟩
                    case measure => have := H31.out; simp [lenOf]; omega
                  | false =>
                    have hsp : (g4.text.toList == [32]) = false := hs4
                    have HRl := hide (show (textB l3, 0) = R by have := HTr2.out; rw [Htr3.out, H30.out, trimB_done hs4, ← H30.out] at this; exact this)
                    obtain ⟨tx, htx⟩ : ∃ tx, g4.text = tx := ⟨_, rfl⟩
                    rw [htx] at e40 hsp
                    clear htx hs4
                    go_wp2_with (go_at_call 26; refine HTx.out.mono ?_; rintro e5 w5 ⟨rfl, rfl⟩)
                    go_ret2
                    exact ⟨by rw [← HRl.out]; rfl, hbwo⟩

theorem cell24P (w : World) (A : Option Addr) (c : Nat) (v : Vw) (r : Rg) (row col : Int) (h : Rows2 w w.heap.size A v.rows) (ht : v.Tame) (hc : v.rows.length ≤ c) :
    Calls Tryd.prog 13 #[v.val A c, r.val, .int .i64 row, .int .i64 col] w fun e w' => e = .returned (.tuple #[.string (cellT v r row col).1, .int .i64 (cellT v r row col).2]) ∧ Below w.heap.size w w' := by
  by_cases hno : v.ok = false ∨ validB v.height r.top r.bottom = false ∨ row < 0 ∨ r.bottom - r.top ≤ row
  · exact cell24_early w A c v r row col h ht hno
  · simp only [not_or, Bool.not_eq_false, Int.not_lt, Int.not_le] at hno
    obtain ⟨h1, h2, h3, h4⟩ := hno
    obtain ⟨-, W, T, B, e1, e2, e3, e4, e5, e6, e7, e8⟩ := valid24_facts (v := v) (t := r.top) (b := r.bottom) (by unfold valid24; rw [h1, h2]; rfl)
    exact cell24_late w A c v r W T B (r.top + row).toNat row col h ht hc h1 h2 e1 e2 e3 e4 e5 e6 e7 h3 h4 (by omega)
end Go.Proofs.YtbbhkibbkecojaaDoor
