/- The walk of the law ProgressRegions. -/
import Derived.Test.YtalmbcelkllpjaaDoorW15
import Derived.Test.YtalmbcelkllpjaaDoorW11
namespace Go.Proofs.YtalmbcelkllpjaaDoor
open Go.RowKit

/-- What a region of Find says. -/
structure RegSays (v : Vw) (k : Nat) (t : Nat) (row : List Gl) (n : Nat) (a b : Int) : Prop where
  grow : v.rows[t]? = some row
  gn : n ≤ 100
  ga : 0 ≤ a
  gab : a < b
  gb : b ≤ widthOf row
  gval : valV v ⟨8, 0, -1, t, a, (t : Int) + 1, b, labelB n⟩ = ((n : Int), true)
  gtop : (t : Int) < v.height
  gnext : ∀ j r', k < j → (progT v)[j]? = some r' → (t : Int) < r'.top
theorem reg_says {v : Vw} (hok : v.ok = true) (k : Nat) (r : Rg) (h : (progT v)[k]? = some r) : ∃ (t : Nat) (row : List Gl) (n : Nat) (a b : Int), r = ⟨8, 0, -1, t, a, (t : Int) + 1, b, labelB n⟩ ∧ RegSays v k t row n a b := by
  have hp : progT v = progL 0 v.rows := by unfold progT; rw [if_pos hok]
  have h' := h
  rw [hp] at h'
  obtain ⟨t, row, n, h1, h2, e1, e2, e3, e4, e5, e6, h3, h4, h5, ⟨x, y, h6⟩, h7⟩ := progL_says v.rows k r h'
  obtain ⟨rk, ri, rp, rt, rl, rb, rr, rlb⟩ := r
  dsimp only at e1 e2 e3 e4 e5 e6 h3 h4 h5 h6
  subst e1 e2 e3 e4 e5 e6
  have hlen := (Vw.proper hok).len
  have htl := (List.getElem?_eq_some_iff.1 h1).1
  refine ⟨t, row, n, rl, rr, rfl, h1, h2, h3, h4, h5, ?_, by omega, fun j r' hj hr' => ?_⟩
  · unfold valV valT
    rw [if_pos ⟨hok, rfl, by show (0 : Int) ≤ (t : Int); omega, by show (t : Int) < v.height; omega, rfl⟩]
    simp only [Int.toNat_natCast, h1, Option.getD_some, h6, Option.map_some]
  · rw [hp] at hr'
    obtain ⟨t', row', n', -, -, -, -, -, e4', -, -, -, -, -, -, h7'⟩ := progL_says v.rows j r' hr'
    rw [e4']
    have := progL_mono v.rows t t' (by omega)
    omega
theorem progT_len (v : Vw) : (progT v).length ≤ v.rows.length := by
  unfold progT; split
  · exact progL_len _ _
  · simp

set_option maxRecDepth 100000 in
set_option maxHeartbeats 8000000 in
theorem regionsLawP (w : World) (A : Option Addr) (c : Nat) (v : Vw) (h : Rows2 w w.heap.size A v.rows) (hT : Tabs27 w) :
    Calls Tryd.prog 10 #[v.val A c] w fun e w' => e = .returned (.bool true) ∧ Below w.heap.size w w' := by
  have hbox := (Below.refl w.heap.size w).alloc (Nat.le_refl _) (.cells #[.int .i64 v.width, .int .i64 v.height, .slice A v.rows.length c, .int .i64 v.row, .int .i64 v.col, .bool v.visible] 35)
  have hvb : VwBox _ w.heap.size v A c := block_new w (.cells #[.int .i64 v.width, .int .i64 v.height, .slice A v.rows.length c, .int .i64 v.row, .int .i64 v.col, .bool v.visible] 35)
  obtain ⟨W0, hW0⟩ : ∃ W0, w.alloc (.cells #[.int .i64 v.width, .int .i64 v.height, .slice A v.rows.length c, .int .i64 v.row, .int .i64 v.col, .bool v.visible] 35) = W0 := ⟨_, rfl⟩
  have hs0 : W0.heap.size = w.heap.size + 1 := by rw [← hW0]; simp
  rw [hW0] at hbox hvb
  have HG := hide (greatP W0 A c v ((h.below hbox).more hbox.size))
  have HA := hide (fun w1 (hb : Below w.heap.size w w1) => awakeP w1 (hT.below hb))
  have HK := hide (fun w1 (hb1 : Below W0.heap.size W0 w1) => (hvb.below hb1 (by omega)).cells)
  obtain ⟨k0, k1, k2, k3, k4, k5⟩ := hvb.cells
  have HW0 := hide hW0
  have Hs0 := hide hs0
  cases hg : v.great with
  | true =>
    rw [hg] at HG
    rw [← hW0] at HG hbox k0 k1 k2 k3 k4 k5
    clear h hT hvb hs0 hW0
    unfold Vw.val at HG ⊢
    go_enter Tryd.func10, Tryd.ntmps10
    go_wp2_with (first
      | (go_at_call 17; refine HG.out.mono ?_; rintro e w1 ⟨rfl, hb1⟩; have hbw := hbox.trans (hb1.mono (by simp)))
      | (go_at_call 11; refine (HA.out _ hbw).mono ?_; rintro e w2 ⟨rfl, hb2⟩)
      | fail)
    go_ret
    exact ⟨rfl, hbw.trans (hb2.mono hbw.size)⟩
  | false =>
    have htame := Vw.tame hg
    have HR := hide (fun (w1 : World) (hb1 : Below w.heap.size w w1) => (h.below hb1).more hb1.size)
    have HF := hide (fun w1 (hb : Below w.heap.size w w1) => findP w1 A c v ((h.below hb).more hb.size) htame (hT.below hb))
    have HC := hide (fun w1 (hb : Below w.heap.size w w1) => checkV w1 A c v ((h.below hb).more hb.size) htame (hT.1.below hb))
    have HV := hide (fun w1 (hb : Below w.heap.size w w1) (r : Rg) => valueP w1 A c v r ((h.below hb).more hb.size) htame (hT.below hb))
    have HD := hide (fun w1 n (hn : n ≤ 100) => decimalP w1 n hn)
    rw [hg] at HG
    rw [← hW0] at HG hbox k0 k1 k2 k3 k4 k5
    have hlt := progT_len v
    have hl12 := htame.1
    have HTame := hide htame.2
    obtain ⟨n, hn⟩ : ∃ n, (progT v).length = n := ⟨_, rfl⟩
    rw [hn] at hlt
    simp only [hn] at HF
    have Hn := hide hn
    have Hok := hide (show 0 < n → v.ok = true by
      intro h0
      cases hok : v.ok with
      | true => rfl
      | false => unfold progT at hn; rw [hok] at hn; simp at hn; omega)
    have HC0 := hide (show 0 < n → v.err = 0 by
      intro h0
      have := Hok.out h0
      unfold Vw.ok at this
      simpa using this)
    have Hr := hide (fun (hok : v.ok = true) (k : Nat) (r : Rg) (h : (progT v)[k]? = some r) => reg_says hok k r h)
    have Hst := hide (show ∀ (j : Nat) (r : Rg), 0 ≤ j → (progT v)[j]? = some r → (-1 : Int) < r.top by
      intro j r _ hr
      have h0 : 0 < n := by rw [← hn]; have := (List.getElem?_eq_some_iff.1 hr).1; omega
      obtain ⟨t, row, nn, a, b, rfl, -⟩ := reg_says (Hok.out h0) j r hr
      show (-1 : Int) < (t : Int)
      omega)
    clear h hT hvb hs0 hW0 htame hg hn
    unfold Vw.val at HG HF HC HV ⊢
    rcases (show (decide (0 < n) = true ∧ v.err = 0) ∨ decide (0 < n) = false by
      by_cases h0 : 0 < n
      · exact .inl ⟨by simp [h0], HC0.out h0⟩
      · exact .inr (by simp [h0])) with ⟨hn0, he⟩ | hn0
    all_goals
      try (simp only [he] at HC; clear he)
      go_enter Tryd.func10, Tryd.ntmps10
      go_wp2_with (first
        | (go_at_call 17; refine HG.out.mono ?_; rintro e w1 ⟨rfl, hb1⟩; have hbw1 := hbox.trans (hb1.mono (by simp)); have hb1' := hb1; rw [HW0.out] at hb1'; obtain ⟨x0, x1, x2, x3, x4, x5⟩ := HK.out w1 hb1')
        | (go_at_call 19; refine (HF.out _ hbw1).mono ?_; rintro e w2 ⟨vv, rfl, hown, hb2⟩; obtain ⟨Al, cl, rfl⟩ := own_form hown; have hbw2 := hbw1.trans (hb2.mono hbw1.size); have hb2' := hb1'.trans (hb2.mono hb1'.size); obtain ⟨y0, y1, y2, y3, y4, y5⟩ := HK.out w2 hb2')
        | (go_at_call 18; refine (HC.out _ hbw2).mono ?_; rintro e w3 ⟨rfl, hb3⟩)
        | fail)
      first
        | (have hb23 := hb3)
        | (have hb23 := Below.refl w2.heap.size w2)
      have hs2 := hbw2.size
      have hs2' := hb2'.size
      have Hown := hide hown
      have Hb2' := hide hb2'
      clear hown hb2' x0 x1 x2 x3 x4 x5 y0 y1 y2 y3 y4 y5 k0 k1 k2 k3 k4 k5
      go_loopw [4, 5] (fun la i wr => ∃ (k : Nat) (lt : Int), k ≤ n ∧ i = .int .i64 k ∧ la = .int .i64 lt ∧ (∀ (j : Nat) (r : Rg), k ≤ j → (progT v)[j]? = some r → lt < r.top) ∧ Below w2.heap.size w2 wr) (fun _ i _ => n - (intOf i).toNat)
      case atStart => exact ⟨0, -1, Nat.zero_le _, rfl, rfl, Hst.out, hb23⟩
      case round =>
        clear hb23
        rename World => wo
        obtain ⟨k, lt, hk, rfl, rfl, hlast, hbo⟩ := hrel
        have Hlast := hide hlast
        clear hlast
        have hbw := hbw2.trans (hbo.mono hs2)
        by_cases hlt2 : k < n
        · obtain ⟨r, hr⟩ : ∃ r, (progT v)[k]? = some r := ⟨_, List.getElem?_eq_getElem (by rw [Hn.out]; exact hlt2)⟩
          obtain ⟨t, row, nn, a, b, rfl, hsay⟩ := Hr.out (Hok.out (by omega)) k r hr
          have hlt3 := Hlast.out k _ (Nat.le_refl _) hr
          have Hown2 := own_below Hown.out hbo (Nat.le_refl _)
          obtain ⟨gB, d1, he1, -, hgB⟩ := own_form1 Hown2 (by omega)
          cases he1
          have hf : ∀ j u, (Rg.enc ⟨8, 0, -1, t, a, (t : Int) + 1, b, labelB nn⟩)[j]? = some u → wo.cell? ⟨gB, k * 8 + j, none⟩ = some u := fun j u hu => by
            have hj : j < 8 := (List.getElem?_eq_some_iff.1 hu).1
            have hfl := flat_get (enc := Rg.enc) (sz := 8) (fun _ => rfl) (progT v) k _ j u hr hu
            rw [Hown2.cellAt (k * 8 + j) (by omega), hfl]
          have p0 := hf 0 _ rfl
          have p1 := hf 1 _ rfl
          have p2 := hf 2 _ rfl
          have p3 := hf 3 _ rfl
          have p4 := hf 4 _ rfl
          have p5 := hf 5 _ rfl
          have p6 := hf 6 _ rfl
          have p7 := hf 7 _ rfl
          rw [Nat.add_zero] at p0
          dsimp only at p0 p1 p2 p3 p4 p5 p6 p7 hlt3
          obtain ⟨f1, f2, f3, f4, f5, f6, f7, f8⟩ := hsay
          have hnext := hide f8
          have htl : t < v.rows.length := (List.getElem?_eq_some_iff.1 f1).1
          obtain ⟨hrl, -⟩ := HTame.out _ (List.mem_of_getElem? f1)
          have hvx := fun w1 hb => HV.out w1 hb ⟨8, 0, -1, t, a, (t : Int) + 1, b, labelB nn⟩
          rw [f6] at hvx
          unfold Rg.val at hvx
          dsimp only at hvx
          rw [← labelB_cat nn] at hvx p7
          have HVx := hide hvx
          have HDx := hide (fun w1 => HD.out w1 nn f2)
          have hcat : (decB nn).size + 1 ≤ 9223372036854775807 := by have := decB_size nn; omega
          have Hf1 := hide f1
          have hwr := widthOf_le row
          clear hvx hf hr f1 f6 f8
          have hltn : (k : Int) < (n : Int) := by omega
          have hbB := hbw.alloc hbw.size (.cells #[.int .i64 8, .int .i64 0, .int .i64 (-1), .int .i64 t, .int .i64 a, .int .i64 ((t : Int) + 1), .int .i64 b, .string (decB nn ++ ⟨#[37]⟩)] 43)
          have hbB2 := hbo.alloc hbo.size (.cells #[.int .i64 8, .int .i64 0, .int .i64 (-1), .int .i64 t, .int .i64 a, .int .i64 ((t : Int) + 1), .int .i64 b, .string (decB nn ++ ⟨#[37]⟩)] 43)
          have hblk := block_new wo (.cells #[.int .i64 8, .int .i64 0, .int .i64 (-1), .int .i64 t, .int .i64 a, .int .i64 ((t : Int) + 1), .int .i64 b, .string (decB nn ++ ⟨#[37]⟩)] 43)
          obtain ⟨W5, hW5⟩ : ∃ W5, wo.alloc (.cells #[.int .i64 8, .int .i64 0, .int .i64 (-1), .int .i64 t, .int .i64 a, .int .i64 ((t : Int) + 1), .int .i64 b, .string (decB nn ++ ⟨#[37]⟩)] 43) = W5 := ⟨_, rfl⟩
          have hs5 : W5.heap.size = wo.heap.size + 1 := by rw [← hW5]; simp
          rw [hW5] at hbB hbB2 hblk
          have HW5 := hide hW5
          have HBB := hide hbB
          have HBB2 := hide hbB2
          have Hblk := hide hblk
          have Hs5 := hide hs5
          have HKw := hide (fun w1 (hb1 : Below W5.heap.size W5 w1) => And.intro (HK.out w1 (Hb2'.out.trans ((HBB2.out.trans (hb1.mono HBB2.out.size)).mono hs2'))) (And.intro (fun i => cell_block (block_below Hblk.out hb1 (by omega)) i) (show ∃ b off, A = some ⟨b, off, none⟩ ∧ b < w1.heap.size ∧ RowAt w1.heap.size w1 b (off + t) row by
            have := (HR.out w1 (HBB.out.trans (hb1.mono HBB.out.size))).get1 htl
            rw [show v.rows[t] = row from Option.some.inj ((List.getElem?_eq_getElem htl).symm.trans Hf1.out)] at this
            exact this)))
          clear hW5 hbB hbB2 hblk hs5
          obtain ⟨x0, x1, x2, x3, x4, x5⟩ := HK.out wo (Hb2'.out.trans (hbo.mono hs2'))
          have hlw : w.heap.size < wo.heap.size := by have := hbo.size; have := Hs0.out; omega
          have hlwn : w.heap.size ≠ wo.heap.size := by omega
          have htop12 : t ≤ 12 := by omega
          have htI : (t : Int) < (v.rows.length : Int) := by omega
          have hnlt : ¬ (t : Int) ≤ lt := by omega
          have hnge : ¬ v.height ≤ (t : Int) := by omega
          have hna : ¬ a < 0 := by omega
          have hnab : ¬ b ≤ a := by omega
          have hnb : ¬ (widthOf row : Int) < b := by omega
          go_wp2_with (first
            | (go_at_call 21; rw [HW5.out]; refine (HVx.out W5 HBB.out).mono ?_; rintro e w6 ⟨rfl, hb6⟩; obtain ⟨⟨z0, z1, z2, z3, z4, z5⟩, hbc, -⟩ := HKw.out w6 hb6; have bc0 := hbc 0; have bc1 := hbc 1; have bc2 := hbc 2; have bc3 := hbc 3; have bc4 := hbc 4; have bc5 := hbc 5; have bc6 := hbc 6; have bc7 := hbc 7; clear hbc)
            | fail)
          obtain ⟨-, hbc, bR, oR, rfl, hbR, A1, c1, d0, d1, d2⟩ := HKw.out w6 hb6
          have Hd2 := hide d2
          have HS := hide (fun W2 (hb : Below w6.heap.size w6 W2) => (show W2.cell? ⟨wo.heap.size, 0, none⟩ = some (.int .i64 8) ∧ W2.cell? ⟨wo.heap.size, 1, none⟩ = some (.int .i64 0) ∧ W2.cell? ⟨wo.heap.size, 2, none⟩ = some (.int .i64 (-1)) ∧ W2.cell? ⟨wo.heap.size, 3, none⟩ = some (.int .i64 t) ∧ W2.cell? ⟨wo.heap.size, 4, none⟩ = some (.int .i64 a) ∧
              W2.cell? ⟨wo.heap.size, 5, none⟩ = some (.int .i64 ((t : Int) + 1)) ∧ W2.cell? ⟨wo.heap.size, 6, none⟩ = some (.int .i64 b) ∧ W2.cell? ⟨wo.heap.size, 7, none⟩ = some (.string (decB nn ++ ⟨#[37]⟩)) ∧ W2.cell? ⟨w.heap.size, 1, none⟩ = some (.int .i64 v.height) ∧ W2.cell? ⟨w.heap.size, 2, none⟩ = some (.slice (some ⟨bR, oR, none⟩) v.rows.length c) ∧
              W2.cell? ⟨bR, oR + t, none⟩ = some (.slice A1 row.length c1) from
            let H := HKw.out W2 (hb6.trans (hb.mono hb6.size)); ⟨H.2.1 0, H.2.1 1, H.2.1 2, H.2.1 3, H.2.1 4, H.2.1 5, H.2.1 6, H.2.1 7, H.1.2.1, H.1.2.2.1, (hb.cell (p := ⟨bR, oR + t, none⟩) hbR).trans d0⟩))
          have hdr : Below w6.heap.size w6 w6.drew := (Below.refl _ _).drew
          have htI0 : (0 : Int) ≤ (t : Int) := by omega
          have htw : IntKind.i64.wrap ((t : Int) + 1) = (t : Int) + 1 := IntWalk.i64_in _ (by omega)
          have hcat2 : ¬ 9223372036854775807 < (decB nn).size + 1 := by omega
          have hcat3 : ¬ (decB nn).size + 1 > 9223372036854775807 := by omega
          have hadd := fun w1 => run_string_add_sum (P := Tryd.prog) w1 (decB nn) ⟨#[37]⟩ hcat
          have Hdecs := hide (show decide ((t : Int) ≤ lt) = false ∧ decide (v.height ≤ (t : Int)) = false ∧ decide (a < 0) = false ∧ decide (b ≤ a) = false ∧ decide ((widthOf row : Int) < b) = false by simp; omega)
          obtain ⟨u1, u2, u3, u4, u5⟩ := Hdecs.out
          clear hbc d0 d2 bc0 bc1 bc2 bc3 bc4 bc5 bc6 bc7 z0 z1 z2 z3 z4 z5 p0 p1 p2 p3 p4 p5 p6 p7 x0 x1 x2 x3 x4 x5
          simp only [List.append]
          go_region_held3 (fun W2 => W2.cell? ⟨wo.heap.size, 0, none⟩ = some (.int .i64 8) ∧ W2.cell? ⟨wo.heap.size, 1, none⟩ = some (.int .i64 0) ∧ W2.cell? ⟨wo.heap.size, 2, none⟩ = some (.int .i64 (-1)) ∧ W2.cell? ⟨wo.heap.size, 3, none⟩ = some (.int .i64 t) ∧ W2.cell? ⟨wo.heap.size, 4, none⟩ = some (.int .i64 a) ∧
              W2.cell? ⟨wo.heap.size, 5, none⟩ = some (.int .i64 ((t : Int) + 1)) ∧ W2.cell? ⟨wo.heap.size, 6, none⟩ = some (.int .i64 b) ∧ W2.cell? ⟨wo.heap.size, 7, none⟩ = some (.string (decB nn ++ ⟨#[37]⟩)) ∧ W2.cell? ⟨w.heap.size, 1, none⟩ = some (.int .i64 v.height) ∧ W2.cell? ⟨w.heap.size, 2, none⟩ = some (.slice (some ⟨bR, oR, none⟩) v.rows.length c) ∧
              W2.cell? ⟨bR, oR + t, none⟩ = some (.slice A1 row.length c1)) (first | exact HS.out _ hb68 | exact HS.out _ hb67 | exact HS.out _ hdr | go_keep)
            (first
              | (go_at_call 16; refine (HDx.out _).mono ?_; rintro e w7 ⟨rfl, hb7⟩; have hb67 := hdr.trans hb7)
              | (go_at_call 24; refine (widthV _ A1 c1 row ((Hd2.out.below (GlAt.stays _) hb67).more hb67.size) (by omega)).mono ?_; rintro e w8 ⟨rfl, hb8⟩; have hb68 := hb67.trans (hb8.mono hb67.size))
              | fail)
          obtain ⟨-, hbc8, -⟩ := HKw.out w8 (hb6.trans (hb68.mono hb6.size))
          have ec3 := hbc8 3
          clear hbc8
          have hbo8 := HBB2.out.trans ((hb6.trans (hb68.mono hb6.size)).mono HBB2.out.size)
          go_wp2
          go_roundw
          case rel => exact ⟨k + 1, t, by omega, by go_num, rfl, fun j r' hj hr' => hnext.out j r' (by omega) hr', hbo8⟩
          case measure => simp [intOf]; omega
        · obtain rfl : k = n := by omega
          go_wp2_with (go_at_call 11; refine (HA.out _ hbw).mono ?_; rintro e w4 ⟨rfl, hb4⟩)
          go_ret
          exact ⟨rfl, hbw.trans (hb4.mono hbw.size)⟩
end Go.Proofs.YtalmbcelkllpjaaDoor
