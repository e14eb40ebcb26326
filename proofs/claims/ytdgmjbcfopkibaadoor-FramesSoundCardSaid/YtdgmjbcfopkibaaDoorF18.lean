/- The walk of the law FramesSound. -/
import Derived.Test.YtdgmjbcfopkibaaDoorF16
import Derived.Test.YtdgmjbcfopkibaaDoorF13
import Derived.Deep.RegionHeld3
namespace Go.Proofs.YtdgmjbcfopkibaaDoor
open Go.RowKit

set_option maxRecDepth 100000 in
set_option maxHeartbeats 8000000 in
theorem soundLawP (w : World) (A : Option Addr) (c : Nat) (v : Vw) (h : Rows2 w w.heap.size A v.rows) (hT : Tabs w) :
    Calls Tryd.prog 6 #[v.val A c] w fun e w' => e = .returned (.bool true) ∧ Below w.heap.size w w' := by
  have hbox := (Below.refl w.heap.size w).alloc (Nat.le_refl _) (.cells #[.int .i64 v.width, .int .i64 v.height, .slice A v.rows.length c, .int .i64 v.row, .int .i64 v.col, .bool v.visible] 24)
  have hvb : VwBox _ w.heap.size v A c := block_new w (.cells #[.int .i64 v.width, .int .i64 v.height, .slice A v.rows.length c, .int .i64 v.row, .int .i64 v.col, .bool v.visible] 24)
  have HG := hide (great23 _ A c v ((h.below hbox).more hbox.size))
  have HA := hide (fun w1 (hb : Below w.heap.size w w1) => awakeP w1 (hT.below hb))
  have Hvb := hide hvb
  have Hbox := hide hbox
  obtain ⟨k0, k1, k2, k3, k4, k5⟩ := hvb.cells
  cases hg : v.wideB with
  | true =>
    rw [hg] at HG
    clear h hT hvb hg hbox
    unfold Vw.val at HG ⊢
    go_enter Tryd.func6, Tryd.ntmps6
    go_wp2_with (first
      | (go_at_call 7; refine HG.out.mono ?_; rintro e w1 ⟨rfl, hb1⟩; have hbw := Hbox.out.trans (hb1.mono (by simp)))
      | (go_at_call 8; refine (HA.out _ hbw).mono ?_; rintro e w2 ⟨rfl, hb2⟩)
      | fail)
    go_ret
    exact ⟨rfl, hbw.trans (hb2.mono hbw.size)⟩
  | false =>
    rw [hg] at HG
    have htame := Vw.tame (wide_small hg).1
    have HF := hide (fun w1 (hb : Below w.heap.size w w1) => findFP w1 A c v ((h.below hb).more hb.size) htame (hT.below hb) (fun hok => wide_count hg hok))
    have HCl := hide (fun w1 (hb : Below w.heap.size w w1) (x : Rg) (hx : closedT v x.top x.left x.bottom x.right = true) => (closedP w1 A c v x.top x.left x.bottom x.right ((h.below hb).more hb.size) htame (hT.below hb)).mono fun e w' h => (show e = .returned (.bool true) ∧ Below w1.heap.size w1 w' from ⟨by rw [h.1, hx], h.2⟩))
    have HTi := hide (fun w1 (hb : Below w.heap.size w w1) (x : Rg) (hx : titleT v x = x.label) => (titleP w1 A c v x ((h.below hb).more hb.size) htame (hT.below hb)).mono fun e w' h => (show e = .returned (.string x.label) ∧ Below w1.heap.size w1 w' from ⟨by rw [h.1, hx], h.2⟩))
    have Hmem := hide (fun x (hx : x ∈ framesT v) => framesT_mem hx)
    have Hsort := hide (framesT_sorted v)
    have hlen : (framesT v).length ≤ 200 := by
      by_cases hok : v.ok = true
      · exact Nat.le_trans (framesT_len hok) (wide_count hg hok)
      · unfold framesT; rw [if_neg hok]; exact Nat.zero_le _
    have Hsay := hide (fun x (hx : x ∈ framesT v) => show (x.kind = 2 ∧ x.id = 0 ∧ x.parent = -1) ∧ closedT v x.top x.left x.bottom x.right = true ∧ titleT v x = x.label from by
      obtain ⟨hok, t, l, b, rr, -, -, hfr⟩ := framesT_mem hx
      exact ⟨by rw [hfr.eq]; exact ⟨rfl, rfl, rfl⟩, hfr.says hok⟩)
    obtain ⟨fs, hfs⟩ : ∃ fs, framesT v = fs := ⟨_, rfl⟩
    simp only [hfs] at HF Hsay
    rw [hfs] at hlen Hsort
    obtain ⟨N, hN⟩ : ∃ N, fs.length = N := ⟨_, rfl⟩
    have HN := hide hN
    rw [hN] at hlen
    simp only [hN] at HF
    obtain ⟨vw, vh, vrows, vrow, vcol, vvis⟩ := v
    dsimp only at hbox Hbox hvb Hvb HG HF k0 k1 k2 k3 k4 k5
    clear h hT hvb hg htame hbox hfs hN Hmem
    unfold Vw.val at HG HCl HTi HF ⊢
    unfold Rg.val at HTi
    dsimp only at HG HCl HTi HF ⊢
    go_enter Tryd.func6, Tryd.ntmps6
    go_wp2_with (first
      | (go_at_call 7; refine HG.out.mono ?_; rintro e w1 ⟨rfl, hb1⟩; have hbw := Hbox.out.trans (hb1.mono (by simp)); obtain ⟨x0, x1, x2, x3, x4, x5⟩ := (Hvb.out.below hb1 (by simp)).cells)
      | (go_at_call 10; refine (HF.out _ hbw).mono ?_; rintro e w4 ⟨vv, rfl, hown, hb4⟩; have hbw4 := hbw.trans (hb4.mono hbw.size); have Hv4 := hide ((Hvb.out.below hb1 (by simp)).below hb4 (by have := hb1.size; simp at this; omega)); obtain ⟨Ao, co, rfl⟩ := own_form hown; have Hown := hide hown; have Hbw4 := hide hbw4; have hlw4 : w.heap.size < w4.heap.size := (by have q1 := hb1.size; have q2 := hb4.size; simp at q1; omega); clear hown hb4)
      | fail)
    clear hb1 hbw x0 x1 x2 x3 x4 x5 k0 k1 k2 k3 k4 k5 HF HG Hvb Hbox
    have hrf := hide (Below.refl w4.heap.size w4)
    go_loopw [4] (fun i wr => ∃ k : Nat, k ≤ N ∧ i = .int .i64 (k : Int) ∧ Below w4.heap.size w4 wr) (fun i _ => N - (intOf i).toNat)
    case atStart => exact ⟨0, Nat.zero_le _, rfl, hrf.out⟩
    case round =>
      clear hrf
      obtain ⟨k, hk, rfl, hbo⟩ := hrel
      rename World => wo
      have hso := hbo.size
      by_cases hlt : k < N
      · have hltI : (k : Int) < (N : Int) := by omega
        have hkf : k < fs.length := by rw [HN.out]; exact hlt
        obtain ⟨go, cap, hf1, -, hgl⟩ := own_form1 Hown.out (by omega)
        cases hf1
        obtain ⟨x, hx⟩ : ∃ x, fs[k]? = some x := ⟨_, List.getElem?_eq_getElem hkf⟩
        have hcell : ∀ j u, x.enc[j]? = some u → wo.cell? ⟨go, k * 8 + j, none⟩ = some u := fun j u hu => by
          have hj : j < 8 := (List.getElem?_eq_some_iff.1 hu).1
          rw [hbo.cell (p := ⟨go, k * 8 + j, none⟩) hgl, Hown.out.cellAt (k * 8 + j) (by omega)]
          exact flat_get (enc := Rg.enc) (sz := 8) (fun _ => rfl) fs k x j u hx hu
        obtain ⟨⟨s1, s2, s3⟩, hcl, hti⟩ := Hsay.out x (List.mem_of_getElem? hx)
        have HCx := hide (fun w1 hb => HCl.out w1 hb x hcl)
        have HTx := hide (fun w1 hb => HTi.out w1 hb x hti)
        have Hx := hide hx
        obtain ⟨xk, xi, xp, xt, xl, xb, xr, xlb⟩ := x
        dsimp only at s1 s2 s3
        subst s1 s2 s3
        have x0 := hcell 0 _ rfl
        have x1 := hcell 1 _ rfl
        have x2 := hcell 2 _ rfl
        have x3 := hcell 3 _ rfl
        have x4 := hcell 4 _ rfl
        have x5 := hcell 5 _ rfl
        have x6 := hcell 6 _ rfl
        have x7 := hcell 7 _ rfl
        rw [Nat.add_zero] at x0
        dsimp only at x0 x1 x2 x3 x4 x5 x6 x7 HCx HTx
        -- the frame in a variable
        obtain ⟨wg, hwg⟩ : ∃ wg, wo.alloc (.cells #[.int .i64 2, .int .i64 0, .int .i64 (-1), .int .i64 xt, .int .i64 xl, .int .i64 xb, .int .i64 xr, .string xlb] 36) = wg := ⟨_, rfl⟩
        have hbg : Below w4.heap.size w4 wg := by rw [← hwg]; exact hbo.alloc hso _
        have hsg : wg.heap.size = wo.heap.size + 1 := by rw [← hwg]; simp
        have hrg : RgBox wg wo.heap.size ⟨2, 0, -1, xt, xl, xb, xr, xlb⟩ := by rw [← hwg]; exact block_new _ _
        have hbd := (Below.refl wg.heap.size wg).drew
        have HS1 := hide (fun (W2 : World) (hb : Below wg.heap.size wg W2) => And.intro (VwBox.below (Hv4.out.below hbg hlw4) hb (by omega)).cells (hrg.below hb (by omega)).cells)
        have HB := hide (fun (W2 : World) (hb : Below wg.heap.size wg W2) => Hbw4.out.trans ((hbg.trans (hb.mono (by omega))).mono (by omega)))
        have HB4 := hide (fun (W2 : World) (hb : Below wg.heap.size wg W2) => hbg.trans (hb.mono (by omega)))
        obtain ⟨⟨y0, y1, y2, y3, y4, y5⟩, z0, z1, z2, z3, z4, z5, z6, z7⟩ := HS1.out wg (Below.refl _ _)
        dsimp only at y0 y1 y2 y3 y4 y5 z0 z1 z2 z3 z4 z5 z6 z7
        have Hso := hide hso
        have Hsg := hide hsg
        clear hcell hx hcl hti hbo hbg hrg hso hsg
        go_upto_region 8 with fail
        clear hwg x0 x1 x2 x3 x4 x5 x6 x7
        go_region_held3 (fun W2 => (W2.cell? ⟨w.heap.size, 0, none⟩ = some (.int .i64 vw) ∧ W2.cell? ⟨w.heap.size, 1, none⟩ = some (.int .i64 vh) ∧ W2.cell? ⟨w.heap.size, 2, none⟩ = some (.slice A vrows.length c) ∧ W2.cell? ⟨w.heap.size, 3, none⟩ = some (.int .i64 vrow) ∧ W2.cell? ⟨w.heap.size, 4, none⟩ = some (.int .i64 vcol) ∧ W2.cell? ⟨w.heap.size, 5, none⟩ = some (.bool vvis)) ∧ W2.cell? ⟨wo.heap.size, 0, none⟩ = some (.int .i64 2) ∧ W2.cell? ⟨wo.heap.size, 1, none⟩ = some (.int .i64 0) ∧ W2.cell? ⟨wo.heap.size, 2, none⟩ = some (.int .i64 (-1)) ∧ W2.cell? ⟨wo.heap.size, 3, none⟩ = some (.int .i64 xt) ∧ W2.cell? ⟨wo.heap.size, 4, none⟩ = some (.int .i64 xl) ∧ W2.cell? ⟨wo.heap.size, 5, none⟩ = some (.int .i64 xb) ∧ W2.cell? ⟨wo.heap.size, 6, none⟩ = some (.int .i64 xr) ∧ W2.cell? ⟨wo.heap.size, 7, none⟩ = some (.string xlb))
          (first | exact HS1.out _ hb6 | exact HS1.out _ hb5 | exact HS1.out _ hbd)
          (first
            | (go_at_call 15; (refine (HTx.out _ (HB.out _ hb5)).mono ?_); rintro e w6 ⟨rfl, hbJ⟩; have hb6 := hb5.trans (hbJ.mono hb5.size))
            | (go_at_call 14; (refine (HCx.out _ (HB.out _ hbd)).mono ?_); rintro e w5 ⟨rfl, hbI⟩; have hb5 := hbd.trans (hbI.mono hbd.size))
            | fail)
        have Hb6 := hide hb6
        have Hb46 := hide (HB4.out _ hb6)
        obtain ⟨-, t0, t1, t2, t3, t4, t5, t6, t7⟩ := HS1.out w6 hb6
        clear hbd hbI hbJ hb5 hb6 y0 y1 y2 y3 y4 y5 z0 z1 z2 z3 z4 z5 z6 z7 t0 t1 t2 t5 t6 t7 HCx HTx
        have hs46 := Hb46.out.size
        by_cases hk0 : k = 0
        · subst hk0
          have g0 : decide ((0 : Int) < ((0 : Nat) : Int)) = false := rfl
          go_wp2
          go_quiet (fail)
          go_wp2
          go_roundw
          case rel => exact ⟨0 + 1, by omega, by go_num, below_drF Hb46.out _⟩
          case measure => simp [intOf]; omega
        · obtain ⟨m, rfl⟩ : ∃ m, k = m + 1 := ⟨k - 1, by omega⟩
          have hmf : m < fs.length := by omega
          obtain ⟨p, hp⟩ : ∃ p, fs[m]? = some p := ⟨_, List.getElem?_eq_getElem hmf⟩
          have hpcell : ∀ j u, p.enc[j]? = some u → w6.cell? ⟨go, m * 8 + j, none⟩ = some u := fun j u hu => by
            have hj : j < 8 := (List.getElem?_eq_some_iff.1 hu).1
            rw [Hb46.out.cell (p := ⟨go, m * 8 + j, none⟩) hgl, Hown.out.cellAt (m * 8 + j) (by omega)]
            exact flat_get (enc := Rg.enc) (sz := 8) (fun _ => rfl) fs m p j u hp hu
          have haft : Rg.after p ⟨2, 0, -1, xt, xl, xb, xr, xlb⟩ := by
            have h1 := List.pairwise_iff_getElem.1 Hsort.out m (m + 1) hmf hkf (Nat.lt_succ_self _)
            rw [(List.getElem?_eq_some_iff.1 hp).2, (List.getElem?_eq_some_iff.1 Hx.out).2] at h1
            exact h1
          have p3 := hpcell 3 _ rfl
          have p4 := hpcell 4 _ rfl
          unfold Rg.after at haft
          dsimp only at haft
          obtain ⟨pt, hpt⟩ : ∃ q, p.top = q := ⟨_, rfl⟩
          obtain ⟨pl, hpl⟩ : ∃ q, p.left = q := ⟨_, rfl⟩
          rw [hpt] at p3 haft
          rw [hpl] at p4 haft
          have hix : ((m : Int) + 1) - 1 = (m : Int) := by omega
          have hmN : (m : Int) < (N : Int) := by omega
          have g0 : decide ((0 : Int) < (m : Int) + 1) = true := decide_eq_true (by omega)
          have g0' : decide ((0 : Int) < ((m + 1 : Nat) : Int)) = true := decide_eq_true (by omega)
          have d1 : decide (xt < pt) = false := decide_eq_false (by omega)
          have hq : ((xt == pt) = false) ∨ ((xt == pt) = true ∧ decide (xl ≤ pl) = false) := by
            by_cases he : xt = pt
            · exact .inr ⟨beq_iff_eq.2 he, decide_eq_false (by omega)⟩
            · exact .inl (beq_eq_false_iff_ne.2 he)
          clear hpcell hp hpt hpl haft hk0
          rcases hq with d2 | ⟨d2, d3⟩
          all_goals
            go_wp2
            go_quiet (fail)
            go_wp2
            go_roundw
            case rel => exact ⟨m + 1 + 1, by omega, by go_num, below_drF Hb46.out _⟩
            case measure => simp [intOf]; omega
      · obtain rfl : k = N := by omega
        have d1 : decide ((k : Int) ≤ 200) = true := decide_eq_true (by omega)
        have Hbw := hide (Hbw4.out.trans (hbo.mono (by omega)))
        clear hbo
        go_wp2_with (go_at_call 8; refine (HA.out _ Hbw.out).mono ?_; rintro e w8 ⟨rfl, hb8⟩)
        go_ret
        exact ⟨rfl, Hbw.out.trans (hb8.mono Hbw.out.size)⟩
end Go.Proofs.YtdgmjbcfopkibaaDoor
