/- The walk of the law FramesComplete. -/
import Derived.Test.YtdgmjbcfopkibaaDoorF16
import Derived.Test.YtdgmjbcfopkibaaDoorF13
namespace Go.Proofs.YtdgmjbcfopkibaaDoor
open Go.RowKit

set_option maxRecDepth 100000 in
set_option maxHeartbeats 4000000 in
theorem completeLawP (w : World) (A : Option Addr) (c : Nat) (v : Vw) (t l b r : Int) (h : Rows2 w w.heap.size A v.rows) (hT : Tabs w) :
    Calls Tryd.prog 5 #[v.val A c, .int .i64 t, .int .i64 l, .int .i64 b, .int .i64 r] w fun e w' => e = .returned (.bool true) ∧ Below w.heap.size w w' := by
  have hbox := (Below.refl w.heap.size w).alloc (Nat.le_refl _) (.cells #[.int .i64 v.width, .int .i64 v.height, .slice A v.rows.length c, .int .i64 v.row, .int .i64 v.col, .bool v.visible] 24)
  have hvb : VwBox _ w.heap.size v A c := block_new w (.cells #[.int .i64 v.width, .int .i64 v.height, .slice A v.rows.length c, .int .i64 v.row, .int .i64 v.col, .bool v.visible] 24)
  have HG := hide (great23 _ A c v ((h.below hbox).more hbox.size))
  have HA := hide (fun w1 (hb : Below w.heap.size w w1) => awakeP w1 (hT.below hb))
  have Hvb := hide hvb
  have Hbox := hide hbox
  obtain ⟨k0, k1, k2, k3, k4, k5⟩ := hvb.cells
  cases hg : v.wideB with
  | true =>
    rw [hg] at HG
    clear h hT hvb hg hbox
    unfold Vw.val at HG ⊢
    go_enter Tryd.func5, Tryd.ntmps5
    go_wp2_with (first
      | (go_at_call 7; refine HG.out.mono ?_; rintro e w1 ⟨rfl, hb1⟩; have hbw := Hbox.out.trans (hb1.mono (by simp)))
      | (go_at_call 8; refine (HA.out _ hbw).mono ?_; rintro e w2 ⟨rfl, hb2⟩)
      | fail)
    go_ret
    exact ⟨rfl, hbw.trans (hb2.mono hbw.size)⟩
  | false =>
    rw [hg] at HG
    have htame := Vw.tame (wide_small hg).1
    have HCl := hide (fun w1 (hb : Below w.heap.size w w1) => closedP w1 A c v t l b r ((h.below hb).more hb.size) htame (hT.below hb))
    obtain ⟨CT, hCT⟩ : ∃ CT, closedT v t l b r = CT := ⟨_, rfl⟩
    simp only [hCT] at HCl
    cases CT with
    | false =>
      clear h hT hvb hg htame hbox hCT
      unfold Vw.val at HG HCl ⊢
      go_enter Tryd.func5, Tryd.ntmps5
      go_wp2_with (first
        | (go_at_call 7; refine HG.out.mono ?_; rintro e w1 ⟨rfl, hb1⟩; have hbw := Hbox.out.trans (hb1.mono (by simp)); obtain ⟨x0, x1, x2, x3, x4, x5⟩ := (Hvb.out.below hb1 (by simp)).cells)
        | (go_at_call 14; refine (HCl.out _ hbw).mono ?_; rintro e w3 ⟨rfl, hb3⟩; have hbw3 := hbw.trans (hb3.mono hbw.size))
        | (go_at_call 8; refine (HA.out _ hbw3).mono ?_; rintro e w2 ⟨rfl, hb2⟩)
        | fail)
      go_ret
      exact ⟨rfl, hbw3.trans (hb2.mono hbw3.size)⟩
    | true =>
      have hok : v.ok = true := by unfold closedT at hCT; simp only [Bool.and_eq_true] at hCT; exact hCT.1.1
      obtain ⟨hfound, hall⟩ := closed_found hCT
      have HF := hide (fun w1 (hb : Below w.heap.size w w1) => findFP w1 A c v ((h.below hb).more hb.size) htame (hT.below hb) (fun hok => wide_count hg hok))
      have hlen := Nat.le_trans (framesT_len hok) (wide_count hg hok)
      obtain ⟨fs, hfs⟩ : ∃ fs, framesT v = fs := ⟨_, rfl⟩
      simp only [hfs] at HF
      rw [hfs] at hfound hall hlen
      obtain ⟨N, hN⟩ : ∃ N, fs.length = N := ⟨_, rfl⟩
      have HN := hide hN
      rw [hN] at hlen
      simp only [hN] at HF
      have Hfound := hide hfound
      have Hall := hide hall
      clear h hT hvb hg htame hbox hCT hok hfound hall hfs hN
      unfold Vw.val at HG HCl HF ⊢
      go_enter Tryd.func5, Tryd.ntmps5
      go_wp2_with (first
        | (go_at_call 7; refine HG.out.mono ?_; rintro e w1 ⟨rfl, hb1⟩; have hbw := Hbox.out.trans (hb1.mono (by simp)); obtain ⟨x0, x1, x2, x3, x4, x5⟩ := (Hvb.out.below hb1 (by simp)).cells)
        | (go_at_call 14; refine (HCl.out _ hbw).mono ?_; rintro e w3 ⟨rfl, hb3⟩; have hbw3 := hbw.trans (hb3.mono hbw.size); obtain ⟨y0, y1, y2, y3, y4, y5⟩ := (Hvb.out.below (hb1.trans (hb3.mono hb1.size)) (by simp)).cells)
        | (go_at_call 10; refine (HF.out _ hbw3).mono ?_; rintro e w4 ⟨vv, rfl, hown, hb4⟩; have hbw4 := hbw3.trans (hb4.mono hbw3.size); obtain ⟨Ao, co, rfl⟩ := own_form hown; have Hown := hide hown; have Hbw4 := hide hbw4; clear hown hb4)
        | fail)
      clear hb1 hb3 hbw hbw3 x0 x1 x2 x3 x4 x5 y0 y1 y2 y3 y4 y5 k0 k1 k2 k3 k4 k5 HF HCl HG Hvb Hbox
      have hrf := hide (Below.refl w4.heap.size w4)
      go_loopw [12] (fun i wr => ∃ k : Nat, k ≤ N ∧ i = .int .i64 (k : Int) ∧ (∀ j x, j < k → fs[j]? = some x → ¬ (x.top = t ∧ x.left = l)) ∧ Below w4.heap.size w4 wr) (fun i _ => N - (intOf i).toNat)
      case atStart => exact ⟨0, Nat.zero_le _, rfl, (fun j x hj => absurd hj (Nat.not_lt_zero _)), hrf.out⟩
      case round =>
        clear hrf
        obtain ⟨k, hk, rfl, hno, hbo⟩ := hrel
        rename World => wo
        by_cases hlt : k < N
        · have hltI : (k : Int) < (N : Int) := by omega
          have hkf : k < fs.length := by rw [HN.out]; exact hlt
          obtain ⟨go, cap, hf1, -, hgl⟩ := own_form1 Hown.out (by omega)
          cases hf1
          obtain ⟨x, hx⟩ : ∃ x, fs[k]? = some x := ⟨_, List.getElem?_eq_getElem hkf⟩
          have hcell : ∀ j u, x.enc[j]? = some u → wo.cell? ⟨go, k * 8 + j, none⟩ = some u := fun j u hu => by
            have hj : j < 8 := (List.getElem?_eq_some_iff.1 hu).1
            rw [hbo.cell (p := ⟨go, k * 8 + j, none⟩) hgl, Hown.out.cellAt (k * 8 + j) (by omega)]
            exact flat_get (enc := Rg.enc) (sz := 8) (fun _ => rfl) fs k x j u hx hu
          have hxall := Hall.out x (List.mem_of_getElem? hx)
          have Hx := hide hx
          obtain ⟨xk, xi, xp, xt, xl, xb, xr, xlb⟩ := x
          have x3 := hcell 3 _ rfl
          have x4 := hcell 4 _ rfl
          have x5 := hcell 5 _ rfl
          have x6 := hcell 6 _ rfl
          dsimp only at x3 x4 x5 x6 hxall
          have Hno := hide hno
          have Hbo := hide hbo
          clear hcell hx hno hbo
          by_cases h1 : xt = t
          · have q1 : (xt == t) = true := beq_iff_eq.2 h1
            by_cases h2 : xl = l
            · have q2 : (xl == l) = true := beq_iff_eq.2 h2
              have hz := hxall h1 h2
              clear hxall h1 h2
              rcases hz with h3 | ⟨h3, h4⟩
              · have q3 : decide (xr < r) = true := decide_eq_true h3
                clear h3
                go_wp2_with (go_at_call 8; refine (HA.out _ (Hbw4.out.trans (Hbo.out.mono Hbw4.out.size))).mono ?_; rintro e w6 ⟨rfl, hb6⟩)
                go_ret
                exact ⟨rfl, (Hbw4.out.trans (Hbo.out.mono Hbw4.out.size)).trans (hb6.mono (by have := Hbw4.out.size; have := Hbo.out.size; omega))⟩
              · have q3 : decide (xr < r) = false := decide_eq_false (by omega)
                have q4 : (xr == r) = true := beq_iff_eq.2 h3
                have q5 : decide (xb ≤ b) = true := decide_eq_true h4
                clear h3 h4
                go_wp2_with (go_at_call 8; refine (HA.out _ (Hbw4.out.trans (Hbo.out.mono Hbw4.out.size))).mono ?_; rintro e w6 ⟨rfl, hb6⟩)
                go_ret
                exact ⟨rfl, (Hbw4.out.trans (Hbo.out.mono Hbw4.out.size)).trans (hb6.mono (by have := Hbw4.out.size; have := Hbo.out.size; omega))⟩
            · have q2 : (xl == l) = false := beq_eq_false_iff_ne.2 h2
              have Hno2 := hide (show ∀ j x, j < k + 1 → fs[j]? = some x → ¬ (x.top = t ∧ x.left = l) from fun j x hj hx => by
                by_cases hjk : j = k
                · subst hjk
                  have := Hx.out
                  rw [hx] at this
                  rw [Option.some.inj this]
                  exact fun h => h2 h.2
                · exact Hno.out j x (by omega) hx)
              clear hxall h1 h2
              go_wp2
              go_roundw
              case rel => exact ⟨k + 1, by omega, by go_num, Hno2.out, Hbo.out⟩
              case measure => simp [intOf]; omega
          · have q1 : (xt == t) = false := beq_eq_false_iff_ne.2 h1
            have Hno2 := hide (show ∀ j x, j < k + 1 → fs[j]? = some x → ¬ (x.top = t ∧ x.left = l) from fun j x hj hx => by
              by_cases hjk : j = k
              · subst hjk
                have := Hx.out
                rw [hx] at this
                rw [Option.some.inj this]
                exact fun h => h1 h.1
              · exact Hno.out j x (by omega) hx)
            clear hxall h1
            go_wp2
            go_roundw
            case rel => exact ⟨k + 1, by omega, by go_num, Hno2.out, Hbo.out⟩
            case measure => simp [intOf]; omega
        · exfalso
          obtain ⟨x, hx, h1, h2⟩ := Hfound.out
          obtain ⟨j, hj, hjx⟩ := List.getElem_of_mem hx
          exact hno j x (by have := HN.out; omega) (by rw [List.getElem?_eq_getElem hj, hjx]) ⟨h1, h2⟩
end Go.Proofs.YtdgmjbcfopkibaaDoor
