/- Tables: tables.Find. -/
import Derived.Test.YtmgepckhdgoemaaDoorT12
import Derived.Deep.RegionHeld3
namespace Go.Proofs.YtmgepckhdgoemaaDoor
open Go.RowKit

theorem colsR_get (rows : List (List Gl)) (W t b k : Nat) (p : Nat × Nat) (h : (partsTo (gut rows t b) W)[k]? = some p) : (colsR rows W t b)[k]? = some (colR rows t b p) := by
  unfold colsR; rw [List.getElem?_map, h]; rfl
theorem tblR_eq (rows : List (List Gl)) (W t b n m : Nat) (hn : (partsTo (gut rows t b) W).length = n) (h0 : 0 < n) (hm : m + 1 = n) :
    ∃ p q : Nat × Nat, (colsR rows W t b)[0]? = some (colR rows t b p) ∧ (colsR rows W t b)[m]? = some (colR rows t b q) ∧ tblR rows W t b = ⟨3, 0, -1, t, p.1, b, q.2, cellOf (rows[t]?.getD []) p.1 p.2⟩ := by
  obtain ⟨p, e0⟩ : ∃ p, (partsTo (gut rows t b) W)[0]? = some p := ⟨_, List.getElem?_eq_getElem (by omega)⟩
  obtain ⟨q, em⟩ : ∃ q, (partsTo (gut rows t b) W)[m]? = some q := ⟨_, List.getElem?_eq_getElem (by omega)⟩
  refine ⟨p, q, colsR_get rows W t b 0 _ e0, colsR_get rows W t b m _ em, ?_⟩
  unfold tblR
  rw [List.head?_eq_getElem?, List.getLast?_eq_getElem?, hn, show n - 1 = m by omega, e0, em]
  rfl

set_option maxHeartbeats 2000000 in
set_option maxRecDepth 100000 in
theorem findP (w : World) (A : Option Addr) (c : Nat) (v : Vw) (h : Rows2 w w.heap.size A v.rows) (ht : v.Tame) (hT : Tabs w) (hc : v.rows.length ≤ c) :
    Calls Tryd.prog 7 #[v.val A c] w fun e w' => ∃ vv, e = .returned vv ∧ w'.ownsRow w.heap.size 33 8 vv (findT v).length ((findT v).flatMap Rg.enc) ∧ Below w.heap.size w w' := by
  have hbox := (Below.refl w.heap.size w).alloc (Nat.le_refl _) (.cells #[.int .i64 v.width, .int .i64 v.height, .slice A v.rows.length c, .int .i64 v.row, .int .i64 v.col, .bool v.visible] 24)
  have hvb : VwBox _ w.heap.size v A c := block_new w (.cells #[.int .i64 v.width, .int .i64 v.height, .slice A v.rows.length c, .int .i64 v.row, .int .i64 v.col, .bool v.visible] 24)
  have HC := hide (checkV _ A c v ((h.below hbox).more hbox.size) ht (hT.below hbox))
  unfold findT
  cases hok : v.ok with
  | false =>
    rw [if_neg (by simp)]
    obtain ⟨V, hV⟩ : ∃ V, v.err = V := ⟨_, rfl⟩
    have h0 : (V != 0) = true := by unfold Vw.ok at hok; rw [hV] at hok; simpa using hok
    rw [hV] at HC
    clear h hT hok hV
    unfold Vw.val at HC ⊢
    go_enter Tryd.func7, Tryd.ntmps7
    go_wp2_with (go_at_call 18; refine HC.out.mono ?_; rintro e w1 ⟨rfl, hb1⟩)
    go_ret
    exact ⟨_, rfl, World.ownsRow_nil _ _ _ _, hbox.trans (hb1.mono (by simp))⟩
  | true =>
    rw [if_pos rfl]
    have hn := Vw.nice ht hok
    have h0 : v.err = 0 := by unfold Vw.ok at hok; simpa using hok
    rw [h0] at HC
    obtain ⟨W, hW⟩ : ∃ W, v.width.toNat = W := ⟨_, rfl⟩
    rw [hW] at hn ⊢
    have HLong := hide (fun (w1 : World) (hb1 : Below w.heap.size w w1) (t : Nat) (h1 : t < v.rows.length) => longestP w1 A c v W t ((h.below hb1).more hb1.size) hn hc h1)
    obtain ⟨htame, n1, n2, n3, n4, n5⟩ := hn
    have HCol := hide (fun (w1 : World) (hb1 : Below w.heap.size w w1) (t b : Nat) (h1 : t < b) (h2 : b ≤ v.rows.length) (r : Rg) (h3 : r.top = t) (h4 : r.bottom = b) => columnsP w1 A c v W t b r ((h.below hb1).more hb1.size) htame n1 n2 n3 h1 h2 hc n5 h3 h4)
    have HH := hide h
    have H4 := hide n4
    have hl12 := htame.1
    clear h hT ht htame n1 n4 n5 hok h0 hW
    unfold Vw.val at HC HLong HCol ⊢
    unfold Rg.val at HCol
    obtain ⟨ti, hti, htz, htsz, htby⟩ := info_parts el_region.info
    go_enter Tryd.func7, Tryd.ntmps7
    go_wp2_with (go_at_call 18; refine HC.out.mono ?_; rintro e w1 ⟨rfl, hb1⟩; obtain ⟨k0, k1, k2, k3, k4, k5⟩ := (hvb.below hb1 (by simp)).cells)
    rw [World.size_alloc] at hb1
    clear k0 k1 k2 k3 k4 k5
    go_loopw [3, 4] (fun o i wr => ∃ (t f : Nat) (pre : List Rg), t ≤ v.rows.length ∧ i = .int .i64 t ∧ v.rows.length ≤ t + f ∧ findF v.rows W v.rows.length 0 = pre ++ findF v.rows W f t ∧ pre.length ≤ t ∧
      wr.ownsRow (w.heap.size + 1) 33 8 o pre.length (pre.flatMap Rg.enc) ∧ Below (w.heap.size + 1) (w.alloc (.cells #[.int .i64 v.width, .int .i64 v.height, .slice A v.rows.length c, .int .i64 v.row, .int .i64 v.col, .bool v.visible] 24)) wr) (fun _ i _ => v.rows.length - (intOf i).toNat)
    case atStart => exact ⟨0, v.rows.length, [], by omega, rfl, by omega, rfl, by simp, World.ownsRow_nil _ _ _ _, hb1⟩
    case round =>
      clear hb1
      rename World => wo
      obtain ⟨t, f, pre, htl, rfl, hf, hpre, hpl, hown, hbr⟩ := hrel
      have Hpre := hide hpre
      clear hpre
      obtain ⟨Ao, co0, rfl⟩ := own_form hown
      obtain ⟨k0, k1, k2, k3, k4, k5⟩ := (hvb.below hbr (Nat.lt_succ_self _)).cells
      have hbw := hbox.trans (hbr.mono (Nat.le_succ _))
      have hlw : w.heap.size + 1 ≤ wo.heap.size := by have := hbr.size; simp at this; omega
      by_cases hlt : t < v.rows.length
      · have hd : decide ((t : Int) < v.height) = true := by have := H4.out; simp; omega
        have HL := hide (HLong.out wo hbw t hlt)
        obtain ⟨f, rfl⟩ : ∃ f', f = f' + 1 := ⟨f - 1, by omega⟩
        obtain ⟨e, he⟩ : ∃ e, endTo v.rows W t v.rows.length = e := ⟨_, rfl⟩
        have hbd := endTo_bd v.rows W t v.rows.length
        rw [he] at hbd
        unfold longR at HL
        rw [he] at HL
        by_cases hnone : e = t + 1
        · rw [if_pos hnone] at HL
          have hfind := findF_none v.rows W f t hlt (by rw [he, hnone])
          have Hfind := hide hfind
          clear hfind he hbd hnone
          go_wp2_with (go_at_call 19; refine HL.out.mono ?_; rintro e w2 ⟨rfl, hb2⟩)
          go_roundw
          case rel => exact ⟨t + 1, f, pre, by omega, by go_num, by omega, by rw [Hpre.out, Hfind.out], by omega, own_more (own_below hown hb2 (Nat.le_refl _)) (Nat.le_refl _), hbr.trans (hb2.mono hlw)⟩
          case measure => simp [intOf]; omega
        · rw [if_neg hnone] at HL
          have hfind := findF_some v.rows W f t hlt (by rw [he]; exact hnone)
          have htab := endTo_tab v.rows W t v.rows.length (by rw [he]; exact hnone)
          rw [he] at hfind htab
          have hte : t + 2 ≤ e ∧ e ≤ v.rows.length := by omega
          clear hbd he
          unfold tabB at htab
          simp only [Bool.and_eq_true, decide_eq_true_eq] at htab
          obtain ⟨n, hnl⟩ : ∃ n, (partsTo (gut v.rows t e) W).length = n := ⟨_, rfl⟩
          have hn1 : 1 < n := by rw [← hnl]; exact htab.2
          have hn2 : n ≤ W := by rw [← hnl]; exact (partsTo_bd _ W).1
          obtain ⟨m, hm⟩ : ∃ m, m + 1 = n := ⟨n - 1, by omega⟩
          obtain ⟨p, q, c0, cm, htbl⟩ := tblR_eq v.rows W t e n m hnl (by omega) hm
          have hcl : (colsR v.rows W t e).length = n := by rw [colsR_length, hnl]
          have HCols := hide (fun w1 hb1 => HCol.out w1 hb1 t e (by omega) hte.2 ⟨3, 0, -1, t, 0, e, 0, ⟨#[]⟩⟩ rfl rfl)
          dsimp only at HCols
          rw [htbl] at hfind
          have g0 := rg_get _ 0 _ c0
          have gm := rg_get _ m _ cm
          obtain ⟨cs, hcs⟩ : ∃ cs, colsR v.rows W t e = cs := ⟨_, rfl⟩
          rw [hcs] at HCols g0 gm hcl
          rw [hcl] at HCols
          obtain ⟨-, a1, -, -, a2⟩ := g0
          obtain ⟨-, -, -, a3, -⟩ := gm
          replace a1 : (cs.flatMap Rg.enc)[4]? = some (.int .i64 p.1) := a1
          replace a2 : (cs.flatMap Rg.enc)[7]? = some (.string (cellOf (v.rows[t]?.getD []) p.1 p.2)) := a2
          replace a3 : (cs.flatMap Rg.enc)[m * 8 + 6]? = some (.int .i64 q.2) := a3
          obtain ⟨p1, p2⟩ := p
          obtain ⟨q1, q2⟩ := q
          obtain ⟨lb, hlb⟩ : ∃ lb, cellOf (v.rows[t]?.getD []) (p1 : Nat) (p2 : Nat) = lb := ⟨_, rfl⟩
          dsimp only at a1 a2 a3 hfind
          rw [hlb] at a2 hfind
          have Hfind := hide hfind
          have a1 := hide a1
          have a2 := hide a2
          have a3 := hide a3
          have hix : (n : Int) - 1 = (m : Int) := by omega
          have he0 : ((e : Int) == 0) = false := by simp; omega
          clear hlb hcs hcl htbl c0 cm hfind hnl htab
          go_wp2_with (first
            | (go_at_call 19; refine HL.out.mono ?_; rintro e' w2 ⟨rfl, hb2⟩; have hbw2 := hbw.trans (hb2.mono (by omega)); have hbr2 := hbr.trans (hb2.mono hlw); obtain ⟨q0, q1', q2', q3, q4, q5⟩ := (hvb.below hbr2 (Nat.lt_succ_self _)).cells; have hl2 : w.heap.size < w2.heap.size := (by have := hb2.size; omega))
            | (go_at_call 20; refine (HCols.out _ (hbw2.alloc hbw2.size _)).mono ?_; rintro e' w3 ⟨vv, rfl, hown3, hb3⟩; obtain ⟨go, co, rfl, hgo, hgl⟩ := own_form1 hown3 (by omega)))
          have hgo2 : w2.heap.size < go := by simp at hgo; omega
          have hrb : RgBox w3 w2.heap.size ⟨3, 0, -1, t, 0, e, 0, ⟨#[]⟩⟩ := block_below (block_new w2 _) hb3 (by simp)
          obtain ⟨x0, x1, x2, x3, x4, x5, x6, x7⟩ := hrb.cells
          dsimp only at x0 x1 x2 x3 x4 x5 x6 x7
          have hfr := fun i => frozen_block hrb i
          have f4 := hfr 4
          have f6 := hfr 6
          have f7 := hfr 7
          have e4 := (hown3.cellAt 4 (by omega)).trans a1.out
          have e6 := (hown3.cellAt (m * 8 + 6) (by omega)).trans a3.out
          have e7 := (hown3.cellAt 7 (by omega)).trans a2.out
          have hne1 : w2.heap.size ≠ go := by omega
          have hne2 : go ≠ w2.heap.size := by omega
          have hn0 : (0 : Int) < (n : Int) := by omega
          have hn0' : decide (0 < n) = true := by simp; omega
          have hn0n : 0 < n := by omega
          have hmn : (m : Int) < (n : Int) := by omega
          have hmnn : m < n := by omega
          have hwr : IntKind.i64.wrap ((n : Int) - 1) = (m : Int) := by rw [hix]; exact IntWalk.i64_in _ (by omega)
          have hwr2 : IntKind.i64.wrap (m : Int) = (m : Int) := IntWalk.i64_in _ (by omega)
          have Hfr := hide hfr
          clear hfr
          go_region_held3 (fun W2 => W2.cell? ⟨go, 4, none⟩ = some (.int .i64 p1) ∧ W2.cell? ⟨go, m * 8 + 6, none⟩ = some (.int .i64 q2) ∧ W2.cell? ⟨go, 7, none⟩ = some (.string lb)) (go_keep) (fail)
          obtain ⟨w5, hw5⟩ : ∃ w5, (((w3.setCell ⟨w2.heap.size, 4, none⟩ (.int .i64 p1)).setCell ⟨w2.heap.size, 6, none⟩ (.int .i64 q2)).setCell ⟨w2.heap.size, 7, none⟩ (.string lb)).drew = w5 := ⟨_, rfl⟩
          have hrb5 : RgBox w5 w2.heap.size ⟨3, 0, -1, t, p1, e, q2, lb⟩ := by
            rw [← hw5]
            exact heap_setCell_same _ _ 7 _ _ (.string lb) (heap_setCell_same _ _ 6 _ _ (.int .i64 q2) (heap_setCell_same _ _ 4 _ _ (.int .i64 p1) hrb))
          have hb5 : Below w2.heap.size w3 w5 := by
            rw [← hw5]
            exact ((((Below.refl _ _).setCell (p := ⟨w2.heap.size, 4, none⟩) (Nat.le_refl _) _).setCell (p := ⟨w2.heap.size, 6, none⟩) (Nat.le_refl _) _).setCell (p := ⟨w2.heap.size, 7, none⟩) (Nat.le_refl _) _).drew
          rw [hw5]
          clear hw5 x0 x1 x2 x3 x4 x5 x6 x7 f4 f6 f7 e4 e6 e7 Hfr
          have hb25 : Below w2.heap.size w2 w5 := (((Below.refl _ _).alloc (Nat.le_refl _) _).trans (hb3.mono (by simp))).trans hb5
          have hown5 := own_below (own_below hown hb2 (Nat.le_refl _)) hb25 (Nat.le_refl _)
          have hbr5 := hbr2.trans (hb25.mono (by omega))
          have hs5 : w.heap.size + 1 ≤ w5.heap.size := by have := hb25.size; omega
          obtain ⟨y0, y1, y2, y3, y4, y5, y6, y7⟩ := hrb5.cells
          dsimp only at y0 y1 y2 y3 y4 y5 y6 y7
          go_wp2_with (at_builtin; refine wpList_app _ (.tmp 46) (.tmp 48) 30 rfl rfl el_region (w.heap.size + 1) _ _ _ rfl hown5 hs5 _ 1 1 _ _ rfl (by first | rfl | simp) rfl (by simp [Value.oneCell']) (by omega) ?_; intro v6 w6 hown6 hg6)
          go_roundw
          case rel => exact ⟨e, f, pre ++ [⟨3, 0, -1, t, p1, e, q2, lb⟩], by omega, rfl, by omega, by rw [Hpre.out, Hfind.out]; simp, by simp; omega, own_eq hown6 (by simp) (by simp [Rg.enc]), below_own hbr5 hown5 hg6 (Nat.le_refl _) hs5⟩
          case measure => simp [intOf]; omega
      · have hd : decide ((t : Int) < v.height) = false := by have := H4.out; simp; omega
        have hfe := findF_end v.rows W f t (by omega)
        have Hfe := hide hfe
        clear hfe
        go_wp2
        go_ret
        exact ⟨_, rfl, own_eq (own_more hown (by omega)) (by rw [Hpre.out, Hfe.out]; simp) (by rw [Hpre.out, Hfe.out]; simp), hbw⟩
end Go.Proofs.YtmgepckhdgoemaaDoor
