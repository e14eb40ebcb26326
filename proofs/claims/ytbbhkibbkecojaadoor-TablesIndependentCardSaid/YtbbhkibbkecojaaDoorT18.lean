/- Tables: narratorref24.Find. -/
import Derived.Test.YtbbhkibbkecojaaDoorT17
namespace Go.Proofs.YtbbhkibbkecojaaDoor
open Go.RowKit

set_option maxHeartbeats 4000000 in
set_option maxRecDepth 100000 in
theorem find24P (w : World) (A : Option Addr) (c : Nat) (v : Vw) (h : Rows2 w w.heap.size A v.rows) (ht : v.Tame) (hc : v.rows.length ≤ c) :
    Calls Tryd.prog 20 #[v.val A c] w fun e w' => ∃ vv, e = .returned vv ∧ w'.ownsRow w.heap.size 26 8 vv (findT v).length ((findT v).flatMap Rg.enc) ∧ Below w.heap.size w w' := by
  have hbox := (Below.refl w.heap.size w).alloc (Nat.le_refl _) (.cells #[.int .i64 v.width, .int .i64 v.height, .slice A v.rows.length c, .int .i64 v.row, .int .i64 v.col, .bool v.visible] 24)
  have hvb : VwBox _ w.heap.size v A c := block_new w (.cells #[.int .i64 v.width, .int .i64 v.height, .slice A v.rows.length c, .int .i64 v.row, .int .i64 v.col, .bool v.visible] 24)
  obtain ⟨W0, hW0⟩ : ∃ W0, w.alloc (.cells #[.int .i64 v.width, .int .i64 v.height, .slice A v.rows.length c, .int .i64 v.row, .int .i64 v.col, .bool v.visible] 24) = W0 := ⟨_, rfl⟩
  have hs0 : W0.heap.size = w.heap.size + 1 := by rw [← hW0]; simp
  rw [hW0] at hbox hvb
  have hlit := own_lit W0 (w.heap.size + 1) 26 8 0 #[] (by omega) (by omega) rfl
  have hB1 := hbox.alloc hbox.size (.cells #[] 26)
  have hvb1 : VwBox (W0.alloc (.cells #[] 26)) _ _ _ _ := block_alloc hvb _
  have hs1 : (W0.alloc (.cells #[] 26)).heap.size = w.heap.size + 1 + 1 := by rw [World.size_alloc, hs0]
  rw [hs0] at hlit
  obtain ⟨W1, hW1⟩ : ∃ W1, W0.alloc (.cells #[] 26) = W1 := ⟨_, rfl⟩
  rw [hW1] at hlit hB1 hvb1 hs1
  rw [← hW0] at hW1
  have HW1 := hide hW1
  clear hW1 hW0 hbox hs0 hvb
  have HR := hide (fun (w1 : World) (hb1 : Below w.heap.size w w1) => (h.below hb1).more hb1.size)
  have HC := hide (check15 W1 A c v (HR.out W1 hB1) ht)
  have k := hvb1.cells
  unfold findT
  cases hok : v.ok with
  | false =>
    rw [if_neg (by simp)]
    obtain ⟨V, hV⟩ : ∃ V, v.err = V := ⟨_, rfl⟩
    have h0 : (V != 0) = true := by unfold Vw.ok at hok; rw [hV] at hok; simpa using hok
    rw [hV] at HC
    rw [← HW1.out] at k HC
    obtain ⟨k0, k1, k2, k3, k4, k5⟩ := k
    clear h hok hV
    unfold Vw.val at HC ⊢
    go_enter Tryd.func20, Tryd.ntmps20
    go_wp2_with (go_at_call 35; refine HC.out.mono ?_; rintro e w1 ⟨rfl, hb1⟩; rw [HW1.out] at hb1)
    go_ret
    exact ⟨_, rfl, own_more (own_below hlit hb1 (Nat.le_refl _)) (by omega), hB1.trans (hb1.mono (by omega))⟩
  | true =>
    rw [if_pos rfl]
    have hn := Vw.nice ht hok
    have h0 : v.err = 0 := by unfold Vw.ok at hok; simpa using hok
    rw [h0] at HC
    obtain ⟨W, hW⟩ : ∃ W, v.width.toNat = W := ⟨_, rfl⟩
    rw [hW] at hn ⊢
    have HTab := hide (fun (w1 : World) (hb1 : Below w.heap.size w w1) (t b : Nat) (h1 : t < b) (h2 : b ≤ v.rows.length) => tableP w1 A c v W t b (HR.out w1 hb1) hn hok hc h1 h2)
    obtain ⟨htame, n1, n2, n3, n4, n5⟩ := hn
    have HG := hide (fun (w1 : World) (hb1 : Below w.heap.size w w1) (t b : Nat) (h1 : t < b) (h2 : b ≤ v.rows.length) => gutters24_yes w1 A c v W t b (HR.out w1 hb1) htame (valid24_of hok h1 h2) n1 hc)
    have HCell := hide (fun (w1 : World) (hb1 : Below w.heap.size w w1) (t b : Nat) (h1 : t < b) (h2 : b ≤ v.rows.length) (p : Nat × Nat) (hp : (partsTo (gut v.rows t b) W)[0]? = some p) (r : Rg) (e4 : r.top = t) (e5 : r.bottom = b) => (show Calls Tryd.prog 13 #[v.val A c, r.val, .int .i64 0, .int .i64 0] w1 fun e w' => e = .returned (.tuple #[.string (cellOf (v.rows[t]?.getD []) p.1 p.2), .int .i64 0]) ∧ Below w1.heap.size w1 w' by
      have := cell24P w1 A c v r 0 (0 : Nat) (HR.out w1 hb1) ht hc
      rw [cellT_some (by rw [e4, e5]; exact valid24_of hok h1 h2) n1 e4 e5 h1 hp] at this
      exact this))
    have H4 := hide n4
    have hl12 := htame.1
    rw [← HW1.out] at k HC
    obtain ⟨k0, k1, k2, k3, k4, k5⟩ := k
    clear h ht htame n1 n4 n5 hok h0 hW
    unfold Vw.val at HC HTab HG HCell ⊢
    unfold Rg.val at HCell
    go_enter Tryd.func20, Tryd.ntmps20
    go_wp2_with (go_at_call 35; refine HC.out.mono ?_; rintro e w1 ⟨rfl, hb1⟩; rw [HW1.out] at hb1)
    have hown := own_below hlit hb1 (Nat.le_refl _)
    have hB3 := hB1.trans (hb1.mono (by omega))
    have hvb3 := hvb1.below hb1 (by omega)
    clear k0 k1 k2 k3 k4 k5 HC HW1 hb1 hB1 hvb1 hlit
    go_loopw [3, 4] (fun o i wr => ∃ (t f : Nat) (pre : List Rg), t ≤ v.rows.length ∧ i = .int .i64 t ∧ v.rows.length ≤ t + f ∧ findF v.rows W v.rows.length 0 = pre ++ findF v.rows W f t ∧ pre.length ≤ t ∧
      wr.ownsRow (w.heap.size + 1) 26 8 o pre.length (pre.flatMap Rg.enc) ∧ VwBox wr w.heap.size v A c ∧ Below w.heap.size w wr) (fun _ i _ => v.rows.length - (intOf i).toNat)
    case atStart => exact ⟨0, v.rows.length, [], by omega, rfl, by omega, rfl, by simp, hown, hvb3, hB3⟩
    case round =>
      clear hown hvb3 hB3
      rename World => wo
      obtain ⟨t, f, pre, htl, rfl, hf, hpre, hpl, hown, hvb, hbw⟩ := hrel
      have Hpre := hide hpre
      clear hpre
      obtain ⟨Ao, co0, rfl⟩ := own_form hown
      obtain ⟨k0, k1, k2, k3, k4, k5⟩ := hvb.cells
      have hlw : w.heap.size + 1 ≤ wo.heap.size := block_lt hvb
      by_cases hlt : t < v.rows.length
      · have hd : decide ((t : Int) < v.height) = true := by have := H4.out; simp; omega
        obtain ⟨f, rfl⟩ : ∃ f', f = f' + 1 := ⟨f - 1, by omega⟩
        obtain ⟨E, hE⟩ : ∃ E : Nat → Nat, (fun b => endTo v.rows W t b) = E := ⟨_, rfl⟩
        have HEs := hide (fun b (hb : t + 2 ≤ b + 1) => show E (b + 1) = if tabB v.rows W t (b + 1) then b + 1 else E b by rw [← hE]; simp only [endTo_step]; rw [show decide (t + 2 ≤ b + 1) = true by simp; omega, Bool.true_and])
        have HE0 := hide (show E (t + 1) = t + 1 by rw [← hE]; exact endTo_low v.rows W t _ (Nat.le_refl _))
        have HEl := hide (show endTo v.rows W t v.rows.length = E v.rows.length by rw [← hE])
        clear hE
        go_wp2
        go_loopw [5, 6] (fun e b wi => ∃ x : Nat, (t + 1 ≤ x ∧ x ≤ v.rows.length) ∧ b = .int .i64 ((x + 1 : Nat) : Nat) ∧ e = .int .i64 (E x : Nat) ∧ Below wo.heap.size wo wi) (fun _ b _ => v.rows.length + 1 - (intOf b).toNat)
        case atStart => exact ⟨t + 1, by omega, by go_num, by rw [HE0.out]; go_num, Below.refl _ _⟩
        case round =>
          clear k0 k1 k2 k3 k4 k5
          rename World => wi
          obtain ⟨x, ⟨hx1, hx2⟩, rfl, rfl, hbi⟩ := hrel
          have hsi := hbi.size
          obtain ⟨k0, k1, k2, k3, k4, k5⟩ := (hvb.below hbi (by omega)).cells
          have hbwi := hbw.trans (hbi.mono (by omega))
          have hcx : ((x + 1 : Nat) : Int) = (x : Int) + 1 := by omega
          rw [hcx]
          by_cases hxl : x < v.rows.length
          · have hd2 : decide ((x : Int) + 1 ≤ v.height) = true := by have := H4.out; simp; omega
            have HT := hide (HTab.out wi hbwi t (x + 1) (by omega) (by omega))
            rw [hcx] at HT
            have hes := HEs.out x (by omega)
            cases htb : tabB v.rows W t (x + 1) with
            | true =>
              rw [htb] at HT
              have Hes := hide (show E (x + 1) = x + 1 by rw [hes, htb, if_pos rfl])
              clear hes htb
              go_wp2_with (first
                | (go_at_call 40; refine HT.out.mono ?_; rintro e w2 ⟨rfl, hb2⟩)
                | fail)
              go_roundw
              case rel => exact ⟨x + 1, by omega, by go_num, by rw [Hes.out]; go_num, hbi.trans (hb2.mono hsi)⟩
              case measure => simp [intOf]; omega
            | false =>
              rw [htb] at HT
              have Hes := hide (show E (x + 1) = E x by rw [hes, htb, if_neg (by simp)])
              clear hes htb
              go_wp2_with (first
                | (go_at_call 40; refine HT.out.mono ?_; rintro e w2 ⟨rfl, hb2⟩)
                | fail)
              go_roundw
              case rel => exact ⟨x + 1, by omega, by go_num, by rw [Hes.out], hbi.trans (hb2.mono hsi)⟩
              case measure => simp [intOf]; omega
          · obtain rfl : x = v.rows.length := by omega
            have hd2 : decide (((v.rows.length : Nat) : Int) + 1 ≤ v.height) = false := by have := H4.out; simp; omega
            obtain ⟨e, he⟩ : ∃ e, E v.rows.length = e := ⟨_, rfl⟩
            have hend := HEl.out
            rw [he] at hend ⊢
            have hbd := endTo_bd v.rows W t v.rows.length
            rw [hend] at hbd
            clear he HEs HE0 HEl hcx
            by_cases hnone : e = t + 1
            · have hfind := findF_none v.rows W f t hlt (by rw [hend, hnone])
              have Hfind := hide hfind
              have Hnone := hide hnone
              have hd3 : decide ((t : Int) + 1 < (e : Int)) = false := by simp; omega
              clear hfind hend hbd hnone
              go_wp2
              go_roundw
              case rel => exact ⟨t + 1, f, pre, by omega, by rw [Hnone.out], by omega, by rw [Hpre.out, Hfind.out], by omega, own_below hown hbi (Nat.le_refl _), hvb.below hbi (by omega), hbwi⟩
              case measure => have := Hnone.out; simp [intOf]; omega
            · have hfind := findF_some v.rows W f t hlt (by rw [hend]; exact hnone)
              have htab := endTo_tab v.rows W t v.rows.length (by rw [hend]; exact hnone)
              rw [hend] at hfind htab
              have hte : t + 2 ≤ e ∧ e ≤ v.rows.length := by omega
              have hd3 : decide ((t : Int) + 1 < (e : Int)) = true := by simp; omega
              clear hbd hend
              unfold tabB at htab
              simp only [Bool.and_eq_true, decide_eq_true_eq] at htab
              obtain ⟨n, hnl⟩ : ∃ n, (partsTo (gut v.rows t e) W).length = n := ⟨_, rfl⟩
              have hn1 : 1 < n := by rw [← hnl]; exact htab.2
              have hn2 : n ≤ W := by rw [← hnl]; exact (partsTo_bd _ W).1
              obtain ⟨m, hm⟩ : ∃ m, m + 1 = n := ⟨n - 1, by omega⟩
              obtain ⟨p, e0⟩ : ∃ p, (partsTo (gut v.rows t e) W)[0]? = some p := ⟨_, List.getElem?_eq_getElem (by omega)⟩
              obtain ⟨q, em⟩ : ∃ q, (partsTo (gut v.rows t e) W)[m]? = some q := ⟨_, List.getElem?_eq_getElem (by omega)⟩
              have htbl : tblR v.rows W t e = ⟨3, 0, -1, t, p.1, e, q.2, cellOf (v.rows[t]?.getD []) p.1 p.2⟩ := by
                unfold tblR
                rw [List.head?_eq_getElem?, List.getLast?_eq_getElem?, hnl, show n - 1 = m by omega, e0, em]
                rfl
              rw [htbl] at hfind
              have HGk := hide (HG.out wi hbwi t e (by omega) hte.2)
              have HCl := hide (fun w1 hb1 => HCell.out w1 hb1 t e (by omega) hte.2 p e0 ⟨3, 0, -1, t, p.1, e, q.2, ⟨#[]⟩⟩ rfl rfl)
              dsimp only at HCl
              have g0 := (span_get _ 0 p e0).1
              have g1 := (span_get _ m q em).2
              obtain ⟨F, hF⟩ : ∃ F, gut v.rows t e = F := ⟨_, rfl⟩
              rw [hF] at HGk g0 g1 hnl
              obtain ⟨ps, hps⟩ : ∃ ps, partsTo F W = ps := ⟨_, rfl⟩
              rw [hps] at g0 g1 hnl
              have Hps := hide hps
              have Hnl := hide hnl
              obtain ⟨p1, p2⟩ := p
              obtain ⟨q1, q2⟩ := q
              obtain ⟨lb, hlb⟩ : ∃ lb, cellOf (v.rows[t]?.getD []) (p1 : Nat) (p2 : Nat) = lb := ⟨_, rfl⟩
              dsimp only at g0 g1 hfind HCl
              rw [hlb] at HCl hfind
              have Hfind := hide hfind
              have g0 := hide g0
              have g1 := hide g1
              have hix : (n : Int) - 1 = (m : Int) := by omega
              clear hlb hps hnl htbl e0 em hfind hF htab
              go_wp2_with (first
                | (go_at_call 23; refine HGk.out.mono ?_; rintro e' w2 ⟨g, cap, rfl, hown2, hb2⟩; have hcl : ∀ j, j < W → w2.cell? ⟨g, j, none⟩ = some (.bool (F j)) := (fun j hj => by rw [hown2.cellAt j (by omega), bits_get W _ hj]); have HP := hide (parts24P w2 g cap W F (hown2.lt g rfl).2 hcl (by omega)); clear hcl; rw [Hps.out, Hnl.out] at HP)
                | (go_at_call 37; refine HP.out.mono ?_; rintro e' w3 ⟨vv, rfl, hown3, hb3⟩; obtain ⟨g3, co, rfl, hg3, hgl3⟩ := own_form1 hown3 (by omega))
                | fail)
              have e4 := (hown3.cellAt 0 (by omega)).trans g0.out
              have e6 := (hown3.cellAt (m * 2 + 1) (by omega)).trans g1.out
              have hn0 : (0 : Int) < (n : Int) := by omega
              have hn0' : decide (0 < n) = true := by simp; omega
              have hn0n : 0 < n := by omega
              have hmn : (m : Int) < (n : Int) := by omega
              have hmnn : m < n := by omega
              have hwr : IntKind.i64.wrap ((n : Int) - 1) = (m : Int) := by rw [hix]; exact IntWalk.i64_in _ (by omega)
              have hwr2 : IntKind.i64.wrap (m : Int) = (m : Int) := IntWalk.i64_in _ (by omega)
              go_region_held3 (fun W2 => W2.cell? ⟨g3, 0, none⟩ = some (.int .i64 p1) ∧ W2.cell? ⟨g3, m * 2 + 1, none⟩ = some (.int .i64 q2)) (go_keep) (fail)
              have hrb4 : RgBox (w3.alloc (.cells #[.int .i64 3, .int .i64 0, .int .i64 (-1), .int .i64 t, .int .i64 p1, .int .i64 e, .int .i64 q2, .string ⟨#[]⟩] 26)).drew w3.heap.size ⟨3, 0, -1, t, p1, e, q2, ⟨#[]⟩⟩ := block_new w3 _
              have hb4 : Below w3.heap.size w3 (w3.alloc (.cells #[.int .i64 3, .int .i64 0, .int .i64 (-1), .int .i64 t, .int .i64 p1, .int .i64 e, .int .i64 q2, .string ⟨#[]⟩] 26)).drew := ((Below.refl _ _).alloc (Nat.le_refl _) _).drew
              have hs4 : (w3.alloc (.cells #[.int .i64 3, .int .i64 0, .int .i64 (-1), .int .i64 t, .int .i64 p1, .int .i64 e, .int .i64 q2, .string ⟨#[]⟩] 26)).drew.heap.size = w3.heap.size + 1 := World.size_alloc _ _
              obtain ⟨w4, hw4⟩ : ∃ w4, (w3.alloc (.cells #[.int .i64 3, .int .i64 0, .int .i64 (-1), .int .i64 t, .int .i64 p1, .int .i64 e, .int .i64 q2, .string ⟨#[]⟩] 26)).drew = w4 := ⟨_, rfl⟩
              rw [hw4] at hrb4 hb4 hs4 ⊢
              clear hw4
              have hs2 := hb2.size
              have hs3 := hb3.size
              have hbi4 : Below wi.heap.size wi w4 := (hb2.trans (hb3.mono hb2.size)).trans (hb4.mono (by omega))
              have hbo4 := hbi.trans (hbi4.mono hsi)
              have hown4 := own_below hown hbo4 (Nat.le_refl _)
              have hvb4 := hvb.below hbo4 (by omega)
              have hbw4 := hbw.trans (hbo4.mono (by omega))
              obtain ⟨x0, x1, x2, x3, x4, x5⟩ := hvb4.cells
              obtain ⟨y0, y1, y2, y3, y4, y5, y6, y7⟩ := hrb4.cells
              dsimp only at y0 y1 y2 y3 y4 y5 y6 y7
              have HCk := hide (HCl.out w4 hbw4)
              have hw3 : wo.heap.size ≤ w3.heap.size := by omega
              have HS := hide (fun (w5 : World) (hb5 : Below w4.heap.size w4 w5) => And.intro (frozen_block (hrb4.below hb5 (by omega)) 7) (hrb4.below hb5 (by omega)).cells)
              dsimp only at HS
              clear k0 k1 k2 k3 k4 k5 e4 e6 hown3 hown2 hbi hbwi hb2 hb3 HCl HGk HP hwr hwr2 hown4 hvb4 hbw4
              go_wp2_with (first
                | (go_at_call 13; refine HCk.out.mono ?_; rintro e' w5 ⟨rfl, hb5⟩; obtain ⟨f7, z0, z1, z2, z3, z4, z5, z6, z7⟩ := HS.out w5 hb5; have hbo5 : Below wo.heap.size wo (w5.setCell ⟨w3.heap.size, 7, none⟩ (.string lb)) := (hbo4.trans (hb5.mono (by omega))).setCell (p := ⟨w3.heap.size, 7, none⟩) hw3 _; have hown5 := own_below hown hbo5 (Nat.le_refl _); have hs5 : w.heap.size + 1 ≤ (w5.setCell ⟨w3.heap.size, 7, none⟩ (.string lb)).heap.size := (by have := hbo5.size; omega))
                | (at_builtin; refine wpList_app _ (.tmp 63) (.tmp 65) 33 rfl rfl el_region (w.heap.size + 1) _ _ _ rfl hown5 hs5 _ 1 1 _ _ rfl (by first | rfl | simp) rfl (by simp [Value.oneCell']) (by omega) ?_; intro v6 w6 hown6 hg6)
                | fail)
              have hb56 := below_own (Below.refl (w.heap.size + 1) _) hown5 hg6 (Nat.le_refl _) hs5
              have hvb6 := (hvb.below hbo5 (by omega)).below hb56 (Nat.lt_succ_self _)
              have hbw6 := (hbw.trans (hbo5.mono (by omega))).trans (hb56.mono (Nat.le_succ _))
              go_roundw
              case rel => exact ⟨e, f, pre ++ [⟨3, 0, -1, t, p1, e, q2, lb⟩], by omega, rfl, by omega, by rw [Hpre.out, Hfind.out]; simp, by simp; omega, own_eq hown6 (by simp) (by simp [Rg.enc]), hvb6, hbw6⟩
              case measure => simp [intOf]; omega
      · have hd : decide ((t : Int) < v.height) = false := by have := H4.out; simp; omega
        have hfe := findF_end v.rows W f t (by omega)
        have Hfe := hide hfe
        clear hfe
        go_wp2
        go_ret
        exact ⟨_, rfl, own_eq (own_more hown (by omega)) (by rw [Hpre.out, Hfe.out]; simp) (by rw [Hpre.out, Hfe.out]; simp), hbw⟩
end Go.Proofs.YtbbhkibbkecojaaDoor
