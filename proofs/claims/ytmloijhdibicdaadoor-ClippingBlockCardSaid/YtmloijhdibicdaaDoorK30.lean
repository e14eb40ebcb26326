/- Chapter 45: narratorref45.Block. -/
import Derived.Test.YtmloijhdibicdaaDoorK28
import Derived.Test.YtmloijhdibicdaaDoorK29
namespace Go.Proofs.YtmloijhdibicdaaDoor
open Go.RowKit Go.Shelf

theorem cutB_line (l : List Gl) (left right : Nat) (h : left < right) : (⟨(Lib.trimRightB (lineTo (colsF left 0 l) left (right - left)).data.toList 32).toArray⟩ : ByteArray) = cutB left right l := by
  rw [line_cut l left right h]; rfl
theorem cols_map (left : Nat) (l : List Gl) (k : Nat) (hk : k < l.length) : (colsF left 0 (l.take (k + 1))).map Value.string = (colsF left 0 (l.take k)).map Value.string ++ [.string l[k].text] ++ (if l[k].wide then [.string (if widthOf (l.take k) + 1 = left then ⟨#[32]⟩ else ⟨#[]⟩)] else []) := by
  rw [colsF_snoc left l k hk, List.map_append, List.map_append, List.append_assoc]
  split <;> rfl
theorem lineTo_next (cs : List ByteArray) (left x : Nat) (h : left ≤ x) : lineTo cs left (x + 1 - left) = lineTo cs left (x - left) ++ (match cs[x]? with | some c => c | none => ⟨#[32]⟩) := by
  rw [show x + 1 - left = (x - left) + 1 by omega, lineTo, show left + (x - left) = x by omega]
  rfl

set_option maxRecDepth 100000 in
set_option maxHeartbeats 3000000 in
theorem block45_bad (w : World) (A : Option Addr) (c : Nat) (v : Vw) (r : Rg) (h : Rows2 w w.heap.size A v.rows) (ht : v.Tame) (hbad : blockE v r.top r.left r.bottom r.right ≠ 0) :
    Calls Tryd.prog 28 #[v.val A c, r.val] w fun e w' => e = .returned (.tuple #[.string (blockT v r.top r.left r.bottom r.right), .int .i64 (blockE v r.top r.left r.bottom r.right)]) ∧ Below w.heap.size w w' := by
  obtain ⟨W0, hW0, hbox, hs0, hvb, hrb⟩ := boxes2 w v A c r
  have HC := hide (check15 W0 A c v ((h.below hbox).more hbox.size) ht)
  have HK := hide (fun w1 (hb1 : Below W0.heap.size W0 w1) => And.intro (hvb.below hb1 (by omega)).cells (hrb.below hb1 (by omega)).cells)
  have hways := blkWays v r.top r.left r.bottom r.right
  obtain ⟨⟨k0, k1, k2, k3, k4, k5⟩, p0, p1, p2, p3, p4, p5, p6, p7⟩ := HK.out W0 (Below.refl _ _)
  have Hbox := hide hbox
  clear h ht hbox hs0 hvb hrb
  subst hW0
  obtain ⟨rk, ri, rp, rt, rl, rb, rr, rs⟩ := r
  unfold Vw.val at HC ⊢
  unfold Rg.val
  dsimp only at hways p0 p1 p2 p3 p4 p5 p6 p7 HK hbad ⊢
  obtain ⟨E, hE⟩ : ∃ E, blockE v rt rl rb rr = E := ⟨_, rfl⟩
  obtain ⟨T, hTT⟩ : ∃ T, blockT v rt rl rb rr = T := ⟨_, rfl⟩
  unfold BlkWays at hways
  rw [hE] at hbad
  rw [hE, hTT] at hways ⊢
  clear hE hTT
  rcases hways with ⟨he, rfl, rfl⟩ | ⟨he, h1, rfl, rfl⟩ | ⟨he, h1, h2, rfl, rfl⟩ | ⟨he, h1, h2, h3, rfl, rfl⟩ | ⟨he, h1, h2, h3, h4, rfl, rfl⟩ | ⟨he, h1, h2, h3, h4, h5, rfl, rfl⟩ | ⟨he, h1, h2, h3, h4, h5, h6, rfl, rfl⟩ | ⟨he, h1, h2, h3, h4, h5, h6, rfl⟩
  · obtain ⟨V, hV⟩ : ∃ V, v.err = V := ⟨_, rfl⟩
    rw [hV] at he HC ⊢
    clear hV HK hbad
    go_enter Tryd.func28, Tryd.ntmps28
    go_wp2_with (go_at_call 37; refine HC.out.mono ?_; rintro e w1 ⟨rfl, hb1⟩; have hbw := Hbox.out.trans (hb1.mono Hbox.out.size))
    go_ret2
    exact ⟨rfl, hbw⟩
  iterate 6
    · rw [he] at HC
      clear he hbad
      go_enter Tryd.func28, Tryd.ntmps28
      go_wp2_with (go_at_call 37; refine HC.out.mono ?_; rintro e w1 ⟨rfl, hb1⟩; obtain ⟨⟨x0, x1, x2, x3, x4, x5⟩, y0, y1, y2, y3, y4, y5, y6, y7⟩ := HK.out w1 hb1; have hbw := Hbox.out.trans (hb1.mono Hbox.out.size))
      go_ret2
      exact ⟨rfl, hbw⟩
  · exact absurd rfl hbad

set_option maxRecDepth 100000 in
set_option maxHeartbeats 3000000 in
theorem block45_ok (w : World) (A : Option Addr) (c : Nat) (v : Vw) (r : Rg) (h : Rows2 w w.heap.size A v.rows) (ht : v.Tame) (hgood : blockE v r.top r.left r.bottom r.right = 0) :
    Calls Tryd.prog 28 #[v.val A c, r.val] w fun e w' => e = .returned (.tuple #[.string (blockT v r.top r.left r.bottom r.right), .int .i64 0]) ∧ Below w.heap.size w w' := by
  obtain ⟨W0, hW0, hbox, hs0, hvb, hrb⟩ := boxes2 w v A c r
  have HC := hide (check15 W0 A c v ((h.below hbox).more hbox.size) ht)
  have HK := hide (fun w1 (hb1 : Below W0.heap.size W0 w1) => And.intro (hvb.below hb1 (by omega)).cells (hrb.below hb1 (by omega)).cells)
  have HR := hide (fun w1 (hb1 : Below W0.heap.size W0 w1) => (h.below (hbox.trans (hb1.mono hbox.size))).more (hbox.trans (hb1.mono hbox.size)).size)
  have HTm := hide (fun y (hy : y < v.rows.length) => rowOf_tame ht hy)
  have HSz := hide (fun (left right y : Nat) (hy : y < v.rows.length) => cutB_size left right (rowOf_tame ht hy).1 (rowOf_tame ht hy).2)
  have Hok := hide (fun (h0 : v.err = 0) => (Vw.proper (show v.ok = true by unfold Vw.ok; rw [h0]; rfl)))
  obtain ⟨he, h1, h2, h3, h4, h5, h6⟩ := blockE_ok hgood
  obtain ⟨⟨k0, k1, k2, k3, k4, k5⟩, p0, p1, p2, p3, p4, p5, p6, p7⟩ := HK.out W0 (Below.refl _ _)
  have Hbox := hide hbox
  have h12 := ht.1
  clear h ht hbox hs0 hvb hrb
  subst hW0
  obtain ⟨rk, ri, rp, rt, rl, rb, rr, rs⟩ := r
  unfold Vw.val at HC ⊢
  unfold Rg.val
  dsimp only at h1 h2 h3 h4 h5 h6 p0 p1 p2 p3 p4 p5 p6 p7 HK hgood ⊢
  obtain ⟨T, hTT⟩ : ∃ T, blockT v rt rl rb rr = T := ⟨_, rfl⟩
  have Hdef := hide (show T = joinN (linesFrom (fun y => cutB rl.toNat rr.toNat (rowOf v y)) rt.toNat (rb - rt).toNat) by rw [← hTT]; unfold blockT; rw [if_pos hgood])
  rw [hTT]
  clear hTT hgood
  have Hpr := hide (Hok.out he)
  rw [he] at HC
  clear he Hok
  have hh2 := Hpr.out.h2
  have hw2 := Hpr.out.w2
  have hlen := Hpr.out.len
  obtain ⟨a, rfl⟩ : ∃ a' : Nat, rt = a' := ⟨rt.toNat, by omega⟩
  obtain ⟨left, rfl⟩ : ∃ a' : Nat, rl = a' := ⟨rl.toNat, by omega⟩
  obtain ⟨right, rfl⟩ : ∃ a' : Nat, rr = a' := ⟨rr.toNat, by omega⟩
  have hdef := Hdef.out
  rw [Int.toNat_natCast, Int.toNat_natCast, Int.toNat_natCast] at hdef
  obtain ⟨n, hn⟩ : ∃ n, (rb - (a : Int)).toNat = n := ⟨_, rfl⟩
  rw [hn] at hdef
  have Hqn := hide (show rb = (a : Int) + (n : Int) by omega)
  have hn0 : 0 < n := by omega
  have hanl : a + n ≤ v.rows.length := by omega
  have hlr : left < right := by omega
  have hr132 : right ≤ 132 := by omega
  have hrb60 : rb ≤ 60 := by omega
  have Hfin := hide hdef
  have HOz := hide (fun k (hk : k < n) => outT_size (fun y => cutB left right (rowOf v y)) 1000000 n a k hk fun j hj => HSz.out left right (a + j) (by omega))
  have HO0 := hide (outT_zero (fun y => cutB left right (rowOf v y)) a n hn0)
  obtain ⟨F, hF⟩ : ∃ F : Nat → ByteArray, (fun y => cutB left right (rowOf v y)) = F := ⟨_, rfl⟩
  have HF := hide (fun y => show F y = cutB left right (rowOf v y) by rw [← hF])
  rw [hF] at Hfin HOz HO0
  clear hdef hn Hdef Hpr hlen hF
  have t1 : decide ((a : Int) < 0) = false := decide_eq_false (by omega)
  have t2 : decide (rb ≤ (a : Int)) = false := decide_eq_false (by omega)
  have t3 : decide (v.height < rb) = false := decide_eq_false (by omega)
  have t4 : decide ((left : Int) < 0) = false := decide_eq_false (by omega)
  have t5 : decide ((right : Int) ≤ (left : Int)) = false := decide_eq_false (by omega)
  have t7 : decide (right ≤ left) = false := decide_eq_false (by omega)
  have t6 : decide (v.width < (right : Int)) = false := decide_eq_false (by omega)
  go_enter Tryd.func28, Tryd.ntmps28
  go_wp2_with (go_at_call 37; refine HC.out.mono ?_; rintro e w1 ⟨rfl, hb1⟩; obtain ⟨⟨x0, x1, x2, x3, x4, x5⟩, y0, y1, y2, y3, y4, y5, y6, y7⟩ := HK.out w1 hb1)
  have HB1 := hide hb1
  clear hb1 x0 x1 x2 x3 x4 x5 y0 y1 y2 y3 y4 y5 y6 y7 k0 k1 k2 k3 k4 k5 p0 p1 p2 p3 p4 p5 p6 p7 HC
  go_loopw [7, 8] (fun o i wr => ∃ k y : Nat, k ≤ n ∧ y = a + k ∧ i = .int .i64 y ∧ o = .string (outT F a n k) ∧ Below w1.heap.size w1 wr) (fun _ i _ => (rb - intOf i).toNat)
  case atStart => exact ⟨0, a, Nat.zero_le _, rfl, rfl, by rw [HO0.out], Below.refl _ _⟩
  case round =>
    rename World => wo
    obtain ⟨k, y, hk, hyk, rfl, rfl, hbo⟩ := hrel
    have hbW := HB1.out.trans (hbo.mono HB1.out.size)
    have hqy := Hqn.out
    obtain ⟨⟨x0, x1, x2, x3, x4, x5⟩, y0, y1, y2, y3, y4, y5, y6, y7⟩ := HK.out wo hbW
    by_cases hlt : k < n
    · have hlt2 : (y : Int) < rb := by omega
      have hy : y < v.rows.length := by omega
      have hyI : (y : Int) < (v.rows.length : Int) := by omega
      have hy12 : y < 12 := by omega
      obtain ⟨bR, oR, he, hbR, A1, c1, d0, d1, d2⟩ := (HR.out wo hbW).get1 hy
      obtain ⟨hl1, hl2⟩ := HTm.out y hy
      rw [rowOf_get hy] at d0 d1 d2
      subst he
      have Hline := hide (HF.out y)
      obtain ⟨row, hrow⟩ : ∃ row, rowOf v y = row := ⟨_, rfl⟩
      rw [hrow] at d0 d1 d2 hl1 hl2 Hline
      clear hrow
      have hoz := HOz.out k hlt
      have hoz2 : (outT F a n k).size ≤ 100000000 := by
        have : n * (1000000 + 1) ≤ 12 * (1000000 + 1) := Nat.mul_le_mul_right _ (by omega)
        omega
      have Hmid := hide (show k + 1 < n → outT F a n (k + 1) = outT F a n k ++ F y ++ ⟨#[10]⟩ from fun h => by rw [hyk]; exact outT_mid _ _ _ _ h)
      have Hlast := hide (show k + 1 = n → outT F a n (k + 1) = outT F a n k ++ F y from fun h => by rw [hyk]; exact outT_last _ _ _ _ h)
      have HFz := HSz.out left right y hy
      rw [← HF.out y] at HFz
      obtain ⟨S, hS⟩ : ∃ S, outT F a n k = S := ⟨_, rfl⟩
      rw [hS] at Hmid Hlast hoz2 ⊢
      have Hgl2 := hide hl2
      have Hd2 := hide d2
      have Hhead := hide (fun W2 (hb : Below wo.heap.size wo W2) => (hb.cell (p := ⟨bR, oR + y, none⟩) hbR).trans d0)
      have HCm := hide (cols_map left row)
      have HCw := hide (fun j => widthOf_take_le row j)
      have HCs := hide (fun j (hj : j < row.length) => widthOf_snoc row j hj)
      have HCz := hide (lineTo_size (colsF left 0 row) left 40 (by omega) (colsF_size left 40 (by omega) row 0 (fun g hg => hl2 g hg)))
      have HCe := hide (fun c' hc' => colsF_size left 40 (by omega) row 0 (fun g hg => hl2 g hg) c' hc')
      have HCl := hide (colsF_len left row 0)
      have HCt := hide (show row.take row.length = row from List.take_length)
      have HLn := hide (fun x (hx : left ≤ x) => lineTo_next (colsF left 0 row) left x hx)
      have HLc := hide (cutB_line row left right hlr)
      rw [← Hline.out] at HLc
      obtain ⟨rl, hrl⟩ : ∃ rl, row.length = rl := ⟨_, rfl⟩
      have Hrl := hide hrl
      rw [hrl] at d0 Hhead hl1 HCw HCt
      have Hyk := hide hyk
      clear hrl hyk hS hl2 d1 d2 hoz hy hqy HF Hline
      go_wp2
      go_loopw [9, 10] (fun cs i wi => ∃ j m : Nat, j ≤ rl ∧ i = .int .i64 j ∧ Hid (m = widthOf (row.take j)) ∧ wi.ownsRow wo.heap.size 9 1 cs m ((colsF left 0 (row.take j)).map Value.string) ∧ Below wo.heap.size wo wi) (fun _ i _ => rl - (intOf i).toNat)
      case atStart => exact ⟨0, 0, Nat.zero_le _, rfl, hide rfl, own_lit wo wo.heap.size 9 1 0 #[] (Nat.le_refl _) (by omega) rfl, (Below.refl _ _).alloc (Nat.le_refl _) _⟩
      case round =>
        rename World => wi
        obtain ⟨j, m, hj, rfl, Hm, hown, hbi⟩ := hrel
        have hm := Hm.out
        have hsi := hbi.size
        have hbWi := hbW.trans (hbi.mono hbW.size)
        obtain ⟨⟨l0, l1, l2, l3, l4, l5⟩, m0, m1, m2, m3, m4, m5, m6, m7⟩ := HK.out wi hbWi
        have hhi := Hhead.out wi hbi
        have hm280 : m ≤ 280 := by have := HCw.out j; omega
        by_cases hjl : j < rl
        · have hjr : j < row.length := by rw [Hrl.out]; exact hjl
          have hjI : (j : Int) < (rl : Int) := by omega
          obtain ⟨bk, off, he, hbb, hgl⟩ := Hd2.out.get hjr
          subst he
          have Hnx := HCm.out j hjr
          have Hws := HCs.out j hjr
          have hgt := Hgl2.out _ (List.getElem_mem hjr)
          obtain ⟨⟨gt, gw, gs⟩, hx⟩ : ∃ x, row[j] = x := ⟨_, rfl⟩
          rw [hx] at hgl Hnx Hws hgt
          dsimp only at Hnx hgt
          have Hgl := hide (fun W2 (hb : Below wo.heap.size wo W2) => And.intro ((hb.cell (p := ⟨bk, off + j * 3, none⟩) hbb).trans hgl.1) ((hb.cell (p := ⟨bk, off + j * 3 + 1, none⟩) hbb).trans hgl.2.1))
          obtain ⟨c0, c1'⟩ := Hgl.out wi hbi
          rw [← hm] at Hnx Hws
          obtain ⟨CS, hCS⟩ : ∃ CS, (colsF left 0 (row.take j)).map Value.string = CS := ⟨_, rfl⟩
          rw [hCS] at hown Hnx
          have Hown := hide hown
          obtain ⟨A0, cc0, rfl⟩ := own_form hown
          clear hx hCS hm hgl hown
          dsimp only at c0 c1'
          cases gw with
          | false =>
            have HN := hide Hnx
            have HW := hide Hws
            clear Hnx Hws
            go_wp2_with (first
              | (at_builtin; refine wpList_app _ (.tmp 74) (.tmp 84) 77 rfl rfl el_string wo.heap.size _ m _ rfl Hown.out hsi _ 1 1 _ _ rfl (by first | rfl | simp) rfl (by simp [Value.oneCell']) (by omega) ?_; intro v6 w6 hown6 hg6; have hb6 := below_own hbi Hown.out hg6 (Nat.le_refl _) hsi; have hs6 := hb6.size; obtain ⟨A6, c6, rfl⟩ := own_form hown6; have hbW6 := hbW.trans (hb6.mono hbW.size); obtain ⟨⟨n0, n1, n2, n3, n4, n5⟩, q0, q1, q2, q3, q4, q5, q6, q7⟩ := HK.out w6 hbW6; have hh6 := Hhead.out w6 hb6; obtain ⟨e0, e1⟩ := Hgl.out w6 hb6)
              | fail)
            go_roundw
            case rel => exact ⟨j + 1, m + 1, by omega, by go_num, hide (by rw [HW.out]; rfl), own_eq hown6 rfl (by rw [HN.out]; simp), hb6⟩
            case measure => simp [intOf]; omega
          | true =>
            rcases (show (((m + 1 : Nat) : Int) == (left : Int)) = true ∧ ((m : Int) + 1 == (left : Int)) = true ∧ m + 1 = left ∨ (((m + 1 : Nat) : Int) == (left : Int)) = false ∧ ((m : Int) + 1 == (left : Int)) = false ∧ ¬ m + 1 = left by
              by_cases hq : m + 1 = left
              · exact .inl ⟨by simp; omega, by simp; omega, hq⟩
              · exact .inr ⟨by simp; omega, by simp; omega, hq⟩) with ⟨hq1, hq2, hq⟩ | ⟨hq1, hq2, hq⟩
            all_goals
              have HN := hide Hnx
              have HW := hide Hws
              have HQ := hide hq
              clear Hnx Hws hq
              go_wp2_with (first
                | (at_builtin; refine wpList_app _ (.tmp 100) (.tmp 102) 77 rfl rfl el_string wo.heap.size _ (m + 1) _ rfl hown6 hs6 _ 1 1 _ _ rfl (by first | rfl | simp) rfl (by simp [Value.oneCell']) (by omega) ?_; intro v7 w7 hown7 hg7; have hb7 := below_own hb6 hown6 hg7 (Nat.le_refl _) hs6)
                | (at_builtin; refine wpList_app _ (.tmp 74) (.tmp 84) 77 rfl rfl el_string wo.heap.size _ m _ rfl Hown.out hsi _ 1 1 _ _ rfl (by first | rfl | simp) rfl (by simp [Value.oneCell']) (by omega) ?_; intro v6 w6 hown6 hg6; have hb6 := below_own hbi Hown.out hg6 (Nat.le_refl _) hsi; have hs6 := hb6.size; obtain ⟨A6, c6, rfl⟩ := own_form hown6; have hbW6 := hbW.trans (hb6.mono hbW.size); obtain ⟨⟨n0, n1, n2, n3, n4, n5⟩, q0, q1, q2, q3, q4, q5, q6, q7⟩ := HK.out w6 hbW6; have hh6 := Hhead.out w6 hb6; obtain ⟨e0, e1⟩ := Hgl.out w6 hb6)
                | fail)
              go_roundw
              case rel => exact ⟨j + 1, m + 1 + 1, by omega, by go_num, hide (by rw [HW.out]; rfl), own_eq hown7 rfl (by rw [HN.out]; simp [HQ.out]), hb7⟩
              case measure => simp [intOf]; omega
        · obtain rfl : j = rl := by omega
          rw [HCt.out] at hown hm
          have hlenC := HCl.out
          rw [← hm] at hlenC
          clear hm Hm HCm HCs HCw HCl
          obtain ⟨C, hC⟩ : ∃ C, colsF left 0 row = C := ⟨_, rfl⟩
          rw [hC] at hown HCz HLn HLc hlenC HCe
          clear hC
          have Hown := hide hown
          have HlenC := hide hlenC
          obtain ⟨A0, cc0, rfl⟩ := own_form hown
          have hlr0 : (left : Int) < (right : Int) := by omega
          clear hown hlenC
          go_wp2
          go_loop [12, 13] (fun l x => ∃ u : Nat, left ≤ u ∧ u ≤ right ∧ x = .int .i64 u ∧ l = .string (lineTo C left (u - left))) (fun _ x => right - (intOf x).toNat)
          case atStart => exact ⟨left, Nat.le_refl _, by omega, rfl, by rw [Nat.sub_self]; rfl⟩
          case round =>
            obtain ⟨u, hu1, hu2, rfl, rfl⟩ := hrel
            have hsz := HCz.out (u - left)
            have hsz2 : (lineTo C left (u - left)).size ≤ 10000 := by omega
            by_cases hur : u < right
            · have hurI : (u : Int) < (right : Int) := by omega
              have HL := hide (HLn.out u hu1)
              obtain ⟨L, hL⟩ : ∃ L, lineTo C left (u - left) = L := ⟨_, rfl⟩
              rw [hL] at HL hsz2 ⊢
              clear hL hsz
              by_cases hum : u < m
              · have humI : (u : Int) < (m : Int) := by omega
                have huC : u < C.length := by rw [HlenC.out]; exact hum
                obtain ⟨g0, cc1, he0, -, -⟩ := own_form1 Hown.out (by omega)
                cases he0
                have s0 := (Hown.out.cellAt u (by omega)).trans (show (C.map Value.string)[u]? = some (.string C[u]) by rw [List.getElem?_map, List.getElem?_eq_getElem huC]; rfl)
                have HLx := hide (HL.out.trans (by rw [List.getElem?_eq_getElem huC]))
                have hcz : C[u].size ≤ 1000000 := Nat.le_trans (HCe.out _ (List.getElem_mem huC)) (by omega)
                obtain ⟨X, hX⟩ : ∃ X, C[u] = X := ⟨_, rfl⟩
                rw [hX] at s0 HLx hcz
                clear hX
                have hcat : L.size + X.size ≤ 9223372036854775807 := by omega
                go_wp2
                go_round
                case rel => exact ⟨u + 1, by omega, by omega, by go_num, by rw [HLx.out]⟩
                case measure => simp [intOf]; omega
              · have humI : ¬ (u : Int) < (m : Int) := by omega
                have HLx := hide (HL.out.trans (by rw [List.getElem?_eq_none_iff.2 (by rw [HlenC.out]; omega)]))
                have hsp : (⟨#[32]⟩ : ByteArray).size = 1 := rfl
                have hcat : L.size + (⟨#[32]⟩ : ByteArray).size ≤ 9223372036854775807 := by rw [hsp]; omega
                have hcat1 : L.size + 1 ≤ 9223372036854775807 := by omega
                clear hsp
                go_wp2
                go_round
                case rel => exact ⟨u + 1, by omega, by omega, by go_num, by rw [HLx.out]⟩
                case measure => simp [intOf]; omega
            · obtain rfl : u = right := by omega
              obtain ⟨L, hL⟩ : ∃ L, lineTo C left (u - left) = L := ⟨_, rfl⟩
              rw [hL] at HLc hsz2 ⊢
              have HBr := hide (fun W => bareP W L (by omega))
              rw [HLc.out] at HBr
              obtain ⟨X, hX⟩ : ∃ X, F y = X := ⟨_, rfl⟩
              rw [hX] at HBr Hmid Hlast HFz
              clear hL hX hsz
              have hnls : (⟨#[10]⟩ : ByteArray).size = 1 := rfl
              have hcat : S.size + X.size ≤ 9223372036854775807 := by omega
              have hcat2 : (S ++ X).size + (⟨#[10]⟩ : ByteArray).size ≤ 9223372036854775807 := by rw [ByteArray.size_append, hnls]; omega
              have hcat3 : (S ++ X).size + 1 ≤ 9223372036854775807 := by rw [ByteArray.size_append]; omega
              clear hnls
              have hyk := Hyk.out
              have hqn := Hqn.out
              rcases (show (k + 1 < n ∧ (y : Int) < rb - 1) ∨ (k + 1 = n ∧ ¬ (y : Int) < rb - 1) by omega) with ⟨hkn, hyb⟩ | ⟨hkn, hyb⟩
              all_goals
                have HE := hide hkn
                clear hkn hyk hqn
                go_wp2_with (go_at_call 63; refine (HBr.out _).mono ?_; rintro e w8 ⟨rfl, rfl⟩)
                go_roundw
                case rel => exact ⟨k + 1, y + 1, by omega, by rw [Hyk.out]; rfl, by go_num, by first | rw [Hmid.out HE.out] | rw [Hlast.out HE.out], hbo.trans (hbi.mono hbo.size)⟩
                case measure => simp [intOf]; omega
    · obtain rfl : k = n := by omega
      have hge : ¬ (y : Int) < rb := by omega
      have HD := hide (show outT F a k k = joinN (linesFrom F a k) by unfold outT; rw [if_neg (by omega)])
      rw [HD.out, ← Hfin.out]
      clear hlt hqy hyk
      go_wp2
      go_ret2
      exact ⟨rfl, Hbox.out.trans (hbW.mono Hbox.out.size)⟩

theorem block45P (w : World) (A : Option Addr) (c : Nat) (v : Vw) (r : Rg) (h : Rows2 w w.heap.size A v.rows) (ht : v.Tame) :
    Calls Tryd.prog 28 #[v.val A c, r.val] w fun e w' => e = .returned (.tuple #[.string (blockT v r.top r.left r.bottom r.right), .int .i64 (blockE v r.top r.left r.bottom r.right)]) ∧ Below w.heap.size w w' := by
  by_cases hb : blockE v r.top r.left r.bottom r.right = 0
  · have := block45_ok w A c v r h ht hb
    rw [hb]
    exact this
  · exact block45_bad w A c v r h ht hb
end Go.Proofs.YtmloijhdibicdaaDoor
