/- Joined: L9. -/
import Derived.Test.YtmgepckhdgoemaaDoorL6
import Derived.Test.YtmgepckhdgoemaaDoorR0
import Derived.Deep.RegionHeld3
/- The walk of the law TablesComplete. -/
namespace Go.Proofs.YtmgepckhdgoemaaDoor
open Go.RowKit

theorem cellT_at {v : Vw} {r : Rg} {T B W i y : Nat} {p : Nat × Nat} (hv : valid24 v r.top r.bottom = true) (e1 : v.width = W) (e4 : r.top = T) (e5 : r.bottom = B) (hy : T ≤ y) (hyB : y < B) (hp : (partsTo (gut v.rows T B) W)[i]? = some p) :
    cellT v r ((y : Int) - (T : Int)) i = (cellOf (v.rows[y]?.getD []) p.1 p.2, 0) := by
  unfold valid24 at hv
  simp only [Bool.and_eq_true] at hv
  unfold cellT partsT
  rw [if_neg (by rw [hv.1]; simp), if_neg (by rw [hv.2]; simp), if_neg (by omega), if_neg (by omega), if_neg (by omega), e1, e4, e5, show ((T : Int) + ((y : Int) - (T : Int))) = (y : Int) by omega]
  simp only [Int.toNat_natCast]
  rw [hp]
theorem cell_size (l : List Gl) (h1 : ∀ g ∈ l, glW g = 1) (hb : ∀ g ∈ l, g.text.data.toList.length = 1) (a b : Nat) : (cellOf l a b).size ≤ l.length := by
  have hne : ∀ g ∈ l, g.text.toList ≠ [] := fun g hg h => by
    have := hb g hg
    rw [ByteArray.toList_eq] at h
    rw [h] at this; cases this
  rw [cellOf_trim _ _ _ hne, pick_cut l h1]
  have hs : (trimB (trimF ((l.take b).drop a))).Sublist l := by
    have e1 : (trimB (trimF ((l.take b).drop a))).Sublist (trimF ((l.take b).drop a)) := by
      unfold trimB
      have := (List.dropWhile_sublist (l := (trimF ((l.take b).drop a)).reverse) spaceB).reverse
      rwa [List.reverse_reverse] at this
    exact e1.trans ((List.dropWhile_sublist _).trans ((List.drop_sublist _ _).trans (List.take_sublist _ _)))
  have hz : (textB (trimB (trimF ((l.take b).drop a)))).size = (textB (trimB (trimF ((l.take b).drop a)))).data.toList.length := rfl
  rw [hz, text_bytes _ fun g hg => hb g (hs.subset hg), List.length_map]
  exact hs.length_le

set_option maxRecDepth 100000 in
set_option maxHeartbeats 8000000 in
theorem completeLawP (w : World) (A : Option Addr) (c : Nat) (v : Vw) (h : Rows2 w w.heap.size A v.rows) (hT : Tabs w) (hc : v.rows.length ≤ c) (hMx : Mx w) :
    Calls Tryd.prog 3 #[v.val A c] w fun e w' => e = .returned (.bool true) ∧ Below w.heap.size w w' := by
  have hbox := (Below.refl w.heap.size w).alloc (Nat.le_refl _) (.cells #[.int .i64 v.width, .int .i64 v.height, .slice A v.rows.length c, .int .i64 v.row, .int .i64 v.col, .bool v.visible] 24)
  have hvb : VwBox _ w.heap.size v A c := block_new w (.cells #[.int .i64 v.width, .int .i64 v.height, .slice A v.rows.length c, .int .i64 v.row, .int .i64 v.col, .bool v.visible] 24)
  have HS := hide (smallP _ A c v ((h.below hbox).more hbox.size))
  have HA := hide (fun w1 (hb1 : Below w.heap.size w w1) => awakeP w1 (hT.below hb1))
  cases hsm : smallB v with
  | false =>
    rw [hsm] at HS
    clear h hT hvb hsm hMx
    unfold Vw.val at HS ⊢
    go_enter Tryd.func3, Tryd.ntmps3
    go_wp2_with (first
      | (go_at_call 5; refine HS.out.mono ?_; rintro e w1 ⟨rfl, hb1⟩; have hbw := hbox.trans (hb1.mono (by simp)))
      | (go_at_call 6; refine (HA.out _ hbw).mono ?_; rintro e w2 ⟨rfl, hb2⟩)
      | fail)
    go_ret
    exact ⟨rfl, hbw.trans (hb2.mono hbw.size)⟩
  | true =>
    have hgo : v.great = false ∧ v.ok = true := by unfold smallB at hsm; simpa using hsm
    obtain ⟨hg, hok⟩ := hgo
    have htame := Vw.tame hg
    have hpr := Vw.proper hok
    have hni := Vw.nice htame hok
    rw [hsm] at HS
    obtain ⟨W, hW⟩ : ∃ W : Nat, v.width = W := ⟨_, hni.width⟩
    have hWn : v.width.toNat = W := by rw [hW]; rfl
    have hwide := hni.wide
    rw [hWn] at hwide
    have hW1 : 1 ≤ W ∧ W ≤ 200 := by have := hni.w1; have := hni.w2; omega
    obtain ⟨n, hn⟩ : ∃ n, v.rows.length = n := ⟨_, rfl⟩
    have hht : v.height = n := by rw [← hn]; exact hni.height
    have hn12 : n ≤ 12 := by have := htame.1; omega
    have hn1 : 1 ≤ n := by have := hpr.h1; omega
    have HF := hide (fun (w1 : World) (hb1 : Below w.heap.size w w1) => findP w1 A c v ((h.below hb1).more hb1.size) htame (hT.below hb1) hc)
    have HC := hide (fun (w1 : World) (hb1 : Below w.heap.size w w1) (t b : Nat) (h1 : t < b) (h2 : b ≤ n) (r : Rg) (ht : r.top = t) (hb : r.bottom = b) => (colsP w1 A c v r ((h.below hb1).more hb1.size) htame (hT.below hb1) hc).mono fun e w' h => (show ∃ vv, e = .returned vv ∧ w'.ownsRow w1.heap.size 33 8 vv (colsR v.rows W t b).length ((colsR v.rows W t b).flatMap Rg.enc) ∧ Below w1.heap.size w1 w' by
      rw [colsT_yes hok hW h1 (by omega) ht hb] at h; exact h))
    have HCe := hide (fun (w1 : World) (hb1 : Below w.heap.size w w1) (t b : Nat) (h1 : t < b) (h2 : b ≤ n) (r : Rg) (ht : r.top = t) (hb : r.bottom = b) (y i : Nat) (hy : t ≤ y) (hyb : y < b) (p : Nat × Nat) (hp : (partsTo (gut v.rows t b) W)[i]? = some p) => (cellTP w1 A c v r ((y : Int) - (t : Int)) (i : Int) ((h.below hb1).more hb1.size) htame (hT.below hb1) hc).mono fun e w' h => (show e = .returned (.tuple #[.string (cellOf (v.rows[y]?.getD []) p.1 p.2), .int .i64 0]) ∧ Below w1.heap.size w1 w' by
      rw [cellT_at (by rw [ht, hb]; exact valid24_of hok h1 (by omega)) hW ht hb hy hyb hp] at h; exact h))
    have HTabs := hide (findT_tabs hok W hW)
    have HR := hide (fun (w1 : World) (hb1 : Below w.heap.size w w1) => (h.below hb1).more hb1.size)
    have HMx := hide (fun (w1 : World) (hb1 : Below w.heap.size w w1) => hMx.below hb1)
    have Htame := hide htame.2
    have Hone := hide (fun (l : List Gl) (hl : l ∈ v.rows) (g : Gl) (hg : g ∈ l) (h1 : g.text.data.toList.length = 1) => show glW g = 1 by
      refine one_narrow ?_ h1
      have hr := hpr.rows l hl
      unfold rowErr at hr
      by_cases h2 : firstErr glErr l = 0
      · exact firstErr_zero h2 g hg
      · rw [if_pos h2] at hr; exact absurd hr h2)
    have Hwide := hide hwide
    obtain ⟨ba, off, rfl, -, -⟩ := h.get1 (show 0 < v.rows.length by omega)
    obtain ⟨fs, hfs⟩ : ∃ fs, findT v = fs := ⟨_, rfl⟩
    rw [hfs] at HTabs
    simp only [hfs] at HF
    obtain ⟨N, hN⟩ : ∃ N, fs.length = N := ⟨_, rfl⟩
    simp only [hN] at HF
    have HN := hide hN
    clear hN
    clear h hT hsm hok hg htame hni hfs hpr hwide hMx hWn
    have Hvb := hide hvb
    clear hvb
    unfold VwBox at Hvb
    obtain ⟨width, height, rows, row, col, vis⟩ := v
    dsimp only at hW hht hn hc HS HF HC HCe Hvb hbox HTabs HR Htame Hone Hwide
    subst hW hht
    unfold Vw.val at HS HF HC HCe ⊢
    dsimp only at HS HF HC HCe ⊢
    rw [hn] at HS HF HC HCe hbox Hvb hc ⊢
    unfold Rg.val at HC HCe
    have Hn := hide hn
    clear hn
    have HRow := hide (fun (w1 : World) (hb1 : Below w.heap.size w w1) (y : Nat) (hy : y < n) => show ∃ (hyl : y < rows.length) (A1 : Option Addr) (c1 : Nat), w1.cell? ⟨ba, off + y, none⟩ = some (.slice A1 (rows[y]).length c1) ∧ ba < w1.heap.size ∧ GlRow w1 w1.heap.size A1 (rows[y]) by
      have hyl : y < rows.length := by rw [Hn.out]; exact hy
      obtain ⟨b2, o2, hA2, hb2, A1, c1, d0, d1, d2⟩ := (HR.out w1 hb1).get1 hyl
      cases hA2
      exact ⟨hyl, A1, c1, d0, hb2, d2⟩)
    clear HR
    go_enter Tryd.func3, Tryd.ntmps3
    go_upto_region 3 with (first
      | (go_at_call 5; refine HS.out.mono ?_; rintro e w1 ⟨rfl, hb1⟩; have Hbw1 := hide (hbox.trans (hb1.mono (by simp))); have Hvb1 := hide (block_below Hvb.out hb1 (by simp)); have Hs1 := hide (show w.heap.size < w1.heap.size by have := hb1.size; simp at this; omega); clear hb1)
      | fail)
    clear hbox HS Hvb
    obtain ⟨k0, k1, k2, k3, k4, k5⟩ := vb_cells Hvb1.out
    have hrf := hide (Below.refl w1.heap.size w1)
    go_wp2
    go_loopw [22] (fun i wr => ∃ k : Nat, k ≤ n ∧ i = .int .i64 (k : Int) ∧ (∀ j l, j < k → rows[j]? = some l → ∀ g ∈ l, g.text.data.toList.length = 1) ∧ Below w1.heap.size w1 wr) (fun i _ => n - (intOf i).toNat)
    case atStart => exact ⟨0, Nat.zero_le _, rfl, fun j l hj => absurd hj (Nat.not_lt_zero _), hrf.out⟩
    case round =>
      clear hrf k0 k1 k2 k3 k4 k5
      obtain ⟨k, hk, rfl, hgood, hbo⟩ := hrel
      rename World => wo
      have hso := hbo.size
      have Hgood := hide hgood
      have Hbo := hide hbo
      have Hbwo := hide (Hbw1.out.trans (hbo.mono (Nat.le_of_lt Hs1.out)))
      clear hgood hbo
      by_cases hlt : k < n
      · have hltI : (k : Int) < (n : Int) := by omega
        obtain ⟨hkl, A1, c1, d0, -, d2⟩ := HRow.out wo Hbwo.out k hlt
        have hrk : rows[k]? = some rows[k] := List.getElem?_eq_getElem hkl
        obtain ⟨l, hl⟩ : ∃ l, rows[k] = l := ⟨_, rfl⟩
        rw [hl] at d0 d2 hrk
        have Hrk := hide hrk
        obtain ⟨m, hm⟩ : ∃ m, l.length = m := ⟨_, rfl⟩
        have hm140 : m ≤ 140 := by rw [← hm, ← hl]; exact (Htame.out _ (List.getElem_mem hkl)).1
        rw [hm] at d0
        have Hm := hide hm
        have Hgl := hide d2
        clear hl hrk hm d2
        go_wp2
        have hrf := hide (Below.refl wo.heap.size wo)
        go_loopw [28] (fun i wr => ∃ q : Nat, q ≤ m ∧ i = .int .i64 (q : Int) ∧ (∀ j g, j < q → l[j]? = some g → g.text.data.toList.length = 1) ∧ Below wo.heap.size wo wr) (fun i _ => m - (intOf i).toNat)
        case atStart => exact ⟨0, Nat.zero_le _, rfl, fun j l hj => absurd hj (Nat.not_lt_zero _), hrf.out⟩
        case round =>
          clear hrf d0
          obtain ⟨q, hq, rfl, hgd, hbi⟩ := hrel
          rename World => wi
          have hsi := hbi.size
          by_cases hlq : q < m
          · have hlqI : (q : Int) < (m : Int) := by omega
            have hql : q < l.length := by rw [Hm.out]; exact hlq
            obtain ⟨b2, o2, hA1, hb2, g0, g1, g2⟩ := (Hgl.out.below (GlAt.stays _) hbi).get hql
            have hgq : l[q]? = some l[q] := List.getElem?_eq_getElem hql
            obtain ⟨⟨tx, wd, st⟩, hg⟩ : ∃ g, l[q] = g := ⟨_, rfl⟩
            rw [hg] at g0 g1 g2 hgq
            dsimp only at g0 g1 g2
            have Hgd := hide hgd
            have Hgq := hide hgq
            have hba := hbi.alloc hsi (.cells #[.string tx, .bool wd, .int .i64 st] 29)
            have Hba := hide hba
            subst hA1
            clear hgd hgq hg hbi
            by_cases h1 : tx.size = 1
            · have q1 : ((tx.size : Int) != 1) = false := by rw [h1]; rfl
              have Hh1 := hide h1
              clear h1
              go_wp2
              go_roundw
              case rel =>
                refine ⟨q + 1, by omega, by go_num, ?_, Hba.out⟩
                intro j g hj hgj
                by_cases hjq : j < q
                · exact Hgd.out j g hjq hgj
                · obtain rfl : j = q := by omega
                  rw [Hgq.out] at hgj
                  cases hgj
                  exact Hh1.out
              case measure => simp [intOf]; omega
            · have q1 : ((tx.size : Int) != 1) = true := by rw [bne_iff_ne]; omega
              have hbz := Hbwo.out.trans (Hba.out.mono (by have := Hbwo.out.size; omega))
              have Hbz := hide hbz
              clear h1 hbz
              go_wp2_with (first
                | (go_at_call 6; refine (HA.out _ Hbz.out).mono ?_; rintro e w5 ⟨rfl, hb5⟩; have Hb5 := hide hb5; clear hb5)
                | fail)
              go_ret
              exact ⟨rfl, Hbz.out.trans (Hb5.out.mono Hbz.out.size)⟩
          · obtain rfl : q = m := by omega
            have Hgd := hide hgd
            have Hbi := hide hbi
            clear hgd hbi
            go_wp2
            go_roundw
            case rel =>
              refine ⟨k + 1, by omega, by go_num, ?_, Hbo.out.trans (Hbi.out.mono hso)⟩
              intro j l' hj hlj
              by_cases hjk : j < k
              · exact Hgood.out j l' hjk hlj
              · obtain rfl : j = k := by omega
                rw [Hrk.out] at hlj
                cases hlj
                intro g hg
                obtain ⟨x, hx, rfl⟩ := List.getElem_of_mem hg
                exact Hgd.out x _ (by rw [← Hm.out]; exact hx) (List.getElem?_eq_getElem hx)
            case measure => simp [intOf]; omega
      · obtain rfl : n = k := by omega
        have Hall := hide (fun (l : List Gl) (hl : l ∈ rows) (g : Gl) (hg : g ∈ l) => show g.text.data.toList.length = 1 by
          obtain ⟨j, hj, rfl⟩ := List.getElem_of_mem hl
          exact Hgood.out j _ (by rw [← Hn.out]; exact hj) (List.getElem?_eq_getElem hj) g hg)
        obtain ⟨k0, k1, k2, k3, k4, k5⟩ := vb_cells (block_below Hvb1.out Hbo.out Hs1.out)
        clear Hgood
        go_wp2_with (first
          | (go_at_call 7; refine (HF.out _ Hbwo.out).mono ?_; rintro e w2 ⟨vv, rfl, hown, hb2⟩; obtain ⟨Ao, co, rfl⟩ := own_form hown; have Hown := hide hown; have Hb2 := hide hb2; clear hown hb2)
          | fail)
        clear k0 k1 k2 k3 k4 k5 HF
        have Hbw2 := hide (Hbwo.out.trans (Hb2.out.mono Hbwo.out.size))
        have hwo : w1.heap.size ≤ wo.heap.size := hso
        have hs2 : w.heap.size < w2.heap.size := by have := Hb2.out.size; have := Hs1.out; omega
        have Hvb2 := hide (block_below (block_below Hvb1.out Hbo.out Hs1.out) Hb2.out (by have := Hs1.out; omega))
        have hN12 : N ≤ 12 := by have := tabs_len HTabs.out; have := Hn.out; have := HN.out; omega
        have HA2 := hide (fun wr (hb : Below w2.heap.size w2 wr) => HA.out wr (Hbw2.out.trans (hb.mono Hbw2.out.size)))
        have HC2 := hide (fun wr (hb : Below w2.heap.size w2 wr) => HC.out wr (Hbw2.out.trans (hb.mono Hbw2.out.size)))
        have HB2 := hide (fun wr (hb : Below w2.heap.size w2 wr) => (Hbw2.out.trans (hb.mono Hbw2.out.size)))
        have Hs2 := hide hs2
        have hrf2 := hide (Below.refl w2.heap.size w2)
        clear HA HC hwo hlt hs2
        go_loopw [42] (fun i wr => ∃ (k e : Nat), k ≤ N ∧ i = .int .i64 (k : Int) ∧ TabsFrom rows W e (fs.drop k) ∧ Below w2.heap.size w2 wr) (fun i _ => N - (intOf i).toNat)
        case atStart => exact ⟨0, 0, Nat.zero_le _, rfl, HTabs.out, hrf2.out⟩
        case round =>
          clear hrf2
          rename World => wt
          obtain ⟨x, e, hx, rfl, htabs, hbt⟩ := hrel
          have hst := hbt.size
          have Hbt := hide hbt
          clear hbt
          by_cases hlt : x < N
          · have hltI : (x : Int) < (N : Int) := by omega
            have hkf : x < fs.length := by rw [HN.out]; exact hlt
            rw [List.drop_eq_getElem_cons hkf] at htabs
            obtain ⟨t, b, h1, h2, h3, h4, h5, h6⟩ := htabs
            obtain ⟨go, cap, hf1, hgo, hgl⟩ := own_form1 Hown.out (by omega)
            cases hf1
            obtain ⟨m, hm⟩ : ∃ m, (partsTo (gut rows t b) W).length = m + 1 := ⟨(partsTo (gut rows t b) W).length - 1, by omega⟩
            obtain ⟨p, q, c0, cm, htbl⟩ := tblR_eq rows W t b (m + 1) m hm (by omega) rfl
            rw [htbl] at h5
            obtain ⟨lb, hlb⟩ : ∃ lb, cellOf (rows[t]?.getD []) p.1 p.2 = lb := ⟨_, rfl⟩
            rw [hlb] at h5
            obtain ⟨p1, p2⟩ := p
            obtain ⟨q1, q2⟩ := q
            dsimp only at h5
            have hcell : ∀ j u, ((⟨3, 0, -1, t, p1, b, q2, lb⟩ : Rg).enc)[j]? = some u → wt.cell? ⟨go, x * 8 + j, none⟩ = some u := fun j u hu => by
              have hjl : j < 8 := (List.getElem?_eq_some_iff.1 hu).1
              rw [Hbt.out.cell (p := ⟨go, x * 8 + j, none⟩) hgl, Hown.out.cellAt (x * 8 + j) (by omega)]
              exact flat_get (enc := Rg.enc) (sz := 8) (fun _ => rfl) fs x _ j u (by rw [List.getElem?_eq_getElem hkf, h5]) hu
            have x0 := hcell 0 _ rfl
            have x1 := hcell 1 _ rfl
            have x2 := hcell 2 _ rfl
            have x3 := hcell 3 _ rfl
            have x4 := hcell 4 _ rfl
            have x5 := hcell 5 _ rfl
            have x6 := hcell 6 _ rfl
            have x7 := hcell 7 _ rfl
            rw [Nat.add_zero] at x0
            obtain ⟨M, hM⟩ : ∃ M, m + 1 = M := ⟨_, rfl⟩
            have HM := hide (show (partsTo (gut rows t b) W).length = M by rw [hm, hM])
            have hM200 : M ≤ 200 := by have := (partsTo_bd (gut rows t b) W).1; omega
            have Hpb := hide (partsTo_bd (gut rows t b) W).2
            have hbn : b ≤ n := by rw [← Hn.out]; exact h3
            have hcl : (colsR rows W t b).length = M := by rw [colsR_length, HM.out]
            have hbx := Hbt.out.alloc hst (.cells #[.int .i64 3, .int .i64 0, .int .i64 (-1), .int .i64 (t : Int), .int .i64 (p1 : Int), .int .i64 (b : Int), .int .i64 (q2 : Int), .string lb] 33)
            have hbk := block_new wt (.cells #[.int .i64 3, .int .i64 0, .int .i64 (-1), .int .i64 (t : Int), .int .i64 (p1 : Int), .int .i64 (b : Int), .int .i64 (q2 : Int), .string lb] 33)
            obtain ⟨wx, hwx⟩ : ∃ wx, wt.alloc (.cells #[.int .i64 3, .int .i64 0, .int .i64 (-1), .int .i64 (t : Int), .int .i64 (p1 : Int), .int .i64 (b : Int), .int .i64 (q2 : Int), .string lb] 33) = wx := ⟨_, rfl⟩
            rw [hwx] at hbx hbk
            have HCr := hide (HC2.out _ hbx t b (by omega) hbn ⟨3, 0, -1, t, p1, b, q2, lb⟩ rfl rfl)
            dsimp only at HCr
            rw [hcl] at HCr
            have hsx : wt.heap.size < wx.heap.size := block_lt hbk
            have hs2 := Hs2.out
            obtain ⟨k0, k1, k2, k3, k4, k5⟩ := vb_cells (block_below Hvb2.out hbx hs2)
            obtain ⟨r0, r1, r2, r3, r4, r5, r6, r7⟩ := rb_cells hbk
            have HV3 := hide (fun (W2 : World) (hb : Below wx.heap.size wx W2) => And.intro (vb_cells (block_below (block_below Hvb2.out hbx hs2) hb (by have := hbx.size; omega))) (rb_cells (block_below hbk hb hsx)))
            have HB3 := hide (fun (W2 : World) (hb : Below wx.heap.size wx W2) => hbx.trans (hb.mono hbx.size))
            have HCl := hide (fun (W2 : World) (hb : Below wx.heap.size wx W2) (y i : Nat) (hy : t ≤ y) (hyb : y < b) (p : Nat × Nat) (hp : (partsTo (gut rows t b) W)[i]? = some p) => HCe.out W2 (HB2.out W2 (hbx.trans (hb.mono hbx.size))) t b (by omega) hbn ⟨3, 0, -1, t, p1, b, q2, lb⟩ rfl rfl y i hy hyb p hp)
            dsimp only at HCl
            have H6 := hide h6
            have Hgut := hide (fun (y : Nat) (h1 : t ≤ y) (h2 : y < b) (hyl : y < rows.length) c (h : gut rows t b c = true) => show bk (rows[y]) c = true from gut_row h h3 y h1 h2)
            have htb : t ≤ b := by omega
            have Hhs := hide hst
            clear hcell h1 h2 h3 h4 h5 h6 hm c0 cm htbl hlb hM hcl hbx hbk hsx hs2 hkf hgl hgo
            go_upto_region 17 with (first
              | (go_at_call 8; refine HCr.out.mono ?_; rintro e w3 ⟨vv3, rfl, hown3, hb3⟩; obtain ⟨A3, c3, rfl⟩ := own_form hown3; have Hb3 := hide hb3; clear hb3 hown3)
              | fail)
            clear hwx x0 x1 x2 x3 x4 x5 x6 x7 k0 k1 k2 k3 k4 k5 r0 r1 r2 r3 r4 r5 r6 r7 HCr
            obtain ⟨⟨k0, k1, k2, k3, k4, k5⟩, r0, r1, r2, r3, r4, r5, r6, r7⟩ := HV3.out w3 Hb3.out
            go_wp2
            go_loopw [10] (fun i wr => ∃ y : Nat, t ≤ y ∧ y ≤ b ∧ i = .int .i64 (y : Int) ∧ Below wx.heap.size wx wr) (fun i _ => b - (intOf i).toNat)
            case atStart => exact ⟨t, Nat.le_refl _, htb, rfl, Hb3.out⟩
            case round =>
              clear Hb3 k0 k1 k2 k3 k4 k5 r0 r1 r2 r3 r4 r5 r6 r7
              rename World => wy
              obtain ⟨y, hy1, hy2, rfl, hby⟩ := hrel
              have hsy := hby.size
              obtain ⟨⟨k0, k1, k2, k3, k4, k5⟩, r0, r1, r2, r3, r4, r5, r6, r7⟩ := HV3.out wy hby
              have Hby := hide hby
              clear hby
              by_cases hyb : y < b
              · have hybI : (y : Int) < (b : Int) := by omega
                have hyn : y < n := by omega
                have hynI : (y : Int) < (n : Int) := by omega
                have Hbw := hide (HB2.out wy (HB3.out wy Hby.out))
                obtain ⟨hyl, A1, c1, d0, hbal, d2⟩ := HRow.out wy Hbw.out y hyn
                have hry : rows[y]?.getD [] = rows[y] := by rw [List.getElem?_eq_getElem hyl]; rfl
                have HCly := hide (fun (W2 : World) (hb : Below wx.heap.size wx W2) (i : Nat) (p : Nat × Nat) (hp : (partsTo (gut rows t b) W)[i]? = some p) => HCl.out W2 hb y i hy1 hyb p hp)
                rw [hry] at HCly
                have hmem : rows[y] ∈ rows := List.getElem_mem hyl
                have hb1 := Hall.out _ hmem
                have hg1 := fun g hg => Hone.out _ hmem g hg (hb1 g hg)
                have hwd := Hwide.out _ hmem
                have hl140 := (Htame.out _ hmem).1
                have ht40 := (Htame.out _ hmem).2
                have hgu := fun c hc => Hgut.out y hy1 hyb hyl c hc
                obtain ⟨l, hl⟩ : ∃ l, rows[y] = l := ⟨_, rfl⟩
                rw [hl] at d0 d2 HCly hb1 hg1 hwd hl140 ht40
                simp only [hl] at hgu
                have hne : ∀ g ∈ l, g.text.toList ≠ [] := fun g hg h => by
                  have := hb1 g hg
                  rw [ByteArray.toList_eq] at h
                  rw [h] at this; cases this
                have hlen : l.length ≤ W := by
                  have : ∀ l : List Gl, (∀ g ∈ l, glW g = 1) → widthOf l = l.length := fun l => by
                    induction l with
                    | nil => intro _; rfl
                    | cons g l ih =>
                      intro hg
                      have e1 : widthOf (g :: l) = glW g + widthOf l := by simp [widthOf]
                      rw [e1, hg g (by simp), ih fun x hx => hg x (by simp [hx]), List.length_cons, Nat.add_comm]
                  rw [this l hg1] at hwd
                  exact hwd
                have hall := nbT_parts l hg1 (gut rows t b) hgu W
                rw [List.take_of_length_le hlen] at hall
                obtain ⟨X, hX⟩ : ∃ X : ByteArray, (⟨(nbT l).toArray⟩ : ByteArray) = X := ⟨_, rfl⟩
                have HX := hide hX
                have Hall2 := hide hall
                have HCell := hide (fun (i : Nat) (hi : i < M) => show ∃ S : ByteArray, noSp S.data.toList = nbT ((l.take ((partsTo (gut rows t b) W).getD i (0, 0)).2).drop ((partsTo (gut rows t b) W).getD i (0, 0)).1) ∧ bare S.data.toList = true ∧ S.size ≤ 140 ∧ ∀ (W2 : World), Below wx.heap.size wx W2 → Calls Tryd.prog 9 #[.agg #[.int .i64 W, .int .i64 n, .slice (some ⟨ba, off, none⟩) n c, .int .i64 row, .int .i64 col, .bool vis], .agg #[.int .i64 3, .int .i64 0, .int .i64 (-1), .int .i64 t, .int .i64 p1, .int .i64 b, .int .i64 q2, .string lb], .int .i64 ((y : Int) - (t : Int)), .int .i64 (i : Int)] W2 fun e w' => e = .returned (.tuple #[.string S, .int .i64 0]) ∧ Below W2.heap.size W2 w' by
                  have hil : i < (partsTo (gut rows t b) W).length := by rw [HM.out]; exact hi
                  have hgd : (partsTo (gut rows t b) W).getD i (0, 0) = (partsTo (gut rows t b) W)[i] := by rw [List.getD_eq_getElem?_getD, List.getElem?_eq_getElem hil]; rfl
                  rw [hgd]
                  refine ⟨cellOf l ((partsTo (gut rows t b) W)[i]).1 ((partsTo (gut rows t b) W)[i]).2, noSp_cell l hg1 hne _ _, cell_bare l hg1 hb1 _ _, Nat.le_trans (cell_size l hg1 hb1 _ _) hl140, fun W2 hb => HCly.out W2 hb i _ (List.getElem?_eq_getElem hil)⟩)
                have HTx := hide (fun (W2 : World) (hb : Below wy.heap.size wy W2) => text15 W2 A1 c1 l ((d2.below (GlAt.stays _) hb).more hb.size) (by omega) (fun g hg => by have := ht40 g hg; omega))
                have hTz : (textB l).size ≤ 500 * 140 := by
                  have := textB_size l (fun g hg => by have := ht40 g hg; omega) l.length (Nat.le_refl _)
                  rw [List.take_length] at this
                  omega
                have HRp := hide (fun (W2 : World) (hb : Below w.heap.size w W2) => (replaceNP W2 (textB l) (by omega) (HMx.out W2 hb)).mono fun e w' h => (show e = .returned (.string X) ∧ Below W2.heap.size W2 w' from ⟨by rw [h.1, ← HX.out]; rfl, h.2⟩))
                obtain ⟨TB, hTB⟩ : ∃ TB, textB l = TB := ⟨_, rfl⟩
                rw [hTB] at HTx HRp
                obtain ⟨ln, hln⟩ : ∃ ln, l.length = ln := ⟨_, rfl⟩
                rw [hln] at d0 HTx
                obtain ⟨FM, hFM⟩ : ∃ FM, (fun i => nbT ((l.take ((partsTo (gut rows t b) W).getD i (0, 0)).2).drop ((partsTo (gut rows t b) W).getD i (0, 0)).1)) = FM := ⟨_, rfl⟩
                have HFM : Hid (∀ i, nbT ((l.take ((partsTo (gut rows t b) W).getD i (0, 0)).2).drop ((partsTo (gut rows t b) W).getD i (0, 0)).1) = FM i) := hide (fun i => by rw [← hFM])
                have HTot := hide (show (List.range M).flatMap FM = nbT l by
                  rw [← Hall2.out, ← hFM, ← HM.out]
                  generalize partsTo (gut rows t b) W = ps
                  have key : ∀ (ps : List (Nat × Nat)) (G : Nat × Nat → List UInt8), (List.range ps.length).flatMap (fun i => G (ps.getD i (0, 0))) = ps.flatMap G := fun ps G => by
                    have e : (List.range ps.length).map (fun i => ps.getD i (0, 0)) = ps := by
                      apply List.ext_getElem
                      · simp
                      · intro i h1 h2
                        simp [List.getD_eq_getElem?_getD, List.getElem?_eq_getElem h2]
                    conv => rhs; rw [← e]
                    rw [List.flatMap_map]
                  exact key ps fun p => nbT ((l.take p.2).drop p.1))
                have hyt : (t : Int) ≤ (y : Int) := by omega
                have hy12 : y ≤ 12 := by omega
                have Hd0 := hide d0
                clear hl hry hmem hb1 hg1 hwd hl140 ht40 hgu hne hlen hall hX HCly hTz hTB hln hFM d0 d2
                have Hrf := hide (Below.refl wy.heap.size wy)
                go_wp2
                go_loopw [11, 66] (fun tx i wr => ∃ (z : Nat) (T : ByteArray), z ≤ M ∧ i = .int .i64 (z : Int) ∧ tx = .string T ∧ noSp T.data.toList = (List.range z).flatMap FM ∧ T.size ≤ 140 * z ∧ Below wy.heap.size wy wr) (fun _ i _ => M - (intOf i).toNat)
                case atStart => exact ⟨0, ⟨#[]⟩, Nat.zero_le _, rfl, rfl, rfl, by simp [ByteArray.size], Hrf.out⟩
                case round =>
                  clear Hrf k0 k1 k2 k3 k4 k5 r0 r1 r2 r3 r4 r5 r6 r7
                  rename World => wz
                  obtain ⟨z, T, hz, rfl, rfl, hT, hTs, hbz⟩ := hrel
                  have hsz := hbz.size
                  have Hbz := hide hbz
                  have Hbyz := hide (Hby.out.trans (hbz.mono hsy))
                  obtain ⟨⟨k0, k1, k2, k3, k4, k5⟩, r0, r1, r2, r3, r4, r5, r6, r7⟩ := HV3.out wz Hbyz.out
                  clear hbz
                  by_cases hzM : z < M
                  · have hzMI : (z : Int) < (M : Int) := by omega
                    obtain ⟨S, hS1, hS2, hS3, hS4⟩ := HCell.out z hzM
                    rw [HFM.out] at hS1
                    have HS4 := hide (hS4 wz Hbyz.out)
                    have HTr := hide (fun W2 => trimP W2 S (by omega) hS2)
                    have qss : (S.toList != S.toList) = false := by simp
                    have hTN := hide (show noSp (T ++ S).data.toList = (List.range (z + 1)).flatMap FM by rw [Joins.data_append, noSp_app, hT, hS1, List.range_succ, List.flatMap_append]; simp)
                    have hcat : T.size + S.size ≤ 9223372036854775807 := by omega
                    have hz200 : z ≤ 200 := by omega
                    have Hts := hide (And.intro hTs hS3)
                    clear hT hS1 hS2 hS4 hTs
                    go_wp2_with (first
                      | (go_at_call 9; (with_reducible refine HS4.out.mono ?_); rintro e w4 ⟨rfl, hbm⟩; have Hb4 := hide (Hbz.out.trans (hbm.mono hsz)); clear hbm)
                      | (go_at_call 10; refine (HTr.out w4).mono ?_; rintro e w5 ⟨rfl, hbm⟩; have Hb5 := hide (Hb4.out.trans (hbm.mono Hb4.out.size)); clear hbm)
                      | fail)
                    go_roundw
                    case rel => exact ⟨z + 1, T ++ S, by omega, by go_num, rfl, hTN.out, by rw [ByteArray.size_append]; have := Hts.out; omega, Hb5.out⟩
                    case measure => simp [intOf]; omega
                  · obtain rfl : M = z := by omega
                    have hTf : noSp T.data.toList = nbT l := by rw [hT, HTot.out]
                    have HRT := hide (fun (W2 : World) (hb : Below w.heap.size w W2) => (replaceNP W2 T (by omega) (HMx.out W2 hb)).mono fun e w' h => (show e = .returned (.string X) ∧ Below W2.heap.size W2 w' from ⟨by rw [h.1, hTf, ← HX.out], h.2⟩))
                    have HSS := hide (fun (W2 : World) (hb : Below wz.heap.size wz W2) => And.intro (HV3.out W2 (Hbyz.out.trans (hb.mono Hbyz.out.size))).1.2.2.1 (((Hbz.out.trans (hb.mono hsz)).cell (p := ⟨ba, off + y, none⟩) hbal).trans Hd0.out))
                    have HBw := hide (fun (W2 : World) (hb : Below wz.heap.size wz W2) => HB2.out W2 (HB3.out W2 (Hbyz.out.trans (hb.mono Hbyz.out.size))))
                    have HTy := hide (fun (W2 : World) (hb : Below wz.heap.size wz W2) => HTx.out W2 (Hbz.out.trans (hb.mono hsz)))
                    have HBx := hide (fun (W2 : World) (hb : Below wz.heap.size wz W2) => Hbyz.out.trans (hb.mono Hbyz.out.size))
                    have hbd := (Below.refl wz.heap.size wz).drew
                    have hnl : ¬ (M : Int) < (M : Int) := by omega
                    have qxx : (X.toList != X.toList) = false := by simp
                    have hyb1 : y < b := hyb
                    clear hT hTf hTs k0 k1 k2 k3 k4 k5 r0 r1 r2 r3 r4 r5 r6 r7 HCell HTx
                    go_wp2
                    go_region_held3 (fun W2 => W2.cell? ⟨w.heap.size, 2, none⟩ = some (.slice (some ⟨ba, off, none⟩) n c) ∧ W2.cell? ⟨ba, off + y, none⟩ = some (.slice A1 ln c1))
                      (first | exact HSS.out _ hb7 | exact HSS.out _ hb5 | exact HSS.out _ hbd)
                      (first
                        | (go_at_call 11; refine (HRT.out _ (HBw.out _ hbd)).mono ?_; rintro e w5 ⟨rfl, hbI⟩; have hb5 := hbd.trans (hbI.mono hbd.size))
                        | (go_at_call 12; refine (HTy.out _ hb5).mono ?_; rintro e w6 ⟨rfl, hw6⟩; subst hw6)
                        | (go_at_call 11; refine (HRp.out _ (HBw.out _ hb5)).mono ?_; rintro e w7 ⟨rfl, hbK⟩; have hb7 := hb5.trans (hbK.mono hb5.size))
                        | fail)
                    all_goals
                      have Hb7 := hide (HBx.out _ hb7)
                      clear hbd hb5 hb7
                      go_wp2
                      go_roundw
                      case rel => exact ⟨y + 1, by omega, by omega, by go_num, Hb7.out⟩
                      case measure => simp [intOf]; omega
              · obtain rfl : y = b := by omega
                have hnl : ¬ (y : Int) < (y : Int) := by omega
                go_wp2
                go_roundw
                case rel => exact ⟨x + 1, y, by omega, by go_num, H6.out, HB3.out _ Hby.out⟩
                case measure => simp [intOf]; omega
          · have Hbz := hide (HB2.out wt Hbt.out)
            go_wp2_with (first
              | (go_at_call 6; refine (HA2.out _ Hbt.out).mono ?_; rintro e w5 ⟨rfl, hb5⟩; have Hb5 := hide hb5; clear hb5)
              | fail)
            go_ret
            exact ⟨rfl, Hbz.out.trans (Hb5.out.mono Hbz.out.size)⟩
end Go.Proofs.YtmgepckhdgoemaaDoor
