/- The walk of the law TablesForm. -/
import Derived.Test.YtbbhkibbkecojaaDoorL5
import Derived.Test.YtbbhkibbkecojaaDoorP3
import Derived.Deep.RegionHeld3
namespace Go.Proofs.YtbbhkibbkecojaaDoor
open Go.RowKit

theorem rb_cells {w : World} {b : Nat} {v0 v1 v2 v3 v4 v5 v6 v7 : Value} {t : TypeId} (h : w.heap[b]? = some (.cells #[v0, v1, v2, v3, v4, v5, v6, v7] t (0, 0))) : w.cell? ⟨b, 0, none⟩ = some v0 ∧ w.cell? ⟨b, 1, none⟩ = some v1 ∧
    w.cell? ⟨b, 2, none⟩ = some v2 ∧ w.cell? ⟨b, 3, none⟩ = some v3 ∧ w.cell? ⟨b, 4, none⟩ = some v4 ∧ w.cell? ⟨b, 5, none⟩ = some v5 ∧ w.cell? ⟨b, 6, none⟩ = some v6 ∧ w.cell? ⟨b, 7, none⟩ = some v7 :=
  ⟨cell_block h 0, cell_block h 1, cell_block h 2, cell_block h 3, cell_block h 4, cell_block h 5, cell_block h 6, cell_block h 7⟩
theorem tabs_len {rows : List (List Gl)} {W : Nat} : ∀ {e : Nat} {l : List Rg}, TabsFrom rows W e l → l.length ≤ rows.length - e
  | _, [], _ => Nat.zero_le _
  | e, r :: l, ⟨t, b, h1, h2, h3, _, _, h6⟩ => by
    have := tabs_len h6
    simp only [List.length_cons]
    omega
theorem colsR_len_get {rows : List (List Gl)} {W t b k : Nat} {p : Nat × Nat} (h : (colsR rows W t b)[k]? = some (colR rows t b p)) : p ∈ partsTo (gut rows t b) W := by
  unfold colsR at h
  rw [List.getElem?_map] at h
  cases hp : (partsTo (gut rows t b) W)[k]? with
  | none => rw [hp] at h; cases h
  | some p' =>
    rw [hp] at h
    have h' : colR rows t b p' = colR rows t b p := by simpa using h
    have e1 : ((p'.1 : Nat) : Int) = p.1 := congrArg Rg.left h'
    have e2 : ((p'.2 : Nat) : Int) = p.2 := congrArg Rg.right h'
    have : p' = p := Prod.ext (by omega) (by omega)
    rw [← this]
    exact List.mem_of_getElem? hp
theorem colsT_yes {v : Vw} {W t b : Nat} {r : Rg} (hok : v.ok = true) (hW : v.width = W) (h1 : t < b) (h2 : b ≤ v.rows.length) (ht : r.top = t) (hb : r.bottom = b) : colsT v r = colsR v.rows W t b := by
  unfold colsT
  rw [ht, hb, valid24_of hok h1 h2, if_pos rfl, hW]
  simp

set_option maxRecDepth 100000 in
set_option maxHeartbeats 8000000 in
theorem formLawP (w : World) (A : Option Addr) (c : Nat) (v : Vw) (h : Rows2 w w.heap.size A v.rows) (hT : Tabs w) (hc : v.rows.length ≤ c) :
    Calls Tryd.prog 4 #[v.val A c] w fun e w' => e = .returned (.bool true) ∧ Below w.heap.size w w' := by
  have hbox := (Below.refl w.heap.size w).alloc (Nat.le_refl _) (.cells #[.int .i64 v.width, .int .i64 v.height, .slice A v.rows.length c, .int .i64 v.row, .int .i64 v.col, .bool v.visible] 24)
  have hvb : VwBox _ w.heap.size v A c := block_new w (.cells #[.int .i64 v.width, .int .i64 v.height, .slice A v.rows.length c, .int .i64 v.row, .int .i64 v.col, .bool v.visible] 24)
  have HS := hide (smallP _ A c v ((h.below hbox).more hbox.size))
  have HA := hide (fun w1 (hb1 : Below w.heap.size w w1) => awakeP w1 (hT.below hb1))
  cases hsm : smallB v with
  | false =>
    rw [hsm] at HS
    clear h hT hvb hsm
    unfold Vw.val at HS ⊢
    go_enter Tryd.func4, Tryd.ntmps4
    go_wp2_with (first
      | (go_at_call 17; refine HS.out.mono ?_; rintro e w1 ⟨rfl, hb1⟩; have hbw := hbox.trans (hb1.mono (by simp)))
      | (go_at_call 11; refine (HA.out _ hbw).mono ?_; rintro e w2 ⟨rfl, hb2⟩)
      | fail)
    go_ret
    exact ⟨rfl, hbw.trans (hb2.mono hbw.size)⟩
  | true =>
    have hgo : v.great = false ∧ v.ok = true := by unfold smallB at hsm; simpa using hsm
    obtain ⟨hg, hok⟩ := hgo
    have htame := Vw.tame hg
    have hni := Vw.nice htame hok
    rw [hsm] at HS
    obtain ⟨W, hW⟩ : ∃ W : Nat, v.width = W := ⟨_, hni.width⟩
    have hW1 : 1 ≤ W ∧ W ≤ 200 := by have := hni.w1; have := hni.w2; rw [hW] at *; simp at *; omega
    obtain ⟨n, hn⟩ : ∃ n, v.rows.length = n := ⟨_, rfl⟩
    have hht : v.height = n := by rw [← hn]; exact hni.height
    have hn12 : n ≤ 12 := by have := htame.1; omega
    have HF := hide (fun (w1 : World) (hb1 : Below w.heap.size w w1) => findP w1 A c v ((h.below hb1).more hb1.size) htame (hT.below hb1) hc)
    have HC := hide (fun (w1 : World) (hb1 : Below w.heap.size w w1) (t b : Nat) (h1 : t < b) (h2 : b ≤ n) (r : Rg) (ht : r.top = t) (hb : r.bottom = b) => (colsP w1 A c v r ((h.below hb1).more hb1.size) htame (hT.below hb1) hc).mono fun e w' h => (show ∃ vv, e = .returned vv ∧ w'.ownsRow w1.heap.size 26 8 vv (colsR v.rows W t b).length ((colsR v.rows W t b).flatMap Rg.enc) ∧ Below w1.heap.size w1 w' by
      rw [colsT_yes hok hW h1 (by omega) ht hb] at h; exact h))
    have HTabs := hide (findT_tabs hok W hW)
    have HR := hide (fun (w1 : World) (hb1 : Below w.heap.size w w1) => (h.below hb1).more hb1.size)
    have Htame := hide htame.2
    obtain ⟨fs, hfs⟩ : ∃ fs, findT v = fs := ⟨_, rfl⟩
    rw [hfs] at HTabs
    simp only [hfs] at HF
    clear h hT hsm hok hg htame hni hfs
    have Hvb := hide hvb
    clear hvb
    unfold VwBox at Hvb
    obtain ⟨width, height, rows, row, col, vis⟩ := v
    dsimp only at hW hht hn hc HS HF HC Hvb hbox HTabs HR Htame
    subst hW hht
    unfold Vw.val at HS HF HC ⊢
    dsimp only at HS HF HC ⊢
    rw [hn] at HS HF HC hbox Hvb ⊢
    unfold Rg.val at HC
    have Hn := hide hn
    clear hn
    go_enter Tryd.func4, Tryd.ntmps4
    go_wp2_with fail
    refine HS.out.mono ?_
    rintro e w1 ⟨rfl, hb1⟩
    have hbw := hbox.trans (hb1.mono (by simp))
    have hvb1 := block_below Hvb.out hb1 (by simp)
    obtain ⟨k0, k1, k2, k3, k4, k5⟩ := vb_cells hvb1
    go_wp2_with fail
    refine (HF.out _ hbw).mono ?_
    rintro e w2 ⟨vv, rfl, hown, hb2⟩
    have hbw2 := hbw.trans (hb2.mono hbw.size)
    have hs1 : w.heap.size < w1.heap.size := by have := hb1.size; simp at this; omega
    have hs2 : w.heap.size < w2.heap.size := by have := hb2.size; omega
    have Hvb2 := hide (block_below hvb1 hb2 hs1)
    obtain ⟨N, hN⟩ : ∃ N, fs.length = N := ⟨_, rfl⟩
    rw [hN] at hown
    obtain ⟨Ao, co, rfl⟩ := own_form hown
    have hN12 : N ≤ 12 := by have := tabs_len HTabs.out; have := Hn.out; omega
    have HN := hide hN
    have Hown := hide hown
    have HA2 := hide (fun wr (hb : Below w2.heap.size w2 wr) => HA.out wr (hbw2.trans (hb.mono hbw2.size)))
    have HC2 := hide (fun wr (hb : Below w2.heap.size w2 wr) => HC.out wr (hbw2.trans (hb.mono hbw2.size)))
    have HR2 := hide (fun wr (hb : Below w2.heap.size w2 wr) => HR.out wr (hbw2.trans (hb.mono hbw2.size)))
    clear hN hown hvb1 hb1 hb2 hbw k0 k1 k2 k3 k4 k5 HA HC HR HS HF Hvb
    go_wp2
    go_loopw [3, 18] (fun en i wr => ∃ (k e : Nat), k ≤ N ∧ i = .int .i64 k ∧ en = .int .i64 e ∧ TabsFrom rows W e (fs.drop k) ∧ Below w2.heap.size w2 wr) (fun _ i _ => N - (intOf i).toNat)
    case atStart => exact ⟨0, 0, Nat.zero_le _, rfl, rfl, HTabs.out, Below.refl _ _⟩
    case round =>
      rename World => wo
      obtain ⟨k, e, hk, rfl, rfl, htabs, hbo⟩ := hrel
      have hso := hbo.size
      by_cases hlt : k < N
      · have hkf : k < fs.length := by rw [HN.out]; exact hlt
        rw [List.drop_eq_getElem_cons hkf] at htabs
        obtain ⟨t, b, h1, h2, h3, h4, h5, h6⟩ := htabs
        obtain ⟨go, cap, hf1, hgo, hgl⟩ := own_form1 Hown.out (by omega)
        cases hf1
        obtain ⟨m, hm⟩ : ∃ m, (partsTo (gut rows t b) W).length = m + 1 := ⟨(partsTo (gut rows t b) W).length - 1, by omega⟩
        obtain ⟨p, q, c0, cm, htbl⟩ := tblR_eq rows W t b (m + 1) m hm (by omega) rfl
        rw [htbl] at h5
        obtain ⟨lb, hlb⟩ : ∃ lb, cellOf (rows[t]?.getD []) p.1 p.2 = lb := ⟨_, rfl⟩
        rw [hlb] at h5
        have hx : ∀ j u, ((⟨3, 0, -1, t, p.1, b, q.2, lb⟩ : Rg).enc)[j]? = some u → wo.cell? ⟨go, k * 8 + j, none⟩ = some u := fun j u hu => by
          have hjl : j < 8 := (List.getElem?_eq_some_iff.1 hu).1
          rw [hbo.cell (p := ⟨go, k * 8 + j, none⟩) hgl, Hown.out.cellAt (k * 8 + j) (by omega)]
          exact flat_get (enc := Rg.enc) (sz := 8) (fun _ => rfl) fs k _ j u (by rw [List.getElem?_eq_getElem hkf, h5]) hu
        have x0 := hx 0 _ rfl
        have x1 := hx 1 _ rfl
        have x2 := hx 2 _ rfl
        have x3 := hx 3 _ rfl
        have x4 := hx 4 _ rfl
        have x5 := hx 5 _ rfl
        have x6 := hx 6 _ rfl
        have x7 := hx 7 _ rfl
        rw [Nat.add_zero] at x0
        obtain ⟨p1, p2⟩ := p
        obtain ⟨q1, q2⟩ := q
        dsimp only at x4 x6
        have hpb := (partsTo_bd (gut rows t b) W).2
        have hqW : q2 ≤ W := by
          have := colsR_len_get cm
          exact (hpb _ this).2
        clear hx h5 hlb htbl
        have hm1 : 1 ≤ m ∧ m < W := by have := (partsTo_bd (gut rows t b) W).1; omega
        have Hm := hide hm
        have HmM := hide hm
        clear hm h4
        obtain ⟨z0, z1, z2, z3, z4, z5⟩ := vb_cells (block_below Hvb2.out hbo hs2)
        have hltk : (k : Int) < (N : Int) := by omega
        have hbn : b ≤ n := by rw [← Hn.out]; exact h3
        have ht12 : t ≤ 12 := by omega
        have hd1 : decide (t < e) = false := by simp; omega
        have hd2 : decide ((b : Int) < (t : Int) + 2) = false := by simp; omega
        have hd3 : decide (n < b) = false := by simp; omega
        have hd4 : decide (W < q2) = false := by simp; omega
        have hwo : w.heap.size < wo.heap.size := by omega
        obtain ⟨M, hM⟩ : ∃ M, m + 1 = M := ⟨_, rfl⟩
        have hbx := hbo.alloc hso (.cells #[.int .i64 3, .int .i64 0, .int .i64 (-1), .int .i64 t, .int .i64 p1, .int .i64 b, .int .i64 q2, .string lb] 26)
        have HCr := hide (HC2.out _ hbx t b (by omega) hbn ⟨3, 0, -1, t, p1, b, q2, lb⟩ rfl rfl)
        dsimp only at HCr
        have hcl : (colsR rows W t b).length = M := by rw [colsR_length, Hm.out, hM]
        have hg0 := rg_get _ 0 _ c0
        have hgm := rg_get _ m _ cm
        have a4 : ((colsR rows W t b).flatMap Rg.enc)[4]? = some (.int .i64 p1) := hg0.2.1
        have a6 : ((colsR rows W t b).flatMap Rg.enc)[m * 8 + 6]? = some (.int .i64 q2) := hgm.2.2.2.1
        have hcol : ∀ i x, (partsTo (gut rows t b) W)[i]? = some x → ((colsR rows W t b).flatMap Rg.enc)[i * 8 + 4]? = some (.int .i64 (x.1 : Nat)) ∧ ((colsR rows W t b).flatMap Rg.enc)[i * 8 + 6]? = some (.int .i64 (x.2 : Nat)) := fun i x hi => by
          have := rg_get _ i _ (colsR_get rows W t b i x hi)
          exact ⟨this.2.1, this.2.2.2.1⟩
        obtain ⟨cs, hcs⟩ : ∃ cs, (colsR rows W t b).flatMap Rg.enc = cs := ⟨_, rfl⟩
        rw [hcs] at HCr a4 a6 hcol
        rw [hcl] at HCr
        have A4 := hide a4
        have A6 := hide a6
        have Hcol := hide hcol
        have H6 := hide h6
        have Hpb := hide hpb
        have Hgut := hide (fun c (h : gut rows t b c = true) k (h1 : t ≤ k) (h2 : k < b) => gut_row h h3 k h1 h2)
        have Hsep := hide (partsTo_sep (gut rows t b) W).1
        clear hg0 hgm a4 a6 hcol hcs hcl c0 cm h6 hpb
        go_wp2_with fail
        refine HCr.out.mono ?_
        rintro e3 w3 ⟨vv3, rfl, hown3, hb3⟩
        obtain ⟨go3, co3, rfl, hgo3, hgl3⟩ := own_form1 hown3 (by omega)
        have hso3 : wo.heap.size < w3.heap.size := by have := hb3.size; simp at this; omega
        have hb23 : Below w2.heap.size w2 w3 := hbx.trans (hb3.mono (by simp; omega))
        have hne3 : wo.heap.size < go3 := by simp at hgo3; omega
        have hbx3 := block_below (block_new wo _) hb3 (by simp)
        obtain ⟨y0, y1, y2, y3, y4, y5, y6, y7⟩ := rb_cells hbx3
        have d4 := (hown3.cellAt 4 (by omega)).trans A4.out
        have d6 := (hown3.cellAt (m * 8 + 6) (by omega)).trans A6.out
        have hix : (M : Int) - 1 = (m : Int) := by omega
        have hM2 : decide (M < 2) = false := by simp; omega
        have hM2' : decide ((M : Int) < 2) = false := by simp; omega
        have hM0 : (0 : Int) < (M : Int) := by omega
        have hM0' : decide (0 < M) = true := by simp; omega
        have hM0n : 0 < M := by omega
        have hmMn : m < M := by omega
        have hmM : (m : Int) < (M : Int) := by omega
        have hwr : IntKind.i64.wrap ((M : Int) - 1) = (m : Int) := by rw [hix]; exact IntWalk.i64_in _ (by omega)
        have hwr2 : IntKind.i64.wrap (m : Int) = (m : Int) := IntWalk.i64_in _ (by omega)
        go_wp2
        go_region_held3 (fun W2 => W2.cell? ⟨go3, 4, none⟩ = some (.int .i64 p1) ∧ W2.cell? ⟨go3, m * 8 + 6, none⟩ = some (.int .i64 q2) ∧ W2.cell? ⟨wo.heap.size, 4, none⟩ = some (.int .i64 p1) ∧ W2.cell? ⟨wo.heap.size, 6, none⟩ = some (.int .i64 q2)) (go_keep) (fail)
        have hbxw := hb23
        have hs23 := hb23.size
        have hbd3 : Below w3.heap.size w3 w3.drew := (Below.refl _ _).drew
        have HD := hide (fun wr (hb : Below w3.heap.size w3 wr) j (hj : j < M * 8) => (hb.cell (p := ⟨go3, j, none⟩) hgl3).trans (hown3.cellAt j hj))
        have HBx := hide (fun wr (hb : Below w3.heap.size w3 wr) => rb_cells (block_below hbx3 hb hso3))
        have HVb := hide (fun wr (hb : Below w3.heap.size w3 wr) => vb_cells (block_below (block_below Hvb2.out hb23 hs2) hb (by have := hb23.size; omega)))
        have HRw := hide (fun wr (hb : Below w3.heap.size w3 wr) => HR2.out wr (hb23.trans (hb.mono hb23.size)))
        have HAw := hide (fun wr (hb : Below w3.heap.size w3 wr) => hb23.trans (hb.mono hb23.size))
        clear y0 y1 y2 y3 y4 y5 y6 y7 d4 d6 z0 z1 z2 z3 z4 z5 x0 x1 x2 x3 x4 x5 x6 x7 hown3 hb3 hb23 hbx hbx3 hbo HCr HC2 HR2 HA2 hd1 hd2 hd3 hd4 hM2 hM2' hM0 hM0' hmM hwr hwr2 hix A4 A6 Hm hM0n hmMn
        go_wp2
        go_loopw [7] (fun i wr => ∃ x : Nat, (1 ≤ x ∧ x ≤ M) ∧ i = .int .i64 x ∧ Below w3.heap.size w3 wr) (fun i _ => M - (intOf i).toNat)
        case atStart => exact ⟨1, by omega, rfl, hbd3⟩
        case round =>
          rename World => wi
          obtain ⟨i, hi, rfl, hbi⟩ := hrel
          clear hbd3
          by_cases hiM : i < M
          · obtain ⟨j, hj⟩ : ∃ j, j + 1 = i := ⟨i - 1, by omega⟩
            have hlen : (partsTo (gut rows t b) W).length = M := by rw [← hM]; exact HmM.out
            obtain ⟨p, hp⟩ : ∃ p, (partsTo (gut rows t b) W)[j]? = some p := ⟨_, List.getElem?_eq_getElem (by omega)⟩
            obtain ⟨q, hq⟩ : ∃ q, (partsTo (gut rows t b) W)[i]? = some q := ⟨_, List.getElem?_eq_getElem (by omega)⟩
            obtain ⟨hs1', hs2'⟩ := Hsep.out j p q hp (by rw [hj]; exact hq)
            have hpW := Hpb.out p (List.mem_of_getElem? hp)
            have hqW' := Hpb.out q (List.mem_of_getElem? hq)
            have f6 := (HD.out wi hbi (j * 8 + 6) (by omega)).trans (Hcol.out j p hp).2
            have f4 := (HD.out wi hbi (i * 8 + 4) (by omega)).trans (Hcol.out i q hq).1
            obtain ⟨P1, P2⟩ := p
            obtain ⟨Q1, Q2⟩ := q
            dsimp only at f6 f4 hs1' hs2' hpW hqW'
            have Hs2 := hide hs2'
            have hix : (i : Int) - 1 = (j : Int) := by omega
            have hwr : IntKind.i64.wrap ((i : Int) - 1) = (j : Int) := by rw [hix]; exact IntWalk.i64_in _ (by omega)
            have hwr2 : IntKind.i64.wrap (j : Int) = (j : Int) := IntWalk.i64_in _ (by omega)
            have hwr3 : IntKind.i64.wrap ((P2 : Int) + 2) = (P2 : Int) + 2 := IntWalk.i64_in _ (by omega)
            have hi0 : (0 : Int) < (M : Int) := by omega
            have hiM1 : (i : Int) < (M : Int) := by omega
            have hjM : (j : Int) < (M : Int) := by omega
            have hjMn : j < M := by omega
            have hdl : decide ((Q1 : Int) < (P2 : Int) + 2) = false := by simp; omega
            have hdl' : decide (Q1 < P2 + 2) = false := by simp; omega
            clear hs2' hp hq hlen hj
            go_wp2
            go_region_held3 (fun W2 => W2.cell? ⟨go3, i * 8 + 4, none⟩ = some (.int .i64 Q1) ∧ W2.cell? ⟨go3, j * 8 + 6, none⟩ = some (.int .i64 P2)) (go_keep) (fail)
            obtain ⟨wj, hwj⟩ : ∃ wj, wi.drew = wj := ⟨_, rfl⟩
            have hbj : Below w3.heap.size w3 wj := by rw [← hwj]; exact hbi.drew
            rw [hwj]
            have g4 : wj.cell? ⟨go3, i * 8 + 4, none⟩ = some (.int .i64 Q1) := by rw [← hwj]; exact f4
            have g6 : wj.cell? ⟨go3, j * 8 + 6, none⟩ = some (.int .i64 P2) := by rw [← hwj]; exact f6
            obtain ⟨y0, y1, y2, y3, y4, y5, y6, y7⟩ := HBx.out wj hbj
            obtain ⟨z0, z1, z2, z3, z4, z5⟩ := HVb.out wj hbj
            have hrows := hide (HRw.out wj hbj)
            clear hwj f4 f6 hbi hdl hdl' hwr3 y0 y1 y2 y4 y6 y7 z0 z1 z3 z4 z5
            go_wp2
            go_loop [8] (fun x => ∃ r : Nat, (t ≤ r ∧ r ≤ b) ∧ x = .int .i64 r) (fun x => b - (intOf x).toNat)
            case atStart => exact ⟨t, by omega, rfl⟩
            case round =>
              obtain ⟨r, hr, rfl⟩ := hrel
              by_cases hrb : r < b
              · have hltr : (r : Int) < (b : Int) := by omega
                have hrl : r < rows.length := by rw [Hn.out]; omega
                obtain ⟨ba, off, hA0, hba, A9, c9, e0, e1, e2⟩ := hrows.out.get1 hrl
                have HA0 := hide hA0
                have hrn : (r : Int) < (n : Int) := by omega
                have hbkr := fun c (h : gut rows t b c = true) => Hgut.out c h r hr.1 hrb
                have htm := Htame.out _ (List.getElem_mem hrl)
                obtain ⟨l, hl⟩ : ∃ l, rows[r] = l := ⟨_, rfl⟩
                rw [hl] at e0 e1 e2 hbkr htm
                have Hbkr := hide (fun c h1 h2 => hbkr c (Hs2.out c h1 h2))
                have Hgl := hide e2
                obtain ⟨htm1, -⟩ := htm
                clear hl hA0 e2 hbkr
                go_wp2
                go_loop [9] (fun x => ∃ y : Nat, (P2 ≤ y ∧ y ≤ Q1) ∧ x = .int .i64 y) (fun x => Q1 - (intOf x).toNat)
                case atStart => exact ⟨P2, by omega, rfl⟩
                case round =>
                  obtain ⟨y, hy, rfl⟩ := hrel
                  by_cases hyq : y < Q1
                  · have hlty : (y : Int) < (Q1 : Int) := by omega
                    have hbk := Hbkr.out y hy.1 hyq
                    have HI := hide (index15P wj A9 c9 l y Hgl.out (by omega) e1 (by omega) (by omega))
                    unfold index15 at HI
                    rw [if_neg (by omega)] at HI
                    have z2' : wj.cell? ⟨w.heap.size, 2, none⟩ = some (.slice (some ⟨ba, off, none⟩) n c) := by rw [← HA0.out]; exact z2
                    rcases idx_bk l y with ⟨nn, hnn, hidx, hsp⟩ | ⟨hge, hle, -⟩
                    · rw [hidx] at HI
                      rw [hbk] at hsp
                      obtain ⟨b2, off2, hA9, hb2, c0, -, -⟩ := Hgl.out.get hnn
                      have hsp2 : (l[nn].text.toList == [32]) = true := hsp.symm
                      have hsp3 : (l[nn].text.toList != [32]) = false := by simp [bne, hsp2]
                      have hnnl : (nn : Int) < (l.length : Int) := by omega
                      obtain ⟨tx, htx⟩ : ∃ tx, l[nn].text = tx := ⟨_, rfl⟩
                      rw [htx] at c0 hsp2 hsp3
                      have e0' : wj.cell? ⟨ba, off + r, none⟩ = some (.slice (some ⟨b2, off2, none⟩) l.length c9) := by rw [← hA9]; exact e0
                      have hA9' := hide hA9
                      clear hsp hidx htx hbk hA9 e0 z2
                      rw [hA9'.out] at HI
                      go_wp2_with (go_at_call 19; refine HI.out.mono ?_; rintro e5 w5 ⟨rfl, rfl⟩)
                      go_round
                      case rel => exact ⟨y + 1, by omega, by go_num⟩
                      case measure => simp [intOf]; omega
                    · obtain ⟨x, hx⟩ : ∃ x, idx l (y : Int) = x := ⟨_, rfl⟩
                      rw [hx] at HI hge hle
                      have hdx : decide (x < (l.length : Int)) = false := by simp; omega
                      clear hx hbk z2
                      go_wp2_with (go_at_call 19; refine HI.out.mono ?_; rintro e5 w5 ⟨rfl, rfl⟩)
                      go_round
                      case rel => exact ⟨y + 1, by omega, by go_num⟩
                      case measure => simp [intOf]; omega
                  · go_wp2
                    go_round
                    case rel => exact ⟨r + 1, by omega, by go_num⟩
                    case measure => simp [intOf]; omega
              · go_wp2
                go_roundw
                case rel => exact ⟨i + 1, by omega, by go_num, hbj⟩
                case measure => simp [intOf]; omega
          · go_wp2
            go_roundw
            case rel => exact ⟨k + 1, b, by omega, by go_num, rfl, H6.out, hbxw.trans (hbi.mono (by omega))⟩
            case measure => simp [intOf]; omega
      · go_wp2_with (go_at_call 11; refine (HA2.out _ hbo).mono ?_; rintro e w5 ⟨rfl, hb5⟩)
        go_ret
        exact ⟨rfl, (hbw2.trans (hbo.mono hbw2.size)).trans (hb5.mono (by have := hbw2.size; omega))⟩
end Go.Proofs.YtbbhkibbkecojaaDoor
