/- The walk of the law ProgressStyles. -/
import Derived.Test.YtnhcelckgfmljaaDoorW19s
import Derived.Test.YtnhcelckgfmljaaDoorApp3
import Derived.Deep.RegionHeld3
import Derived.Deep.QuietTactic
import Derived.BigQuiet
import Derived.IntWalk
namespace Go.Proofs.YtnhcelckgfmljaaDoor
open Go.RowKit

theorem el_rows27 : ElemOf Tryd.prog 22 29 (.slice none 0 0) 1 24 := ⟨Tryd.underlying22, by kernel_rfl, rfl, by omega, by omega⟩
/-- The view with all styles but the hidden one replaced. -/
def Vw.styled (v : Vw) (s : Int) : Vw := ⟨v.width, v.height, v.rows.map fun l => l.map (restyle s), v.row, v.col, v.visible⟩
theorem styled_tame {v : Vw} (h : v.Tame) (s : Int) : (v.styled s).Tame := by
  refine ⟨by show (v.rows.map _).length ≤ 12; rw [List.length_map]; exact h.1, fun r hr => ?_⟩
  obtain ⟨r0, h0, rfl⟩ := List.mem_map.1 hr
  obtain ⟨h1, h2⟩ := h.2 r0 h0
  refine ⟨by rw [List.length_map]; exact h1, fun g hg => ?_⟩
  obtain ⟨g0, hg0, rfl⟩ := List.mem_map.1 hg
  have := h2 g0 hg0
  unfold restyle
  split <;> exact this
theorem progT_styled {v : Vw} (h : v.ok = true) {s : Int} (h0 : 1 ≤ s) (h1 : s ≤ 2) : progT (v.styled s) = progT v := by
  have e1 : (v.styled s).ok = true := ok_rows h (by simp) fun r hr => by
    obtain ⟨r0, hr0, rfl⟩ := List.mem_map.1 hr
    exact rowErr_restyle s h0 h1 _ _ ((Vw.proper h).rows r0 hr0)
  unfold progT
  rw [if_pos e1, if_pos h]
  exact progL_restyle s (by omega) v.rows 0
/-- A row whose first k glyphs have the new style. -/
def partly (s : Int) (l : List Gl) (k : Nat) : List Gl := (l.take k).map (restyle s) ++ l.drop k
theorem partly_zero (s : Int) (l : List Gl) : partly s l 0 = l := by simp [partly]
theorem partly_len (s : Int) (l : List Gl) (k : Nat) : (partly s l k).length = l.length := by simp [partly]; omega
theorem partly_get (s : Int) (l : List Gl) (k : Nat) (hk : k < l.length) : (partly s l k)[k]? = some l[k] := by
  unfold partly
  rw [List.getElem?_append_right (by simp; omega), List.length_map, List.length_take, Nat.min_eq_left (by omega), Nat.sub_self, List.getElem?_drop, Nat.add_zero, List.getElem?_eq_getElem hk]
theorem partly_succ (s : Int) (l : List Gl) (k : Nat) (hk : k < l.length) : partly s l (k + 1) = (l.take k).map (restyle s) ++ restyle s l[k] :: l.drop (k + 1) := by
  unfold partly
  rw [List.take_succ_eq_append_getElem hk, List.map_append, List.append_assoc]; rfl
theorem partly_same (s : Int) (l : List Gl) (k : Nat) (hk : k < l.length) (h : l[k].style = 3) : partly s l (k + 1) = partly s l k := by
  rw [partly_succ s l k hk, show restyle s l[k] = l[k] from if_pos h]
  unfold partly
  rw [List.drop_eq_getElem_cons hk]
theorem partly_set (s : Int) (l : List Gl) (k : Nat) (hk : k < l.length) (h : l[k].style ≠ 3) : ((partly s l k).flatMap Gl.enc).set (k * 3 + 2) (.int .i64 s) = (partly s l (k + 1)).flatMap Gl.enc := by
  rw [partly_succ s l k hk, show restyle s l[k] = ⟨l[k].text, l[k].wide, s⟩ from if_neg h]
  unfold partly
  have hl : (((l.take k).map (restyle s)).flatMap Gl.enc).length = k * 3 := by rw [gl_len, List.length_map, List.length_take, Nat.min_eq_left (by omega)]
  rw [List.drop_eq_getElem_cons hk, List.flatMap_append, List.flatMap_append, List.set_append_right _ _ (by omega), hl, show k * 3 + 2 - k * 3 = 2 by omega]
  rfl
theorem partly_all (s : Int) (l : List Gl) : partly s l l.length = l.map (restyle s) := by simp [partly]

set_option maxRecDepth 100000 in
set_option maxHeartbeats 8000000 in
theorem stylesLawP (w : World) (A : Option Addr) (c : Nat) (v : Vw) (sc : Nat) (hsc : sc < 256) (h : Rows2 w w.heap.size A v.rows) (hT : Tabs27 w) :
    Calls Tryd.prog 3 #[v.val A c, .int .u8 (sc : Int)] w fun e w' => e = .returned (.bool true) ∧ Below w.heap.size w w' := by
  have hbox := (Below.refl w.heap.size w).alloc (Nat.le_refl _) (.cells #[.int .i64 v.width, .int .i64 v.height, .slice A v.rows.length c, .int .i64 v.row, .int .i64 v.col, .bool v.visible] 24)
  have hvb : VwBox _ w.heap.size v A c := block_new w (.cells #[.int .i64 v.width, .int .i64 v.height, .slice A v.rows.length c, .int .i64 v.row, .int .i64 v.col, .bool v.visible] 24)
  obtain ⟨W0, hW0⟩ : ∃ W0, w.alloc (.cells #[.int .i64 v.width, .int .i64 v.height, .slice A v.rows.length c, .int .i64 v.row, .int .i64 v.col, .bool v.visible] 24) = W0 := ⟨_, rfl⟩
  have hs0 : W0.heap.size = w.heap.size + 1 := by rw [← hW0]; simp
  rw [hW0] at hbox hvb
  have HG := hide (greatP W0 A c v ((h.below hbox).more hbox.size))
  have HA := hide (fun w1 (hb : Below w.heap.size w w1) => awakeP w1 (hT.below hb))
  have HK := hide (fun w1 (hb1 : Below W0.heap.size W0 w1) => (hvb.below hb1 (by omega)).cells)
  obtain ⟨k0, k1, k2, k3, k4, k5⟩ := hvb.cells
  have HW0 := hide hW0
  have Hs0 := hide hs0
  cases hg : v.great with
  | true =>
    rw [hg] at HG
    rw [← hW0] at HG hbox k0 k1 k2 k3 k4 k5
    clear h hT hvb hs0 hW0
    unfold Vw.val at HG ⊢
    go_enter Tryd.func3, Tryd.ntmps3
    go_wp2_with (first
      | (go_at_call 4; refine HG.out.mono ?_; rintro e w1 ⟨rfl, hb1⟩; have hbw := hbox.trans (hb1.mono (by simp)))
      | (go_at_call 6; refine (HA.out _ hbw).mono ?_; rintro e w2 ⟨rfl, hb2⟩)
      | fail)
    go_ret
    exact ⟨rfl, hbw.trans (hb2.mono hbw.size)⟩
  | false =>
    have htame := Vw.tame hg
    have HC := hide (fun w1 (hb : Below w.heap.size w w1) => checkV w1 A c v ((h.below hb).more hb.size) htame (hT.1.below hb))
    rw [hg] at HG
    rw [← hW0] at HG hbox k0 k1 k2 k3 k4 k5
    have Hh := hide h
    have HT := hide hT
    have Htame := hide htame
    have hl12 := htame.1
    cases hok : v.ok with
    | false =>
      have hne : (v.err != 0) = true := by unfold Vw.ok at hok; simpa using hok
      clear h hT hvb hs0 hW0 htame hg hok
      obtain ⟨V, hV⟩ : ∃ V, v.err = V := ⟨_, rfl⟩
      simp only [hV] at HC hne
      clear hV
      unfold Vw.val at HG HC ⊢
      go_enter Tryd.func3, Tryd.ntmps3
      go_wp2_with (first
        | (go_at_call 4; refine HG.out.mono ?_; rintro e w1 ⟨rfl, hb1⟩; have hbw := hbox.trans (hb1.mono (by simp)); rw [HW0.out] at hb1; obtain ⟨x0, x1, x2, x3, x4, x5⟩ := HK.out w1 hb1)
        | (go_at_call 5; refine (HC.out _ hbw).mono ?_; rintro e w3 ⟨rfl, hb3⟩; have hbw3 := hbw.trans (hb3.mono hbw.size))
        | (go_at_call 6; refine (HA.out _ hbw3).mono ?_; rintro e w2 ⟨rfl, hb2⟩)
        | fail)
      go_ret
      exact ⟨rfl, hbw3.trans (hb2.mono hbw3.size)⟩
    | true =>
      have he : v.err = 0 := by unfold Vw.ok at hok; simpa using hok
      have HF := hide (fun w1 (hb : Below w.heap.size w w1) => findP w1 A c v ((h.below hb).more hb.size) htame (hT.below hb))
      have Hok := hide hok
      simp only [he] at HC
      obtain ⟨n, hn⟩ : ∃ n, v.rows.length = n := ⟨_, rfl⟩
      have Hn := hide hn
      obtain ⟨sm, hsm⟩ : ∃ m, sc % 2 = m := ⟨_, rfl⟩
      have hsm2 : sm < 2 := by omega
      have hsmI : (sc : Int) % 2 = (sm : Int) := by omega
      obtain ⟨s, hs⟩ : ∃ s : Int, 1 + (sm : Int) = s := ⟨_, rfl⟩
      have Hs1 := hide (show 1 ≤ s ∧ s ≤ 2 by omega)
      have Hs := hide hs
      clear h hT hvb hs0 hW0 htame hg hok he hsm hs
      unfold Vw.val at HG HC HF ⊢
      rw [hn] at HG HC HF hl12 k2 hbox ⊢
      simp only [hn] at HK
      clear hn
      go_enter Tryd.func3, Tryd.ntmps3
      go_wp2_with (first
        | (go_at_call 4; refine HG.out.mono ?_; rintro e w1 ⟨rfl, hb1⟩; have hbw := hbox.trans (hb1.mono (by simp)); have hb1' := hb1; rw [← Hn.out] at hb1'; rw [HW0.out] at hb1'; obtain ⟨x0, x1, x2, x3, x4, x5⟩ := HK.out w1 hb1')
        | (go_at_call 5; refine (HC.out _ hbw).mono ?_; rintro e w3 ⟨rfl, hb3⟩; have hb13 := hb1'.trans (hb3.mono hb1'.size); have hbw3 := hbw.trans (hb3.mono hbw.size); obtain ⟨y0, y1, y2, y3, y4, y5⟩ := HK.out w3 hb13; have hlw : w.heap.size < w3.heap.size := (by have := hb13.size; have := Hs0.out; omega); have hlwn : w.heap.size ≠ w3.heap.size := (by omega))
        | fail)
      have hbB := (Below.refl w3.heap.size w3).alloc (Nat.le_refl _) (.cells #[.int .i64 v.width, .int .i64 v.height, .slice none 0 0, .int .i64 v.row, .int .i64 v.col, .bool v.visible] 24)
      have hblk := block_new w3 (.cells #[.int .i64 v.width, .int .i64 v.height, .slice none 0 0, .int .i64 v.row, .int .i64 v.col, .bool v.visible] 24)
      clear x0 x1 x2 x3 x4 x5 k0 k1 k2 k3 k4 k5 hb1 hb1' hbox y0 y1 y2 y3 y4 y5
      have Hb13 := hide hb13
      have Hbw3 := hide hbw3
      clear hb13 hbw3 hbw hb3
      go_loopw [6] (fun i wr => ∃ (k : Nat) (vv : Value), k ≤ n ∧ i = .int .i64 k ∧ wr.heap[w3.heap.size]? = some (.cells #[.int .i64 v.width, .int .i64 v.height, vv, .int .i64 v.row, .int .i64 v.col, .bool v.visible] 24) ∧ MadeG wr (w3.heap.size + 1) vv ((v.rows.map fun l => l.map (restyle s)).take k) ∧ Below w3.heap.size w3 wr ∧ w3.heap.size + 1 ≤ wr.heap.size) (fun i _ => n - (intOf i).toNat)
      case atStart => exact ⟨0, .slice none 0 0, Nat.zero_le _, rfl, hblk, MadeG.nil _ _, hbB, by simp⟩
      case round =>
        clear hbB hblk
        obtain ⟨k, vv, hk, rfl, hv1, hmade, hbr, hsz⟩ := hrel
        rename World => wr
        have hb3r := Hb13.out.trans (hbr.mono Hb13.out.size)
        obtain ⟨y0, y1, y2, y3, y4, y5⟩ := HK.out wr hb3r
        have hbwr := Hbw3.out.trans (hbr.mono Hbw3.out.size)
        by_cases hlt : k < n
        · have hltI : (k : Int) < (n : Int) := by omega
          have hml : k < v.rows.length := by rw [Hn.out]; omega
          obtain ⟨bR, oR, rfl, hbR, A1, c1, d0, d1, d2⟩ := Hh.out.get1 hml
          have htm := Htame.out.2 _ (List.getElem_mem hml)
          have Hrow := hide (show (v.rows.map fun l => l.map (restyle s)).take (k + 1) = (v.rows.map fun l => l.map (restyle s)).take k ++ [v.rows[k].map (restyle s)] by
            rw [List.take_succ_eq_append_getElem (by simpa using hml), List.getElem_map])
          obtain ⟨row, hrow⟩ : ∃ row, v.rows[k] = row := ⟨_, rfl⟩
          rw [hrow] at d0 d1 d2 htm Hrow
          clear hrow
          obtain ⟨rl, hrl⟩ : ∃ rl, row.length = rl := ⟨_, rfl⟩
          have Hrl := hide hrl
          have hrl140 : rl ≤ 140 := by rw [← hrl]; exact htm.1
          rw [hrl] at d0
          have Hd2 := hide ((d2.below (GlAt.stays _) hbwr).more hbwr.size)
          have e0 : wr.cell? ⟨bR, oR + k, none⟩ = some (.slice A1 rl c1) := (hbwr.cell (p := ⟨bR, oR + k, none⟩) hbR).trans d0
          clear hrl d0 d1 d2 htm
          have hlit := own_lit wr wr.heap.size 31 3 0 #[] (Nat.le_refl _) (by omega) rfl
          have hbl := (Below.refl wr.heap.size wr).alloc (Nat.le_refl _) (.cells #[] 31)
          have hsl : wr.heap.size ≤ (wr.alloc (.cells #[] 31)).heap.size := by simp
          have hwr1 : w.heap.size < wr.heap.size := by omega
          have hwr2 : bR < wr.heap.size := by omega
          have y2a : (wr.alloc (.cells #[] 31)).cell? ⟨w.heap.size, 2, none⟩ = some (.slice (some ⟨bR, oR, none⟩) n c) := (hbl.cell (p := ⟨w.heap.size, 2, none⟩) hwr1).trans y2
          have e0a : (wr.alloc (.cells #[] 31)).cell? ⟨bR, oR + k, none⟩ = some (.slice A1 rl c1) := (hbl.cell (p := ⟨bR, oR + k, none⟩) hwr2).trans e0
          have Hv1 := hide hv1
          have Hmade := hide hmade
          clear hv1 hmade
          go_upto_region 9 with (first
            | (at_builtin; refine wpList_gls (wr.alloc (.cells #[] 31)) (.tmp 26) (.tmp 31) 29 rfl (by rfl) el_glyph wr.heap.size _ 0 [] (by rfl) hlit hsl A1 c1 _ row rl Hrl.out (by rfl) (Hd2.out.below (GlAt.stays _) hbl) (by omega) rl (Nat.zero_add _) ?_; intro v6 w6 hown6 hg6; have hb6 := below_own hbl hlit hg6 (Nat.le_refl _) hsl; obtain ⟨A6, c6, rfl⟩ := own_form hown6; have Hown6 := hide hown6; have Hb6 := hide hb6; clear hown6 hb6 hg6)
            | fail)
          have hown0 : w6.ownsRow wr.heap.size 31 3 (.slice A6 rl c6) rl ((partly s row 0).flatMap Gl.enc) := by rw [partly_zero]; exact Hown6.out
          have hbx := Hb6.out
          clear Hown6 Hb6 hlit hbl hsl e0 y2a e0a
          go_wp2
          go_loopw [8] (fun i wi => ∃ j : Nat, j ≤ rl ∧ i = .int .i64 j ∧ wi.ownsRow wr.heap.size 31 3 (.slice A6 rl c6) rl ((partly s row j).flatMap Gl.enc) ∧ Below wr.heap.size wr wi) (fun i _ => rl - (intOf i).toNat)
          case atStart => exact ⟨0, Nat.zero_le _, rfl, hown0, hbx⟩
          case round =>
            clear hown0 hbx
            obtain ⟨j, hj, rfl, hown, hbi⟩ := hrel
            rename World => wi
            by_cases hlj : j < rl
            · have hljI : (j : Int) < (rl : Int) := by omega
              have hjr : j < row.length := by rw [Hrl.out]; exact hlj
              obtain ⟨g6, q6, he6, hg0, hg1⟩ := own_form1 hown (by omega)
              cases he6
              have hgl := flat_get (enc := Gl.enc) (sz := 3) (fun _ => rfl) (partly s row j) j row[j] 2 (.int .i64 row[j].style) (partly_get s row j hjr) rfl
              have cst := (hown.cellAt (j * 3 + 2) (by omega)).trans hgl
              have cfr := hown.frozenAt (j * 3 + 2)
              obtain ⟨ST, hST⟩ : ∃ x, row[j].style = x := ⟨_, rfl⟩
              rw [hST] at cst
              by_cases h3 : ST = 3
              · have q3 : (ST != 3) = false := by rw [h3]; rfl
                have Hp := hide (partly_same s row j hjr (by rw [hST]; exact h3))
                have Hown := hide hown
                have Hbi := hide hbi
                clear hgl hST h3 hown hbi
                go_wp2
                go_roundw
                case rel => exact ⟨j + 1, by omega, by go_num, by rw [Hp.out]; exact Hown.out, Hbi.out⟩
                case measure => simp [intOf]; omega
              · have q3 : (ST != 3) = true := by rw [bne_iff_ne]; exact h3
                obtain ⟨hst, hgr⟩ := hown.stored (j * 3 + 2) (.int .i64 s)
                rw [partly_set s row j hjr (by rw [hST]; exact h3)] at hst
                have Hst := hide hst
                have Hbi := hide (hbi.setCell (p := ⟨g6, j * 3 + 2, none⟩) hg0 (.int .i64 s))
                clear hgl hST h3 hst hgr hown hbi
                have hsI : 1 + (sm : Int) = s := Hs.out
                go_wp2
                go_roundw
                case rel => exact ⟨j + 1, by omega, by go_num, Hst.out, Hbi.out⟩
                case measure => simp [intOf]; omega
            · obtain rfl : j = rl := by omega
              have hpa : partly s row j = row.map (restyle s) := by rw [← Hrl.out]; exact partly_all s row
              rw [hpa] at hown
              have hml5 : (row.map (restyle s)).length = j := by rw [List.length_map]; exact Hrl.out
              obtain ⟨xs, hout, hins⟩ := Hmade.out.below hbi
              have hkl : ((v.rows.map fun l => l.map (restyle s)).take k).length = k := by rw [List.length_take, List.length_map, Hn.out]; omega
              rw [hkl] at hout
              obtain ⟨A2, c2, rfl⟩ := own_form hout
              have hv2 := block_below Hv1.out hbi (by omega)
              have z2 : wi.cell? ⟨w3.heap.size, 2, none⟩ = some (.slice A2 k c2) := cell_block hv2 2
              have Hins := hide hins
              have Hkl := hide hkl
              have Hown := hide (own_eq hown hml5.symm rfl)
              have hsi := hbi.size
              have hb3i := hbr.trans (hbi.mono hbr.size)
              have Hb3i := hide hb3i
              have Hml5 := hide hml5
              have Hv2 := hide hv2
              clear hins hkl hown hpa hbi hml5 hb3i hv2
              have hs3i : w3.heap.size + 1 ≤ wi.heap.size := by omega
              have z2a : (wi.alloc (.cells #[.slice A6 j c6] 29)).cell? ⟨w3.heap.size, 2, none⟩ = some (.slice A2 k c2) := (((Below.refl wi.heap.size wi).alloc (Nat.le_refl _) _).cell (p := ⟨w3.heap.size, 2, none⟩) (by show w3.heap.size < wi.heap.size; omega)).trans z2
              go_wp2_with (first
                | (at_builtin; refine wpList_app wi (.tmp 54) (.tmp 56) 22 rfl (by rfl) el_rows27 (w3.heap.size + 1) _ k xs (by rfl) hout hs3i #[.slice A6 j c6] 1 1 29 _ (by rfl) rfl rfl (by simp [Value.oneCell']) (by omega) ?_; intro v7 w7 hown7 hg7; have hb7 := below_own (Below.refl (w3.heap.size + 1) wi) hout hg7 (Nat.le_refl _) hs3i; have hv7 := block_below Hv2.out hb7 (Nat.lt_succ_self _); have k7 : w7.cell? ⟨w3.heap.size, 2, none⟩ = some (.slice A2 k c2) := cell_block hv7 2; have f7 : w7.frozen? ⟨w3.heap.size, 2, none⟩ = false := frozen_block hv7 2; obtain ⟨A7, c7, rfl⟩ := own_form hown7; have Hown7 := hide hown7; have Hg7 := hide hg7; have Hb7 := hide hb7; have Hv7 := hide hv7; clear hown7 hg7 hb7 hv7)
                | fail)
              go_roundw
              case rel =>
                have hout' := hout
                have hm := madeG_step (v6 := .slice A7 (k + 1) c7) Hrow.out hout Hins.out (b5 := wr.heap.size) (A5 := A6) (c5 := c6) (by rw [Hml5.out]; have := Hown.out; rw [Hml5.out] at this; exact this) (by omega) (by rw [Hml5.out]; exact Hown7.out) Hg7.out Hkl.out
                obtain ⟨xs7, m1, m2⟩ := hm
                refine ⟨k + 1, _, by omega, by go_num, heap_setCell_same w7 _ 2 _ _ (.slice A7 (k + 1) c7) Hv7.out, ⟨xs7, ownsRow_setCell_below m1 (Nat.lt_succ_self _) _, fun i r hr => ?_⟩, ((Hb3i.out.trans (Hb7.out.mono (Nat.le_succ _))).setCell (p := ⟨w3.heap.size, 2, none⟩) (Nat.le_refl _) _), ?_⟩
                · obtain ⟨u, hu, ho⟩ := m2 i r hr
                  exact ⟨u, hu, ownsRow_setCell_below ho (Nat.lt_succ_self _) _⟩
                · have := Hg7.out.size; simp at this ⊢; omega
              case measure => simp [intOf]; omega
        · obtain rfl : k = n := by omega
          have hrt : (v.rows.map fun l => l.map (restyle s)).take k = (v.styled s).rows := List.take_of_length_le (by rw [List.length_map, Hn.out]; exact Nat.le_refl _)
          rw [hrt] at hmade
          obtain ⟨A2, c2, rfl, -, hr2⟩ := hmade.reads
          have hl2 : (v.styled s).rows.length = k := by show (v.rows.map _).length = k; rw [List.length_map, Hn.out]
          have hbT : VwBox wr w3.heap.size (v.styled s) A2 c2 := hv1
          have HF2 := hide (fun w1 (hb : Below wr.heap.size wr w1) => findP w1 A2 c2 (v.styled s) ((hr2.below hb).more hb.size) (styled_tame Htame.out s) (HT.out.below (hbwr.trans (hb.mono hbwr.size))))
          rw [show (v.styled s).val A2 c2 = .agg #[.int .i64 v.width, .int .i64 v.height, .slice A2 k c2, .int .i64 v.row, .int .i64 v.col, .bool v.visible] by unfold Vw.val; rw [hl2]; rfl, progT_styled Hok.out Hs1.out.1 Hs1.out.2] at HF2
          rw [hl2] at hv1
          have hcl := Nat.le_trans (progT_len v) Htame.out.1
          obtain ⟨cs, hcs⟩ : ∃ cs, progT v = cs := ⟨_, rfl⟩
          rw [hcs] at hcl HF2
          simp only [hcs] at HF
          have HS0 := hide (fun (W2 : World) (hb : Below wr.heap.size wr W2) => And.intro (HK.out W2 (hb3r.trans (hb.mono hb3r.size))) (hbT.below hb (by omega)).cells)
          have HB := hide (fun (W2 : World) (hb : Below wr.heap.size wr W2) => hbwr.trans (hb.mono hbwr.size))
          have hbd := (Below.refl wr.heap.size wr).drew
          have HS1 : ∀ (W2 : World), Below wr.heap.size wr W2 → (W2.cell? ⟨w.heap.size, 0, none⟩ = some (.int .i64 v.width) ∧ W2.cell? ⟨w.heap.size, 1, none⟩ = some (.int .i64 v.height) ∧ W2.cell? ⟨w.heap.size, 2, none⟩ = some (.slice A k c) ∧ W2.cell? ⟨w.heap.size, 3, none⟩ = some (.int .i64 v.row) ∧ W2.cell? ⟨w.heap.size, 4, none⟩ = some (.int .i64 v.col) ∧ W2.cell? ⟨w.heap.size, 5, none⟩ = some (.bool v.visible)) ∧
              W2.cell? ⟨w3.heap.size, 0, none⟩ = some (.int .i64 v.width) ∧ W2.cell? ⟨w3.heap.size, 1, none⟩ = some (.int .i64 v.height) ∧ W2.cell? ⟨w3.heap.size, 2, none⟩ = some (.slice A2 k c2) ∧ W2.cell? ⟨w3.heap.size, 3, none⟩ = some (.int .i64 v.row) ∧ W2.cell? ⟨w3.heap.size, 4, none⟩ = some (.int .i64 v.col) ∧ W2.cell? ⟨w3.heap.size, 5, none⟩ = some (.bool v.visible) := fun W2 hb => by
            have hx := HS0.out W2 hb
            rw [hl2] at hx
            exact hx
          obtain ⟨⟨y0', y1', y2', y3', y4', y5'⟩, z0, z1, z2, z3, z4, z5⟩ := HS1 wr (Below.refl _ _)
          have HS := hide HS1
          clear hmade hr2 hrt hv1 hcs HS1 hl2 hbT HK HS0 y0' y1' y2' y3' y4' y5'
          go_wp2
          go_region_held3 (fun W2 => (W2.cell? ⟨w.heap.size, 0, none⟩ = some (.int .i64 v.width) ∧ W2.cell? ⟨w.heap.size, 1, none⟩ = some (.int .i64 v.height) ∧ W2.cell? ⟨w.heap.size, 2, none⟩ = some (.slice A k c) ∧ W2.cell? ⟨w.heap.size, 3, none⟩ = some (.int .i64 v.row) ∧ W2.cell? ⟨w.heap.size, 4, none⟩ = some (.int .i64 v.col) ∧ W2.cell? ⟨w.heap.size, 5, none⟩ = some (.bool v.visible)) ∧
              W2.cell? ⟨w3.heap.size, 0, none⟩ = some (.int .i64 v.width) ∧ W2.cell? ⟨w3.heap.size, 1, none⟩ = some (.int .i64 v.height) ∧ W2.cell? ⟨w3.heap.size, 2, none⟩ = some (.slice A2 k c2) ∧ W2.cell? ⟨w3.heap.size, 3, none⟩ = some (.int .i64 v.row) ∧ W2.cell? ⟨w3.heap.size, 4, none⟩ = some (.int .i64 v.col) ∧ W2.cell? ⟨w3.heap.size, 5, none⟩ = some (.bool v.visible))
            (first | exact HS.out _ hb8 | exact HS.out _ hb7 | exact HS.out _ hb6 | exact HS.out _ hb5 | exact HS.out _ hbd)
            (first
              | (go_at_call 6; refine (HA.out _ (HB.out _ hb7)).mono ?_; rintro e w8 ⟨rfl, hbL⟩; have hb8 := hb7.trans (hbL.mono hb7.size))
              | (go_at_call 7; refine (same27P w6 _ _ vg vg2 cs hown5b hown6 (by omega)).mono ?_; rintro e w7 ⟨rfl, hbK⟩; have hb7 := hb6.trans (hbK.mono hb6.size))
              | (go_at_call 8; refine (HF2.out _ hb5).mono ?_; rintro e w6 ⟨vg2, rfl, hown6, hbJ⟩; have hb6 := hb5.trans (hbJ.mono hb5.size); have hown5b := own_below hown5 hbJ (Nat.le_refl _))
              | (go_at_call 8; refine (HF.out _ (HB.out _ hbd)).mono ?_; rintro e w5 ⟨vg, rfl, hown5, hbI⟩; have hb5 := hbd.trans (hbI.mono hbd.size))
              | fail)
          all_goals
            go_wp2
            go_ret
            exact ⟨rfl, HB.out _ hb8⟩
end Go.Proofs.YtnhcelckgfmljaaDoor
