/- The walk of the law ProgressExchange. -/
import Derived.Test.YtalmbcelkllpjaaDoorW16
import Derived.Deep.RegionHeld3
import Derived.Deep.RegionLaw
import Derived.Deep.CutRange
import Derived.Deep.QuietTactic
import Derived.BigQuiet
import Derived.IntWalk
namespace Go.Proofs.YtalmbcelkllpjaaDoor
open Go.RowKit

theorem el_rows27 : ElemOf Tryd.prog 33 39 (.slice none 0 0) 1 24 := ⟨Tryd.underlying33, by kernel_rfl, rfl, by omega, by omega⟩
/-- Rows that the call has laid anew: their slices are the call's own, their glyphs are those of a world before. -/
def Heads (w0 w : World) (base : Nat) (v : Value) (rows : List (List Gl)) : Prop :=
  ∃ xs : List Value, w.ownsRow base 39 1 v rows.length xs ∧ ∀ (k : Nat) r, rows[k]? = some r → ∃ (A : Option Addr) (c : Nat), xs[k]? = some (Value.slice A r.length c) ∧ r.length ≤ c ∧ GlRow w0 w0.heap.size A r
theorem Heads.nil (w0 w : World) (base : Nat) : Heads w0 w base (.slice none 0 0) [] := ⟨[], World.ownsRow_nil _ _ _ _, fun k r h => by simp at h⟩
theorem Heads.below {w0 w w' : World} {base : Nat} {v : Value} {rows : List (List Gl)} (h : Heads w0 w base v rows) (hb : Below w.heap.size w w') : Heads w0 w' base v rows := by
  obtain ⟨xs, h1, h2⟩ := h
  exact ⟨xs, own_below h1 hb (Nat.le_refl _), h2⟩
theorem Heads.reads {w0 w : World} {base : Nat} {v : Value} {rows : List (List Gl)} (h : Heads w0 w base v rows) (hb : Below w0.heap.size w0 w) : ∃ A c, v = .slice A rows.length c ∧ rows.length ≤ c ∧ Rows2 w w.heap.size A rows := by
  obtain ⟨xs, hout, hins⟩ := h
  rcases hout.2 with ⟨rfl, h0⟩ | ⟨g, cap, cur, rfl, _, hh, hnc, _, _, htake⟩
  · exact ⟨none, 0, by rw [h0], by omega, Sl.nil h0⟩
  · refine ⟨some ⟨g, 0, none⟩, cap, rfl, hnc, fun _ => ⟨g, 0, rfl, block_lt hh, fun k r hr => ?_⟩⟩
    obtain ⟨A', c', hu, hc', hgl⟩ := hins k r hr
    refine ⟨A', c', ?_, hc', (hgl.below (GlAt.stays _) hb).more hb.size⟩
    have hk := (List.getElem?_eq_some_iff.1 hr).1
    have h1 := hout.cellAt k (by omega)
    rw [hu] at h1
    rw [Nat.zero_add, Nat.mul_one]
    exact h1
theorem Heads.step {w0 w6 : World} {base : Nat} {A6 : Option Addr} {k c6 c : Nat} {A : Option Addr} {xs : List Value} {rows rows' : List (List Gl)} {r : List Gl} (hr : rows' = rows ++ [r]) (hxl : xs.length = k) (hk : rows.length = k)
    (hins : ∀ (j : Nat) r, rows[j]? = some r → ∃ (A : Option Addr) (c : Nat), xs[j]? = some (Value.slice A r.length c) ∧ r.length ≤ c ∧ GlRow w0 w0.heap.size A r) (hc : r.length ≤ c) (hg : GlRow w0 w0.heap.size A r)
    (h6 : w6.ownsRow base 39 1 (.slice A6 (k + 1) c6) (k + 1) (xs ++ [.slice A r.length c])) : Heads w0 w6 base (.slice A6 (k + 1) c6) rows' := by
  subst hr
  refine ⟨xs ++ [.slice A r.length c], own_eq h6 (by simp [hk]) rfl, fun j x hx => ?_⟩
  by_cases hj : j < rows.length
  · rw [List.getElem?_append_left hj] at hx
    obtain ⟨A', c', hu, h2⟩ := hins j x hx
    exact ⟨A', c', by rw [List.getElem?_append_left (by omega)]; exact hu, h2⟩
  · rw [List.getElem?_append_right (by omega)] at hx
    have hj2 : j = rows.length := by
      have := (List.getElem?_eq_some_iff.1 hx).1
      simp at this
      omega
    subst hj2
    simp at hx
    subst hx
    exact ⟨A, c, by rw [List.getElem?_append_right (by omega), hxl, hk]; simp, hc, hg⟩
theorem Heads.set {w0 w : World} {base B1 i : Nat} {v u : Value} {rows : List (List Gl)} (h : Heads w0 w base v rows) (hB : B1 < base) : Heads w0 (w.setCell ⟨B1, i, none⟩ u) base v rows := by
  obtain ⟨xs, h1, h2⟩ := h
  exact ⟨xs, ownsRow_setCell_below h1 hB _, h2⟩
/-- The view with its rows in the opposite order. -/
def Vw.turned (v : Vw) : Vw := ⟨v.width, v.height, v.rows.reverse, v.row, v.col, v.visible⟩

theorem turned_tame {v : Vw} (h : v.Tame) : v.turned.Tame := ⟨by show v.rows.reverse.length ≤ 12; rw [List.length_reverse]; exact h.1, fun r hr => h.2 r (List.mem_reverse.1 hr)⟩
theorem turned_ok {v : Vw} (h : v.ok = true) : v.turned.ok = true := ok_rows h (by simp) fun r hr => (Vw.proper h).rows r (List.mem_reverse.1 hr)
theorem progT_flip {v : Vw} (h : v.ok = true) : (progT v).length = (progT v.turned).length ∧ ∀ (k : Nat) (r : Rg), (progT v)[k]? = some r → ∃ r', (progT v.turned)[(progT v).length - 1 - k]? = some r' ∧ r = Rg.flip v.height r' := by
  have e1 : progT v = progL 0 v.rows := by unfold progT; rw [if_pos h]
  have e2 : progT v.turned = progL 0 v.rows.reverse := by unfold progT; rw [if_pos (turned_ok h)]; rfl
  have e3 := progL_flip v.rows 0
  rw [← e1, ← e2, show ((0 : Nat) : Int) + v.rows.length = v.height by have := (Vw.proper h).len; omega] at e3
  have el : (progT v).length = (progT v.turned).length := by rw [e3]; simp
  refine ⟨el, fun k r hr => ?_⟩
  have hk := (List.getElem?_eq_some_iff.1 hr).1
  rw [e3, List.getElem?_map, List.getElem?_reverse (by omega), Option.map_eq_some_iff] at hr
  obtain ⟨r', h1, h2⟩ := hr
  exact ⟨r', by rw [el]; exact h1, h2.symm⟩

set_option maxRecDepth 100000 in
set_option maxHeartbeats 8000000 in
theorem exchangeLawP (w : World) (A : Option Addr) (c : Nat) (v : Vw) (h : Rows2 w w.heap.size A v.rows) (hT : Tabs27 w) :
    Calls Tryd.prog 7 #[v.val A c] w fun e w' => e = .returned (.bool true) ∧ Below w.heap.size w w' := by
  have hbox := (Below.refl w.heap.size w).alloc (Nat.le_refl _) (.cells #[.int .i64 v.width, .int .i64 v.height, .slice A v.rows.length c, .int .i64 v.row, .int .i64 v.col, .bool v.visible] 35)
  have hvb : VwBox _ w.heap.size v A c := block_new w (.cells #[.int .i64 v.width, .int .i64 v.height, .slice A v.rows.length c, .int .i64 v.row, .int .i64 v.col, .bool v.visible] 35)
  obtain ⟨W0, hW0⟩ : ∃ W0, w.alloc (.cells #[.int .i64 v.width, .int .i64 v.height, .slice A v.rows.length c, .int .i64 v.row, .int .i64 v.col, .bool v.visible] 35) = W0 := ⟨_, rfl⟩
  have hs0 : W0.heap.size = w.heap.size + 1 := by rw [← hW0]; simp
  rw [hW0] at hbox hvb
  have HG := hide (greatP W0 A c v ((h.below hbox).more hbox.size))
  have HA := hide (fun w1 (hb : Below w.heap.size w w1) => awakeP w1 (hT.below hb))
  have HK := hide (fun w1 (hb1 : Below W0.heap.size W0 w1) => (hvb.below hb1 (by omega)).cells)
  obtain ⟨k0, k1, k2, k3, k4, k5⟩ := hvb.cells
  have HW0 := hide hW0
  have Hs0 := hide hs0
  cases hg : v.great with
  | true =>
    rw [hg] at HG
    rw [← hW0] at HG hbox k0 k1 k2 k3 k4 k5
    clear h hT hvb hs0 hW0
    unfold Vw.val at HG ⊢
    go_enter Tryd.func7, Tryd.ntmps7
    go_wp2_with (first
      | (go_at_call 17; refine HG.out.mono ?_; rintro e w1 ⟨rfl, hb1⟩; have hbw := hbox.trans (hb1.mono (by simp)))
      | (go_at_call 11; refine (HA.out _ hbw).mono ?_; rintro e w2 ⟨rfl, hb2⟩)
      | fail)
    go_ret
    exact ⟨rfl, hbw.trans (hb2.mono hbw.size)⟩
  | false =>
    have htame := Vw.tame hg
    have HC := hide (fun w1 (hb : Below w.heap.size w w1) => checkV w1 A c v ((h.below hb).more hb.size) htame (hT.1.below hb))
    rw [hg] at HG
    rw [← hW0] at HG hbox k0 k1 k2 k3 k4 k5
    have Hh := hide h
    have HT := hide hT
    have Htame := hide htame
    have hl12 := htame.1
    cases hok : v.ok with
    | false =>
      have hne : (v.err != 0) = true := by unfold Vw.ok at hok; simpa using hok
      clear h hT hvb hs0 hW0 htame hg hok
      obtain ⟨V, hV⟩ : ∃ V, v.err = V := ⟨_, rfl⟩
      simp only [hV] at HC hne
      clear hV
      unfold Vw.val at HG HC ⊢
      go_enter Tryd.func7, Tryd.ntmps7
      go_wp2_with (first
        | (go_at_call 17; refine HG.out.mono ?_; rintro e w1 ⟨rfl, hb1⟩; have hbw := hbox.trans (hb1.mono (by simp)); rw [HW0.out] at hb1; obtain ⟨x0, x1, x2, x3, x4, x5⟩ := HK.out w1 hb1)
        | (go_at_call 18; refine (HC.out _ hbw).mono ?_; rintro e w3 ⟨rfl, hb3⟩; have hbw3 := hbw.trans (hb3.mono hbw.size))
        | (go_at_call 11; refine (HA.out _ hbw3).mono ?_; rintro e w2 ⟨rfl, hb2⟩)
        | fail)
      go_ret
      exact ⟨rfl, hbw3.trans (hb2.mono hbw3.size)⟩
    | true =>
      have he : v.err = 0 := by unfold Vw.ok at hok; simpa using hok
      have Hlen := hide (Vw.proper hok).len
      have HF := hide (fun w1 (hb : Below w.heap.size w w1) => findP w1 A c v ((h.below hb).more hb.size) htame (hT.below hb))
      have Hok := hide hok
      simp only [he] at HC
      obtain ⟨n, hn⟩ : ∃ n, v.rows.length = n := ⟨_, rfl⟩
      have Hn := hide hn
      clear h hT hvb hs0 hW0 htame hg hok he
      unfold Vw.val at HG HC HF ⊢
      rw [hn] at HG HC HF hl12 k2 hbox ⊢
      simp only [hn] at HK
      clear hn
      go_enter Tryd.func7, Tryd.ntmps7
      go_wp2_with (first
        | (go_at_call 17; refine HG.out.mono ?_; rintro e w1 ⟨rfl, hb1⟩; have hbw := hbox.trans (hb1.mono (by simp)); have hb1' := hb1; rw [← Hn.out] at hb1'; rw [HW0.out] at hb1'; obtain ⟨x0, x1, x2, x3, x4, x5⟩ := HK.out w1 hb1')
        | (go_at_call 18; refine (HC.out _ hbw).mono ?_; rintro e w3 ⟨rfl, hb3⟩; have hb13 := hb1'.trans (hb3.mono hb1'.size); have hbw3 := hbw.trans (hb3.mono hbw.size); obtain ⟨y0, y1, y2, y3, y4, y5⟩ := HK.out w3 hb13; have hlw : w.heap.size < w3.heap.size := (by have := hb13.size; have := Hs0.out; omega); have hlwn : w.heap.size ≠ w3.heap.size := (by omega))
        | fail)
      have hbB := (Below.refl w3.heap.size w3).alloc (Nat.le_refl _) (.cells #[.int .i64 v.width, .int .i64 v.height, .slice none 0 0, .int .i64 v.row, .int .i64 v.col, .bool v.visible] 35)
      have hblk := block_new w3 (.cells #[.int .i64 v.width, .int .i64 v.height, .slice none 0 0, .int .i64 v.row, .int .i64 v.col, .bool v.visible] 35)
      clear x0 x1 x2 x3 x4 x5 k0 k1 k2 k3 k4 k5 hb1 hb1' hbox y0 y1 y2 y3 y4 y5
      have Hb13 := hide hb13
      have Hbw3 := hide hbw3
      clear hb13 hbw3 hbw hb3
      go_loopw [4] (fun i wr => ∃ (k : Nat) (vv : Value), k ≤ n ∧ i = .int .i64 ((n : Int) - 1 - k) ∧ wr.heap[w3.heap.size]? = some (.cells #[.int .i64 v.width, .int .i64 v.height, vv, .int .i64 v.row, .int .i64 v.col, .bool v.visible] 35) ∧ Heads w wr (w3.heap.size + 1) vv (v.rows.reverse.take k) ∧ Below w3.heap.size w3 wr ∧ w3.heap.size + 1 ≤ wr.heap.size) (fun i _ => ((intOf i) + 1).toNat)
      case atStart => exact ⟨0, .slice none 0 0, Nat.zero_le _, int_eq (by omega), hblk, Heads.nil _ _ _, hbB, by simp⟩
      case round =>
        obtain ⟨k, vv, hk, rfl, hv1, hmade, hbr, hsz⟩ := hrel
        rename World => wr
        have hb3r := Hb13.out.trans (hbr.mono Hb13.out.size)
        obtain ⟨y0, y1, y2, y3, y4, y5⟩ := HK.out wr hb3r
        have hbwr := Hbw3.out.trans (hbr.mono Hbw3.out.size)
        by_cases hlt : k < n
        · obtain ⟨m, hm⟩ : ∃ m, n = k + 1 + m := ⟨n - (k + 1), by omega⟩
          have hml : m < v.rows.length := by rw [Hn.out]; omega
          have Hrev := hide (show v.rows.reverse.take (k + 1) = v.rows.reverse.take k ++ [v.rows[m]] by
            rw [List.take_succ_eq_append_getElem (by rw [List.length_reverse, Hn.out]; omega), List.getElem_reverse]
            congr 3
            have := Hn.out
            omega)
          obtain ⟨bR, oR, rfl, hbR, A1, c1, d0, d1, d2⟩ := Hh.out.get1 hml
          obtain ⟨row, hrow⟩ : ∃ row, v.rows[m] = row := ⟨_, rfl⟩
          rw [hrow] at d0 d1 d2 Hrev
          clear hrow
          obtain ⟨rl, hrl⟩ : ∃ rl, row.length = rl := ⟨_, rfl⟩
          have Hrl := hide hrl
          rw [hrl] at d0
          have Hd1 := hide d1
          have Hd2 := hide d2
          have e0 : wr.cell? ⟨bR, oR + m, none⟩ = some (.slice A1 rl c1) := (hbwr.cell (p := ⟨bR, oR + m, none⟩) hbR).trans d0
          clear hrl d0 d1 d2
          have hmi : (n : Int) - 1 - k = m := by omega
          rw [hmi]
          obtain ⟨xs, hout, hins⟩ := hmade
          have hkl : (v.rows.reverse.take k).length = k := by rw [List.length_take, List.length_reverse, Hn.out]; omega
          rw [hkl] at hout
          have Hins := hide hins
          obtain ⟨A2, c2, rfl⟩ := own_form hout
          have e5 : wr.cell? ⟨w3.heap.size, 2, none⟩ = some (.slice A2 k c2) := cell_block hv1 2
          have f5 : wr.frozen? ⟨w3.heap.size, 2, none⟩ = false := frozen_block hv1 2
          have hbrl := hbwr.size
          have Hkl := hide hkl
          clear hins hkl hmi
          have hbA := ((Below.refl wr.heap.size wr).alloc (Nat.le_refl _) (.cells #[.slice A1 rl c1] 39)).drew
          have hoA := own_below hout hbA (Nat.le_refl _)
          have hsA : wr.heap.size + 1 = ((wr.alloc (.cells #[.slice A1 rl c1] 39)).drew).heap.size := by simp
          have hnew := block_new wr (.cells #[.slice A1 rl c1] 39)
          have hcX : ∀ (j : Nat) (u : Value), [Value.slice A1 rl c1][j]? = some u → ((wr.alloc (.cells #[.slice A1 rl c1] 39)).drew).cell? ⟨wr.heap.size, 0 + j, none⟩ = some u := fun j u hu => by
            rw [Nat.zero_add]
            exact (cell_block hnew j).trans (by simpa using hu)
          have hb3 : w3.heap.size < wr.heap.size := by omega
          have eA : ((wr.alloc (.cells #[.slice A1 rl c1] 39)).drew).cell? ⟨w3.heap.size, 2, none⟩ = some (.slice A2 k c2) := (hbA.cell (p := ⟨w3.heap.size, 2, none⟩) hb3).trans e5
          have Hv1 := hide hv1
          clear hv1 hnew
          have hmi0 : (0 : Int) ≤ (m : Int) := by omega
          have hmin : (m : Int) < (n : Int) := by omega
          have Hm := hide hm
          clear hm
          go_wp2
          go_region_law (first
            | (refine step_apps el_rows27 (wr.alloc (.cells #[.slice A1 rl c1] 39)).drew (.tmp 28) (.tmp 34) (by rfl) (by rfl) (w3.heap.size + 1) _ k xs (by rfl) hoA (by omega) wr.heap.size 0 1 1 [.slice A1 rl c1] (by rfl) (by omega) rfl hcX (by simp [Value.oneCell']) (by omega) (k + 1) rfl ?_; intro g6 cap6 w6 hown6 hg6 _; have hv6 := (hg6.block w3.heap.size (by omega) (fun he => absurd (hoA.lt _ he.symm).1 (by omega))).trans (block_below Hv1.out hbA (by omega)); have k6 : w6.cell? ⟨w3.heap.size, 2, none⟩ = some (.slice A2 k c2) := cell_block hv6 2; have f6 : w6.frozen? ⟨w3.heap.size, 2, none⟩ = false := frozen_block hv6 2; replace hv6 := hide hv6)
            | fail)
          all_goals
            have hmade7 := (Heads.step (w0 := w) Hrev.out (by have := hout.1; simpa using this) Hkl.out Hins.out Hd1.out Hd2.out (by rw [Hrl.out]; exact hown6)).set (B1 := w3.heap.size) (i := 2) (u := .slice (some ⟨g6, 0, none⟩) (k + 1) cap6) (Nat.lt_succ_self _)
            have hB6 := below_own (hbr.trans (hbA.mono hbr.size)) (own_more hoA (Nat.le_succ _)) hg6 (Nat.le_refl _) (by omega)
            have hB7 : Below w3.heap.size w3 (w6.setCell ⟨w3.heap.size, 2, none⟩ (.slice (some ⟨g6, 0, none⟩) (k + 1) cap6)) := hB6.setCell (p := ⟨w3.heap.size, 2, none⟩) (Nat.le_refl _) _
            have hv7 := heap_setCell_same w6 _ 2 _ _ (.slice (some ⟨g6, 0, none⟩) (k + 1) cap6) hv6.out
            have hs7 : w3.heap.size + 1 ≤ (w6.setCell ⟨w3.heap.size, 2, none⟩ (.slice (some ⟨g6, 0, none⟩) (k + 1) cap6)).heap.size := by have := hg6.size; simp at this ⊢; omega
            obtain ⟨W7, hW7⟩ : ∃ W7, w6.setCell ⟨w3.heap.size, 2, none⟩ (.slice (some ⟨g6, 0, none⟩) (k + 1) cap6) = W7 := ⟨_, rfl⟩
            rw [hW7] at hmade7 hB7 hv7 hs7 ⊢
            clear hW7 k6 f6 hown6 hg6 hoA eA e5 f5 hB6
            have Hv7 := hide hv7
            clear hv7
            go_wp2
            go_roundw
            case rel => exact ⟨k + 1, _, by have := Hm.out; omega, int_eq (by have := Hm.out; omega), Hv7.out, hmade7, hB7, hs7⟩
            case measure => simp [intOf]
        · obtain rfl : k = n := by omega
          have hrt : v.rows.reverse.take k = v.turned.rows := List.take_of_length_le (by rw [List.length_reverse, Hn.out]; omega)
          rw [hrt] at hmade
          obtain ⟨A2, c2, rfl, -, hr2⟩ := hmade.reads hbwr
          have hl2 : v.turned.rows.length = k := by show v.rows.reverse.length = k; rw [List.length_reverse, Hn.out]
          have hbT : VwBox wr w3.heap.size v.turned A2 c2 := hv1
          have HF2 := hide (fun w1 (hb : Below wr.heap.size wr w1) => findP w1 A2 c2 v.turned ((hr2.below hb).more hb.size) (turned_tame Htame.out) (HT.out.below (hbwr.trans (hb.mono hbwr.size))))
          rw [show v.turned.val A2 c2 = .agg #[.int .i64 v.width, .int .i64 v.height, .slice A2 k c2, .int .i64 v.row, .int .i64 v.col, .bool v.visible] by unfold Vw.val; rw [hl2]; rfl] at HF2
          rw [hl2] at hv1
          rw [show (k : Int) - 1 - k = -1 by omega]
          have hflen := (progT_flip Hok.out).1
          have Hflip := hide (progT_flip Hok.out).2
          have hpl := progT_len v
          rw [Hn.out] at hpl
          obtain ⟨P, hP⟩ : ∃ P, (progT v).length = P := ⟨_, rfl⟩
          rw [hP] at hflen hpl
          simp only [hP] at HF
          simp only [← hflen] at HF2
          have HP := hide hP
          have Hfl := hide hflen
          clear hflen hP hr2 hl2 hmade hrt hv1
          have HS0 := hide (fun (W2 : World) (hb : Below wr.heap.size wr W2) => And.intro (HK.out W2 (hb3r.trans (hb.mono hb3r.size))) (hbT.below hb (by omega)).cells)
          have HB := hide (fun (W2 : World) (hb : Below wr.heap.size wr W2) => hbwr.trans (hb.mono hbwr.size))
          obtain ⟨-, z0, z1, z2, z3, z4, z5⟩ := HS0.out wr (Below.refl _ _)
          have hbd := (Below.refl wr.heap.size wr).drew
          have HS1 : ∀ (W2 : World), Below wr.heap.size wr W2 → (W2.cell? ⟨w.heap.size, 0, none⟩ = some (.int .i64 v.width) ∧ W2.cell? ⟨w.heap.size, 1, none⟩ = some (.int .i64 v.height) ∧ W2.cell? ⟨w.heap.size, 2, none⟩ = some (.slice A k c) ∧ W2.cell? ⟨w.heap.size, 3, none⟩ = some (.int .i64 v.row) ∧ W2.cell? ⟨w.heap.size, 4, none⟩ = some (.int .i64 v.col) ∧ W2.cell? ⟨w.heap.size, 5, none⟩ = some (.bool v.visible)) ∧
              W2.cell? ⟨w3.heap.size, 0, none⟩ = some (.int .i64 v.width) ∧ W2.cell? ⟨w3.heap.size, 1, none⟩ = some (.int .i64 v.height) ∧ W2.cell? ⟨w3.heap.size, 2, none⟩ = some (.slice A2 k c2) ∧ W2.cell? ⟨w3.heap.size, 3, none⟩ = some (.int .i64 v.row) ∧ W2.cell? ⟨w3.heap.size, 4, none⟩ = some (.int .i64 v.col) ∧ W2.cell? ⟨w3.heap.size, 5, none⟩ = some (.bool v.visible) := fun W2 hb => by
            have hx := HS0.out W2 hb
            rw [show v.turned.rows.length = k by show v.rows.reverse.length = k; rw [List.length_reverse, Hn.out]] at hx
            exact hx
          go_wp2
          go_region_held3 (fun W2 => (W2.cell? ⟨w.heap.size, 0, none⟩ = some (.int .i64 v.width) ∧ W2.cell? ⟨w.heap.size, 1, none⟩ = some (.int .i64 v.height) ∧ W2.cell? ⟨w.heap.size, 2, none⟩ = some (.slice A k c) ∧ W2.cell? ⟨w.heap.size, 3, none⟩ = some (.int .i64 v.row) ∧ W2.cell? ⟨w.heap.size, 4, none⟩ = some (.int .i64 v.col) ∧ W2.cell? ⟨w.heap.size, 5, none⟩ = some (.bool v.visible)) ∧
              W2.cell? ⟨w3.heap.size, 0, none⟩ = some (.int .i64 v.width) ∧ W2.cell? ⟨w3.heap.size, 1, none⟩ = some (.int .i64 v.height) ∧ W2.cell? ⟨w3.heap.size, 2, none⟩ = some (.slice A2 k c2) ∧ W2.cell? ⟨w3.heap.size, 3, none⟩ = some (.int .i64 v.row) ∧ W2.cell? ⟨w3.heap.size, 4, none⟩ = some (.int .i64 v.col) ∧ W2.cell? ⟨w3.heap.size, 5, none⟩ = some (.bool v.visible))
            (first | exact HS1 _ hb6 | exact HS1 _ hb5 | exact HS1 _ hbd)
            (first
              | (go_at_call 19; refine (HF2.out _ hb5).mono ?_; rintro e w6 ⟨vg2, rfl, hown6, hbJ⟩; have hb6 := hb5.trans (hbJ.mono hb5.size); have hown5b := own_below hown5 hbJ (Nat.le_refl _))
              | (go_at_call 19; refine (HF.out _ (HB.out _ hbd)).mono ?_; rintro e w5 ⟨vg, rfl, hown5, hbI⟩; have hb5 := hbd.trans (hbI.mono hbd.size))
              | fail)
          have hbw6 := HB.out _ hb6
          have hs6 := hb6.size
          have hS6 := (HS1 _ hb6).1.2.1
          have HS6 := hide (fun (W2 : World) (hb : Below w6.heap.size w6 W2) => (HS1 W2 (hb6.trans (hb.mono hs6))).1.2.1)
          have hw6 : w.heap.size < w6.heap.size := by omega
          have hw6n : w.heap.size ≠ w6.heap.size := by omega
          obtain ⟨Ag, cg, rfl⟩ := own_form hown5b
          obtain ⟨Ah, ch, rfl⟩ := own_form hown6
          have H5 := hide hown5b
          have H6 := hide hown6
          have hh60 : v.height ≤ 60 := (Vw.proper Hok.out).h2
          have hh1 : 1 ≤ v.height := (Vw.proper Hok.out).h1
          have Hsays := hide (fun (k : Nat) (r : Rg) (h : (progT v.turned)[k]? = some r) => reg_says (turned_ok Hok.out) k r h)
          clear hown5 hown5b hown6 hbI hbJ hb5 hbd HS1 z0 z1 z2 z3 z4 z5 y0 y1 y2 y3 y4 y5
          go_wp2
          go_loopw [7] (fun i wr => ∃ j : Nat, j ≤ P ∧ i = .int .i64 j ∧ Below w6.heap.size w6 wr) (fun i _ => P - (intOf i).toNat)
          case atStart => exact ⟨0, Nat.zero_le _, rfl, Below.refl _ _⟩
          case round =>
            rename World => wo
            obtain ⟨j, hj, rfl, hbo⟩ := hrel
            have hso := hbo.size
            have hx1 := HS6.out wo hbo
            by_cases hlt2 : j < P
            · obtain ⟨q, hq⟩ : ∃ q, P = j + 1 + q := ⟨P - (j + 1), by omega⟩
              obtain ⟨r, hr⟩ : ∃ r, (progT v)[j]? = some r := ⟨_, List.getElem?_eq_getElem (by rw [HP.out]; exact hlt2)⟩
              obtain ⟨r', hr', hrr⟩ := Hflip.out j r hr
              rw [HP.out, show P - 1 - j = q by omega] at hr'
              obtain ⟨t, row, nn, a, b, rfl, hsay⟩ := Hsays.out q r' hr'
              have ht := hsay.gtop
              have h5o := own_below H5.out hbo (Nat.le_refl _)
              have h6o := own_below H6.out hbo (Nat.le_refl _)
              obtain ⟨g1, d1, he1, -, hg1⟩ := own_form1 h5o (by omega)
              obtain ⟨g2, d2, he2, -, hg2⟩ := own_form1 h6o (by omega)
              cases he1
              cases he2
              unfold Rg.flip at hrr
              dsimp only at hrr
              subst hrr
              have hf : ∀ i u, (Rg.enc ⟨8, 0, -1, v.height - 1 - t, a, v.height - t, b, labelB nn⟩)[i]? = some u → wo.cell? ⟨g1, j * 8 + i, none⟩ = some u := fun i u hu => by
                have hi : i < 8 := (List.getElem?_eq_some_iff.1 hu).1
                have hfl := flat_get (enc := Rg.enc) (sz := 8) (fun _ => rfl) (progT v) j _ i u hr hu
                rw [h5o.cellAt (j * 8 + i) (by omega), hfl]
              have hf2 : ∀ i u, (Rg.enc ⟨8, 0, -1, t, a, (t : Int) + 1, b, labelB nn⟩)[i]? = some u → wo.cell? ⟨g2, q * 8 + i, none⟩ = some u := fun i u hu => by
                have hi : i < 8 := (List.getElem?_eq_some_iff.1 hu).1
                have hfl := flat_get (enc := Rg.enc) (sz := 8) (fun _ => rfl) (progT v.turned) q _ i u hr' hu
                rw [h6o.cellAt (q * 8 + i) (by omega), hfl]
              have p0 := hf 0 _ rfl
              have p1 := hf 1 _ rfl
              have p2 := hf 2 _ rfl
              have p3 := hf 3 _ rfl
              have p4 := hf 4 _ rfl
              have p5 := hf 5 _ rfl
              have p6 := hf 6 _ rfl
              have p7 := hf 7 _ rfl
              have q0 := hf2 0 _ rfl
              have q1 := hf2 1 _ rfl
              have q2 := hf2 2 _ rfl
              have q3 := hf2 3 _ rfl
              have q4 := hf2 4 _ rfl
              have q5 := hf2 5 _ rfl
              have q6 := hf2 6 _ rfl
              have q7 := hf2 7 _ rfl
              rw [Nat.add_zero] at p0 q0
              dsimp only at p0 p1 p2 p3 p4 p5 p6 p7 q0 q1 q2 q3 q4 q5 q6 q7 ht
              have hqi : (P : Int) - 1 - (j : Int) = (q : Int) := by omega
              have hqP : (q : Int) < (P : Int) := by omega
              have hq0 : (0 : Int) ≤ (q : Int) := by omega
              have hjP : (j : Int) < (P : Int) := by omega
              have htH : (t : Int) < v.height := ht
              have hwo : w.heap.size < wo.heap.size := by omega
              have hwon : w.heap.size ≠ wo.heap.size := by omega
              have hq12 : q ≤ 12 := by omega
              have Hq := hide hq
              clear hf hf2 hr hr' hsay ht h5o h6o hq
              go_wp2
              have hs5 := World.size_alloc wo (.cells #[.int .i64 8, .int .i64 0, .int .i64 (-1), .int .i64 t, .int .i64 a, .int .i64 ((t : Int) + 1), .int .i64 b, .string (labelB nn)] 43)
              have e1 : IntKind.i64.wrap (v.height - 1) = v.height - 1 := IntWalk.i64_in _ (by omega)
              have e2 : IntKind.i64.wrap (v.height - 1 - (t : Int)) = v.height - 1 - t := IntWalk.i64_in _ (by omega)
              have e3 : IntKind.i64.wrap (v.height - (t : Int)) = v.height - t := IntWalk.i64_in _ (by omega)
              go_cut [] from 60 to 72 (fun wx => wx = (wo.alloc (.cells #[.int .i64 8, .int .i64 0, .int .i64 (-1), .int .i64 (v.height - 1 - t), .int .i64 a, .int .i64 (v.height - t), .int .i64 b, .string (labelB nn)] 43)).drew)
              case first =>
                go_region_law (fail)
                all_goals
                  go_wp2_with fail
                  go_meet
                  case rel => rfl
              case rest =>
                have hb5 : Below wo.heap.size wo wc := by rw [hcut]; exact ((Below.refl _ _).alloc (Nat.le_refl _) _).drew
                have hbox5 : wc.heap[wo.heap.size]? = some (.cells #[.int .i64 8, .int .i64 0, .int .i64 (-1), .int .i64 (v.height - 1 - t), .int .i64 a, .int .i64 (v.height - t), .int .i64 b, .string (labelB nn)] 43) := by rw [hcut]; exact block_new _ _
                have pp : ∀ i u, wo.cell? ⟨g1, i, none⟩ = some u → wc.cell? ⟨g1, i, none⟩ = some u := fun i u h => (hb5.cell (p := ⟨g1, i, none⟩) hg1).trans h
                have p0' := pp _ _ p0
                have p1' := pp _ _ p1
                have p2' := pp _ _ p2
                have p3' := pp _ _ p3
                have p4' := pp _ _ p4
                have p5' := pp _ _ p5
                have p6' := pp _ _ p6
                have p7' := pp _ _ p7
                have bb := fun i => cell_block hbox5 i
                have b0 := bb 0
                have b1 := bb 1
                have b2 := bb 2
                have b3 := bb 3
                have b4 := bb 4
                have b5 := bb 5
                have b6 := bb 6
                have b7 := bb 7
                have hB5 := hbo.trans (hb5.mono hso)
                clear hcut pp bb p0 p1 p2 p3 p4 p5 p6 p7 q0 q1 q2 q3 q4 q5 q6 q7 hbox5 e1 e2 e3 hqi
                go_wp2
                go_quiet (fail)
                go_wp2
                go_roundw
                case rel => first | exact ⟨j + 1, by omega, by go_num, below_drewN hB5 _⟩ | ((repeat apply Exists.intro); exact ⟨⟨by omega, by go_num, below_drewN hB5 _⟩, rfl⟩)
                case measure => simp [intOf]; omega
            · obtain rfl : j = P := by omega
              have HA2 := hide (HA.out wo (hbw6.trans (hbo.mono hbw6.size)))
              clear HA
              go_wp2_with (go_at_call 11; refine HA2.out.mono ?_; rintro e w7 ⟨rfl, hb7⟩)
              go_ret
              exact ⟨rfl, (hbw6.trans (hbo.mono hbw6.size)).trans (hb7.mono (by omega))⟩
end Go.Proofs.YtalmbcelkllpjaaDoor
