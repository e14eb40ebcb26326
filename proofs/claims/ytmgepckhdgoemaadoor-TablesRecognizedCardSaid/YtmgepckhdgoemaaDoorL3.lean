/- The example of chapter 24. -/
import Derived.Test.YtmgepckhdgoemaaDoorL2
import Derived.Test.YtmgepckhdgoemaaDoorT13
import Derived.Deep.RegionLaw
namespace Go.Proofs.YtmgepckhdgoemaaDoor
open Go.RowKit

def aw0 : ByteArray := ⟨#[78, 65, 77, 69, 32, 32, 32, 83, 73, 90, 69]⟩
def aw1 : ByteArray := ⟨#[97, 46, 116, 120, 116, 32, 32, 32, 32, 49, 50]⟩
def aw2 : ByteArray := ⟨#[98, 32, 32, 32, 32, 32, 32, 32, 51, 52, 53]⟩
def awV : Vw := textV 20 [aw0, aw1, aw2]
theorem aw_great : awV.great = false := by decide +kernel
theorem aw_err : awV.err = 0 := by decide +kernel
def awR : Rg := ⟨3, 0, -1, 0, 0, 3, 11, ⟨#[78, 65, 77, 69]⟩⟩
theorem aw_find : findT awV = [awR] := by kernel_rfl
theorem aw_cols : colsT awV awR = [⟨4, 0, -1, 0, 0, 3, 5, ⟨#[78, 65, 77, 69]⟩⟩, ⟨4, 0, -1, 0, 7, 3, 11, ⟨#[83, 73, 90, 69]⟩⟩] := by kernel_rfl
theorem aw_cell : cellT awV awR 2 1 = (⟨#[51, 52, 53]⟩, 0) := by kernel_rfl
theorem aw_nice : awV.Tame := Vw.tame aw_great

theorem aw_cells {w : World} {b : Nat} {A : Option Addr} {c : Nat} (h : VwBox w b awV A c) : w.cell? ⟨b, 0, none⟩ = some (.int .i64 20) ∧ w.cell? ⟨b, 1, none⟩ = some (.int .i64 3) ∧
    w.cell? ⟨b, 2, none⟩ = some (.slice A 3 c) ∧ w.cell? ⟨b, 3, none⟩ = some (.int .i64 0) ∧ w.cell? ⟨b, 4, none⟩ = some (.int .i64 0) ∧ w.cell? ⟨b, 5, none⟩ = some (.bool true) := h.cells
set_option maxRecDepth 100000 in
set_option maxHeartbeats 4000000 in
theorem awakeP (w : World) (hT : Tabs w) : Calls Tryd.prog 6 #[] w fun e w' => e = .returned (.bool true) ∧ Below w.heap.size w w' := by
  have hb0 : Below w.heap.size w (w.alloc (.cells #[.string aw0, .string aw1, .string aw2] 9)) := (Below.refl _ _).alloc (Nat.le_refl _) _
  have hsl : Sl (One .string) 1 (w.alloc (.cells #[.string aw0, .string aw1, .string aw2] 9)) (w.alloc (.cells #[.string aw0, .string aw1, .string aw2] 9)).heap.size (some ⟨w.heap.size, 0, none⟩) [aw0, aw1, aw2] :=
    Sl.of_block (One.lays _) (block_new _ _) (by simp) rfl
  have HText := hide (textP _ (some ⟨w.heap.size, 0, none⟩) 3 20 [aw0, aw1, aw2] hsl (by decide) (by decide +kernel))
  have HT := hide hT
  clear hT hsl
  rw [show textV 20 [aw0, aw1, aw2] = awV from rfl] at HText
  have hlen : awV.rows.length = 3 := rfl
  unfold Vw.val at HText
  rw [hlen] at HText
  have e1 : awV.width = 20 := rfl
  have e2 : awV.height = 3 := rfl
  have e3 : awV.row = 0 := rfl
  have e4 : awV.col = 0 := rfl
  have e5 : awV.visible = true := rfl
  rw [e1, e2, e3, e4, e5] at HText
  clear e1 e2 e3 e4 e5 hlen
  unfold aw0 aw1 aw2 at HText hb0
  simp only [List.length_cons, List.length_nil, Nat.zero_add, Nat.reduceAdd] at HText
  go_enter Tryd.func6, Tryd.ntmps6
  go_wp2_with fail
  refine HText.out.mono ?_
  rintro e w1 ⟨A, c, rfl, hc, hrows, hb1⟩
  have hbw1 := hb0.trans (hb1.mono hb0.size)
  have hT1 := HT.out.below hbw1
  have hbx1 : Below w1.heap.size w1 (w1.alloc (.cells #[.int .i64 20, .int .i64 3, .slice A 3 c, .int .i64 0, .int .i64 0, .bool true] 24)) := (Below.refl _ _).alloc (Nat.le_refl _) _
  have hvb0 : VwBox _ w1.heap.size awV A c := block_new w1 (.cells #[.int .i64 20, .int .i64 3, .slice A 3 c, .int .i64 0, .int .i64 0, .bool true] 24)
  have HF := hide (findP _ A c awV ((hrows.below hbx1).more hbx1.size) aw_nice (hT1.below hbx1) hc)
  rw [aw_find] at HF
  have HVal := hide (show awV.val A c = .agg #[.int .i64 20, .int .i64 3, .slice A 3 c, .int .i64 0, .int .i64 0, .bool true] from rfl)
  rw [HVal.out] at HF
  have Hrows := hide (fun w2 (hb2 : Below w1.heap.size w1 w2) => (hrows.below hb2).more hb2.size)
  have Hvb := hide hvb0
  have HT1 := hide hT1
  clear hvb0 hT1 hrows hb0 hb1 HText
  go_wp2_with fail
  refine HF.out.mono ?_
  rintro e w2 ⟨vv, rfl, hown, hb2⟩
  obtain ⟨go, co, rfl, hgo, hgl⟩ := own_form1 hown (by simp)
  have hb12 := hbx1.trans (hb2.mono hbx1.size)
  have hlen1 : [awR].length = 1 := rfl
  rw [hlen1] at hown ⊢
  have hs1 : w1.heap.size < w2.heap.size := by have := hb2.size; simp at this; omega
  have hvb2 := Hvb.out.below hb2 (by simp)
  obtain ⟨k0, k1, k2, k3, k4, k5⟩ := aw_cells hvb2
  have e0 := (hown.cellAt 0 (by omega)).trans (show _ = some (.int .i64 3) from rfl)
  have e1 := (hown.cellAt 1 (by omega)).trans (show _ = some (.int .i64 0) from rfl)
  have e2 := (hown.cellAt 2 (by omega)).trans (show _ = some (.int .i64 (-1)) from rfl)
  have e3 := (hown.cellAt 3 (by omega)).trans (show _ = some (.int .i64 0) from rfl)
  have e4 := (hown.cellAt 4 (by omega)).trans (show _ = some (.int .i64 0) from rfl)
  have e5 := (hown.cellAt 5 (by omega)).trans (show _ = some (.int .i64 3) from rfl)
  have e6 := (hown.cellAt 6 (by omega)).trans (show _ = some (.int .i64 11) from rfl)
  have e7 := (hown.cellAt 7 (by omega)).trans (show _ = some (.string ⟨#[78, 65, 77, 69]⟩) from rfl)
  have HE := hide (And.intro e0 (And.intro e1 (And.intro e2 (And.intro e3 (And.intro e4 (And.intro e5 (And.intro e6 e7)))))))
  clear hlen1
  have hbw2 := hbw1.trans (hb12.mono hbw1.size)
  have HC := hide (fun W (hb : Below w2.heap.size w2 W) => colsP W A c awV awR (Hrows.out W (hb12.trans (hb.mono (by omega)))) aw_nice (HT.out.below (hbw2.trans (hb.mono (by have := hbw2.size; omega)))) hc)
  rw [HVal.out, aw_cols, show awR.val = .agg #[.int .i64 3, .int .i64 0, .int .i64 (-1), .int .i64 0, .int .i64 0, .int .i64 3, .int .i64 11, .string ⟨#[78, 65, 77, 69]⟩] from rfl] at HC
  have HCell := hide (fun W (hb : Below w2.heap.size w2 W) => cellTP W A c awV awR 2 1 (Hrows.out W (hb12.trans (hb.mono (by omega)))) aw_nice (HT.out.below (hbw2.trans (hb.mono (by have := hbw2.size; omega)))) hc)
  rw [HVal.out, aw_cell, show awR.val = .agg #[.int .i64 3, .int .i64 0, .int .i64 (-1), .int .i64 0, .int .i64 0, .int .i64 3, .int .i64 11, .string ⟨#[78, 65, 77, 69]⟩] from rfl] at HCell
  have hdr : Below w2.heap.size w2 w2.drew := (Below.refl _ _).drew
  clear hbw1 hb12 hb2
  go_wp2
  go_region_law (first
    | (go_simp; go_at_call 8; refine (HC.out _ hdr).mono ?_; rintro e w3 ⟨vv3, rfl, hown3, hb3⟩; obtain ⟨go3, co3, rfl, hgo3, hgl3⟩ := own_form1 hown3 (by simp))
    | fail)
  all_goals
    have hb23 := hdr.trans hb3
    have hs3 := hb23.size
    have hvb3 := hvb2.below hb23 (by omega)
    obtain ⟨q0, q1, q2, q3, q4, q5⟩ := aw_cells hvb3
    obtain ⟨x0, x1, x2, x3, x4, x5, x6, x7⟩ := HE.out
    have y0 := (hb23.cell (p := ⟨go, 0, none⟩) hgl).trans x0
    have y1 := (hb23.cell (p := ⟨go, 1, none⟩) hgl).trans x1
    have y2 := (hb23.cell (p := ⟨go, 2, none⟩) hgl).trans x2
    have y3 := (hb23.cell (p := ⟨go, 3, none⟩) hgl).trans x3
    have y4 := (hb23.cell (p := ⟨go, 4, none⟩) hgl).trans x4
    have y5 := (hb23.cell (p := ⟨go, 5, none⟩) hgl).trans x5
    have y6 := (hb23.cell (p := ⟨go, 6, none⟩) hgl).trans x6
    have y7 := (hb23.cell (p := ⟨go, 7, none⟩) hgl).trans x7
    have c4 := (hown3.cellAt 4 (by simp)).trans (show _ = some (.int .i64 0) from rfl)
    have c6 := (hown3.cellAt 6 (by simp)).trans (show _ = some (.int .i64 5) from rfl)
    have c12 := (hown3.cellAt 12 (by simp)).trans (show _ = some (.int .i64 7) from rfl)
    have c14 := (hown3.cellAt 14 (by simp)).trans (show _ = some (.int .i64 11) from rfl)
    have hdr3 : Below w3.heap.size w3 w3.drew := (Below.refl _ _).drew
    clear x0 x1 x2 x3 x4 x5 x6 x7 k0 k1 k2 k3 k4 k5 e0 e1 e2 e3 e4 e5 e6 e7 hvb2 hvb3
    go_wp2
    go_region_law (first
      | (go_simp; go_at_call 9; refine (HCell.out _ (hb23.trans (hdr3.mono hs3))).mono ?_; rintro e w4 ⟨rfl, hb4⟩)
      | fail)
    all_goals
      have hb34 := hdr3.trans hb4
      have z4 := (hb34.cell (p := ⟨go3, 4, none⟩) hgl3).trans c4
      have z6 := (hb34.cell (p := ⟨go3, 6, none⟩) hgl3).trans c6
      have z12 := (hb34.cell (p := ⟨go3, 12, none⟩) hgl3).trans c12
      have z14 := (hb34.cell (p := ⟨go3, 14, none⟩) hgl3).trans c14
      clear q0 q1 q2 q3 q4 q5 y0 y1 y2 y3 y4 y5 y6 y7 c4 c6 c12 c14
      go_wp2
      go_ret
      exact ⟨rfl, (hbw2.trans (hb23.mono hbw2.size)).trans (hb34.mono (by have := hbw2.size; omega))⟩
end Go.Proofs.YtmgepckhdgoemaaDoor
