/- The statements' example of the chapter on frames; the statements' bound on views. -/
import Derived.Test.YtdgmjbcfopkibaaDoorF8
import Derived.Test.YtdgmjbcfopkibaaDoorF12
import Derived.Test.YtdgmjbcfopkibaaDoorV10
namespace Go.Proofs.YtdgmjbcfopkibaaDoor
open Go.RowKit

def aw1 : ByteArray := ⟨#[43, 45, 97, 45, 43]⟩
def aw2 : ByteArray := ⟨#[124, 32, 32, 32, 124]⟩
def aw3 : ByteArray := ⟨#[43, 45, 45, 45, 43]⟩
def awV : Vw := screenV 5 [aw1, aw2, aw3]
theorem aw_frames : framesT awV = [⟨2, 0, -1, 0, 0, 3, 5, ⟨#[97]⟩⟩] := by kernel_rfl
theorem aw_ok : awV.great = false := by decide +kernel
theorem aw_plain : ∀ s ∈ [aw1, aw2, aw3], Plain s := by
  intro s hs
  simp only [List.mem_cons, List.mem_nil_iff, or_false] at hs
  rcases hs with rfl | rfl | rfl
  · exact ⟨by decide, by decide +kernel, 4, ⟨#[43]⟩, by decide, by kernel_rfl, by decide +kernel⟩
  · exact ⟨by decide, by decide +kernel, 4, ⟨#[124]⟩, by decide, by kernel_rfl, by decide +kernel⟩
  · exact ⟨by decide, by decide +kernel, 4, ⟨#[43]⟩, by decide, by kernel_rfl, by decide +kernel⟩

set_option maxRecDepth 100000 in
set_option maxHeartbeats 2000000 in
theorem awakeP (w : World) (hT : Tabs w) : Calls Tryd.prog 8 #[] w fun e w' => e = .returned (.bool true) ∧ Below w.heap.size w w' := by
  have hb0 := (Below.refl w.heap.size w).alloc (Nat.le_refl _) (.cells #[.string ⟨#[43, 45, 97, 45, 43]⟩, .string ⟨#[124, 32, 32, 32, 124]⟩, .string ⟨#[43, 45, 45, 45, 43]⟩] 9)
  have hsl : Sl (One Value.string) 1 (w.alloc (.cells #[.string ⟨#[43, 45, 97, 45, 43]⟩, .string ⟨#[124, 32, 32, 32, 124]⟩, .string ⟨#[43, 45, 45, 45, 43]⟩] 9)) (w.alloc (.cells #[.string ⟨#[43, 45, 97, 45, 43]⟩, .string ⟨#[124, 32, 32, 32, 124]⟩, .string ⟨#[43, 45, 45, 45, 43]⟩] 9)).heap.size (some ⟨w.heap.size, 0, none⟩) [aw1, aw2, aw3] :=
    Sl.of_block (One.lays _) (block_new w _) (by simp) rfl
  have HS := hide (screenP _ (some ⟨w.heap.size, 0, none⟩) 3 5 [aw1, aw2, aw3] hsl (by decide) aw_plain)
  have HF := hide (fun (W : World) (hb : Below w.heap.size w W) (A : Option Addr) (c : Nat) (h : Rows2 W W.heap.size A awV.rows) => findFP W A c awV h (Vw.tame aw_ok) (hT.below hb) (fun _ => by decide +kernel))
  rw [aw_frames] at HF
  have Hb0 := hide hb0
  rw [show [aw1, aw2, aw3].length = 3 from rfl] at HS
  rw [show screenV 5 [aw1, aw2, aw3] = awV from rfl] at HS
  clear hsl hT hb0
  have e1 : ∀ A c, awV.val A c = .agg #[.int .i64 5, .int .i64 3, .slice A 3 c, .int .i64 0, .int .i64 0, .bool false] := fun _ _ => rfl
  simp only [e1] at HS HF
  clear e1
  go_enter Tryd.func8, Tryd.ntmps8
  go_wp2_with (first
    | (go_at_call 17; refine HS.out.mono ?_; rintro e w1 ⟨A1, c1, rfl, -, hr1, hb1⟩; have Hb1 := hide (Hb0.out.trans (hb1.mono (by simp))); have Hr1 := hide hr1; clear hb1 hr1)
    | (go_at_call 10; refine (HF.out w1 Hb1.out A1 c1 Hr1.out).mono ?_; rintro e w2 ⟨v2, rfl, hown2, hb2⟩; obtain ⟨g2, c2, rfl, -, hg2⟩ := own_form1 hown2 (by simp); have x0 := hown2.cellAt 0 (by decide); have x1 := hown2.cellAt 1 (by decide); have x2 := hown2.cellAt 2 (by decide); have x3 := hown2.cellAt 3 (by decide); have x4 := hown2.cellAt 4 (by decide); have x5 := hown2.cellAt 5 (by decide); have x6 := hown2.cellAt 6 (by decide); have x7 := hown2.cellAt 7 (by decide); simp only [List.flatMap_cons, List.flatMap_nil, List.append_nil, Rg.enc, List.getElem?_cons_zero, List.getElem?_cons_succ] at x0 x1 x2 x3 x4 x5 x6 x7; have Hb2 := hide hb2; clear hb2 hown2)
    | fail)
  go_ret
  exact ⟨rfl, Hb1.out.trans (Hb2.out.mono Hb1.out.size)⟩

/-- Whether a view is greater than the statements on frames examine. -/
def Vw.wideB (v : Vw) : Bool := (v.great || decide (20 < v.width)) || decide (10 < v.height)
set_option maxHeartbeats 1000000 in
theorem great23 (w : World) (A : Option Addr) (c : Nat) (v : Vw) (h : Rows2 w w.heap.size A v.rows) :
    Calls Tryd.prog 7 #[v.val A c] w fun e w' => e = .returned (.bool v.wideB) ∧ Below w.heap.size w w' := by
  have hbox := (Below.refl w.heap.size w).alloc (Nat.le_refl _) (.cells #[.int .i64 v.width, .int .i64 v.height, .slice A v.rows.length c, .int .i64 v.row, .int .i64 v.col, .bool v.visible] 24)
  have hvb : VwBox _ w.heap.size v A c := block_new w (.cells #[.int .i64 v.width, .int .i64 v.height, .slice A v.rows.length c, .int .i64 v.row, .int .i64 v.col, .bool v.visible] 24)
  have HG := hide (greatP _ A c v ((h.below hbox).more hbox.size))
  have Hvb := hide hvb
  unfold Vw.wideB
  obtain ⟨q, hq⟩ : ∃ q, v.great = q := ⟨_, rfl⟩
  rw [hq] at HG ⊢
  unfold Vw.val at HG ⊢
  clear h hq hvb
  cases q <;> cases d1 : decide (20 < v.width) <;> cases d2 : decide (10 < v.height)
  all_goals
    go_enter Tryd.func7, Tryd.ntmps7
    go_wp2_with (go_at_call 16; refine HG.out.mono ?_; rintro e w1 ⟨rfl, hb1⟩; obtain ⟨k0, k1, k2, k3, k4, k5⟩ := (Hvb.out.below hb1 (by simp)).cells)
    go_ret
    exact ⟨rfl, hbox.trans (hb1.mono (by simp))⟩
theorem wide_small {v : Vw} (h : v.wideB = false) : v.great = false ∧ v.width ≤ 20 ∧ v.height ≤ 10 := by
  unfold Vw.wideB at h
  simp only [Bool.or_eq_false_iff, decide_eq_false_iff_not] at h
  exact ⟨h.1.1, by omega, by omega⟩
theorem wide_count {v : Vw} (h : v.wideB = false) (hok : v.ok = true) : v.rows.length * v.width.toNat ≤ 200 := by
  obtain ⟨h1, h2, h3⟩ := wide_small h
  have hp := Vw.proper hok
  have e1 : v.rows.length ≤ 10 := by have := hp.len; omega
  have e2 : v.width.toNat ≤ 20 := by omega
  calc v.rows.length * v.width.toNat ≤ 10 * 20 := Nat.mul_le_mul e1 e2
    _ = 200 := rfl
end Go.Proofs.YtdgmjbcfopkibaaDoor
