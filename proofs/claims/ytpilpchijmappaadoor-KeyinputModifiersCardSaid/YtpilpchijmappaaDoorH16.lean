/- The examples of the chapter. -/
import Derived.Test.YtpilpchijmappaaDoorH12
namespace Go.Proofs.YtpilpchijmappaaDoor
open Go.RowKit

def kUp (c : Bool) : Key := ⟨⟨#[85, 112]⟩, 0, c, false, false⟩
def kA : Key := ⟨⟨#[]⟩, 97, false, true, false⟩
def mZ (app : Bool) : Md := ⟨false, false, app, false, false, false, false, false, 0, 0, 0⟩
theorem aw1 (w : World) (hP : Pow w) : Calls Tryd.prog 12 #[(kUp false).val, (mZ false).val] w fun e w' => e = .returned (.tuple #[.string ⟨#[27, 91, 65]⟩, .int .i64 0]) ∧ Below w.heap.size w w' := by
  have := encodeP w (kUp false) (mZ false) hP
  rw [show encT (mZ false).app (mZ false).nl (kUp false) = ⟨#[27, 91, 65]⟩ from ba_ext (by decide +kernel), show keyErr (kUp false) = 0 by decide +kernel] at this
  exact this
theorem aw2 (w : World) (hP : Pow w) : Calls Tryd.prog 12 #[(kUp false).val, (mZ true).val] w fun e w' => e = .returned (.tuple #[.string ⟨#[27, 79, 65]⟩, .int .i64 0]) ∧ Below w.heap.size w w' := by
  have := encodeP w (kUp false) (mZ true) hP
  rw [show encT (mZ true).app (mZ true).nl (kUp false) = ⟨#[27, 79, 65]⟩ from ba_ext (by decide +kernel), show keyErr (kUp false) = 0 by decide +kernel] at this
  exact this
theorem aw3 (w : World) (hP : Pow w) : Calls Tryd.prog 12 #[(kUp true).val, (mZ true).val] w fun e w' => e = .returned (.tuple #[.string ⟨#[27, 91, 49, 59, 53, 65]⟩, .int .i64 0]) ∧ Below w.heap.size w w' := by
  have := encodeP w (kUp true) (mZ true) hP
  rw [show encT (mZ true).app (mZ true).nl (kUp true) = ⟨#[27, 91, 49, 59, 53, 65]⟩ from ba_ext (by decide +kernel), show keyErr (kUp true) = 0 by decide +kernel] at this
  exact this
theorem aw4 (w : World) (hP : Pow w) : Calls Tryd.prog 12 #[kA.val, (mZ false).val] w fun e w' => e = .returned (.tuple #[.string ⟨#[27, 97]⟩, .int .i64 0]) ∧ Below w.heap.size w w' := by
  have := encodeP w kA (mZ false) hP
  rw [show encT (mZ false).app (mZ false).nl kA = ⟨#[27, 97]⟩ from ba_ext (by decide +kernel), show keyErr kA = 0 by decide +kernel] at this
  exact this

set_option maxRecDepth 100000 in
set_option maxHeartbeats 1000000 in
theorem awakeP (w : World) (hP : Pow w) : Calls Tryd.prog 11 #[] w fun e w' => e = .returned (.bool true) ∧ Below w.heap.size w w' := by
  have H1 := hide (aw1 w hP)
  have H2 := hide (fun w1 (hb : Below w.heap.size w w1) => aw2 w1 (hP.below hb))
  have H3 := hide (fun w1 (hb : Below w.heap.size w w1) => aw3 w1 (hP.below hb))
  have H4 := hide (fun w1 (hb : Below w.heap.size w w1) => aw4 w1 (hP.below hb))
  clear hP
  unfold kUp Key.val mZ Md.val at H1 H2 H3
  unfold kA Key.val mZ Md.val at H4
  dsimp only at H1 H2 H3 H4
  go_enter Tryd.func11, Tryd.ntmps11
  go_wp2_with (first
    | (go_at_call 12; with_reducible refine (H4.out w3 hb3).mono ?_; rintro e w4 ⟨rfl, hb4'⟩; have hb4 := hb3.trans (hb4'.mono hb3.size))
    | (go_at_call 12; with_reducible refine (H3.out w2 hb2).mono ?_; rintro e w3 ⟨rfl, hb3'⟩; have hb3 := hb2.trans (hb3'.mono hb2.size))
    | (go_at_call 12; with_reducible refine (H2.out w1 hb1).mono ?_; rintro e w2 ⟨rfl, hb2'⟩; have hb2 := hb1.trans (hb2'.mono hb1.size))
    | (go_at_call 12; with_reducible refine H1.out.mono ?_; rintro e w1 ⟨rfl, hb1⟩)
    | fail)
  go_ret
  exact ⟨rfl, hb4⟩
end Go.Proofs.YtpilpchijmappaaDoor
