/- The law's examples: awake. -/
import Derived.Test.YtonnjokjbknngaaDoorZ9
import Derived.Test.YtonnjokjbknngaaDoorZ11
namespace Go.Proofs.YtonnjokjbknngaaDoor
open Go.RowKit Go.Lib Go.Shelf

def awakeSrc : ByteArray := ⟨#[112, 117, 115, 104, 32, 53, 10, 106, 117, 109, 112, 122, 101, 114, 111, 32, 101, 110, 100, 10, 115, 101, 116, 119, 97, 105, 116, 10, 101, 110, 100, 58]⟩
def awakeIns : List Ins := [⟨1, 5⟩, ⟨18, 3⟩, ⟨20, 0⟩]
theorem awake_asm : asmF awakeSrc.data.toList = (0, 0, awakeIns) := by kernel_rfl
theorem awake_err : codeErr awakeIns = 0 := by kernel_rfl
theorem awake_enc : encFrom 0 awakeIns = [1, 59, 154, 202, 4, 18, 0, 1, 20] := by kernel_rfl

set_option maxRecDepth 100000 in
set_option maxHeartbeats 1000000 in
theorem awakeP (w : World) (hm : Mx w) : Calls Tryd.prog 11 #[] w fun e w' => e = .returned (.bool true) ∧ Below w.heap.size w w' := by
  have hA := asmP w awakeSrc (by decide) hm
  unfold AsmRet at hA
  rw [awake_asm] at hA
  unfold awakeSrc at hA
  dsimp only at hA
  have HA := hide hA
  have HE := hide (fun (W : World) (A : Option Addr) (c : Nat) (h : InsRow W W.heap.size A awakeIns) => encodeP W A c awakeIns h)
  rw [awake_err, awake_enc, if_pos rfl] at HE
  have HS := hide (fun (W : World) (A A' : Option Addr) (c c' : Nat) (h : InsRow W W.heap.size A awakeIns) (h' : InsRow W W.heap.size A' awakeIns) => sameP W A A' c c' awakeIns (by decide) h h')
  rw [show awakeIns.length = 3 from rfl] at HE HS
  clear hA hm
  go_enter Tryd.func11, Tryd.ntmps11
  go_wp2_with (first
    | (go_at_call 12; refine HA.out.mono ?_; rintro e w1 ⟨v, rfl, hown, hb1⟩; obtain ⟨A1, c1, rfl, -, hr1⟩ := InsRow.of_own hown; have Hr1 := hide hr1; have Hb1 := hide hb1; clear hown hr1 hb1)
    | (go_at_call 17; refine (HE.out w1 A1 c1 Hr1.out).mono ?_; rintro e w2 ⟨rfl, hb2⟩; have Hb2 := hide hb2; clear hb2)
    | (go_at_call 14; refine (HS.out _ A1 (some ⟨w2.heap.size, 0, none⟩) c1 3 ((Hr1.out.below (InsAt.stays _) (Hb2.out.alloc Hb2.out.size _)).more (Hb2.out.alloc Hb2.out.size _).size) (Sl.of_block InsAt.lays (block_new w2 (.cells #[.int .i64 1, .int .i64 5, .int .i64 18, .int .i64 3, .int .i64 20, .int .i64 0] 41)) (by simp) rfl)).mono ?_; rintro e w3 ⟨rfl, hb3⟩; have Hb3 := hide hb3; clear hb3)
    | fail)
  go_ret
  exact ⟨rfl, ((Hb1.out.trans (Hb2.out.mono Hb1.out.size)).alloc (Nat.le_trans Hb1.out.size Hb2.out.size) _).trans (Hb3.out.mono (by simp; have := Hb1.out.size; have := Hb2.out.size; omega))⟩
end Go.Proofs.YtonnjokjbknngaaDoor
