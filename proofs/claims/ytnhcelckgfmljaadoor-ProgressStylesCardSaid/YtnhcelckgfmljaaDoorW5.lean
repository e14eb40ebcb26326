/- progress.Percent, Bar, narratorref27.Percent, Bar. -/
import Derived.Test.YtnhcelckgfmljaaDoorW2
import Derived.Test.YtnhcelckgfmljaaDoorW4
namespace Go.Proofs.YtnhcelckgfmljaaDoor
open Go.RowKit

/-- What Percent and Bar return. -/
def pcV (r : Option (Nat × Nat × Nat)) : Int × Bool := match r with | none => (0, false) | some (_, _, n) => (n, true)
def barV (r : Option (Nat × Nat × Nat × Nat)) : Int × Int × Bool := match r with | none => (0, 0, false) | some (_, _, f, n) => (f, n, true)
def percV (s : ByteArray) : Int × Bool := pcV (percF s.data.toList)
def barsV (s : ByteArray) : Int × Int × Bool := barV (barF s.data.toList)

set_option maxHeartbeats 1000000 in
theorem PercentP (w : World) (s : ByteArray) (hs : s.size ≤ 1000) : Calls Tryd.prog 14 #[.string s] w fun e w' => e = .returned (.tuple #[.int .i64 (percV s).1, .bool (percV s).2]) ∧ w = w' := by
  have HP := hide (percentP w s hs)
  unfold percV
  cases hr : percF s.data.toList with
  | none =>
    rw [hr] at HP
    unfold pcE at HP
    clear hr
    go_enter Tryd.func14, Tryd.ntmps14
    go_wp2_with (go_at_call 21; refine HP.out.mono ?_; rintro e w1 ⟨rfl, rfl⟩)
    go_ret2
    exact ⟨rfl, rfl⟩
  | some r =>
    obtain ⟨a, b, n⟩ := r
    rw [hr] at HP
    unfold pcE at HP
    clear hr
    dsimp only at HP
    go_enter Tryd.func14, Tryd.ntmps14
    go_wp2_with (go_at_call 21; refine HP.out.mono ?_; rintro e w1 ⟨rfl, rfl⟩)
    go_ret2
    exact ⟨rfl, rfl⟩
set_option maxHeartbeats 1000000 in
theorem BarP (w : World) (s : ByteArray) (hs : s.size ≤ 1000) : Calls Tryd.prog 15 #[.string s] w fun e w' => e = .returned (.tuple #[.int .i64 (barsV s).1, .int .i64 (barsV s).2.1, .bool (barsV s).2.2]) ∧ w = w' := by
  have HP := hide (barP w s hs)
  unfold barsV
  cases hr : barF s.data.toList with
  | none =>
    rw [hr] at HP
    unfold barE at HP
    clear hr
    go_enter Tryd.func15, Tryd.ntmps15
    go_wp2_with (go_at_call 22; refine HP.out.mono ?_; rintro e w1 ⟨rfl, rfl⟩)
    go_ret3
    exact ⟨rfl, rfl⟩
  | some r =>
    obtain ⟨a, b, f, n⟩ := r
    rw [hr] at HP
    unfold barE at HP
    clear hr
    dsimp only at HP
    go_enter Tryd.func15, Tryd.ntmps15
    go_wp2_with (go_at_call 22; refine HP.out.mono ?_; rintro e w1 ⟨rfl, rfl⟩)
    go_ret3
    exact ⟨rfl, rfl⟩
end Go.Proofs.YtnhcelckgfmljaaDoor
