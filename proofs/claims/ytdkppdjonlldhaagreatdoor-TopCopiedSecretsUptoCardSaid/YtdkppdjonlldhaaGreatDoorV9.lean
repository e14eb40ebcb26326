/- Views: sizes, widths, blanks, greatness. -/
import Derived.Test.YtdkppdjonlldhaaGreatDoorV8
namespace Go.Proofs.YtdkppdjonlldhaaGreatDoor
open Go.RowKit

def sizedB (width height : Int) : Bool := decide (1 ≤ width) && decide (width ≤ 132) && decide (1 ≤ height) && decide (height ≤ 60)

set_option maxHeartbeats 400000 in
theorem sizedP (w : World) (a b : Int) : Calls Tryz.prog 16 #[.int .i64 a, .int .i64 b] w fun e w' => e = .returned (.bool (sizedB a b)) ∧ w = w' := by
  unfold sizedB
  by_cases h1 : 1 ≤ a <;> by_cases h2 : a ≤ 132 <;> by_cases h3 : 1 ≤ b <;> by_cases h4 : b ≤ 60
  all_goals
    go_enter Tryz.func16, Tryz.ntmps16
    go_wp2
    go_ret
    exact ⟨ret_bool (by simp [h1, h2, h3, h4]), rfl⟩
def glW (g : Gl) : Nat := if g.wide then 2 else 1
def widthOf (l : List Gl) : Nat := (l.map glW).sum
theorem widthOf_snoc (l : List Gl) (k : Nat) (hk : k < l.length) : widthOf (l.take (k + 1)) = widthOf (l.take k) + glW l[k] := by
  unfold widthOf; rw [List.take_succ_eq_append_getElem hk, List.map_append, List.sum_append]; simp
theorem widthOf_le (l : List Gl) : widthOf l ≤ 2 * l.length := by
  unfold widthOf
  induction l with
  | nil => simp
  | cons g l ih =>
    have : glW g ≤ 2 := by unfold glW; split <;> omega
    simp only [List.map_cons, List.sum_cons, List.length_cons]; omega
theorem widthOf_take_le (l : List Gl) (k : Nat) : widthOf (l.take k) ≤ 2 * l.length := Nat.le_trans (widthOf_le _) (by rw [List.length_take]; omega)

set_option maxHeartbeats 400000 in
theorem widthV (w : World) (A : Option Addr) (c : Nat) (l : List Gl) (h : GlRow w w.heap.size A l) (hl : l.length ≤ 100000) :
    Calls Tryz.prog 14 #[.slice A l.length c] w fun e w' => e = .returned (.int .i64 (widthOf l)) ∧ Below w.heap.size w w' := by
  have HH := hide h
  clear h
  go_enter Tryz.func14, Tryz.ntmps14
  go_wp2
  go_loopw [3, 10] (fun n i wr => ∃ k : Nat, k ≤ l.length ∧ i = .int .i64 k ∧ n = .int .i64 ((l.length : Int) + ((widthOf (l.take k) : Int) - k)) ∧ Below w.heap.size w wr) (fun _ i _ => l.length - (intOf i).toNat)
  case atStart => exact ⟨0, Nat.zero_le _, rfl, int_eq (by simp [widthOf]), Below.refl _ _⟩
  case round =>
    obtain ⟨k, hk, rfl, rfl, hb⟩ := hrel
    have hle := widthOf_take_le l k
    by_cases hlt : k < l.length
    · obtain ⟨b, off, rfl, hbb, c0, c1, c2⟩ := (HH.out.below (GlAt.stays _) hb).get hlt
      have HS := hide (widthOf_snoc l k hlt)
      unfold glW at HS
      cases hw : l[k].wide with
      | true =>
        rw [hw] at c1 HS
        go_wp2
        go_roundw
        case rel => exact ⟨k + 1, by omega, by go_num, int_eq (by rw [HS.out]; simp; omega), hb.alloc hb.size _⟩
        case measure => simp [intOf]; omega
      | false =>
        rw [hw] at c1 HS
        go_wp2
        go_roundw
        case rel => exact ⟨k + 1, by omega, by go_num, int_eq (by rw [HS.out]; simp; omega), hb.alloc hb.size _⟩
        case measure => simp [intOf]; omega
    · go_wp2
      go_ret
      exact ⟨ret_int (by rw [List.take_of_length_le (by omega)]; omega), hb⟩

def isBlank (g : Gl) : Bool := (g.text.toList == [32]) && !g.wide && (g.style == 0)
theorem blankV (w : World) : Calls Tryz.prog 18 #[] w fun e w' => e = .returned (.agg #[.string ⟨#[32]⟩, .bool false, .int .i64 0]) ∧ Below w.heap.size w w' := by
  go_enter Tryz.func18, Tryz.ntmps18
  go_wp2
  exact bodyPost_ret (v := .agg #[.string ⟨#[32]⟩, .bool false, .int .i64 0]) (by simp [results, Tryz.results18, go_sem]) rfl ⟨rfl, (Below.refl _ _).alloc (Nat.le_refl _) _⟩
end Go.Proofs.YtdkppdjonlldhaaGreatDoor
