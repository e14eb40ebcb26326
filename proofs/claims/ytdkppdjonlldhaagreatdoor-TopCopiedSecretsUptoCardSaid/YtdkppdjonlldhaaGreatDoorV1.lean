/- The width of a character: the program's (binary search) and the reference's (a look at every range) are one function. -/
import Derived.Test.YtdkppdjonlldhaaGreatDoorMem
import Derived.Deep.QuietTactic
import Derived.BigQuiet
namespace Go.Proofs.YtdkppdjonlldhaaGreatDoor
open Go.RowKit

/-- A pair of characters: two cells. -/
def PairAt : World → Nat → Nat → Int × Int → Prop := fun w b o p => w.cell? ⟨b, o, none⟩ = some (.int .i32 p.1) ∧ w.cell? ⟨b, o + 1, none⟩ = some (.int .i32 p.2)
theorem PairAt.stays (B : Nat) : Stays PairAt B := fun _ _ _ _ _ hk hb h => ⟨(hk _ hb).trans h.1, (hk _ hb).trans h.2⟩
def pairEnc (p : Int × Int) : List Value := [.int .i32 p.1, .int .i32 p.2]
theorem PairAt.lays : Lays PairAt 2 pairEnc := ⟨fun _ => rfl, fun _ _ _ _ h => ⟨h 0 _ rfl, h 1 _ rfl⟩⟩

def inPair (r : Int) (p : Int × Int) : Bool := decide (p.1 ≤ r) && decide (r ≤ p.2)

theorem any_take_succ {α : Type} (p : α → Bool) (l : List α) (k : Nat) (hk : k < l.length) : (l.take (k + 1)).any p = ((l.take k).any p || p l[k]) := by
  rw [List.take_succ_eq_append_getElem hk, List.any_append]; simp
theorem any_of_take {α : Type} (p : α → Bool) (l : List α) (k : Nat) (hk : k < l.length) (h : p l[k] = true) : l.any p = true := List.any_eq_true.2 ⟨_, List.getElem_mem hk, h⟩
theorem any_take_all {α : Type} (p : α → Bool) (l : List α) (k : Nat) (hk : l.length ≤ k) (h : (l.take k).any p = false) : l.any p = false := by
  rwa [List.take_of_length_le hk] at h

set_option maxHeartbeats 400000 in
theorem in02 (w : World) (A : Option Addr) (c : Nat) (l : List (Int × Int)) (r : Int) (h : Sl PairAt 2 w w.heap.size A l) (hl : l.length ≤ 1000) :
    Calls Tryz.prog 67 #[.slice A l.length c, .int .i32 r] w fun e w' => e = .returned (.bool (l.any (inPair r))) ∧ w = w' := by
  go_enter Tryz.func67, Tryz.ntmps67
  go_wp2
  go_loop [5] (fun i => ∃ k : Nat, k ≤ l.length ∧ i = .int .i64 k ∧ (l.take k).any (inPair r) = false) (fun i => l.length - (intOf i).toNat)
  case atStart => exact ⟨0, Nat.zero_le _, rfl, by simp⟩
  case round =>
    obtain ⟨k, hk, rfl, ha⟩ := hrel
    have Ha := hide ha
    clear ha
    by_cases hlt : k < l.length
    · obtain ⟨b, off, rfl, hb, hc⟩ := h.get hlt
      obtain ⟨c0, c1⟩ := hc
      have hs := any_take_succ (inPair r) l k hlt
      have Hs := hide hs
      clear hs
      by_cases h1 : l[k].1 ≤ r <;> by_cases h2 : r ≤ l[k].2
      · have e : inPair r l[k] = true := by simp [inPair, h1, h2]
        have E := hide (any_of_take _ _ _ hlt e)
        go_wp2
        go_ret
        exact ⟨ret_bool E.out.symm, rfl⟩
      all_goals
        have E : Hid (inPair r l[k] = false) := hide (by simp [inPair, h1, h2])
        go_wp2
        go_round
        case rel => exact ⟨k + 1, by omega, by go_num, by rw [Hs.out, Ha.out, E.out]; rfl⟩
        case measure => simp [intOf]; omega
    · go_wp2
      go_ret
      exact ⟨ret_bool (any_take_all _ _ _ (by omega) Ha.out).symm, rfl⟩

def marksTab : List (Int × Int) := [(0x0300, 0x036F), (0x1AB0, 0x1AFF), (0x1DC0, 0x1DFF), (0x200B, 0x200F), (0x20D0, 0x20FF), (0xFE00, 0xFE0F), (0xFE20, 0xFE2F)]
def wideTab : List (Int × Int) := [(0x1100, 0x115F), (0x2E80, 0x303E), (0x3041, 0x33FF), (0x3400, 0x4DBF), (0x4E00, 0x9FFF), (0xA000, 0xA4CF), (0xAC00, 0xD7A3), (0xF900, 0xFAFF), (0xFE30, 0xFE6F), (0xFF00, 0xFF60), (0xFFE0, 0xFFE6), (0x1F300, 0x1F64F), (0x1F900, 0x1F9FF), (0x20000, 0x3FFFD)]
def isMark (r : Int) : Bool := marksTab.any (inPair r)
def isWide (r : Int) : Bool := wideTab.any (inPair r)
def cw (r : Int) : Int := if r < 0x20 ∨ 0x7F ≤ r ∧ r ≤ 0x9F then -1 else if isMark r then 0 else if isWide r then 2 else 1

/-- What the tables' functions return. -/
def IsTab (l : List (Int × Int)) (w : World) (e : Ending) (w' : World) : Prop :=
  ∃ A c, e = .returned (.slice A l.length c) ∧ Sl PairAt 2 w' w'.heap.size A l ∧ Below w.heap.size w w'
theorem isTab_new (l : List (Int × Int)) (w : World) (cs : Array Value) (t : TypeId) (n : Nat) (hn : n = l.length) (h : cs.toList = l.flatMap pairEnc) : IsTab l w (.returned (.slice (some ⟨w.heap.size, 0, none⟩) n n)) (w.alloc (.cells cs t)) :=
  ⟨_, l.length, by rw [hn], Sl.of_block PairAt.lays (block_new w _) (by simp) h, (Below.refl _ _).alloc (Nat.le_refl _) _⟩

theorem marks02 (w : World) : Calls Tryz.prog 68 #[] w (IsTab marksTab w) := by
  go_enter Tryz.func68, Tryz.ntmps68
  go_wp2
  go_ret
  exact isTab_new _ _ _ _ _ rfl rfl
theorem wide02 (w : World) : Calls Tryz.prog 69 #[] w (IsTab wideTab w) := by
  go_enter Tryz.func69, Tryz.ntmps69
  go_wp2
  go_ret
  exact isTab_new _ _ _ _ _ rfl rfl
theorem marksP (w : World) : Calls Tryz.prog 99 #[] w (IsTab marksTab w) := by
  go_enter Tryz.func99, Tryz.ntmps99
  go_wp2
  go_ret
  exact isTab_new _ _ _ _ _ rfl rfl
theorem wideP (w : World) : Calls Tryz.prog 73 #[] w (IsTab wideTab w) := by
  go_enter Tryz.func73, Tryz.ntmps73
  go_wp2
  go_ret
  exact isTab_new _ _ _ _ _ rfl rfl

theorem mark02 (w : World) (r : Int) : Calls Tryz.prog 44 #[.int .i32 r] w fun e w' => e = .returned (.bool (isMark r)) ∧ Below w.heap.size w w' := by
  go_enter Tryz.func44, Tryz.ntmps44
  go_wp2_with fail
  refine (marks02 _).mono ?_
  rintro e w1 ⟨A, c, rfl, hs, hb⟩
  go_wp2_with fail
  refine (in02 _ _ _ _ _ hs (by decide)).mono ?_
  rintro e w2 ⟨rfl, rfl⟩
  go_wp2
  go_ret
  exact ⟨rfl, hb⟩
end Go.Proofs.YtdkppdjonlldhaaGreatDoor
