/- Keys and modes as values; the modifier number. -/
import Derived.Test.YtpilpchijmappaaDoorY1
import Derived.Test.YtpilpchijmappaaDoorMem2
namespace Go.Proofs.YtpilpchijmappaaDoor
open Go.RowKit

def Key.val (k : Key) : Value := .agg #[.string k.name, .int .i32 k.rune, .bool k.control, .bool k.alt, .bool k.shift]
def KeyBox (w : World) (b : Nat) (k : Key) : Prop := w.heap[b]? = some (.cells #[.string k.name, .int .i32 k.rune, .bool k.control, .bool k.alt, .bool k.shift] 23)
theorem KeyBox.cells {w : World} {b : Nat} {k : Key} (h : KeyBox w b k) : w.cell? ⟨b, 0, none⟩ = some (.string k.name) ∧ w.cell? ⟨b, 1, none⟩ = some (.int .i32 k.rune) ∧ w.cell? ⟨b, 2, none⟩ = some (.bool k.control) ∧ w.cell? ⟨b, 3, none⟩ = some (.bool k.alt) ∧ w.cell? ⟨b, 4, none⟩ = some (.bool k.shift) :=
  ⟨cell_block h 0, cell_block h 1, cell_block h 2, cell_block h 3, cell_block h 4⟩
theorem KeyBox.below {w w' : World} {b B : Nat} {k : Key} (h : KeyBox w b k) (hb : Below B w w') (hB : b < B) : KeyBox w' b k := block_below h hb hB

structure Md where
  ins : Bool
  nl : Bool
  app : Bool
  org : Bool
  wrap : Bool
  vis : Bool
  alt : Bool
  con : Bool
  s0 : Int
  s1 : Int
  sh : Int
def Md.val (m : Md) : Value := .agg #[.bool m.ins, .bool m.nl, .bool m.app, .bool m.org, .bool m.wrap, .bool m.vis, .bool m.alt, .bool m.con, .int .u8 m.s0, .int .u8 m.s1, .int .i64 m.sh]
def MdBox (w : World) (b : Nat) (m : Md) : Prop := w.heap[b]? = some (.cells #[.bool m.ins, .bool m.nl, .bool m.app, .bool m.org, .bool m.wrap, .bool m.vis, .bool m.alt, .bool m.con, .int .u8 m.s0, .int .u8 m.s1, .int .i64 m.sh] 26)
theorem MdBox.cells {w : World} {b : Nat} {m : Md} (h : MdBox w b m) : w.cell? ⟨b, 0, none⟩ = some (.bool m.ins) ∧ w.cell? ⟨b, 1, none⟩ = some (.bool m.nl) ∧ w.cell? ⟨b, 2, none⟩ = some (.bool m.app) ∧ w.cell? ⟨b, 3, none⟩ = some (.bool m.org) ∧ w.cell? ⟨b, 4, none⟩ = some (.bool m.wrap) ∧
    w.cell? ⟨b, 5, none⟩ = some (.bool m.vis) ∧ w.cell? ⟨b, 6, none⟩ = some (.bool m.alt) ∧ w.cell? ⟨b, 7, none⟩ = some (.bool m.con) ∧ w.cell? ⟨b, 8, none⟩ = some (.int .u8 m.s0) ∧ w.cell? ⟨b, 9, none⟩ = some (.int .u8 m.s1) ∧ w.cell? ⟨b, 10, none⟩ = some (.int .i64 m.sh) :=
  ⟨cell_block h 0, cell_block h 1, cell_block h 2, cell_block h 3, cell_block h 4, cell_block h 5, cell_block h 6, cell_block h 7, cell_block h 8, cell_block h 9, cell_block h 10⟩
theorem MdBox.below {w w' : World} {b B : Nat} {m : Md} (h : MdBox w b m) (hb : Below B w w') (hB : b < B) : MdBox w' b m := block_below h hb hB

theorem boxK (w : World) (k : Key) : ∃ W, W = w.alloc (.cells #[.string k.name, .int .i32 k.rune, .bool k.control, .bool k.alt, .bool k.shift] 23) ∧ Below w.heap.size w W ∧ W.heap.size = w.heap.size + 1 ∧ KeyBox W w.heap.size k :=
  ⟨_, rfl, (Below.refl _ w).alloc (Nat.le_refl _) _, by simp, block_new w _⟩
theorem boxKM (w : World) (k : Key) (m : Md) : ∃ W, W = (w.alloc (.cells #[.string k.name, .int .i32 k.rune, .bool k.control, .bool k.alt, .bool k.shift] 23)).alloc (.cells #[.bool m.ins, .bool m.nl, .bool m.app, .bool m.org, .bool m.wrap, .bool m.vis, .bool m.alt, .bool m.con, .int .u8 m.s0, .int .u8 m.s1, .int .i64 m.sh] 26) ∧
    Below w.heap.size w W ∧ W.heap.size = w.heap.size + 1 + 1 ∧ KeyBox W w.heap.size k ∧ MdBox W (w.heap.size + 1) m := by
  obtain ⟨W1, h1, hb1, hs1, hk⟩ := boxK w k
  subst h1
  refine ⟨_, rfl, hb1.alloc hb1.size _, by simp, block_alloc hk _, ?_⟩
  have := block_new (w.alloc (.cells #[.string k.name, .int .i32 k.rune, .bool k.control, .bool k.alt, .bool k.shift] 23)) (.cells #[.bool m.ins, .bool m.nl, .bool m.app, .bool m.org, .bool m.wrap, .bool m.vis, .bool m.alt, .bool m.con, .int .u8 m.s0, .int .u8 m.s1, .int .i64 m.sh] 26)
  rw [World.size_alloc] at this
  exact this

set_option maxHeartbeats 400000 in
theorem modifierP (w : World) (k : Key) : Calls Tryd.prog 39 #[k.val] w fun e w' => e = .returned (.int .i64 (modNum k.control k.alt k.shift)) ∧ Below w.heap.size w w' := by
  obtain ⟨W0, hW0, hbox, -, hk⟩ := boxK w k
  obtain ⟨k0, k1, k2, k3, k4⟩ := hk.cells
  have Hbox := hide hbox
  clear hbox hk
  subst hW0
  unfold Key.val
  obtain ⟨nm, r, c, a, s⟩ := k
  dsimp only at *
  cases c <;> cases a <;> cases s
  all_goals
    go_enter Tryd.func39, Tryd.ntmps39
    go_wp2
    go_ret
    exact ⟨rfl, Hbox.out⟩
set_option maxHeartbeats 400000 in
theorem number14 (w : World) (k : Key) : Calls Tryd.prog 21 #[k.val] w fun e w' => e = .returned (.int .i64 (modNum k.control k.alt k.shift)) ∧ Below w.heap.size w w' := by
  obtain ⟨W0, hW0, hbox, -, hk⟩ := boxK w k
  obtain ⟨k0, k1, k2, k3, k4⟩ := hk.cells
  have Hbox := hide hbox
  clear hbox hk
  subst hW0
  unfold Key.val
  obtain ⟨nm, r, c, a, s⟩ := k
  dsimp only at *
  cases c <;> cases a <;> cases s
  all_goals
    go_enter Tryd.func21, Tryd.ntmps21
    go_wp2
    go_ret
    exact ⟨rfl, Hbox.out⟩

/-- The letter's and the number's name, character by character. -/
theorem printB_wide (r : Int) (h : printB r = true) : 0 ≤ cw r := by unfold printB at h; simp at h; exact h.2
end Go.Proofs.YtpilpchijmappaaDoor
