/- Words for views and regions in memory, for seats that do not hold the tables' texts (in seat 24 the same words lie in T3, T5, T9, T10, T12, T15). -/
import Derived.Test.YtdkppdjonlldhaaGreatDoorV12
import Derived.Test.YtdkppdjonlldhaaGreatDoorV10
import Derived.Test.YtdkppdjonlldhaaGreatDoorApp2
import Derived.StillTailTactics
import Derived.Deep.RegionHeld3
import Derived.IntWalk
namespace Go.Proofs.YtdkppdjonlldhaaGreatDoor
open Go.RowKit

theorem glW_pos (g : Gl) : 1 ≤ glW g := by unfold glW; split <;> omega
theorem glW_le (g : Gl) : glW g ≤ 2 := by unfold glW; split <;> omega
theorem own_form1 {w : World} {base : Nat} {e : TypeId} {size : Nat} {v : Value} {n : Nat} {xs : List Value} (h : w.ownsRow base e size v n xs) (hn : 0 < n) :
    ∃ g cap, v = .slice (some ⟨g, 0, none⟩) n cap ∧ base ≤ g ∧ g < w.heap.size := by
  rcases h.2 with ⟨_, h0⟩ | ⟨g, cap, cur, hv, hb, hg, _⟩
  · omega
  · exact ⟨g, cap, hv, hb, block_lt hg⟩
structure Rg where
  kind : Int
  id : Int
  parent : Int
  top : Int
  left : Int
  bottom : Int
  right : Int
  label : ByteArray
def Rg.enc (r : Rg) : List Value := [.int .i64 r.kind, .int .i64 r.id, .int .i64 r.parent, .int .i64 r.top, .int .i64 r.left, .int .i64 r.bottom, .int .i64 r.right, .string r.label]
def Rg.val (r : Rg) : Value := .agg #[.int .i64 r.kind, .int .i64 r.id, .int .i64 r.parent, .int .i64 r.top, .int .i64 r.left, .int .i64 r.bottom, .int .i64 r.right, .string r.label]

/-- A view in a variable. -/
def VwBox (w : World) (b : Nat) (v : Vw) (A : Option Addr) (c : Nat) : Prop :=
  w.heap[b]? = some (.cells #[.int .i64 v.width, .int .i64 v.height, .slice A v.rows.length c, .int .i64 v.row, .int .i64 v.col, .bool v.visible] 24 (0, 0))
theorem VwBox.cells {w : World} {b : Nat} {v : Vw} {A : Option Addr} {c : Nat} (h : VwBox w b v A c) : w.cell? ⟨b, 0, none⟩ = some (.int .i64 v.width) ∧ w.cell? ⟨b, 1, none⟩ = some (.int .i64 v.height) ∧
    w.cell? ⟨b, 2, none⟩ = some (.slice A v.rows.length c) ∧ w.cell? ⟨b, 3, none⟩ = some (.int .i64 v.row) ∧ w.cell? ⟨b, 4, none⟩ = some (.int .i64 v.col) ∧ w.cell? ⟨b, 5, none⟩ = some (.bool v.visible) :=
  ⟨cell_block h 0, cell_block h 1, cell_block h 2, cell_block h 3, cell_block h 4, cell_block h 5⟩
theorem VwBox.below {w w' : World} {b B : Nat} {v : Vw} {A : Option Addr} {c : Nat} (h : VwBox w b v A c) (hb : Below B w w') (hB : b < B) : VwBox w' b v A c := block_below h hb hB
theorem el_glyph : ElemOf Tryz.prog 34 42 (.agg #[.string ⟨#[]⟩, .bool false, .int .i64 0]) 3 32 := ⟨Tryz.underlying34, by kernel_rfl, rfl, by omega, by omega⟩
theorem gl_len (l : List Gl) : (l.flatMap Gl.enc).length = l.length * 3 := flat_len (enc := Gl.enc) (sz := 3) (fun _ => rfl) l
def Vw.ok (v : Vw) : Bool := v.err == 0
theorem sizedB_of {a b : Int} (h : sizedB a b = true) : 1 ≤ a ∧ a ≤ 132 ∧ 1 ≤ b ∧ b ≤ 60 := by
  unfold sizedB at h; simp at h; omega
theorem rowErr_width {width : Int} {l : List Gl} (h : rowErr width l = 0) : (widthOf l : Int) ≤ width := by
  unfold rowErr at h
  by_cases h1 : firstErr glErr l = 0
  · rw [if_neg (by simp [h1])] at h
    by_cases h2 : width < widthOf l
    · rw [if_pos h2] at h; omega
    · omega
  · rw [if_pos h1] at h; exact absurd h h1
structure Vw.Proper (v : Vw) : Prop where
  w1 : 1 ≤ v.width
  w2 : v.width ≤ 132
  h1 : 1 ≤ v.height
  h2 : v.height ≤ 60
  len : (v.rows.length : Int) = v.height
  cur : v.curB = false
  rows : ∀ r ∈ v.rows, rowErr v.width r = 0
theorem Vw.proper {v : Vw} (h : v.ok = true) : v.Proper := by
  unfold Vw.ok Vw.err at h
  rw [beq_iff_eq] at h
  cases h0 : sizedB v.width v.height with
  | false => rw [if_pos h0] at h; omega
  | true =>
    rw [if_neg (by simp [h0])] at h
    by_cases h1 : (v.rows.length : Int) = v.height
    · rw [if_neg (by simp [h1])] at h
      cases h2 : v.curB with
      | true => rw [if_pos h2] at h; omega
      | false =>
        rw [if_neg (by simp [h2])] at h
        obtain ⟨a1, a2, a3, a4⟩ := sizedB_of h0
        exact ⟨a1, a2, a3, a4, h1, h2, firstErr_zero h⟩
    · rw [if_pos h1] at h; omega


/-- A view whose rows are as a proper view's, as the walks of the inner functions want it. -/
structure Vw.Nice (v : Vw) (W : Nat) : Prop where
  tame : v.Tame
  width : v.width = W
  w1 : 1 ≤ W
  w2 : W ≤ 200
  height : v.height = v.rows.length
  wide : ∀ r ∈ v.rows, widthOf r ≤ W
theorem Vw.nice {v : Vw} (ht : v.Tame) (h : v.ok = true) : v.Nice v.width.toNat := by
  obtain ⟨a1, a2, a3, a4, a5, -, a7⟩ := Vw.proper h
  exact ⟨ht, by omega, by omega, by omega, a5.symm, fun r hr => by have := rowErr_width (a7 r hr); omega⟩

end Go.Proofs.YtdkppdjonlldhaaGreatDoor
