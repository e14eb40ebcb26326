/- The words for memory that all walks of this seat use: slices that read as lists, whatever the element; glyphs, rows and views. -/
import Derived.Test.YtdkppdjonlldhaaGreatDoorProg
import Derived.WalkKit
import Derived.Lib.Hide
import Derived.Deep.Draws
namespace Go.Proofs.YtdkppdjonlldhaaGreatDoor
open Go.RowKit

/-- Slice 'A' reads as the list 'l', an element by 'R' at every 'sz' cells; its cells lie below block B. -/
def Sl {α : Type} (R : World → Nat → Nat → α → Prop) (sz : Nat) (w : World) (B : Nat) (A : Option Addr) (l : List α) : Prop :=
  0 < l.length → ∃ b off, A = some ⟨b, off, none⟩ ∧ b < B ∧ ∀ k x, l[k]? = some x → R w b (off + k * sz) x

/-- R hangs on the cells of blocks below B alone. -/
def Stays {α : Type} (R : World → Nat → Nat → α → Prop) (B : Nat) : Prop :=
  ∀ (w w' : World) b o x, (∀ p : Addr, p.block < B → w'.cell? p = w.cell? p) → b < B → R w b o x → R w' b o x

section
variable {α : Type} {R : World → Nat → Nat → α → Prop} {sz : Nat} {w w' : World} {B B' : Nat} {A : Option Addr} {l : List α}
theorem Sl.nil (h : l.length = 0) : Sl R sz w B A l := fun h' => absurd h' (by omega)
theorem Sl.keep (h : Sl R sz w B A l) (hR : Stays R B) (hk : ∀ p : Addr, p.block < B → w'.cell? p = w.cell? p) : Sl R sz w' B A l := fun h0 => by
  obtain ⟨b, off, hA, hb, hc⟩ := h h0
  exact ⟨b, off, hA, hb, fun k x hx => hR _ _ _ _ _ hk hb (hc k x hx)⟩
theorem Sl.below (h : Sl R sz w B A l) (hR : Stays R B) (hb : Below B w w') : Sl R sz w' B A l := h.keep hR fun _ hp => hb.cell hp
theorem Sl.more (h : Sl R sz w B A l) (hB : B ≤ B') : Sl R sz w B' A l := fun h0 => by
  obtain ⟨b, off, hA, hb, hc⟩ := h h0
  exact ⟨b, off, hA, by omega, hc⟩
theorem Sl.get (h : Sl R sz w B A l) {k : Nat} (hk : k < l.length) : ∃ b off, A = some ⟨b, off, none⟩ ∧ b < B ∧ R w b (off + k * sz) l[k] := by
  obtain ⟨b, off, hA, hb, hc⟩ := h (by omega)
  exact ⟨b, off, hA, hb, hc k _ (List.getElem?_eq_getElem hk)⟩
theorem Sl.drop {b off : Nat} (h : Sl R sz w B (some ⟨b, off, none⟩) l) (n : Nat) : Sl R sz w B (some ⟨b, off + n * sz, none⟩) (l.drop n) := fun h0 => by
  obtain ⟨b', off', hA, hb, hc⟩ := h (by rw [List.length_drop] at h0; omega)
  cases hA
  refine ⟨b, off + n * sz, rfl, hb, fun k x hx => ?_⟩
  rw [List.getElem?_drop] at hx
  have := hc _ _ hx
  rwa [Nat.add_mul, ← Nat.add_assoc] at this
theorem Sl.take (h : Sl R sz w B A l) (n : Nat) : Sl R sz w B A (l.take n) := fun h0 => by
  obtain ⟨b, off, hA, hb, hc⟩ := h (by rw [List.length_take] at h0; omega)
  refine ⟨b, off, hA, hb, fun k x hx => hc k x ?_⟩
  rw [List.getElem?_take] at hx
  split at hx
  · exact hx
  · cases hx
theorem Sl.get1 (h : Sl R 1 w B A l) {k : Nat} (hk : k < l.length) : ∃ b off, A = some ⟨b, off, none⟩ ∧ b < B ∧ R w b (off + k) l[k] := by
  obtain ⟨b, off, hA, hb, hc⟩ := h.get hk
  exact ⟨b, off, hA, hb, by simpa using hc⟩
end

/-- 'enc x' are the sz cells of an element; R follows from them. -/
structure Lays {α : Type} (R : World → Nat → Nat → α → Prop) (sz : Nat) (enc : α → List Value) : Prop where
  len : ∀ x, (enc x).length = sz
  reads : ∀ (w : World) b o x, (∀ j u, (enc x)[j]? = some u → w.cell? ⟨b, o + j, none⟩ = some u) → R w b o x

theorem flat_get {α : Type} {enc : α → List Value} {sz : Nat} (hlen : ∀ x, (enc x).length = sz) : ∀ (l : List α) (k : Nat) (x : α) (j : Nat) (u : Value), l[k]? = some x → (enc x)[j]? = some u → (l.flatMap enc)[k * sz + j]? = some u
  | [], k, x, j, u, hk, _ => by simp at hk
  | y :: l, 0, x, j, u, hk, hj => by
    simp at hk; subst hk
    have hjl : j < (enc y).length := (List.getElem?_eq_some_iff.1 hj).1
    simp only [List.flatMap_cons, Nat.zero_mul, Nat.zero_add]
    rw [List.getElem?_append_left hjl]; exact hj
  | y :: l, k + 1, x, j, u, hk, hj => by
    have ih := flat_get hlen l k x j u (by simpa using hk) hj
    simp only [List.flatMap_cons]
    rw [List.getElem?_append_right (by rw [hlen]; rw [Nat.add_mul]; omega), hlen, show (k + 1) * sz + j - sz = k * sz + j by rw [Nat.add_mul]; omega]
    exact ih
theorem flat_len {α : Type} {enc : α → List Value} {sz : Nat} (hlen : ∀ x, (enc x).length = sz) (l : List α) : (l.flatMap enc).length = l.length * sz := by
  induction l with
  | nil => simp
  | cons x l ih => simp only [List.flatMap_cons, List.length_append, hlen, ih, List.length_cons, Nat.add_mul]; omega

theorem cell_block {w : World} {b : Nat} {cs : Array Value} {t : TypeId} {fr : Nat × Nat} (h : w.heap[b]? = some (.cells cs t fr)) (i : Nat) : w.cell? ⟨b, i, none⟩ = cs[i]? := by
  simp [World.cell?, h]
theorem frozen_block {w : World} {b : Nat} {cs : Array Value} {t : TypeId} (h : w.heap[b]? = some (.cells cs t (0, 0))) (i : Nat) : w.frozen? ⟨b, i, none⟩ = false := by
  simp [World.frozen?, h]
theorem block_lt {w : World} {b : Nat} {o : Obj} (h : w.heap[b]? = some o) : b < w.heap.size := (Array.getElem?_eq_some_iff.1 h).1
theorem block_new (w : World) (o : Obj) : (w.alloc o).heap[w.heap.size]? = some o := heap_alloc_new w o
theorem block_alloc {w : World} {b : Nat} {o : Obj} (h : w.heap[b]? = some o) (o' : Obj) : (w.alloc o').heap[b]? = some o := (Below.heap_alloc w o' b (block_lt h)).trans h
theorem block_below {w w' : World} {b B : Nat} {o : Obj} (h : w.heap[b]? = some o) (hb : Below B w w') (hB : b < B) : w'.heap[b]? = some o := (hb.block b hB).trans h
theorem block_far {w : World} {b : Nat} {o : Obj} (h : w.heap[b]? = some o) {p : Addr} (hp : b ≠ p.block) (u : Value) : (w.setCell p u).heap[b]? = some o := (Below.heap_setCell w p u b hp).trans h

section
variable {α : Type} {R : World → Nat → Nat → α → Prop} {sz : Nat} {w w' : World} {B B' : Nat} {A : Option Addr} {l : List α} {enc : α → List Value}
/-- A block that is known whole reads as a list. -/
theorem Sl.of_block (hL : Lays R sz enc) {b : Nat} {cs : Array Value} {t : TypeId} {fr : Nat × Nat} (h : w.heap[b]? = some (.cells cs t fr)) (hB : b < B) (hcs : cs.toList = l.flatMap enc) : Sl R sz w B (some ⟨b, 0, none⟩) l := fun _ =>
  ⟨b, 0, rfl, hB, fun k x hx => hL.reads _ _ _ _ fun j u hu => by
    rw [Nat.zero_add, cell_block h, ← Array.getElem?_toList, hcs]
    exact flat_get hL.len l k x j u hx hu⟩
/-- A row of the call's own reads as a list. -/
theorem Sl.of_own (hL : Lays R sz enc) {base : Nat} {e : TypeId} {v : Value} (h : w.ownsRow base e sz v l.length (l.flatMap enc)) : ∃ A c, v = .slice A l.length c ∧ l.length ≤ c ∧ Sl R sz w w.heap.size A l := by
  rcases h.2 with ⟨rfl, h0⟩ | ⟨g, cap, cur, rfl, _, hh, hnc, _, _, htake⟩
  · exact ⟨none, 0, by rw [h0], by omega, Sl.nil h0⟩
  · refine ⟨some ⟨g, 0, none⟩, cap, rfl, hnc, fun _ => ⟨g, 0, rfl, block_lt hh, fun k x hx => hL.reads _ _ _ _ fun j u hu => ?_⟩⟩
    rw [Nat.zero_add, cell_block hh, ← Array.getElem?_toList]
    have h1 := flat_get hL.len l k x j u hx hu
    rw [← htake, List.getElem?_take] at h1
    split at h1
    · exact h1
    · cases h1
end

/-- One cell, holding 'f x'. -/
def One {α : Type} (f : α → Value) : World → Nat → Nat → α → Prop := fun w b o x => w.cell? ⟨b, o, none⟩ = some (f x)
theorem One.lays {α : Type} (f : α → Value) : Lays (One f) 1 (fun x => [f x]) := ⟨fun _ => rfl, fun _ _ _ _ h => by simpa [One] using h 0 _ rfl⟩
theorem flat_one {α : Type} (f : α → Value) (l : List α) : l.flatMap (fun x => [f x]) = l.map f := by induction l with | nil => rfl | cons x l ih => simp [ih]
theorem One.stays {α : Type} (f : α → Value) (B : Nat) : Stays (One f) B := fun _ _ _ _ _ hk hb h => (hk _ hb).trans h

structure Gl where
  text : ByteArray
  wide : Bool
  style : Int

def Gl.val (g : Gl) : Value := .agg #[.string g.text, .bool g.wide, .int .i64 g.style]

def GlAt : World → Nat → Nat → Gl → Prop := fun w b o g =>
  w.cell? ⟨b, o, none⟩ = some (.string g.text) ∧ w.cell? ⟨b, o + 1, none⟩ = some (.bool g.wide) ∧ w.cell? ⟨b, o + 2, none⟩ = some (.int .i64 g.style)
theorem GlAt.stays (B : Nat) : Stays GlAt B := fun _ _ _ _ _ hk hb h => ⟨(hk _ hb).trans h.1, (hk _ hb).trans h.2.1, (hk _ hb).trans h.2.2⟩

def Gl.enc (g : Gl) : List Value := [.string g.text, .bool g.wide, .int .i64 g.style]
theorem GlAt.lays : Lays GlAt 3 Gl.enc := ⟨fun _ => rfl, fun _ _ _ _ h => ⟨h 0 _ rfl, h 1 _ rfl, h 2 _ rfl⟩⟩

/-- A row of glyphs. -/
abbrev GlRow (w : World) (B : Nat) (A : Option Addr) (l : List Gl) : Prop := Sl GlAt 3 w B A l

/-- A row's slice in a cell. -/
def RowAt (B : Nat) : World → Nat → Nat → List Gl → Prop := fun w b o r =>
  ∃ A c, w.cell? ⟨b, o, none⟩ = some (.slice A r.length c) ∧ r.length ≤ c ∧ GlRow w B A r
theorem RowAt.stays (B : Nat) : Stays (RowAt B) B := fun _ _ _ _ _ hk hb h => by
  obtain ⟨A, c, h1, h2, h3⟩ := h
  exact ⟨A, c, (hk _ hb).trans h1, h2, h3.keep (GlAt.stays B) hk⟩
theorem RowAt.more {B B' : Nat} (hB : B ≤ B') {w : World} {b o : Nat} {r : List Gl} (h : RowAt B w b o r) : RowAt B' w b o r := by
  obtain ⟨A, c, h1, h2, h3⟩ := h
  exact ⟨A, c, h1, h2, h3.more hB⟩

abbrev Rows2 (w : World) (B : Nat) (A : Option Addr) (l : List (List Gl)) : Prop := Sl (RowAt B) 1 w B A l
theorem Rows2.more {w : World} {B B' : Nat} {A : Option Addr} {l : List (List Gl)} (hB : B ≤ B') (h : Rows2 w B A l) : Rows2 w B' A l := fun h0 => by
  obtain ⟨b, off, hA, hb, hc⟩ := h h0
  exact ⟨b, off, hA, by omega, fun k x hx => (hc k x hx).more hB⟩
theorem Rows2.below {w w' : World} {B : Nat} {A : Option Addr} {l : List (List Gl)} (h : Rows2 w B A l) (hb : Below B w w') : Rows2 w' B A l := Sl.below h (RowAt.stays B) hb

structure Vw where
  width : Int
  height : Int
  rows : List (List Gl)
  row : Int
  col : Int
  visible : Bool

/-- The value of a view whose rows' slice is '.slice A n c'. -/
def Vw.val (v : Vw) (A : Option Addr) (c : Nat) : Value := .agg #[.int .i64 v.width, .int .i64 v.height, .slice A v.rows.length c, .int .i64 v.row, .int .i64 v.col, .bool v.visible]

theorem ret_int {k : IntKind} {a b : Int} (h : a = b) : Ending.returned (.int k a) = .returned (.int k b) := by rw [h]
theorem ret_bool {a b : Bool} (h : a = b) : Ending.returned (.bool a) = .returned (.bool b) := by rw [h]
theorem int_eq {k : IntKind} {a b : Int} (h : a = b) : Value.int k a = Value.int k b := by rw [h]
theorem hide {p : Prop} (h : p) : Hid p := h
end Go.Proofs.YtdkppdjonlldhaaGreatDoor
