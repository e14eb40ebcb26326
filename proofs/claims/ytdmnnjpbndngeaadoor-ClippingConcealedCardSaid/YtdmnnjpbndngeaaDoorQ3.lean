/- Joined: Q1, Q2, Q3. -/
import Derived.Test.YtdmnnjpbndngeaaDoorV10
import Derived.Test.YtdmnnjpbndngeaaDoorK11
import Derived.BigQuiet
/- Chapter 45: the cells of a terminal in memory, and in plain words what a terminal shows. -/
namespace Go.Proofs.YtdmnnjpbndngeaaDoor
open Go.RowKit

structure Ce where
  text : ByteArray
  width : Int
  fore : Int
  back : Int
  flags : Int

def Ce.enc (c : Ce) : List Value := [.string c.text, .int .i64 c.width, .int .i64 c.fore, .int .i64 c.back, .int .i64 c.flags]
def CeAt : World → Nat → Nat → Ce → Prop := fun w b o c =>
  w.cell? ⟨b, o, none⟩ = some (.string c.text) ∧ w.cell? ⟨b, o + 1, none⟩ = some (.int .i64 c.width) ∧ w.cell? ⟨b, o + 2, none⟩ = some (.int .i64 c.fore) ∧ w.cell? ⟨b, o + 3, none⟩ = some (.int .i64 c.back) ∧ w.cell? ⟨b, o + 4, none⟩ = some (.int .i64 c.flags)
theorem CeAt.stays (B : Nat) : Stays CeAt B := fun _ _ _ _ _ hk hb h => ⟨(hk _ hb).trans h.1, (hk _ hb).trans h.2.1, (hk _ hb).trans h.2.2.1, (hk _ hb).trans h.2.2.2.1, (hk _ hb).trans h.2.2.2.2⟩
theorem CeAt.lays : Lays CeAt 5 Ce.enc := ⟨fun _ => rfl, fun _ _ _ _ h => ⟨h 0 _ rfl, h 1 _ rfl, h 2 _ rfl, h 3 _ rfl, h 4 _ rfl⟩⟩
/-- A row of cells. -/
abbrev CeRow (w : World) (B : Nat) (A : Option Addr) (l : List Ce) : Prop := Sl CeAt 5 w B A l
def CRowAt (B : Nat) : World → Nat → Nat → List Ce → Prop := fun w b o r =>
  ∃ A c, w.cell? ⟨b, o, none⟩ = some (.slice A r.length c) ∧ r.length ≤ c ∧ CeRow w B A r
theorem CRowAt.stays (B : Nat) : Stays (CRowAt B) B := fun _ _ _ _ _ hk hb h => by
  obtain ⟨A, c, h1, h2, h3⟩ := h
  exact ⟨A, c, (hk _ hb).trans h1, h2, h3.keep (CeAt.stays B) hk⟩
theorem CRowAt.more {B B' : Nat} (hB : B ≤ B') {w : World} {b o : Nat} {r : List Ce} (h : CRowAt B w b o r) : CRowAt B' w b o r := by
  obtain ⟨A, c, h1, h2, h3⟩ := h
  exact ⟨A, c, h1, h2, h3.more hB⟩
abbrev CRows2 (w : World) (B : Nat) (A : Option Addr) (l : List (List Ce)) : Prop := Sl (CRowAt B) 1 w B A l
theorem CRows2.more {w : World} {B B' : Nat} {A : Option Addr} {l : List (List Ce)} (hB : B ≤ B') (h : CRows2 w B A l) : CRows2 w B' A l := fun h0 => by
  obtain ⟨b, off, hA, hb, hc⟩ := h h0
  exact ⟨b, off, hA, by omega, fun k x hx => (hc k x hx).more hB⟩
theorem CRows2.below {w w' : World} {B : Nat} {A : Option Addr} {l : List (List Ce)} (h : CRows2 w B A l) (hb : Below B w w') : CRows2 w' B A l := Sl.below h (CRowAt.stays B) hb

/-- Is a rendition in range? -/
def attrOk (c : Ce) : Bool := (decide (-1 ≤ c.fore) && decide (c.fore ≤ 255)) && ((decide (-1 ≤ c.back) && decide (c.back ≤ 255)) && (decide (0 ≤ c.flags) && decide (c.flags ≤ 255)))
/-- The second half of a wide cell. -/
def halfB (d c : Ce) : Bool := (d.text.toList == []) && ((d.width == 0) && ((d.fore == c.fore) && ((d.back == c.back) && (d.flags == c.flags))))
/-- The error of a row of cells, whatever its length. -/
def rowC : List Ce → Int
  | [] => 0
  | c :: rest =>
    if c.width ≠ 1 ∧ c.width ≠ 2 then 12 else
    if clErr c.text.data.toList ≠ 0 then 3 else
    if clW c.text.data.toList ≠ c.width then 12 else
    if c.width = 1 then rowC rest else
    match rest with
    | [] => 12
    | d :: rest' => if halfB d c = true then rowC rest' else 12
/-- The error of a row of cells. -/
def rowCE (l : List Ce) : Int := if l.length < 1 ∨ 132 < l.length then 5 else rowC l
def rowGreatC (l : List Ce) : Bool := decide (140 < l.length) || l.any fun g => decide (40 < g.text.size)
def largeC (rows : List (List Ce)) : Bool := decide (12 < rows.length) || rows.any rowGreatC
/-- Does a row of cells fit a width, and may it be shown? -/
def rowShow (W : Int) (l : List Ce) : Bool := decide ((l.length : Int) = W) && (decide (rowCE l = 0) && l.all attrOk)
def insB (H r : Int) : Bool := decide (0 ≤ r) && decide (r < H)
def showB (W H : Int) (rows : List (List Ce)) (r c : Int) : Bool := sizedB W H && (decide ((rows.length : Int) = H) && ((insB H r && insB W c) && rows.all (rowShow W)))

/-- What becomes of a cell, first in a row. -/
def RowWays (c : Ce) (rest : List Ce) (E : Int) : Prop :=
  (c.width ≠ 1 ∧ c.width ≠ 2 ∧ E = 12) ∨ ((c.width = 1 ∨ c.width = 2) ∧ clErr c.text.data.toList ≠ 0 ∧ E = 3) ∨
  ((c.width = 1 ∨ c.width = 2) ∧ clErr c.text.data.toList = 0 ∧ clW c.text.data.toList ≠ c.width ∧ E = 12) ∨
  (c.width = 1 ∧ clErr c.text.data.toList = 0 ∧ clW c.text.data.toList = 1 ∧ rowC rest = E) ∨
  (c.width = 2 ∧ clErr c.text.data.toList = 0 ∧ clW c.text.data.toList = 2 ∧ rest = [] ∧ E = 12) ∨
  (∃ d rest', c.width = 2 ∧ clErr c.text.data.toList = 0 ∧ clW c.text.data.toList = 2 ∧ rest = d :: rest' ∧ halfB d c = false ∧ E = 12) ∨
  (∃ d rest', c.width = 2 ∧ clErr c.text.data.toList = 0 ∧ clW c.text.data.toList = 2 ∧ rest = d :: rest' ∧ halfB d c = true ∧ rowC rest' = E)
theorem rowC_ways {c : Ce} {rest : List Ce} {E : Int} (h : rowC (c :: rest) = E) : RowWays c rest E := by
  unfold RowWays
  unfold rowC at h
  by_cases h1 : c.width ≠ 1 ∧ c.width ≠ 2
  · rw [if_pos h1] at h; exact .inl ⟨h1.1, h1.2, h.symm⟩
  · rw [if_neg h1] at h
    have h1' : c.width = 1 ∨ c.width = 2 := by omega
    refine .inr ?_
    by_cases h2 : clErr c.text.data.toList ≠ 0
    · rw [if_pos h2] at h; exact .inl ⟨h1', h2, h.symm⟩
    · rw [if_neg h2] at h
      have h2' := Decidable.not_not.1 h2
      refine .inr ?_
      by_cases h3 : clW c.text.data.toList ≠ c.width
      · rw [if_pos h3] at h; exact .inl ⟨h1', h2', h3, h.symm⟩
      · rw [if_neg h3] at h
        have h3' := Decidable.not_not.1 h3
        refine .inr ?_
        by_cases h4 : c.width = 1
        · rw [if_pos h4] at h; exact .inl ⟨h4, h2', h3'.trans h4, h⟩
        · rw [if_neg h4] at h
          have h5 : c.width = 2 := by omega
          refine .inr ?_
          cases rest with
          | nil => exact .inl ⟨h5, h2', h3'.trans h5, rfl, h.symm⟩
          | cons d rest' =>
            dsimp only at h
            refine .inr ?_
            cases h6 : halfB d c with
            | false => rw [h6] at h; exact .inl ⟨d, rest', h5, h2', h3'.trans h5, rfl, h6, h.symm⟩
            | true => rw [h6, if_pos rfl] at h; exact .inr ⟨d, rest', h5, h2', h3'.trans h5, rfl, h6, h⟩

/-- The style of a cell's flags. -/
def stylF (fl : Int) : Int := if bits BinOp.and IntKind.i64 fl 64 ≠ 0 then 3 else if bits BinOp.and IntKind.i64 fl 32 ≠ 0 then 2 else if bits BinOp.and IntKind.i64 fl 29 ≠ 0 then 1 else 0
def hidF (c : Ce) : Bool := bits BinOp.and IntKind.i64 c.flags 64 != 0
/-- The glyph of a cell. -/
def glyC (c : Ce) : List Gl := if hidF c = true then [⟨⟨#[42]⟩, false, 3⟩] else if c.width = 0 then [] else [⟨c.text, c.width == 2, stylF c.flags⟩]
def glyCs (l : List Ce) : List Gl := l.flatMap glyC
theorem glyC_len (c : Ce) : (glyC c).length ≤ 1 := by
  unfold glyC
  split
  · exact Nat.le_refl _
  · split
    · exact Nat.zero_le _
    · exact Nat.le_refl _
theorem glyCs_len : ∀ l : List Ce, (glyCs l).length ≤ l.length
  | [] => Nat.le_refl _
  | c :: l => by
    have h1 := glyC_len c
    have h2 := glyCs_len l
    unfold glyCs at *
    rw [List.flatMap_cons, List.length_append, List.length_cons]; omega
/-- Without the blanks at the end. -/
def trimG (l : List Gl) : List Gl := (l.reverse.dropWhile isBlank).reverse

/-- A concealed cell of width 1 in a row may have any text of width 1. -/
theorem rowC_set : ∀ (l : List Ce) (x : Nat) (c c' : Ce), l[x]? = some c → c.width = 1 → c' = { c with text := c'.text } → clErr c'.text.data.toList = 0 → clW c'.text.data.toList = 1 → rowC l = 0 → rowC (l.set x c') = 0
  | [], x, c, c', h, _, _, _, _, _ => by simp at h
  | a :: l, 0, c, c', h, hw, he, h1, h2, h0 => by
    have : a = c := by simpa using h
    subst this
    have hw' : c'.width = 1 := by rw [he]; exact hw
    rw [List.set_cons_zero]
    rcases rowC_ways h0 with ⟨_, _, h⟩ | ⟨_, _, h⟩ | ⟨_, _, _, h⟩ | ⟨_, _, _, h⟩ | ⟨h, _⟩ | ⟨_, _, h, _⟩ | ⟨_, _, h, _⟩
    · cases h
    · cases h
    · cases h
    · unfold rowC
      rw [if_neg (by omega), if_neg (by omega), if_neg (by omega), if_pos hw']; exact h
    all_goals omega
  | a :: l, x + 1, c, c', h, hw, he, h1, h2, h0 => by
    have hx : l[x]? = some c := by simpa using h
    rw [List.set_cons_succ]
    rcases rowC_ways h0 with ⟨_, _, hr⟩ | ⟨_, _, hr⟩ | ⟨_, _, _, hr⟩ | ⟨k1, k2, k3, hr⟩ | ⟨_, _, _, _, hr⟩ | ⟨_, _, _, _, _, _, _, hr⟩ | ⟨d, rest, k1, k2, k3, k4, k5, hr⟩
    · cases hr
    · cases hr
    · cases hr
    · have ih := rowC_set l x c c' hx hw he h1 h2 hr
      unfold rowC
      rw [if_neg (by omega), if_neg (by omega), if_neg (by omega), if_pos k1]; exact ih
    · cases hr
    · cases hr
    · subst k4
      match x, hx with
      | 0, hx =>
        have : d = c := by simpa using hx
        subst this
        unfold halfB at k5
        rw [hw] at k5
        simp at k5
      | x + 1, hx =>
        have ih := rowC_set rest x c c' (by simpa using hx) hw he h1 h2 hr
        rw [List.set_cons_succ]
        unfold rowC
        rw [if_neg (by omega), if_neg (by omega), if_neg (by omega), if_neg (by omega)]
        dsimp only
        rw [k5, if_pos rfl]; exact ih
theorem glyCs_set (l : List Ce) (x : Nat) (c c' : Ce) (h : l[x]? = some c) (hf : hidF c = true) (he : c' = { c with text := c'.text }) : glyCs (l.set x c') = glyCs l := by
  have hf' : hidF c' = true := by rw [he]; exact hf
  have e1 : glyC c' = glyC c := by unfold glyC; rw [hf, hf']; rfl
  induction l generalizing x with
  | nil => simp at h
  | cons a l ih =>
    cases x with
    | zero =>
      have : a = c := by simpa using h
      subst this
      rw [List.set_cons_zero]; unfold glyCs; rw [List.flatMap_cons, List.flatMap_cons, e1]
    | succ x =>
      have := ih x (by simpa using h)
      rw [List.set_cons_succ]; unfold glyCs at this ⊢; rw [List.flatMap_cons, List.flatMap_cons, this]
end Go.Proofs.YtdmnnjpbndngeaaDoor

/- Chapter 45: a terminal in memory; narratorref04.Right, narratorref07.Great, narratorref15.Large. -/
namespace Go.Proofs.YtdmnnjpbndngeaaDoor
open Go.RowKit

structure Tm where
  W : Int
  H : Int
  rows : List (List Ce)
  row : Int
  col : Int
  vis : Bool
  I : Nat → Int
  B : Nat → Bool
  S : Nat → ByteArray
  SA : Nat → Option Addr
  SL : Nat → Nat
  SC : Nat → Nat
def Tm.val (t : Tm) (A : Option Addr) (c : Nat) : Value := .agg #[.int .i64 t.W, .int .i64 t.H, .slice A t.rows.length c, .int .i64 (t.I 3), .int .i64 (t.I 4), .slice (t.SA 5) (t.SL 5) (t.SC 5), .int .i64 t.row, .int .i64 t.col, .bool (t.B 8), .int .i64 (t.I 9), .int .i64 (t.I 10), .bool (t.B 11), .int .i64 (t.I 12), .int .i64 (t.I 13), .int .i64 (t.I 14), .bool (t.B 15), .int .u8 (t.I 16), .int .u8 (t.I 17), .int .i64 (t.I 18), .int .i64 (t.I 19), .int .i64 (t.I 20), .int .i64 (t.I 21), .bool (t.B 22), .bool (t.B 23), .bool (t.B 24), .bool (t.B 25), .bool (t.B 26), .bool t.vis, .bool (t.B 28), .bool (t.B 29), .int .u8 (t.I 30), .int .u8 (t.I 31), .int .i64 (t.I 32), .int .i64 (t.I 33), .int .i64 (t.I 34), .slice (t.SA 35) (t.SL 35) (t.SC 35), .slice (t.SA 36) (t.SL 36) (t.SC 36), .int .i64 (t.I 37), .string (t.S 38), .string (t.S 39), .string (t.S 40), .string (t.S 41)]
set_option maxRecDepth 100000 in
theorem tm_cells {w : World} {b : Nat} {c0 c1 c2 c3 c4 c5 c6 c7 c8 c9 c10 c11 c12 c13 c14 c15 c16 c17 c18 c19 c20 c21 c22 c23 c24 c25 c26 c27 c28 c29 c30 c31 c32 c33 c34 c35 c36 c37 c38 c39 c40 c41 : Value} {t : TypeId} (h : w.heap[b]? = some (.cells #[c0, c1, c2, c3, c4, c5, c6, c7, c8, c9, c10, c11, c12, c13, c14, c15, c16, c17, c18, c19, c20, c21, c22, c23, c24, c25, c26, c27, c28, c29, c30, c31, c32, c33, c34, c35, c36, c37, c38, c39, c40, c41] t (0, 0))) : w.cell? ⟨b, 0, none⟩ = some c0 ∧ w.cell? ⟨b, 1, none⟩ = some c1 ∧ w.cell? ⟨b, 2, none⟩ = some c2 ∧ w.cell? ⟨b, 3, none⟩ = some c3 ∧ w.cell? ⟨b, 4, none⟩ = some c4 ∧ w.cell? ⟨b, 5, none⟩ = some c5 ∧ w.cell? ⟨b, 6, none⟩ = some c6 ∧ w.cell? ⟨b, 7, none⟩ = some c7 ∧ w.cell? ⟨b, 8, none⟩ = some c8 ∧ w.cell? ⟨b, 9, none⟩ = some c9 ∧ w.cell? ⟨b, 10, none⟩ = some c10 ∧ w.cell? ⟨b, 11, none⟩ = some c11 ∧ w.cell? ⟨b, 12, none⟩ = some c12 ∧ w.cell? ⟨b, 13, none⟩ = some c13 ∧ w.cell? ⟨b, 14, none⟩ = some c14 ∧ w.cell? ⟨b, 15, none⟩ = some c15 ∧ w.cell? ⟨b, 16, none⟩ = some c16 ∧ w.cell? ⟨b, 17, none⟩ = some c17 ∧ w.cell? ⟨b, 18, none⟩ = some c18 ∧ w.cell? ⟨b, 19, none⟩ = some c19 ∧ w.cell? ⟨b, 20, none⟩ = some c20 ∧ w.cell? ⟨b, 21, none⟩ = some c21 ∧ w.cell? ⟨b, 22, none⟩ = some c22 ∧ w.cell? ⟨b, 23, none⟩ = some c23 ∧ w.cell? ⟨b, 24, none⟩ = some c24 ∧ w.cell? ⟨b, 25, none⟩ = some c25 ∧ w.cell? ⟨b, 26, none⟩ = some c26 ∧ w.cell? ⟨b, 27, none⟩ = some c27 ∧ w.cell? ⟨b, 28, none⟩ = some c28 ∧ w.cell? ⟨b, 29, none⟩ = some c29 ∧ w.cell? ⟨b, 30, none⟩ = some c30 ∧ w.cell? ⟨b, 31, none⟩ = some c31 ∧ w.cell? ⟨b, 32, none⟩ = some c32 ∧ w.cell? ⟨b, 33, none⟩ = some c33 ∧ w.cell? ⟨b, 34, none⟩ = some c34 ∧ w.cell? ⟨b, 35, none⟩ = some c35 ∧ w.cell? ⟨b, 36, none⟩ = some c36 ∧ w.cell? ⟨b, 37, none⟩ = some c37 ∧ w.cell? ⟨b, 38, none⟩ = some c38 ∧ w.cell? ⟨b, 39, none⟩ = some c39 ∧ w.cell? ⟨b, 40, none⟩ = some c40 ∧ w.cell? ⟨b, 41, none⟩ = some c41 :=
  ⟨cell_block h 0, cell_block h 1, cell_block h 2, cell_block h 3, cell_block h 4, cell_block h 5, cell_block h 6, cell_block h 7, cell_block h 8, cell_block h 9, cell_block h 10, cell_block h 11, cell_block h 12, cell_block h 13, cell_block h 14, cell_block h 15, cell_block h 16, cell_block h 17, cell_block h 18, cell_block h 19, cell_block h 20, cell_block h 21, cell_block h 22, cell_block h 23, cell_block h 24, cell_block h 25, cell_block h 26, cell_block h 27, cell_block h 28, cell_block h 29, cell_block h 30, cell_block h 31, cell_block h 32, cell_block h 33, cell_block h 34, cell_block h 35, cell_block h 36, cell_block h 37, cell_block h 38, cell_block h 39, cell_block h 40, cell_block h 41⟩
theorem ce_cells {w : World} {b : Nat} {v0 v1 v2 v3 v4 : Value} {t : TypeId} (h : w.heap[b]? = some (.cells #[v0, v1, v2, v3, v4] t (0, 0))) : w.cell? ⟨b, 0, none⟩ = some v0 ∧ w.cell? ⟨b, 1, none⟩ = some v1 ∧ w.cell? ⟨b, 2, none⟩ = some v2 ∧ w.cell? ⟨b, 3, none⟩ = some v3 ∧ w.cell? ⟨b, 4, none⟩ = some v4 :=
  ⟨cell_block h 0, cell_block h 1, cell_block h 2, cell_block h 3, cell_block h 4⟩

theorem neq_cell (W : World) (a1 a2 : ByteArray) (w1 w2 f1 f2 b1 b2 g1 g2 : Int) : (binOp .neq 47 (.agg #[.string a1, .int .i64 w1, .int .i64 f1, .int .i64 b1, .int .i64 g1]) (.agg #[.string a2, .int .i64 w2, .int .i64 f2, .int .i64 b2, .int .i64 g2])).run Tryd.prog W = .ok (.bool (!((a1.toList == a2.toList) && ((w1 == w2) && ((f1 == f2) && ((b1 == b2) && (g1 == g2))))))) W := by
  have h1 := Tryd.underlying47
  have h2 := Tryd.underlying28
  rw [run_neq_struct]
  cases e1 : (a1.toList == a2.toList) <;> cases e2 : (w1 == w2) <;> cases e3 : (f1 == f2) <;> cases e4 : (b1 == b2) <;> cases e5 : (g1 == g2) <;> simp [go_sem, h1, h2, e1, e2, e3, e4, e5, Tryd.underlying9, Tryd.underlying3]

theorem empty_toList : (⟨#[]⟩ : ByteArray).toList = [] := by rw [ByteArray.toList_eq]
theorem neq_half (W : World) (d c : Ce) (r : Bool) (h : halfB d c = r) : (binOp .neq 47 (.agg #[.string d.text, .int .i64 d.width, .int .i64 d.fore, .int .i64 d.back, .int .i64 d.flags]) (.agg #[.string ⟨#[]⟩, .int .i64 0, .int .i64 c.fore, .int .i64 c.back, .int .i64 c.flags])).run Tryd.prog W = .ok (.bool (!r)) W := by
  rw [neq_cell, empty_toList, ← h]; rfl

set_option maxHeartbeats 1000000 in
theorem right04 (w : World) (a b f : Int) :
    Calls Tryd.prog 12 #[.agg #[.int .i64 a, .int .i64 b, .int .i64 f]] w fun e w' => e = .returned (.int .i64 (if attrOk ⟨⟨#[]⟩, 0, a, b, f⟩ = true then 1 else 0)) ∧ Below w.heap.size w w' := by
  have hb0 := (Below.refl w.heap.size w).alloc (Nat.le_refl _) (.cells #[.int .i64 a, .int .i64 b, .int .i64 f] 28)
  unfold attrOk
  dsimp only
  by_cases h1 : a < -1
  · have d1 : decide (a < -1) = true := decide_eq_true h1
    rw [decide_eq_false (show ¬ -1 ≤ a by omega)]
    go_enter Tryd.func12, Tryd.ntmps12
    go_wp2
    go_ret
    exact ⟨rfl, hb0⟩
  have d1 : decide (a < -1) = false := decide_eq_false h1
  rw [decide_eq_true (show -1 ≤ a by omega)]
  by_cases h2 : 255 < a
  · have d2 : decide (255 < a) = true := decide_eq_true h2
    rw [decide_eq_false (show ¬ a ≤ 255 by omega)]
    go_enter Tryd.func12, Tryd.ntmps12
    go_wp2
    go_ret
    exact ⟨rfl, hb0⟩
  have d2 : decide (255 < a) = false := decide_eq_false h2
  rw [decide_eq_true (show a ≤ 255 by omega)]
  by_cases h3 : b < -1
  · have d3 : decide (b < -1) = true := decide_eq_true h3
    rw [decide_eq_false (show ¬ -1 ≤ b by omega)]
    go_enter Tryd.func12, Tryd.ntmps12
    go_wp2
    go_ret
    exact ⟨rfl, hb0⟩
  have d3 : decide (b < -1) = false := decide_eq_false h3
  rw [decide_eq_true (show -1 ≤ b by omega)]
  by_cases h4 : 255 < b
  · have d4 : decide (255 < b) = true := decide_eq_true h4
    rw [decide_eq_false (show ¬ b ≤ 255 by omega)]
    go_enter Tryd.func12, Tryd.ntmps12
    go_wp2
    go_ret
    exact ⟨rfl, hb0⟩
  have d4 : decide (255 < b) = false := decide_eq_false h4
  rw [decide_eq_true (show b ≤ 255 by omega)]
  by_cases h5 : f < 0
  · have d5 : decide (f < 0) = true := decide_eq_true h5
    rw [decide_eq_false (show ¬ 0 ≤ f by omega)]
    go_enter Tryd.func12, Tryd.ntmps12
    go_wp2
    go_ret
    exact ⟨rfl, hb0⟩
  have d5 : decide (f < 0) = false := decide_eq_false h5
  rw [decide_eq_true (show 0 ≤ f by omega)]
  by_cases h6 : 255 < f
  · have d6 : decide (255 < f) = true := decide_eq_true h6
    rw [decide_eq_false (show ¬ f ≤ 255 by omega)]
    go_enter Tryd.func12, Tryd.ntmps12
    go_wp2
    go_ret
    exact ⟨rfl, hb0⟩
  have d6 : decide (255 < f) = false := decide_eq_false h6
  rw [decide_eq_true (show f ≤ 255 by omega)]
  go_enter Tryd.func12, Tryd.ntmps12
  go_wp2
  go_ret
  exact ⟨rfl, hb0⟩

set_option maxHeartbeats 400000 in
theorem great07 (w : World) (A : Option Addr) (c : Nat) (l : List Ce) (h : CeRow w w.heap.size A l) :
    Calls Tryd.prog 9 #[.slice A l.length c] w fun e w' => e = .returned (.bool (rowGreatC l)) ∧ w = w' := by
  have HH := hide h
  clear h
  cases h0 : decide ((140 : Int) < l.length) with
  | true =>
    go_enter Tryd.func9, Tryd.ntmps9
    go_wp2
    go_ret
    exact ⟨ret_bool (by have := of_decide_eq_true h0; unfold rowGreatC; rw [decide_eq_true (by omega)]; rfl), rfl⟩
  | false =>
    go_enter Tryd.func9, Tryd.ntmps9
    go_wp2
    have hl : l.length ≤ 140 := by have := of_decide_eq_false h0; omega
    go_loop [3] (fun i => ∃ k : Nat, k ≤ l.length ∧ i = .int .i64 k ∧ (l.take k).any (fun g => decide (40 < g.text.size)) = false) (fun i => l.length - (intOf i).toNat)
    case atStart => exact ⟨0, Nat.zero_le _, rfl, by simp⟩
    case round =>
      obtain ⟨k, hk, rfl, ha⟩ := hrel
      have Ha := hide ha
      clear ha
      by_cases hlt : k < l.length
      · obtain ⟨b, off, rfl, hbb, c0, -⟩ := HH.out.get hlt
        cases hm : decide ((40 : Int) < l[k].text.size) with
        | true =>
          go_wp2
          go_ret
          refine ⟨ret_bool ?_, rfl⟩
          unfold rowGreatC
          have := of_decide_eq_true hm
          rw [any_at _ l k hlt (by simp; omega)]; simp
        | false =>
          go_wp2
          go_round
          case rel => exact ⟨k + 1, by omega, by go_num, by have := of_decide_eq_false hm; rw [any_take_succ _ _ _ hlt, Ha.out, Bool.false_or]; simp; omega⟩
          case measure => simp [intOf]; omega
      · go_wp2
        go_ret
        refine ⟨ret_bool ?_, rfl⟩
        have h := Ha.out
        rw [List.take_of_length_le (by omega)] at h
        unfold rowGreatC
        rw [h, decide_eq_false (by omega)]; rfl

set_option maxRecDepth 100000 in
set_option maxHeartbeats 2000000 in
theorem large15 (w : World) (A : Option Addr) (c : Nat) (t : Tm) (h : CRows2 w w.heap.size A t.rows) :
    Calls Tryd.prog 4 #[t.val A c] w fun e w' => e = .returned (.bool (largeC t.rows)) ∧ Below w.heap.size w w' := by
  have HH := hide h
  clear h
  obtain ⟨W, H, rows, row, col, vis, I, B, S, SA, SL, SC⟩ := t
  unfold Tm.val
  dsimp only at HH ⊢
  obtain ⟨W0, hW0⟩ : ∃ W0, w.alloc (.cells #[.int .i64 W, .int .i64 H, .slice A rows.length c, .int .i64 (I 3), .int .i64 (I 4), .slice (SA 5) (SL 5) (SC 5), .int .i64 row, .int .i64 col, .bool (B 8), .int .i64 (I 9), .int .i64 (I 10), .bool (B 11), .int .i64 (I 12), .int .i64 (I 13), .int .i64 (I 14), .bool (B 15), .int .u8 (I 16), .int .u8 (I 17), .int .i64 (I 18), .int .i64 (I 19), .int .i64 (I 20), .int .i64 (I 21), .bool (B 22), .bool (B 23), .bool (B 24), .bool (B 25), .bool (B 26), .bool vis, .bool (B 28), .bool (B 29), .int .u8 (I 30), .int .u8 (I 31), .int .i64 (I 32), .int .i64 (I 33), .int .i64 (I 34), .slice (SA 35) (SL 35) (SC 35), .slice (SA 36) (SL 36) (SC 36), .int .i64 (I 37), .string (S 38), .string (S 39), .string (S 40), .string (S 41)] 38) = W0 := ⟨_, rfl⟩
  have hbox : Below w.heap.size w W0 := by rw [← hW0]; exact (Below.refl w.heap.size w).alloc (Nat.le_refl _) _
  have k2 : W0.cell? ⟨w.heap.size, 2, none⟩ = some (.slice A rows.length c) := by rw [← hW0]; exact cell_block (block_new w _) 2
  cases h0 : decide ((12 : Int) < rows.length) with
  | true =>
    go_enter Tryd.func4, Tryd.ntmps4
    go_wp2
    go_ret
    exact ⟨ret_bool (by have := of_decide_eq_true h0; unfold largeC; rw [decide_eq_true (by omega)]; rfl), hbox⟩
  | false =>
    have hl : rows.length ≤ 12 := by have := of_decide_eq_false h0; omega
    have hkey : largeC rows = rows.any rowGreatC := by unfold largeC; rw [decide_eq_false (by omega)]; rfl
    have Hkey := hide hkey
    clear hkey
    go_enter Tryd.func4, Tryd.ntmps4
    go_wp2
    go_loop [3] (fun i => ∃ k : Nat, k ≤ rows.length ∧ i = .int .i64 k ∧ (rows.take k).any rowGreatC = false) (fun i => rows.length - (intOf i).toNat)
    case atStart => exact ⟨0, Nat.zero_le _, rfl, by simp⟩
    case round =>
      obtain ⟨k, hk, rfl, ha⟩ := hrel
      have Ha := hide ha
      clear ha
      by_cases hlt : k < rows.length
      · obtain ⟨b, off, rfl, hbb, A1, c1, d0, d1, d2⟩ := (HH.out.below hbox).get1 hlt
        have hrow := hide (d2.more hbox.size)
        clear d2
        cases hm : rowGreatC rows[k] with
        | true =>
          go_wp2_with (go_at_call 9; refine (great07 _ _ _ _ hrow.out).mono ?_; rintro e w1 ⟨rfl, rfl⟩)
          go_ret
          exact ⟨ret_bool (by rw [Hkey.out, any_at _ _ k hlt hm]), hbox⟩
        | false =>
          go_wp2_with (go_at_call 9; refine (great07 _ _ _ _ hrow.out).mono ?_; rintro e w1 ⟨rfl, rfl⟩)
          go_round
          case rel => exact ⟨k + 1, by omega, by go_num, by rw [any_take_succ _ _ _ hlt, Ha.out, hm]; rfl⟩
          case measure => simp [intOf]; omega
      · go_wp2
        go_ret
        exact ⟨ret_bool (by have h := Ha.out; rw [List.take_of_length_le (by omega)] at h; rw [Hkey.out, h]), hbox⟩
end Go.Proofs.YtdmnnjpbndngeaaDoor

/- Chapter 45: narratorref07.Check. -/
namespace Go.Proofs.YtdmnnjpbndngeaaDoor
open Go.RowKit

set_option maxRecDepth 100000 in
set_option maxHeartbeats 2000000 in
theorem check07 (w : World) (A : Option Addr) (c : Nat) (l : List Ce) (h : CeRow w w.heap.size A l) (hs : ∀ x ∈ l, x.text.size ≤ 500) :
    Calls Tryd.prog 11 #[.slice A l.length c] w fun e w' => e = .returned (.int .i64 (rowCE l)) ∧ Below w.heap.size w w' := by
  have HH := hide h
  have Hs := hide hs
  have Hrf := hide (Below.refl w.heap.size w)
  obtain ⟨n, hn⟩ : ∃ n, l.length = n := ⟨_, rfl⟩
  have Hn := hide hn
  unfold rowCE
  rw [hn]
  clear h hs hn
  by_cases h1 : n < 1
  · have d1 : decide (n < 1) = true := decide_eq_true h1
    have d1' : decide ((n : Int) < 1) = true := decide_eq_true (by omega)
    rw [if_pos (.inl h1)]
    go_enter Tryd.func11, Tryd.ntmps11
    go_wp2
    go_ret
    exact ⟨rfl, Hrf.out⟩
  have d1 : decide (n < 1) = false := decide_eq_false h1
  have d1' : decide ((n : Int) < 1) = false := decide_eq_false (by omega)
  by_cases h2 : 132 < n
  · have d2 : decide (132 < n) = true := decide_eq_true h2
    have d2' : decide ((132 : Int) < (n : Int)) = true := decide_eq_true (by omega)
    rw [if_pos (.inr h2)]
    go_enter Tryd.func11, Tryd.ntmps11
    go_wp2
    go_ret
    exact ⟨rfl, Hrf.out⟩
  have d2 : decide (132 < n) = false := decide_eq_false h2
  have d2' : decide ((132 : Int) < (n : Int)) = false := decide_eq_false (by omega)
  rw [if_neg (by omega)]
  have hn132 : n ≤ 132 := by omega
  obtain ⟨E, hE⟩ : ∃ E, rowC l = E := ⟨_, rfl⟩
  rw [hE]
  have HE := hide (show rowC (l.drop 0) = E by rw [List.drop_zero]; exact hE)
  clear h1 h2 hE
  go_enter Tryd.func11, Tryd.ntmps11
  go_wp2
  clear d1 d1' d2 d2'
  go_loopw [3] (fun i wr => ∃ k : Nat, k ≤ n ∧ i = .int .i64 (k : Int) ∧ rowC (l.drop k) = E ∧ Below w.heap.size w wr) (fun i _ => n - (intOf i).toNat)
  case atStart => exact ⟨0, Nat.zero_le _, rfl, HE.out, Hrf.out⟩
  case round =>
    clear HE Hrf
    obtain ⟨k, hk, rfl, he, hb⟩ := hrel
    rename World => wo
    have hso := hb.size
    have Hb := hide hb
    clear hb
    by_cases hlt : k < n
    · have hltI : (k : Int) < (n : Int) := by omega
      have hkl : k < l.length := by rw [Hn.out]; exact hlt
      have hmem := List.getElem_mem hkl
      obtain ⟨b, off, hA, hbb, c0, c1, c2, c3, c4⟩ := (HH.out.below (CeAt.stays _) Hb.out).get hkl
      have hsz := Hs.out _ hmem
      rw [List.drop_eq_getElem_cons hkl] at he
      obtain ⟨⟨tx, wd, fo, ba, fl⟩, hc⟩ : ∃ x, l[k] = x := ⟨_, rfl⟩
      rw [hc] at c0 c1 c2 c3 c4 hsz he
      dsimp only at c0 c1 c2 c3 c4 hsz
      subst hA
      have HC5 := hide (fun (W2 : World) (hb : Below wo.heap.size wo W2) => show W2.cell? ⟨b, off + k * 5, none⟩ = some (.string tx) ∧ W2.cell? ⟨b, off + k * 5 + 1, none⟩ = some (.int .i64 wd) ∧ W2.cell? ⟨b, off + k * 5 + 2, none⟩ = some (.int .i64 fo) ∧ W2.cell? ⟨b, off + k * 5 + 3, none⟩ = some (.int .i64 ba) ∧ W2.cell? ⟨b, off + k * 5 + 4, none⟩ = some (.int .i64 fl) from
        have hx : b < wo.heap.size := by omega
        ⟨(hb.cell (p := ⟨b, _, none⟩) hx).trans c0, (hb.cell (p := ⟨b, _, none⟩) hx).trans c1, (hb.cell (p := ⟨b, _, none⟩) hx).trans c2, (hb.cell (p := ⟨b, _, none⟩) hx).trans c3, (hb.cell (p := ⟨b, _, none⟩) hx).trans c4⟩)
      have HCk := hide (fun W2 => check03 W2 tx hsz)
      have HWd := hide (fun W2 => width03 W2 tx hsz)
      obtain ⟨C, hC⟩ : ∃ C, clErr tx.data.toList = C := ⟨_, rfl⟩
      obtain ⟨D, hD⟩ : ∃ D, clW tx.data.toList = D := ⟨_, rfl⟩
      have hw := rowC_ways he
      unfold RowWays at hw
      dsimp only at hw
      simp only [hC] at HCk hw
      simp only [hD] at HWd hw
      clear hC hD hmem hc he hsz
      rcases hw with ⟨q1, q2, rfl⟩ | hw
      · have t1 : (wd != 1) = true := by rw [bne_iff_ne]; exact q1
        have t2 : (wd != 2) = true := by rw [bne_iff_ne]; exact q2
        clear q1 q2
        go_wp2
        go_ret
        exact ⟨rfl, Hb.out⟩
      have HBo := hide (fun (W2 : World) (hb : Below wo.heap.size wo W2) => Hb.out.trans (hb.mono hso))
      have HL := HH.out.below (CeAt.stays _) Hb.out
      have HL := hide HL
      rcases hw with ⟨q0, q1, rfl⟩ | hw
      · have t3 : (C != 0) = true := by rw [bne_iff_ne]; exact q1
        clear q1
        rcases q0 with rfl | rfl
        all_goals
          go_wp2_with (first
            | (go_at_call 25; refine (HCk.out _).mono ?_; rintro e w4 ⟨rfl, hb4⟩; obtain ⟨e0, e1, e2, e3, e4⟩ := HC5.out w4 hb4; have Hb4 := hide (Hb.out.trans (hb4.mono hso)); have Hi4 := hide hb4; clear hb4)
            | fail)
          go_ret
          exact ⟨rfl, Hb4.out⟩
      rcases hw with ⟨q0, q1, q2, rfl⟩ | hw
      · have t3 : (C != 0) = false := by rw [q1]; rfl
        have t4 : (D != wd) = true := by rw [bne_iff_ne]; exact q2
        clear q1 q2
        rcases q0 with rfl | rfl
        all_goals
          go_wp2_with (first
            | (go_at_call 26; refine (HWd.out _).mono ?_; rintro e w5 ⟨rfl, hb5⟩; have Hi5 := hide (Hi4.out.trans (hb5.mono Hi4.out.size)); obtain ⟨g0, g1, g2, g3, g4⟩ := HC5.out w5 Hi5.out; have Hb5 := hide (Hb4.out.trans (hb5.mono Hb4.out.size)); clear hb5)
            | (go_at_call 25; refine (HCk.out _).mono ?_; rintro e w4 ⟨rfl, hb4⟩; obtain ⟨e0, e1, e2, e3, e4⟩ := HC5.out w4 hb4; have Hb4 := hide (Hb.out.trans (hb4.mono hso)); have Hi4 := hide hb4; clear hb4)
            | fail)
          go_ret
          exact ⟨rfl, Hb5.out⟩
      rcases hw with ⟨rfl, q1, q2, q3⟩ | hw
      · have t3 : (C != 0) = false := by rw [q1]; rfl
        have t4 : (D != 1) = false := by rw [q2]; rfl
        have Q3 := hide q3
        clear q1 q2 q3
        go_wp2_with (first
          | (go_at_call 26; refine (HWd.out _).mono ?_; rintro e w5 ⟨rfl, hb5⟩; have Hi5 := hide (Hi4.out.trans (hb5.mono Hi4.out.size)); obtain ⟨g0, g1, g2, g3, g4⟩ := HC5.out w5 Hi5.out; have Hb5 := hide (Hb4.out.trans (hb5.mono Hb4.out.size)); clear hb5)
          | (go_at_call 25; refine (HCk.out _).mono ?_; rintro e w4 ⟨rfl, hb4⟩; obtain ⟨e0, e1, e2, e3, e4⟩ := HC5.out w4 hb4; have Hb4 := hide (Hb.out.trans (hb4.mono hso)); have Hi4 := hide hb4; clear hb4)
          | fail)
        go_roundw
        case rel => exact ⟨k + 1, by omega, by go_num, Q3.out, Hb5.out⟩
        case measure => simp [intOf]; omega
      have hdl : (l.drop (k + 1)).length = n - (k + 1) := by rw [List.length_drop, Hn.out]
      rcases hw with ⟨rfl, q1, q2, q3, rfl⟩ | hw
      · have t3 : (C != 0) = false := by rw [q1]; rfl
        have t4 : (D != 2) = false := by rw [q2]; rfl
        rw [q3] at hdl
        have hk1 : k + 1 = n := by simp at hdl; omega
        have t5 : ((k : Int) + 1 == (n : Int)) = true := by rw [beq_iff_eq]; omega
        clear q1 q2 q3 hdl hk1
        go_wp2_with (first
          | (go_at_call 26; refine (HWd.out _).mono ?_; rintro e w5 ⟨rfl, hb5⟩; have Hi5 := hide (Hi4.out.trans (hb5.mono Hi4.out.size)); obtain ⟨g0, g1, g2, g3, g4⟩ := HC5.out w5 Hi5.out; have Hb5 := hide (Hb4.out.trans (hb5.mono Hb4.out.size)); clear hb5)
          | (go_at_call 25; refine (HCk.out _).mono ?_; rintro e w4 ⟨rfl, hb4⟩; obtain ⟨e0, e1, e2, e3, e4⟩ := HC5.out w4 hb4; have Hb4 := hide (Hb.out.trans (hb4.mono hso)); have Hi4 := hide hb4; clear hb4)
          | fail)
        go_quiet (fail)
        go_wp2
        go_ret
        exact ⟨rfl, below_drewN Hb5.out _⟩
      have key : ∀ d rest', l.drop (k + 1) = d :: rest' → k + 1 < n ∧ l[k + 1]? = some d ∧ rest' = l.drop (k + 2) := fun d rest' h => by
        rw [h] at hdl
        rw [List.length_cons] at hdl
        have hlt2 : k + 1 < l.length := by rw [Hn.out]; omega
        rw [List.drop_eq_getElem_cons hlt2] at h
        injection h with h1 h2
        exact ⟨by omega, by rw [List.getElem?_eq_getElem hlt2, h1], h2.symm⟩
      have key2 : ∀ d, l[k + 1]? = some d → ∀ (W2 : World), Below wo.heap.size wo W2 → W2.cell? ⟨b, off + (k + 1) * 5, none⟩ = some (.string d.text) ∧ W2.cell? ⟨b, off + (k + 1) * 5 + 1, none⟩ = some (.int .i64 d.width) ∧ W2.cell? ⟨b, off + (k + 1) * 5 + 2, none⟩ = some (.int .i64 d.fore) ∧ W2.cell? ⟨b, off + (k + 1) * 5 + 3, none⟩ = some (.int .i64 d.back) ∧ W2.cell? ⟨b, off + (k + 1) * 5 + 4, none⟩ = some (.int .i64 d.flags) := fun d hd W2 hb => by
        have hl1 : k + 1 < l.length := (List.getElem?_eq_some_iff.1 hd).1
        obtain ⟨b', off', hA, hbb', c0, c1, c2, c3, c4⟩ := HL.out.get hl1
        cases hA
        rw [(List.getElem?_eq_some_iff.1 hd).2] at c0 c1 c2 c3 c4
        have hx : b < wo.heap.size := by omega
        exact ⟨(hb.cell (p := ⟨b, _, none⟩) hx).trans c0, (hb.cell (p := ⟨b, _, none⟩) hx).trans c1, (hb.cell (p := ⟨b, _, none⟩) hx).trans c2, (hb.cell (p := ⟨b, _, none⟩) hx).trans c3, (hb.cell (p := ⟨b, _, none⟩) hx).trans c4⟩
      rcases hw with ⟨d, rest', rfl, q1, q2, q3, q4, rfl⟩ | ⟨d, rest', rfl, q1, q2, q3, q4, q5⟩
      · obtain ⟨p1, p2, p3⟩ := key d rest' q3
        have K2 := hide (key2 d p2)
        have hq := fun W2 => neq_half W2 d ⟨tx, 2, fo, ba, fl⟩ false q4
        obtain ⟨dt, dw, df, db, dg⟩ := d
        obtain ⟨k1, hk1⟩ : ∃ k1, k + 1 = k1 := ⟨_, rfl⟩
        rw [hk1] at K2 p1
        dsimp only [Bool.not_true, Bool.not_false] at K2 hq
        have t3 : (C != 0) = false := by rw [q1]; rfl
        have t4 : (D != 2) = false := by rw [q2]; rfl
        have t5 : ((k1 : Int) == (n : Int)) = false := by rw [beq_eq_false_iff_ne]; omega
        have p1I : (k1 : Int) < (n : Int) := by omega
        have hix : (k : Int) + 1 = (k1 : Int) := by omega
        have hwr : IntKind.i64.wrap (k1 : Int) = (k1 : Int) := IntWalk.i64_in _ (by omega)
        have Hk1 := hide hk1
        have P3 := hide p3
        clear hk1 key key2 hdl q1 q2 q3 q4 p2 p3
        go_wp2_with (first
          | (go_at_call 26; refine (HWd.out _).mono ?_; rintro e w5 ⟨rfl, hb5⟩; have Hi5 := hide (Hi4.out.trans (hb5.mono Hi4.out.size)); obtain ⟨g0, g1, g2, g3, g4⟩ := HC5.out w5 Hi5.out; have Hb5 := hide (Hb4.out.trans (hb5.mono Hb4.out.size)); clear hb5)
          | (go_at_call 25; refine (HCk.out _).mono ?_; rintro e w4 ⟨rfl, hb4⟩; obtain ⟨e0, e1, e2, e3, e4⟩ := HC5.out w4 hb4; have Hb4 := hide (Hb.out.trans (hb4.mono hso)); have Hi4 := hide hb4; clear hb4)
          | fail)
        obtain ⟨z0, z1, z2, z3, z4⟩ := K2.out w5 Hi5.out
        go_quiet (fail)
        go_wp2
        go_ret
        exact ⟨rfl, below_drewN Hb5.out _⟩
      · have Q5 := hide q5
        clear q5
        obtain ⟨p1, p2, p3⟩ := key d rest' q3
        have K2 := hide (key2 d p2)
        have hq := fun W2 => neq_half W2 d ⟨tx, 2, fo, ba, fl⟩ true q4
        obtain ⟨dt, dw, df, db, dg⟩ := d
        obtain ⟨k1, hk1⟩ : ∃ k1, k + 1 = k1 := ⟨_, rfl⟩
        rw [hk1] at K2 p1
        dsimp only [Bool.not_true, Bool.not_false] at K2 hq
        have t3 : (C != 0) = false := by rw [q1]; rfl
        have t4 : (D != 2) = false := by rw [q2]; rfl
        have t5 : ((k1 : Int) == (n : Int)) = false := by rw [beq_eq_false_iff_ne]; omega
        have p1I : (k1 : Int) < (n : Int) := by omega
        have hix : (k : Int) + 1 = (k1 : Int) := by omega
        have hwr : IntKind.i64.wrap (k1 : Int) = (k1 : Int) := IntWalk.i64_in _ (by omega)
        have Hk1 := hide hk1
        have P3 := hide p3
        clear hk1 key key2 hdl q1 q2 q3 q4 p2 p3
        go_wp2_with (first
          | (go_at_call 26; refine (HWd.out _).mono ?_; rintro e w5 ⟨rfl, hb5⟩; have Hi5 := hide (Hi4.out.trans (hb5.mono Hi4.out.size)); obtain ⟨g0, g1, g2, g3, g4⟩ := HC5.out w5 Hi5.out; have Hb5 := hide (Hb4.out.trans (hb5.mono Hb4.out.size)); clear hb5)
          | (go_at_call 25; refine (HCk.out _).mono ?_; rintro e w4 ⟨rfl, hb4⟩; obtain ⟨e0, e1, e2, e3, e4⟩ := HC5.out w4 hb4; have Hb4 := hide (Hb.out.trans (hb4.mono hso)); have Hi4 := hide hb4; clear hb4)
          | fail)
        obtain ⟨z0, z1, z2, z3, z4⟩ := K2.out w5 Hi5.out
        go_quiet (fail)
        go_wp2
        go_roundw
        case rel => exact ⟨k1 + 1, by omega, by go_num, by rw [show k1 + 1 = k + 2 by have := Hk1.out; omega, ← P3.out]; exact Q5.out, below_drewN Hb5.out _⟩
        case measure => have := Hk1.out; simp [intOf]; omega
    · obtain rfl : n = k := by omega
      have hnl : ¬ (n : Int) < (n : Int) := by omega
      have he0 : E = 0 := by rw [← he, List.drop_of_length_le (by rw [Hn.out]; exact Nat.le_refl _)]; rfl
      subst he0
      go_wp2
      go_ret
      exact ⟨rfl, Hb.out⟩
end Go.Proofs.YtdmnnjpbndngeaaDoor
