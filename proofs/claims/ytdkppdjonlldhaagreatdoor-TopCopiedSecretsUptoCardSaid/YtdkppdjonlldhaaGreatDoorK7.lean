/- Chapter 45: clipping.Between and Lines, their lines. -/
import Derived.Test.YtdkppdjonlldhaaGreatDoorK6
import Derived.Test.YtdkppdjonlldhaaGreatDoorReg
namespace Go.Proofs.YtdkppdjonlldhaaGreatDoor
open Go.RowKit Go.Shelf

/-- A position. -/
structure Pl where
  upd : Int
  row : Int
  col : Int
def Pl.val (p : Pl) : Value := .agg #[.int .i64 p.upd, .int .i64 p.row, .int .i64 p.col]
def PlBox (w : World) (b : Nat) (p : Pl) : Prop := w.heap[b]? = some (.cells #[.int .i64 p.upd, .int .i64 p.row, .int .i64 p.col] 39 (0, 0))
theorem PlBox.cells {w : World} {b : Nat} {p : Pl} (h : PlBox w b p) : w.cell? ⟨b, 0, none⟩ = some (.int .i64 p.upd) ∧ w.cell? ⟨b, 1, none⟩ = some (.int .i64 p.row) ∧ w.cell? ⟨b, 2, none⟩ = some (.int .i64 p.col) :=
  ⟨cell_block h 0, cell_block h 1, cell_block h 2⟩
theorem PlBox.below {w w' : World} {b B : Nat} {p : Pl} (h : PlBox w b p) (hb : Below B w w') (hB : b < B) : PlBox w' b p := block_below h hb hB

/-- A part of a row. -/
theorem cutRow {w : World} {B : Nat} {A : Option Addr} {l : List Gl} {c a b : Nat} (h : GlRow w B A l) (hlc : l.length ≤ c) (hab : a ≤ b) (hb : b ≤ l.length) :
    ∃ A' c', (∀ W, (Instr.slice 34 (.slice A l.length c) (some (.int .i64 (a : Int))) (some (.int .i64 (b : Int))) none).run Tryz.prog W = .ok (.slice A' (b - a) c') W) ∧ GlRow w B A' ((l.take b).drop a) := by
  have hz : ∀ W, (sizeOf 42).run Tryz.prog W = .ok 3 W := fun W => Tryz.sizeOf42 W
  have hel : Tryz.prog.elem 34 = 42 := by kernel_rfl
  refine ⟨if c = a then A else A.map (·.add (a * 3)), c - a, fun W => ?_, ?_⟩
  · rw [run_slice_lh (P := Tryz.prog) (w := W) 34 A l.length c (by rw [hel]; exact Tryz.underlying34) .i64 .i64 (a : Int) (b : Int) (by omega) (by omega) (by omega), hel, hz W]
    simp [Result.andThen, sliced]
  · by_cases h0 : ((l.take b).drop a).length = 0
    · exact Sl.nil h0
    · have hl : 0 < l.length := by rw [List.length_drop, List.length_take] at h0; omega
      obtain ⟨bk, off, rfl, -, -⟩ := h hl
      have h1 := Sl.drop (h.take b) a
      rw [List.length_drop, List.length_take] at h0
      rw [if_neg (by omega)]
      have hadd : (⟨bk, off, none⟩ : Addr).add (a * 3) = ⟨bk, off + a * 3, none⟩ := by unfold Addr.add; split <;> simp_all
      rw [Option.map_some, hadd]
      exact h1
theorem drop_min (l : List Gl) (a b : Nat) : (l.take b).drop (min a b) = (l.take b).drop a := by
  rcases Nat.le_total a b with h | h
  · rw [Nat.min_eq_left h]
  · rw [Nat.min_eq_right h, List.drop_of_length_le (by rw [List.length_take]; omega), List.drop_of_length_le (by rw [List.length_take]; omega)]

theorem rowOf_get {v : Vw} {y : Nat} (h : y < v.rows.length) : v.rows[y] = rowOf v y := by unfold rowOf; rw [List.getElem?_eq_getElem h]; rfl
theorem rowOf_tame {v : Vw} (h : v.Tame) {y : Nat} (hy : y < v.rows.length) : (rowOf v y).length ≤ 140 ∧ ∀ g ∈ rowOf v y, g.text.size ≤ 40 := by
  rw [← rowOf_get hy]; exact h.2 _ (List.getElem_mem hy)

set_option maxRecDepth 100000 in
set_option maxHeartbeats 2000000 in
theorem between1P (w : World) (bv bf bt : Nat) (v : Vw) (A : Option Addr) (c : Nat) (fr tp : Pl) (hv : VwBox w bv v A c) (hf : PlBox w bf fr) (ht : PlBox w bt tp) (hrows : Rows2 w w.heap.size A v.rows) (htame : v.Tame) (y : Nat) (hy : y < v.rows.length)
    (hfc0 : 0 ≤ fr.col) (hfc1 : fr.col ≤ 1000) (htc0 : 0 ≤ tp.col) (htc1 : tp.col ≤ 1000) :
    Calls Tryz.prog 25 #[.int .i64 y, .pointer (some ⟨bv, 0, none⟩), .pointer (some ⟨bf, 0, none⟩), .pointer (some ⟨bt, 0, none⟩)] w fun e w' => e = .returned (.string (lineB v fr.row fr.col tp.row tp.col y)) ∧ Below w.heap.size w w' := by
  obtain ⟨bR, oR, rfl, hbR, A1, c1, d0, d1, d2⟩ := hrows.get1 hy
  obtain ⟨hl1, hl2⟩ := rowOf_tame htame hy
  rw [rowOf_get hy] at d0 d1 d2
  have Hres := hide (show lineB v fr.row fr.col tp.row tp.col y = textB (((rowOf v y).take (if (y : Int) = tp.row then cidx (rowOf v y) tp.col else (rowOf v y).length)).drop (if (y : Int) = fr.row then cidx (rowOf v y) fr.col else 0)) from rfl)
  obtain ⟨row, hrow⟩ : ∃ row, rowOf v y = row := ⟨_, rfl⟩
  rw [hrow] at d0 d1 d2 hl1 hl2 Hres
  clear hrow
  obtain ⟨fi, hfi⟩ : ∃ fi, (if (y : Int) = fr.row then cidx row fr.col else 0) = fi := ⟨_, rfl⟩
  obtain ⟨la, hla⟩ : ∃ la, (if (y : Int) = tp.row then cidx row tp.col else row.length) = la := ⟨_, rfl⟩
  have hlal : la ≤ row.length := by rw [← hla]; split; exact cidx_le _ _; exact Nat.le_refl _
  have hdm := drop_min row fi la
  have hmI : min (fi : Int) (la : Int) = ((min fi la : Nat) : Int) := by omega
  have hml : min fi la ≤ la := Nat.min_le_right fi la
  obtain ⟨m, hm⟩ : ∃ m, min fi la = m := ⟨_, rfl⟩
  rw [hm] at hdm hmI hml
  clear hm
  obtain ⟨A', c', hrun, hrow'⟩ := cutRow d2 d1 hml hlal
  have hcl : ((row.take la).drop m).length = la - m := by rw [List.length_drop, List.length_take]; omega
  have HT := hide (fun W1 (hb : Below w.heap.size w W1) => textVP W1 A' c' ((row.take la).drop m) ((hrow'.below (GlAt.stays _) hb).more hb.size) (by omega) (fun g hg => by have := hl2 g (List.mem_of_mem_take (List.mem_of_mem_drop hg)); omega))
  rw [hcl, hdm] at HT
  have HI := hide (fun W1 (hb : Below w.heap.size w W1) col (h0 : 0 ≤ col) (h1 : col ≤ 1000) => indexCP W1 A1 c1 row col ((d2.below (GlAt.stays _) hb).more hb.size) (by omega) h0 (by omega))
  have HK := hide (fun W1 (hb : Below w.heap.size w W1) => And.intro ((hv.below hb (block_lt hv)).cells.2.2.1) (And.intro (hf.below hb (block_lt hf)).cells (And.intro (ht.below hb (block_lt ht)).cells ((hb.cell (p := ⟨bR, oR + y, none⟩) hbR).trans d0))))
  rw [hfi, hla] at Hres
  have Hfi := hide hfi
  have Hla := hide hla
  have hrfl := Below.refl w.heap.size w
  obtain ⟨k2, ⟨f0, f1, f2⟩, ⟨t0, t1, t2⟩, d0'⟩ := HK.out w hrfl
  have Hy := hide hy
  have hyI : (y : Int) < (v.rows.length : Int) := by omega
  have hy12 : y < 12 := by have := htame.1; omega
  obtain ⟨rl, hrl⟩ : ∃ rl, row.length = rl := ⟨_, rfl⟩
  have Hrl := hide hrl
  rw [hrl] at d0 d0' HI HK hrun hlal hl1 Hla
  obtain ⟨fu, fr, fc⟩ := fr
  obtain ⟨tu, tr, tc⟩ := tp
  dsimp only at *
  have hcI : ∀ {a b : Nat} {W : World}, a = b → True := fun _ => trivial
  clear hdm hcI hrl hfi hla hv hf ht hrows htame d0 d1 d2 hl2 hrow' hcl hy
  obtain ⟨R, hR⟩ : ∃ R, textB ((row.take la).drop fi) = R := ⟨_, rfl⟩
  rw [hR] at HT Hres
  rw [Hres.out]
  clear Hres hR
  rcases (show (((y : Int) == fr) = true ∧ fi = cidx row fc) ∨ (((y : Int) == fr) = false ∧ fi = 0) by
    by_cases h : (y : Int) = fr
    · have := Hfi.out; rw [if_pos h] at this; exact .inl ⟨by simpa using h, this.symm⟩
    · have := Hfi.out; rw [if_neg h] at this; exact .inr ⟨by simpa using h, this.symm⟩) with ⟨e1, g1⟩ | ⟨e1, g1⟩ <;>
  rcases (show (((y : Int) == tr) = true ∧ la = cidx row tc) ∨ (((y : Int) == tr) = false ∧ la = rl) by
    by_cases h : (y : Int) = tr
    · have := Hla.out; rw [if_pos h] at this; exact .inl ⟨by simpa using h, this.symm⟩
    · have := Hla.out; rw [if_neg h] at this; exact .inr ⟨by simpa using h, this.symm⟩) with ⟨e2, g2⟩ | ⟨e2, g2⟩
  all_goals
    have HI1 := hide (fun W1 hb => HI.out W1 hb fc hfc0 hfc1)
    have HI2 := hide (fun W1 hb => HI.out W1 hb tc htc0 htc1)
    try rw [← g1] at HI1
    try rw [← g2] at HI2
    have G1 := hide g1
    have G2 := hide g2
    clear g1 g2 Hfi Hla HI
    try (obtain rfl : fi = 0 := G1.out; clear HI1; have hm0 : min (0 : Int) (la : Int) = (m : Int) := hmI; clear hmI)
    try (obtain rfl : la = rl := G2.out)
    go_enter Tryz.func25, Tryz.ntmps25
    go_wp2_with (first
      | (go_at_call 26; refine (HI2.out _ hb1).mono ?_; rintro e w2 ⟨rfl, hb2'⟩; have hb2 := hb1.trans (hb2'.mono hb1.size); obtain ⟨z2, ⟨z3, z4, z5⟩, ⟨z6, z7, z8⟩, z9⟩ := HK.out w2 hb2)
      | (go_at_call 26; refine (HI1.out _ hrfl).mono ?_; rintro e w1 ⟨rfl, hb1⟩; obtain ⟨x2, ⟨x3, x4, x5⟩, ⟨x6, x7, x8⟩, x9⟩ := HK.out w1 hb1)
      | (go_at_call 26; refine (HI2.out _ hrfl).mono ?_; rintro e w1 ⟨rfl, hb1⟩; obtain ⟨x2, ⟨x3, x4, x5⟩, ⟨x6, x7, x8⟩, x9⟩ := HK.out w1 hb1)
      | (go_at_call 21; refine (HT.out _ hb2).mono ?_; rintro e w3 ⟨rfl, hb3⟩; have hbz := hb2.trans (hb3.mono hb2.size))
      | (go_at_call 21; refine (HT.out _ hb1).mono ?_; rintro e w3 ⟨rfl, hb3⟩; have hbz := hb1.trans (hb3.mono hb1.size))
      | (go_at_call 21; refine (HT.out _ hrfl).mono ?_; rintro e w3 ⟨rfl, hb3⟩; have hbz := hb3)
      | fail)
    go_ret
    exact ⟨rfl, hbz⟩
end Go.Proofs.YtdkppdjonlldhaaGreatDoor
