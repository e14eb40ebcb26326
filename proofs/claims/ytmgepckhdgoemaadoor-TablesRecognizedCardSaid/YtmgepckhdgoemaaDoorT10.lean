/- Tables: tables.Gutters, tables.Columns. -/
import Derived.Test.YtmgepckhdgoemaaDoorT9
namespace Go.Proofs.YtmgepckhdgoemaaDoor
open Go.RowKit

/-- A view in a variable. -/
def VwBox (w : World) (b : Nat) (v : Vw) (A : Option Addr) (c : Nat) : Prop :=
  w.heap[b]? = some (.cells #[.int .i64 v.width, .int .i64 v.height, .slice A v.rows.length c, .int .i64 v.row, .int .i64 v.col, .bool v.visible] 24 (0, 0))
theorem VwBox.cells {w : World} {b : Nat} {v : Vw} {A : Option Addr} {c : Nat} (h : VwBox w b v A c) : w.cell? ⟨b, 0, none⟩ = some (.int .i64 v.width) ∧ w.cell? ⟨b, 1, none⟩ = some (.int .i64 v.height) ∧
    w.cell? ⟨b, 2, none⟩ = some (.slice A v.rows.length c) ∧ w.cell? ⟨b, 3, none⟩ = some (.int .i64 v.row) ∧ w.cell? ⟨b, 4, none⟩ = some (.int .i64 v.col) ∧ w.cell? ⟨b, 5, none⟩ = some (.bool v.visible) :=
  ⟨cell_block h 0, cell_block h 1, cell_block h 2, cell_block h 3, cell_block h 4, cell_block h 5⟩
theorem VwBox.below {w w' : World} {b B : Nat} {v : Vw} {A : Option Addr} {c : Nat} (h : VwBox w b v A c) (hb : Below B w w') (hB : b < B) : VwBox w' b v A c := block_below h hb hB
/-- A region in a variable. -/
def RgBox (w : World) (b : Nat) (r : Rg) : Prop :=
  w.heap[b]? = some (.cells #[.int .i64 r.kind, .int .i64 r.id, .int .i64 r.parent, .int .i64 r.top, .int .i64 r.left, .int .i64 r.bottom, .int .i64 r.right, .string r.label] 33 (0, 0))
theorem RgBox.cells {w : World} {b : Nat} {r : Rg} (h : RgBox w b r) : w.cell? ⟨b, 0, none⟩ = some (.int .i64 r.kind) ∧ w.cell? ⟨b, 1, none⟩ = some (.int .i64 r.id) ∧ w.cell? ⟨b, 2, none⟩ = some (.int .i64 r.parent) ∧ w.cell? ⟨b, 3, none⟩ = some (.int .i64 r.top) ∧
    w.cell? ⟨b, 4, none⟩ = some (.int .i64 r.left) ∧ w.cell? ⟨b, 5, none⟩ = some (.int .i64 r.bottom) ∧ w.cell? ⟨b, 6, none⟩ = some (.int .i64 r.right) ∧ w.cell? ⟨b, 7, none⟩ = some (.string r.label) :=
  ⟨cell_block h 0, cell_block h 1, cell_block h 2, cell_block h 3, cell_block h 4, cell_block h 5, cell_block h 6, cell_block h 7⟩
theorem RgBox.below {w w' : World} {b B : Nat} {r : Rg} (h : RgBox w b r) (hb : Below B w w') (hB : b < B) : RgBox w' b r := block_below h hb hB

/-- What a proper view and a valid range give. -/
theorem valid24_facts {v : Vw} {t b : Int} (h : valid24 v t b = true) : v.ok = true ∧ ∃ W T B : Nat, v.width = W ∧ 1 ≤ W ∧ W ≤ 200 ∧ t = T ∧ b = B ∧ T < B ∧ B ≤ v.rows.length ∧ ∀ r ∈ v.rows, widthOf r ≤ W := by
  unfold valid24 validB at h
  simp only [Bool.and_eq_true, decide_eq_true_eq] at h
  obtain ⟨hok, ⟨h1, h2⟩, h3⟩ := h
  obtain ⟨pw1, pw2, ph1, ph2, plen, -, prows⟩ := Vw.proper hok
  refine ⟨hok, v.width.toNat, t.toNat, b.toNat, by omega, by omega, by omega, by omega, by omega, by omega, by omega, fun r hr => ?_⟩
  have := rowErr_width (prows r hr)
  omega

/-- What Gutters returns. -/
def gutT (v : Vw) (t b : Int) : List Bool := if valid24 v t b then bits v.width.toNat (gut v.rows t.toNat b.toNat) else []

theorem boxes2 (w : World) (v : Vw) (A : Option Addr) (c : Nat) (r : Rg) : ∃ W, W = (w.alloc (.cells #[.int .i64 v.width, .int .i64 v.height, .slice A v.rows.length c, .int .i64 v.row, .int .i64 v.col, .bool v.visible] 24)).alloc (.cells #[.int .i64 r.kind, .int .i64 r.id, .int .i64 r.parent, .int .i64 r.top, .int .i64 r.left, .int .i64 r.bottom, .int .i64 r.right, .string r.label] 33) ∧
    Below w.heap.size w W ∧ W.heap.size = w.heap.size + 1 + 1 ∧ VwBox W w.heap.size v A c ∧ RgBox W (w.heap.size + 1) r := by
  have hb1 := (Below.refl w.heap.size w).alloc (Nat.le_refl _) (.cells #[.int .i64 v.width, .int .i64 v.height, .slice A v.rows.length c, .int .i64 v.row, .int .i64 v.col, .bool v.visible] 24)
  have hv1 : VwBox _ w.heap.size v A c := block_new w (.cells #[.int .i64 v.width, .int .i64 v.height, .slice A v.rows.length c, .int .i64 v.row, .int .i64 v.col, .bool v.visible] 24)
  refine ⟨_, rfl, hb1.alloc hb1.size _, by simp, block_alloc hv1 _, ?_⟩
  have := block_new (w.alloc (.cells #[.int .i64 v.width, .int .i64 v.height, .slice A v.rows.length c, .int .i64 v.row, .int .i64 v.col, .bool v.visible] 24)) (.cells #[.int .i64 r.kind, .int .i64 r.id, .int .i64 r.parent, .int .i64 r.top, .int .i64 r.left, .int .i64 r.bottom, .int .i64 r.right, .string r.label] 33)
  rw [World.size_alloc] at this
  exact this

/-- What Columns returns. -/
def colsT (v : Vw) (r : Rg) : List Rg := if valid24 v r.top r.bottom then colsR v.rows v.width.toNat r.top.toNat r.bottom.toNat else []

set_option maxHeartbeats 1000000 in
set_option maxRecDepth 100000 in
theorem colsP (w : World) (A : Option Addr) (c : Nat) (v : Vw) (r : Rg) (h : Rows2 w w.heap.size A v.rows) (ht : v.Tame) (hT : Tabs w) (hc : v.rows.length ≤ c) :
    Calls Tryd.prog 8 #[v.val A c, r.val] w fun e w' => ∃ vv, e = .returned vv ∧ w'.ownsRow w.heap.size 33 8 vv (colsT v r).length ((colsT v r).flatMap Rg.enc) ∧ Below w.heap.size w w' := by
  obtain ⟨W0, hW0, hbox, hs0, hvb, hrb⟩ := boxes2 w v A c r
  have HC := hide (checkV W0 A c v ((h.below hbox).more hbox.size) ht (hT.below hbox))
  have HV := hide (fun w1 => validTP w1 A c v r.top r.bottom)
  rw [hW0] at hbox hs0 hvb hrb HC
  clear hW0
  simp only [World.size_alloc] at HC
  cases hv : valid24 v r.top r.bottom with
  | false =>
    have hg : colsT v r = [] := by unfold colsT; rw [hv]; rfl
    rw [hg]
    clear h hT hg
    obtain ⟨V, hV⟩ : ∃ V, v.err = V := ⟨_, rfl⟩
    unfold valid24 Vw.ok at hv
    rw [hV] at HC hv
    clear hV
    unfold Vw.val at HC HV ⊢
    unfold Rg.val
    cases h0 : (V != 0) with
    | true =>
      clear hv
      go_enter Tryd.func8, Tryd.ntmps8
      go_wp2_with (go_at_call 18; refine HC.out.mono ?_; rintro e w1 ⟨rfl, hb1⟩)
      go_ret
      exact ⟨_, rfl, World.ownsRow_nil _ _ _ _, hbox.trans (hb1.mono (by omega))⟩
    | false =>
      have h1 : (V == 0) = true := by simpa using h0
      rw [h1, Bool.true_and] at hv
      rw [hv] at HV
      clear hv h1
      go_enter Tryd.func8, Tryd.ntmps8
      go_wp2_with (first
        | (go_at_call 18; refine HC.out.mono ?_; rintro e w1 ⟨rfl, hb1⟩; obtain ⟨k0, k1, k2, k3, k4, k5⟩ := (hvb.below hb1 (by omega)).cells; obtain ⟨r0, r1, r2, r3, r4, r5, r6, r7⟩ := (hrb.below hb1 (by omega)).cells)
        | (go_at_call 21; refine (HV.out _).mono ?_; rintro e w2 ⟨rfl, hb2⟩))
      go_ret
      have hq := hb1.mono (B' := w.heap.size) (by omega)
      exact ⟨_, rfl, World.ownsRow_nil _ _ _ _, (hbox.trans hq).trans (hb2.mono (hbox.trans hq).size)⟩
  | true =>
    obtain ⟨hok, W, T, B, e1, e2, e3, e4, e5, e6, e7, e8⟩ := valid24_facts hv
    have hg : colsT v r = colsR v.rows W T B := by unfold colsT; rw [hv, if_pos rfl, e1, e4, e5]; simp
    rw [hg]
    have HG := hide (fun (w1 : World) (hb1 : Below w.heap.size w w1) => columnsP w1 A c v W T B r ((h.below hb1).more hb1.size) ht e1 e2 e3 e6 e7 hc e8 e4 e5)
    clear h hT e8 ht hg
    have h0 : v.err = 0 := by unfold Vw.ok at hok; simpa using hok
    have hv2 : validB v.height r.top r.bottom = true := by unfold valid24 at hv; rw [hok] at hv; simpa using hv
    rw [h0] at HC
    rw [hv2] at HV
    clear hv hok h0 hv2 e1 e2 e3 e4 e5 e6 e7 hc
    unfold Vw.val at HC HV HG ⊢
    unfold Rg.val at HG ⊢
    go_enter Tryd.func8, Tryd.ntmps8
    go_wp2_with (first
      | (go_at_call 18; refine HC.out.mono ?_; rintro e w1 ⟨rfl, hb1⟩; obtain ⟨k0, k1, k2, k3, k4, k5⟩ := (hvb.below hb1 (by omega)).cells; obtain ⟨r0, r1, r2, r3, r4, r5, r6, r7⟩ := (hrb.below hb1 (by omega)).cells; have hs1 : w.heap.size + 1 + 1 ≤ w1.heap.size := (by have := hb1.size; omega))
      | (go_at_call 21; refine (HV.out _).mono ?_; rintro e w2 ⟨rfl, hb2⟩; obtain ⟨q0, q1, q2, q3, q4, q5⟩ := ((hvb.below hb1 (by omega)).below hb2 (by omega)).cells; obtain ⟨x0, x1, x2, x3, x4, x5, x6, x7⟩ := ((hrb.below hb1 (by omega)).below hb2 (by omega)).cells; have hbb := (hbox.trans (hb1.mono (by omega))).trans (hb2.mono (by omega)))
      | (go_at_call 20; refine (HG.out _ hbb).mono ?_; rintro e w3 ⟨vv, rfl, hown, hb3⟩))
    go_ret
    exact ⟨_, rfl, own_more hown hbb.size, hbb.trans (hb3.mono hbb.size)⟩
end Go.Proofs.YtmgepckhdgoemaaDoor
