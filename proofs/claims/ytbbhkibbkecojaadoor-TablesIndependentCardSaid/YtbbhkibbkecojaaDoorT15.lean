/- Tables: narratorref24.Cell. -/
import Derived.Test.YtbbhkibbkecojaaDoorT14
import Derived.Test.YtbbhkibbkecojaaDoorT11
namespace Go.Proofs.YtbbhkibbkecojaaDoor
open Go.RowKit

theorem el_glyph : ElemOf Tryd.prog 38 40 (.agg #[.string ⟨#[]⟩, .bool false, .int .i64 0]) 3 32 := ⟨Tryd.underlying38, by kernel_rfl, rfl, by omega, by omega⟩
theorem gl_len (l : List Gl) : (l.flatMap Gl.enc).length = l.length * 3 := flat_len (enc := Gl.enc) (sz := 3) (fun _ => rfl) l
theorem span_get (l : List (Nat × Nat)) (k : Nat) (p : Nat × Nat) (h : l[k]? = some p) : (l.flatMap spanV)[k * 2]? = some (.int .i64 p.1) ∧ (l.flatMap spanV)[k * 2 + 1]? = some (.int .i64 p.2) :=
  ⟨flat_get (enc := spanV) (sz := 2) (fun _ => rfl) l k p 0 _ h rfl, flat_get (enc := spanV) (sz := 2) (fun _ => rfl) l k p 1 _ h rfl⟩
theorem glErr_ne {g : Gl} (h : glErr g = 0) : g.text.toList ≠ [] := by
  intro h0
  unfold glErr at h
  rw [clErr_syntax (.inl h0)] at h
  simp at h
theorem ok_texts {v : Vw} (h : v.ok = true) : ∀ r ∈ v.rows, ∀ g ∈ r, g.text.toList ≠ [] := by
  intro r hr g hg
  have h1 := (Vw.proper h).rows r hr
  unfold rowErr at h1
  by_cases h2 : firstErr glErr r = 0
  · exact glErr_ne (firstErr_zero h2 g hg)
  · rw [if_pos h2] at h1; exact absurd h1 h2

set_option maxHeartbeats 2000000 in
set_option maxRecDepth 100000 in
/-- Before the columns are looked at. -/
theorem cell24_early (w : World) (A : Option Addr) (c : Nat) (v : Vw) (r : Rg) (row col : Int) (h : Rows2 w w.heap.size A v.rows) (ht : v.Tame) 
    (hno : v.ok = false ∨ validB v.height r.top r.bottom = false ∨ row < 0 ∨ r.bottom - r.top ≤ row) :
    Calls Tryd.prog 13 #[v.val A c, r.val, .int .i64 row, .int .i64 col] w fun e w' => e = .returned (.tuple #[.string (cellT v r row col).1, .int .i64 (cellT v r row col).2]) ∧ Below w.heap.size w w' := by
  obtain ⟨R, hR⟩ : ∃ R, cellT v r row col = R := ⟨_, rfl⟩
  rw [hR]
  unfold cellT at hR
  obtain ⟨W0, hW0, hbox, hs0, hvb, hrb⟩ := boxes2 w v A c r
  have HC := hide (check15 W0 A c v ((h.below hbox).more hbox.size) ht)
  have HV := hide (fun (w1 : World) (hb1 : Below w.heap.size w w1) => valid24P w1 A c v r.top r.bottom ((h.below hb1).more hb1.size) ht)
  clear h ht
  rw [hW0] at hbox hs0 hvb hrb HC
  clear hW0
  simp only [World.size_alloc] at HC
  cases hok : v.ok with
  | false =>
    rw [if_pos hok] at hR
    subst hR
    obtain ⟨V, hV⟩ : ∃ V, v.err = V := ⟨_, rfl⟩
    have h0 : (V != 0) = true := by unfold Vw.ok at hok; rw [hV] at hok; simpa using hok
    rw [hV] at HC
    clear hno hok hV
    unfold Vw.val at HC ⊢
    unfold Rg.val
    go_enter Tryd.func13, Tryd.ntmps13
    go_wp2_with (go_at_call 35; refine HC.out.mono ?_; rintro e w1 ⟨rfl, hb1⟩)
    go_ret2
    exact ⟨rfl, hbox.trans (hb1.mono (by omega))⟩
  | true =>
    rw [if_neg (by rw [hok]; simp)] at hR
    have h0 : v.err = 0 := by unfold Vw.ok at hok; simpa using hok
    rw [h0] at HC
    cases hval : validB v.height r.top r.bottom with
    | false =>
      rw [if_pos hval] at hR
      subst hR
      have hv24 : valid24 v r.top r.bottom = false := by unfold valid24; rw [hok, hval]; rfl
      rw [hv24] at HV
      clear hno hok h0 hval hv24
      unfold Vw.val at HC HV ⊢
      unfold Rg.val
      go_enter Tryd.func13, Tryd.ntmps13
      go_wp2_with (first
        | (go_at_call 35; refine HC.out.mono ?_; rintro e w1 ⟨rfl, hb1⟩; obtain ⟨k0, k1, k2, k3, k4, k5⟩ := (hvb.below hb1 (by omega)).cells; obtain ⟨r0, r1, r2, r3, r4, r5, r6, r7⟩ := (hrb.below hb1 (by omega)).cells)
        | (go_at_call 36; refine (HV.out _ (hbox.trans (hb1.mono (by omega)))).mono ?_; rintro e w2 ⟨rfl, hb2⟩))
      go_ret2
      have hq := hb1.mono (B' := w.heap.size) (by omega)
      exact ⟨rfl, (hbox.trans hq).trans (hb2.mono (hbox.trans hq).size)⟩
    | true =>
      rw [if_neg (by rw [hval]; simp)] at hR
      have hv24 : valid24 v r.top r.bottom = true := by unfold valid24; rw [hok, hval]; rfl
      rw [hv24] at HV
      clear hv24
      have hpr := Vw.proper hok
      have hg1 := hpr.h2
      unfold validB at hval
      simp only [Bool.and_eq_true, decide_eq_true_eq] at hval
      obtain ⟨⟨v1, v2⟩, v3⟩ := hval
      by_cases hrow : row < 0
      · rw [if_pos hrow] at hR
        subst hR
        clear hno hok h0 hpr
        unfold Vw.val at HC HV ⊢
        unfold Rg.val
        go_enter Tryd.func13, Tryd.ntmps13
        go_wp2_with (first
          | (go_at_call 35; refine HC.out.mono ?_; rintro e w1 ⟨rfl, hb1⟩; obtain ⟨k0, k1, k2, k3, k4, k5⟩ := (hvb.below hb1 (by omega)).cells; obtain ⟨r0, r1, r2, r3, r4, r5, r6, r7⟩ := (hrb.below hb1 (by omega)).cells)
          | (go_at_call 36; refine (HV.out _ (hbox.trans (hb1.mono (by omega)))).mono ?_; rintro e w2 ⟨rfl, hb2⟩))
        go_ret2
        have hq := hb1.mono (B' := w.heap.size) (by omega)
        exact ⟨rfl, (hbox.trans hq).trans (hb2.mono (hbox.trans hq).size)⟩
      · rw [if_neg hrow] at hR
        have hbig : r.bottom - r.top ≤ row := by
          rcases hno with x | x | x | x
          · rw [hok] at x; cases x
          · unfold validB at x; simp [v1, v2, v3] at x
          · exact absurd x hrow
          · exact x
        rw [if_pos hbig] at hR
        subst hR
        clear hno hok h0 hpr
        unfold Vw.val at HC HV ⊢
        unfold Rg.val
        go_enter Tryd.func13, Tryd.ntmps13
        go_wp2_with (first
          | (go_at_call 35; refine HC.out.mono ?_; rintro e w1 ⟨rfl, hb1⟩; obtain ⟨k0, k1, k2, k3, k4, k5⟩ := (hvb.below hb1 (by omega)).cells; obtain ⟨r0, r1, r2, r3, r4, r5, r6, r7⟩ := (hrb.below hb1 (by omega)).cells; have hs1 : w.heap.size + 1 + 1 ≤ w1.heap.size := (by have := hb1.size; omega))
          | (go_at_call 36; refine (HV.out _ (hbox.trans (hb1.mono (by omega)))).mono ?_; rintro e w2 ⟨rfl, hb2⟩; obtain ⟨x0, x1, x2, x3, x4, x5, x6, x7⟩ := ((hrb.below hb1 (by omega)).below hb2 (by omega)).cells))
        go_ret2
        have hq := hb1.mono (B' := w.heap.size) (by omega)
        exact ⟨rfl, (hbox.trans hq).trans (hb2.mono (hbox.trans hq).size)⟩
end Go.Proofs.YtbbhkibbkecojaaDoor
