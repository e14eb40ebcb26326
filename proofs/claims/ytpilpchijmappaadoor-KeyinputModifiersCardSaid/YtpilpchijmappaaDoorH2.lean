/- keyinput.character, narratorref14.Printable. -/
import Derived.Test.YtpilpchijmappaaDoorH1
namespace Go.Proofs.YtpilpchijmappaaDoor
open Go.RowKit

set_option maxHeartbeats 400000 in
theorem validRuneP (w : World) (r : Int) : Calls Tryd.prog 42 #[.int .i32 r] w fun e w' => e = .returned (.bool (decide (GoodR r))) ∧ w = w' := by
  unfold GoodR
  rcases (show r < 0 ∨ (0 ≤ r ∧ r < 55296) ∨ (55296 ≤ r ∧ r ≤ 57343) ∨ (57343 < r ∧ r ≤ 1114111) ∨ 1114111 < r by omega) with h | ⟨h1, h2⟩ | ⟨h1, h2⟩ | ⟨h1, h2⟩ | h
  all_goals
    go_enter Tryd.func42, Tryd.ntmps42
    go_wp2
    go_ret
    refine ⟨ret_bool ?_, rfl⟩
    first | exact (decide_eq_true (by omega)).symm | exact (decide_eq_false (by omega)).symm | (simp; omega)

set_option maxHeartbeats 400000 in
theorem printable14 (w : World) (r : Int) : Calls Tryd.prog 28 #[.int .i32 r] w fun e w' => e = .returned (.bool (printB r)) ∧ Below w.heap.size w w' := by
  have HW := hide (fun w => width02 w r)
  have Hd := hide (show printB r = (decide (GoodR r) && decide (0 ≤ cw r)) from rfl)
  unfold GoodR at Hd
  obtain ⟨C, hC⟩ : ∃ C, cw r = C := ⟨_, rfl⟩
  rw [hC] at HW Hd
  clear hC
  obtain ⟨P, hP⟩ : ∃ P, printB r = P := ⟨_, rfl⟩
  rw [hP] at Hd ⊢
  clear hP
  have hrf := Below.refl w.heap.size w
  rcases (show r < 0 ∨ (0 ≤ r ∧ r < 55296) ∨ (55296 ≤ r ∧ r ≤ 57343) ∨ (57343 < r ∧ r ≤ 1114111) ∨ 1114111 < r by omega) with h | ⟨h1, h2⟩ | ⟨h1, h2⟩ | ⟨h1, h2⟩ | h
  all_goals
    go_enter Tryd.func28, Tryd.ntmps28
    go_wp2_with (go_at_call 45; refine (HW.out _).mono ?_; rintro e w1 ⟨rfl, hb1⟩)
    go_ret
    refine ⟨ret_bool ?_, by first | exact hb1 | exact hrf⟩
    rw [Hd.out]
    first | (rw [decide_eq_true (show 0 ≤ r ∧ r < 55296 ∨ 57343 < r ∧ r ≤ 1114111 by omega)]; rfl) | (rw [decide_eq_false (show ¬ (0 ≤ r ∧ r < 55296 ∨ 57343 < r ∧ r ≤ 1114111) by omega)]; rfl) | (rw [decide_eq_true (show 0 ≤ r ∧ r < 55296 ∨ 57343 < r ∧ r ≤ 1114111 by omega)]; simp)

set_option maxHeartbeats 800000 in
theorem characterP (w : World) (k : Key) : Calls Tryd.prog 26 #[k.val] w fun e w' => e = .returned (.bool (charB k)) ∧ Below w.heap.size w w' := by
  obtain ⟨W0, hW0, hbox, -, hk⟩ := boxK w k
  have HK := hide (fun w1 (hb : Below W0.heap.size W0 w1) => (hk.below hb (by rw [hW0]; simp)).cells)
  obtain ⟨k0, k1, k2, k3, k4⟩ := HK.out W0 (Below.refl _ _)
  have Hbox := hide hbox
  obtain ⟨nm, r, c, a, s⟩ := k
  have HV := hide (fun w => validRuneP w r)
  have HW := hide (fun w => widthP w r)
  have Hd := hide (show charB ⟨nm, r, c, a, s⟩ = (!s && (if c then decide (97 ≤ r) && decide (r ≤ 122) && decide (r ≠ 105) && decide (r ≠ 109) else decide (GoodR r) && decide (0 ≤ cw r))) from rfl)
  obtain ⟨P, hP⟩ : ∃ P, charB ⟨nm, r, c, a, s⟩ = P := ⟨_, rfl⟩
  rw [hP] at Hd ⊢
  have hrf := Below.refl W0.heap.size W0
  clear hbox hk hP
  subst hW0
  unfold Key.val
  dsimp only at *
  obtain ⟨C, hC⟩ : ∃ C, cw r = C := ⟨_, rfl⟩
  rw [hC] at HW Hd
  clear hC
  obtain ⟨G, hG⟩ : ∃ G, decide (GoodR r) = G := ⟨_, rfl⟩
  rw [hG] at HV Hd
  clear hG
  cases s with
  | true =>
    go_enter Tryd.func26, Tryd.ntmps26
    go_wp2
    go_ret
    exact ⟨ret_bool (by rw [Hd.out]; rfl), Hbox.out⟩
  | false =>
    cases c with
    | true =>
      rcases (show r < 97 ∨ 122 < r ∨ r = 105 ∨ r = 109 ∨ (97 ≤ r ∧ r ≤ 122 ∧ (r != 105) = true ∧ (r != 109) = true) by
        by_cases h5 : r = 105 <;> by_cases h9 : r = 109 <;> simp [h5, h9] <;> omega) with h | h | rfl | rfl | ⟨h1, h2, h3, h4⟩
      all_goals
        go_enter Tryd.func26, Tryd.ntmps26
        go_wp2
        go_ret
        refine ⟨ret_bool ?_, Hbox.out⟩
        rw [Hd.out]
        first | rfl | (symm; simp at *; omega) | (rw [Bool.eq_iff_iff]; simp at *; omega)
    | false =>
      cases G with
      | false =>
        go_enter Tryd.func26, Tryd.ntmps26
        go_wp2_with (go_at_call 42; refine (HV.out _).mono ?_; rintro e w1 ⟨rfl, rfl⟩)
        go_ret
        exact ⟨ret_bool (by rw [Hd.out]; rfl), Hbox.out⟩
      | true =>
        go_enter Tryd.func26, Tryd.ntmps26
        go_wp2_with (first
          | (go_at_call 42; refine (HV.out _).mono ?_; rintro e w1 ⟨rfl, rfl⟩)
          | (go_at_call 43; refine (HW.out _).mono ?_; rintro e w2 ⟨rfl, hb2⟩))
        go_ret
        exact ⟨ret_bool (by rw [Hd.out]; simp), Hbox.out.trans (hb2.mono Hbox.out.size)⟩
end Go.Proofs.YtpilpchijmappaaDoor
