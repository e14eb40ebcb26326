/- Tables: narratorref24.Gutters. -/
import Derived.Test.YtmgepckhdgoemaaDoorT4
namespace Go.Proofs.YtmgepckhdgoemaaDoor
open Go.RowKit

theorem sizedB_of {a b : Int} (h : sizedB a b = true) : 1 ≤ a ∧ a ≤ 132 ∧ 1 ≤ b ∧ b ≤ 60 := by
  unfold sizedB at h; simp at h; omega
theorem rowErr_width {width : Int} {l : List Gl} (h : rowErr width l = 0) : (widthOf l : Int) ≤ width := by
  unfold rowErr at h
  by_cases h1 : firstErr glErr l = 0
  · rw [if_neg (by simp [h1])] at h
    by_cases h2 : width < widthOf l
    · rw [if_pos h2] at h; omega
    · omega
  · rw [if_pos h1] at h; exact absurd h h1
structure Vw.Proper (v : Vw) : Prop where
  w1 : 1 ≤ v.width
  w2 : v.width ≤ 132
  h1 : 1 ≤ v.height
  h2 : v.height ≤ 60
  len : (v.rows.length : Int) = v.height
  cur : v.curB = false
  rows : ∀ r ∈ v.rows, rowErr v.width r = 0
theorem Vw.proper {v : Vw} (h : v.ok = true) : v.Proper := by
  unfold Vw.ok Vw.err at h
  rw [beq_iff_eq] at h
  cases h0 : sizedB v.width v.height with
  | false => rw [if_pos h0] at h; omega
  | true =>
    rw [if_neg (by simp [h0])] at h
    by_cases h1 : (v.rows.length : Int) = v.height
    · rw [if_neg (by simp [h1])] at h
      cases h2 : v.curB with
      | true => rw [if_pos h2] at h; omega
      | false =>
        rw [if_neg (by simp [h2])] at h
        obtain ⟨a1, a2, a3, a4⟩ := sizedB_of h0
        exact ⟨a1, a2, a3, a4, h1, h2, firstErr_zero h⟩
    · rw [if_pos h1] at h; omega

end Go.Proofs.YtmgepckhdgoemaaDoor
