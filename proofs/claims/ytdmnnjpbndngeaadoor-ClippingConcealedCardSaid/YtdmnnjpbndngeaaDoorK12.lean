/- Chapter 45: the kinds of glyphs. -/
import Derived.Test.YtdmnnjpbndngeaaDoorK11
namespace Go.Proofs.YtdmnnjpbndngeaaDoor
open Go.RowKit Go.Shelf

theorem kind_of {t : ByteArray} (h : 0 < t.size) (hne : ¬ t.toList = [32]) : kindT t = if letterB t[0] then 1 else 2 := by
  have hl : t.data.toList = t[0] :: t.data.toList.drop 1 := by
    have := List.drop_eq_getElem_cons (l := t.data.toList) (i := 0) (by simpa using h)
    rw [List.drop_zero] at this
    exact this
  rw [ByteArray.toList_eq] at hne
  unfold kindT
  rw [hl]
  dsimp only
  rw [if_neg]
  rintro ⟨h1, h2⟩
  rw [h1, h2] at hl
  exact hne hl
theorem kind_empty {t : ByteArray} (h : t.toList = []) : kindT t = 0 := by
  rw [ByteArray.toList_eq] at h
  unfold kindT; rw [h]
theorem kind_space {t : ByteArray} (h : t.toList = [32]) : kindT t = 0 := by
  rw [ByteArray.toList_eq] at h
  unfold kindT; rw [h]; rfl
theorem kind_way {t : ByteArray} (h : 0 < t.size) (hne : ¬ t.toList = [32]) (b : Bool) (hb : letterB t[0] = b) : kindT t = if b then 1 else 2 := by rw [kind_of h hne, hb]
theorem letter_ways (c : UInt8) : (128 ≤ c.toNat ∧ c.toNat ≤ 255 ∧ ((c.toNat : Int) == 95) = false ∧ letterB c = true) ∨
  (95 ≤ c.toNat ∧ c.toNat ≤ 95 ∧ ((c.toNat : Int) == 95) = true ∧ letterB c = true) ∨
  (48 ≤ c.toNat ∧ c.toNat ≤ 57 ∧ ((c.toNat : Int) == 95) = false ∧ letterB c = true) ∨
  (65 ≤ c.toNat ∧ c.toNat ≤ 90 ∧ ((c.toNat : Int) == 95) = false ∧ letterB c = true) ∨
  (97 ≤ c.toNat ∧ c.toNat ≤ 122 ∧ ((c.toNat : Int) == 95) = false ∧ letterB c = true) ∨
  (0 ≤ c.toNat ∧ c.toNat ≤ 47 ∧ ((c.toNat : Int) == 95) = false ∧ letterB c = false) ∨
  (58 ≤ c.toNat ∧ c.toNat ≤ 64 ∧ ((c.toNat : Int) == 95) = false ∧ letterB c = false) ∨
  (91 ≤ c.toNat ∧ c.toNat ≤ 94 ∧ ((c.toNat : Int) == 95) = false ∧ letterB c = false) ∨
  (96 ≤ c.toNat ∧ c.toNat ≤ 96 ∧ ((c.toNat : Int) == 95) = false ∧ letterB c = false) ∨
  (123 ≤ c.toNat ∧ c.toNat ≤ 127 ∧ ((c.toNat : Int) == 95) = false ∧ letterB c = false) := by
  have hc := c.toNat_lt
  have e95 : (c == 95) = (c.toNat == 95) := by rw [Bool.eq_iff_iff, beq_iff_eq, beq_iff_eq, ← UInt8.toNat_inj]; rfl
  have hL : letterB c = (decide (128 ≤ c.toNat ∨ c.toNat = 95 ∨ (48 ≤ c.toNat ∧ c.toNat ≤ 57) ∨ (65 ≤ c.toNat ∧ c.toNat ≤ 90) ∨ (97 ≤ c.toNat ∧ c.toNat ≤ 122))) := by
    unfold letterB
    rw [e95, Bool.eq_iff_iff]
    simp only [Bool.or_eq_true, Bool.and_eq_true, decide_eq_true_iff, beq_iff_eq]
    omega
  rw [hL]
  generalize c.toNat = n at hc ⊢
  rcases (show (128 ≤ n ∧ n ≤ 255) ∨ (95 ≤ n ∧ n ≤ 95) ∨ (48 ≤ n ∧ n ≤ 57) ∨ (65 ≤ n ∧ n ≤ 90) ∨ (97 ≤ n ∧ n ≤ 122) ∨ (0 ≤ n ∧ n ≤ 47) ∨ (58 ≤ n ∧ n ≤ 64) ∨ (91 ≤ n ∧ n ≤ 94) ∨ (96 ≤ n ∧ n ≤ 96) ∨ (123 ≤ n ∧ n ≤ 127) by omega) with h | h | h | h | h | h | h | h | h | h
  · exact (.inl ⟨h.1, h.2, by rw [beq_eq_false_iff_ne]; omega, decide_eq_true (by omega)⟩)
  · exact (.inr (.inl ⟨h.1, h.2, by rw [beq_iff_eq]; omega, decide_eq_true (by omega)⟩))
  · exact (.inr (.inr (.inl ⟨h.1, h.2, by rw [beq_eq_false_iff_ne]; omega, decide_eq_true (by omega)⟩)))
  · exact (.inr (.inr (.inr (.inl ⟨h.1, h.2, by rw [beq_eq_false_iff_ne]; omega, decide_eq_true (by omega)⟩))))
  · exact (.inr (.inr (.inr (.inr (.inl ⟨h.1, h.2, by rw [beq_eq_false_iff_ne]; omega, decide_eq_true (by omega)⟩)))))
  · exact (.inr (.inr (.inr (.inr (.inr (.inl ⟨h.1, h.2, by rw [beq_eq_false_iff_ne]; omega, decide_eq_false (by omega)⟩))))))
  · exact (.inr (.inr (.inr (.inr (.inr (.inr (.inl ⟨h.1, h.2, by rw [beq_eq_false_iff_ne]; omega, decide_eq_false (by omega)⟩)))))))
  · exact (.inr (.inr (.inr (.inr (.inr (.inr (.inr (.inl ⟨h.1, h.2, by rw [beq_eq_false_iff_ne]; omega, decide_eq_false (by omega)⟩))))))))
  · exact (.inr (.inr (.inr (.inr (.inr (.inr (.inr (.inr (.inl ⟨h.1, h.2, by rw [beq_eq_false_iff_ne]; omega, decide_eq_false (by omega)⟩)))))))))
  · exact (.inr (.inr (.inr (.inr (.inr (.inr (.inr (.inr (.inr ⟨h.1, h.2, by rw [beq_eq_false_iff_ne]; omega, decide_eq_false (by omega)⟩)))))))))

set_option maxRecDepth 100000 in
set_option maxHeartbeats 4000000 in
theorem kindP (w : World) (g : Gl) : Calls Tryd.prog 50 #[g.val] w fun e w' => e = .returned (.int .i64 (kindT g.text)) ∧ Below w.heap.size w w' := by
  obtain ⟨t, wide, style⟩ := g
  unfold Gl.val
  dsimp only
  obtain ⟨K, hK⟩ : ∃ K, kindT t = K := ⟨_, rfl⟩
  rw [hK]
  by_cases h1 : t.toList = []
  · rw [kind_empty h1] at hK
    subst hK
    have h1b : t.toList.isEmpty = true := by rw [h1]; rfl
    go_enter Tryd.func50, Tryd.ntmps50
    go_wp2
    go_ret
    exact ⟨rfl, (Below.refl _ _).alloc (Nat.le_refl _) _⟩
  · have h1b : t.toList.isEmpty = false := by cases h : t.toList with | nil => exact absurd h h1 | cons => rfl
    by_cases h2 : t.toList = [32]
    · rw [kind_space h2] at hK
      subst hK
      go_enter Tryd.func50, Tryd.ntmps50
      go_wp2
      go_ret
      exact ⟨rfl, (Below.refl _ _).alloc (Nat.le_refl _) _⟩
    · have hsz : 0 < t.size := by
        rcases Nat.eq_zero_or_pos t.size with h | h
        · refine absurd ?_ h1
          rw [ByteArray.toList_eq]
          exact List.eq_nil_of_length_eq_zero (by simpa using h)
        · exact h
      have h2b : (t.toList == [32]) = false := by simpa using h2
      have HW := hide (kind_way hsz h2)
      rcases letter_ways t[0] with ⟨c1, c2, c3, c4⟩ | ⟨c1, c2, c3, c4⟩ | ⟨c1, c2, c3, c4⟩ | ⟨c1, c2, c3, c4⟩ | ⟨c1, c2, c3, c4⟩ | ⟨c1, c2, c3, c4⟩ | ⟨c1, c2, c3, c4⟩ | ⟨c1, c2, c3, c4⟩ | ⟨c1, c2, c3, c4⟩ | ⟨c1, c2, c3, c4⟩
      all_goals
        have hk := HW.out _ c4
        simp only [if_true, Bool.false_eq_true, if_false] at hk
        rw [hk] at hK
        subst hK
        clear hk c4 HW
        go_enter Tryd.func50, Tryd.ntmps50
        go_wp2
        go_ret
        exact ⟨rfl, (Below.refl _ _).alloc (Nat.le_refl _) _⟩

end Go.Proofs.YtdmnnjpbndngeaaDoor
