/- Chapter 45: words as filtered spans; the function that tells which glyphs belong together. -/
import Derived.Test.YtdmnnjpbndngeaaDoorK12
import Derived.Test.YtdmnnjpbndngeaaDoorHeld
import Derived.IntWalk
namespace Go.Proofs.YtdmnnjpbndngeaaDoor
open Go.RowKit Go.Shelf

/-- All maximal spans of one kind. -/
def spansTo (kd : Nat → Nat) (n : Nat) : List (Nat × Nat) := wordsTo (fun i => kd i + 1) n
theorem span_last (kd : Nat → Nat) : ∀ n, ∃ qs a, spansTo kd (n + 1) = qs ++ [(a, n + 1)] ∧ a ≤ n ∧ kd a = kd n
  | 0 => ⟨[], 0, by show wordStep (fun i => kd i + 1) [] 0 = _; rw [word_new (kd := fun i => kd i + 1) (Nat.succ_ne_zero _) (.inl rfl)], Nat.le_refl _, rfl⟩
  | n + 1 => by
    obtain ⟨qs, a, h1, h2, h3⟩ := span_last kd n
    have e : spansTo kd (n + 1 + 1) = wordStep (fun i => kd i + 1) (spansTo kd (n + 1)) (n + 1) := rfl
    by_cases hk : kd n = kd (n + 1)
    · exact ⟨qs, a, by rw [e, h1, word_on (kd := fun i => kd i + 1) (Nat.succ_ne_zero _) (by omega) (by show kd (n + 1 - 1) + 1 = _; rw [Nat.add_sub_cancel, hk])], by omega, by omega⟩
    · exact ⟨spansTo kd (n + 1), n + 1, by rw [e, word_new (kd := fun i => kd i + 1) (Nat.succ_ne_zero _) (.inr (by show kd (n + 1 - 1) + 1 ≠ _; rw [Nat.add_sub_cancel]; omega))], Nat.le_refl _, rfl⟩
theorem words_filter (kd : Nat → Nat) : ∀ n, wordsTo kd n = (spansTo kd n).filter fun p => decide (kd p.1 ≠ 0)
  | 0 => rfl
  | 1 => by
    have e : spansTo kd 1 = [(0, 1)] := by show wordStep (fun i => kd i + 1) [] 0 = _; rw [word_new (kd := fun i => kd i + 1) (Nat.succ_ne_zero _) (.inl rfl)]; rfl
    rw [e]
    show wordStep kd [] 0 = _
    by_cases hk : kd 0 = 0
    · rw [word_blank hk]; simp [hk]
    · rw [word_new hk (.inl rfl)]; simp [hk]
  | n + 1 + 1 => by
    have ih := words_filter kd (n + 1)
    obtain ⟨qs, a, h1, h2, h3⟩ := span_last kd n
    have e1 : wordsTo kd (n + 1 + 1) = wordStep kd (wordsTo kd (n + 1)) (n + 1) := rfl
    have e : spansTo kd (n + 1 + 1) = wordStep (fun i => kd i + 1) (spansTo kd (n + 1)) (n + 1) := rfl
    rw [e1, e, ih, h1]
    by_cases hn : kd n = kd (n + 1)
    · rw [word_on (kd := fun i => kd i + 1) (Nat.succ_ne_zero _) (by omega) (by show kd (n + 1 - 1) + 1 = _; rw [Nat.add_sub_cancel, hn]), List.filter_append, List.filter_append]
      by_cases hk : kd (n + 1) = 0
      · rw [word_blank hk]
        have : kd a = 0 := by omega
        simp [this]
      · have ha : kd a ≠ 0 := by omega
        have f : ∀ e : Nat, [(a, e)].filter (fun p => decide (kd p.1 ≠ 0)) = [(a, e)] := fun e => by simp [ha]
        rw [f, f, word_on hk (by omega) (by rw [Nat.add_sub_cancel]; exact hn)]
    · rw [word_new (kd := fun i => kd i + 1) (Nat.succ_ne_zero _) (.inr (by show kd (n + 1 - 1) + 1 ≠ _; rw [Nat.add_sub_cancel]; omega)), List.filter_append (l₂ := [(n + 1, n + 1 + 1)])]
      by_cases hk : kd (n + 1) = 0
      · rw [word_blank hk]; simp [hk]
      · rw [word_new hk (.inr (by rw [Nat.add_sub_cancel]; exact hn))]
        have f : [(n + 1, n + 1 + 1)].filter (fun p => decide (kd p.1 ≠ 0)) = [(n + 1, n + 1 + 1)] := by simp [hk]
        rw [f]
theorem spans_len (kd : Nat → Nat) (n : Nat) : (spansTo kd n).length ≤ n ∧ ∀ p ∈ spansTo kd n, p.1 < p.2 ∧ p.2 ≤ n := words_bd _ n
/-- One span more. -/
theorem spans_next (kd : Nat → Nat) (a : Nat) (h0 : a = 0 ∨ kd (a - 1) ≠ kd a) (d : Nat) (h : ∀ j, a < j → j ≤ a + d → kd j = kd (j - 1)) : spansTo kd (a + d + 1) = spansTo kd a ++ [(a, a + d + 1)] := by
  have := words_span (fun i => kd i + 1) a (by omega) d (fun j h1 h2 => by have := h j h1 h2; omega)
  rw [if_neg (Nat.succ_ne_zero _)] at this
  exact this

theorem kindAt_get {l : List Gl} {k : Nat} (h : k < l.length) : kindAt l k = kindT l[k].text := by unfold kindAt; rw [List.getElem?_eq_getElem h]

set_option maxRecDepth 100000 in
set_option maxHeartbeats 1000000 in
theorem words1P (w : World) (b1 b off N c : Nat) (L : List Gl) (j : Nat) (hN : L.length = N) (hj : j + 1 < N) (hN1 : N ≤ 1000) (hb : w.cell? ⟨b1, 0, none⟩ = some (.slice (some ⟨b, off, none⟩) N c)) (h0 : ∀ (k : Nat) g, L[k]? = some g → GlAt w b (off + k * 3) g) :
    Calls Tryd.prog 49 #[.int .i64 ((j : Int) + 1), .pointer (some ⟨b1, 0, none⟩)] w fun e w' => e = .returned (.bool (kindAt L (j + 1) == kindAt L j)) ∧ Below w.heap.size w w' := by
  have hj0 : j < L.length := by omega
  have hj1 : j + 1 < L.length := by omega
  rw [kindAt_get hj0, kindAt_get hj1]
  obtain ⟨c0, c1, c2⟩ := h0 j _ (List.getElem?_eq_getElem hj0)
  obtain ⟨d0, d1, d2⟩ := h0 (j + 1) _ (List.getElem?_eq_getElem hj1)
  obtain ⟨⟨t1, w1, s1⟩, h1⟩ : ∃ g, L[j] = g := ⟨_, rfl⟩
  obtain ⟨⟨t2, w2, s2⟩, h2⟩ : ∃ g, L[j + 1] = g := ⟨_, rfl⟩
  rw [h1] at c0 c1 c2 ⊢
  rw [h2] at d0 d1 d2 ⊢
  dsimp only at c0 c1 c2 d0 d1 d2 ⊢
  clear h1 h2 h0 hj0 hj1 hN
  have hlb : b1 < w.heap.size := World.block_lt_of_cell? w ⟨b1, 0, none⟩ hb
  have hlg : b < w.heap.size := World.block_lt_of_cell? w ⟨b, off + j * 3, none⟩ c0
  have HK1 := hide (fun W => kindP W ⟨t1, w1, s1⟩)
  have HK2 := hide (fun W => kindP W ⟨t2, w2, s2⟩)
  unfold Gl.val at HK1 HK2
  dsimp only at HK1 HK2
  have hR : ((kindT t2 : Int) == (kindT t1 : Int)) = (kindT t2 == kindT t1) := by rw [Bool.eq_iff_iff, beq_iff_eq, beq_iff_eq]; omega
  obtain ⟨R, hR2⟩ : ∃ R, (kindT t2 == kindT t1) = R := ⟨_, rfl⟩
  rw [hR2] at hR ⊢
  obtain ⟨K1, hK1⟩ : ∃ K, kindT t1 = K := ⟨_, rfl⟩
  obtain ⟨K2, hK2⟩ : ∃ K, kindT t2 = K := ⟨_, rfl⟩
  rw [hK1] at HK1 hR
  rw [hK2] at HK2 hR
  clear hR2 hK1 hK2
  have hix : (j : Int) + 1 - 1 = (j : Int) := by omega
  have hjI : (j : Int) + 1 < (N : Int) := by omega
  have hjI0 : (j : Int) < (N : Int) := by omega
  have hj00 : (0 : Int) ≤ (j : Int) := by omega
  have hj01 : (0 : Int) ≤ (j : Int) + 1 := by omega
  have hjn : ((j : Int) + 1).toNat = j + 1 := by omega
  have q := Held.cell hb hlb
  have x0 := Held.cell c0 hlg
  have x1 := Held.cell c1 hlg
  have x2 := Held.cell c2 hlg
  have y0 := Held.cell d0 hlg
  have y1 := Held.cell d1 hlg
  have y2 := Held.cell d2 hlg
  clear hb c0 c1 c2 d0 d1 d2
  go_enter Tryd.func49, Tryd.ntmps49
  go_wp2
  refine wp_region_held_lit (by kernel_rfl) (by kernel_rfl) ?_
  repeat go_big_quiet_step ((go_at_call 50; first | (with_reducible exact held_call _ fun W _ => HK1.out W) | (with_reducible exact held_call _ fun W _ => HK2.out W)))
  refine wpQuiet_nil ?_
  intro w3 hb3
  clear q x0 x1 x2 y0 y1 y2
  go_wp2
  go_ret
  exact ⟨ret_bool (by first | exact hR | rfl | simp), hb3⟩
end Go.Proofs.YtdmnnjpbndngeaaDoor
