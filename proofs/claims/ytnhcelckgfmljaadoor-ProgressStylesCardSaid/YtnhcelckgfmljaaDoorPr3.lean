/- Progress indicators, in plain words: the indicator of what an indicator spans. -/
import Derived.Test.YtnhcelckgfmljaaDoorPr2
namespace Go.Proofs.YtnhcelckgfmljaaDoor

theorem barGo_cut : ∀ (l : List UInt8) (st full n f m : Nat), barGo l st full n = some (f, m) → barGo (l.take (m - n + 1)) st full n = some (f, m) ∧ ∀ c ∈ l.take (m - n + 1), isDig c = false
  | [], _, _, _, _, _, h => by simp [barGo] at h
  | c :: t, st, full, n, f, m, h => by
    have hbd := barGo_bd _ _ _ _ _ _ h
    rw [List.take_succ_cons]
    rw [barGo] at h ⊢
    by_cases h1 : c = 93
    · rw [if_pos h1] at h
      rw [if_pos h1]
      refine ⟨h, ?_⟩
      have : m = n := by
        by_cases h2 : 3 ≤ n
        · rw [if_pos h2] at h; simp at h; omega
        · rw [if_neg h2] at h; cases h
      subst this
      intro d hd
      rw [Nat.sub_self, List.take_zero] at hd
      simp at hd
      subst hd; subst h1; decide
    · rw [if_neg h1] at h
      rw [if_neg h1]
      have key : ∀ st' full', barGo t st' full' (n + 1) = some (f, m) → isDig c = false → barGo (t.take (m - n)) st' full' (n + 1) = some (f, m) ∧ ∀ d ∈ c :: t.take (m - n), isDig d = false := by
        intro st' full' h' hc
        have hb' := barGo_bd _ _ _ _ _ _ h'
        have ih := barGo_cut t st' full' (n + 1) f m h'
        rw [show m - (n + 1) + 1 = m - n by omega] at ih
        refine ⟨ih.1, fun d hd => ?_⟩
        rcases List.mem_cons.1 hd with rfl | hd
        · exact hc
        · exact ih.2 d hd
      by_cases h2 : (c = 35 ∨ c = 61) ∧ st = 0
      · rw [if_pos h2] at h
        rw [if_pos h2]
        exact key _ _ h (by rcases h2.1 with rfl | rfl <;> decide)
      · rw [if_neg h2] at h
        rw [if_neg h2]
        by_cases h3 : c = 62 ∧ st = 0
        · rw [if_pos h3] at h
          rw [if_pos h3]
          exact key _ _ h (by rw [h3.1]; decide)
        · rw [if_neg h3] at h
          rw [if_neg h3]
          by_cases h4 : c = 32 ∨ c = 46 ∨ c = 45
          · rw [if_pos h4] at h
            rw [if_pos h4]
            exact key _ _ h (by rcases h4 with rfl | rfl | rfl <;> decide)
          · rw [if_neg h4] at h; cases h

theorem percF_cut {l : List UInt8} {p q n a b : Nat} (h : percF l = some (p, q, n)) (hq : q ≤ b) (ha : a = p ∨ (a < p ∧ ∀ c, l[a]? = some c → isDig c = false)) : percF ((l.take b).drop a) = some (p - a, q - a, n) := by
  have hbd := percF_bd h
  obtain ⟨i, hi, h1, h2⟩ := firstOf _ _ h
  have hst : startB l i = true := by
    cases hs : startB l i with
    | true => rfl
    | false => rw [startB_no hs] at h1; cases h1
  have hpi : i = p ∧ i + dn l i + 1 = q ∧ dv l i (dn l i) = n := by
    unfold pcAt at h1
    split at h1
    · simpa using h1
    · cases h1
  obtain ⟨rfl, hq', hn⟩ := hpi
  have hai : a ≤ i := by omega
  have hlen : ((l.take b).drop a).length = min b l.length - a := by simp
  have hget : ∀ j, a + j < b → ((l.take b).drop a)[j]? = l[a + j]? := fun j hj => by
    rw [List.getElem?_drop, List.getElem?_take, if_pos hj]
  have hrun : ∀ j, a + j ≤ i → a + j + dn l (a + j) + 1 ≤ q := by
    intro j hj
    rcases Nat.lt_or_ge (a + j) i with h' | h'
    · have := run_ends hst h'; omega
    · have : a + j = i := by omega
      rw [this]; omega
  have hstart : ∀ j, a + j ≤ i → startB ((l.take b).drop a) j = startB l (a + j) := by
    intro j hj
    have hr := hrun j hj
    rcases Nat.eq_zero_or_pos j with h0 | h0
    · subst h0
      rcases ha with ha | ⟨ha, hc⟩
      · subst ha
        rw [Nat.add_zero, hst]
        obtain ⟨c, hc, hd, -⟩ := startB_get hst
        unfold startB
        rw [hget 0 (by omega), Nat.add_zero, hc]
        simp [hd]
      · have he : l[a]? = some l[a] := List.getElem?_eq_getElem (by omega)
        unfold startB
        rw [hget 0 (by omega), Nat.add_zero, he]
        simp [hc _ he]
    · refine startB_same (hget j (by omega)) ?_
      rw [hget (j - 1) (by omega), show a + (j - 1) = a + j - 1 by omega]
      simp [h0, show 0 < a + j by omega]
  have hat : ∀ j, a + j ≤ i → pcAt ((l.take b).drop a) j = (pcAt l (a + j)).map fun x => (j, j + dn l (a + j) + 1, x.2.2) := by
    intro j hj
    have hr := hrun j hj
    refine pcAt_same (by rw [hlen]; omega) (fun k hk => ?_) (hstart j hj)
    rw [hget (j + k) (by omega), Nat.add_assoc]
  refine firstAt _ _ (i - a) (by rw [hlen]; omega) (fun j hj => ?_) ?_
  · rw [hat j (by omega), h2 _ (by omega)]; rfl
  · rw [hat (i - a) (by omega), show a + (i - a) = i by omega, h1]
    simp only [Option.map_some, Option.some.injEq, Prod.mk.injEq, true_and, and_true]
    omega

theorem indF_cut {l : List UInt8} {a b n : Nat} (h : indF l = some (a, b, n)) : ∃ a' b', indF ((l.take b).drop a) = some (a', b', n) := by
  unfold indF at h
  cases hp : percF l with
  | none =>
    cases hb : barF l with
    | none => rw [hp, hb] at h; cases h
    | some y =>
      obtain ⟨y1, y2, y3, y4⟩ := y
      rw [hp, hb] at h
      have hbd := barF_bd hb
      simp only [Option.some.injEq, Prod.mk.injEq] at h
      obtain ⟨rfl, rfl, rfl⟩ := h
      obtain ⟨i, hi, h1, -⟩ := firstOf _ _ hb
      unfold barAt at h1
      split at h1
      · rename_i hc
        cases hg : barGo (l.drop (i + 1)) 0 0 0 with
        | none => rw [hg] at h1; cases h1
        | some x =>
          obtain ⟨f, m⟩ := x
          rw [hg] at h1
          simp only [Option.map_some, Option.some.injEq, Prod.mk.injEq] at h1
          obtain ⟨rfl, rfl, rfl, rfl⟩ := h1
          obtain ⟨g1, g2⟩ := barGo_cut _ _ _ _ _ _ hg
          rw [Nat.sub_zero] at g1 g2
          have hsub : (l.take (i + m + 2)).drop i = 91 :: (l.drop (i + 1)).take (m + 1) := by
            rw [List.drop_take, show i + m + 2 - i = (m + 1) + 1 by omega]
            have : l.drop i = 91 :: l.drop (i + 1) := by
              rw [List.drop_eq_getElem_cons hi]
              rw [List.getElem?_eq_getElem hi] at hc
              rw [Option.some.inj hc]
            rw [this, List.take_succ_cons]
          rw [hsub]
          have hno : percF (91 :: (l.drop (i + 1)).take (m + 1)) = none := no_perc _ fun c hc => by
            rcases List.mem_cons.1 hc with rfl | hc
            · decide
            · exact g2 c hc
          have hba : barF (91 :: (l.drop (i + 1)).take (m + 1)) = some (0, 0 + m + 2, f, m) := by
            refine firstAt _ _ 0 (by simp) (fun j hj => by omega) ?_
            unfold barAt
            rw [List.getElem?_cons_zero, if_pos rfl, List.drop_succ_cons, List.drop_zero, g1]
            rfl
          unfold indF
          rw [hno, hba]
          exact ⟨_, _, rfl⟩
      · cases h1
  | some x =>
    obtain ⟨x1, x2, x3⟩ := x
    have hpb := percF_bd hp
    have key : ∀ q, percF ((l.take b).drop a) = some (q, x2 - a, x3) → ∃ a' b', indF ((l.take b).drop a) = some (a', b', x3) := by
      intro q hq
      unfold indF
      rw [hq]
      cases barF ((l.take b).drop a) with
      | none => exact ⟨_, _, rfl⟩
      | some y => exact ⟨_, _, rfl⟩
    cases hb : barF l with
    | none =>
      rw [hp, hb] at h
      simp only [Option.some.injEq, Prod.mk.injEq] at h
      obtain ⟨rfl, rfl, rfl⟩ := h
      exact key _ (percF_cut hp (Nat.le_refl _) (.inl rfl))
    | some y =>
      obtain ⟨y1, y2, y3, y4⟩ := y
      have hbd := barF_bd hb
      have hch : l[y1]? = some 91 := by
        obtain ⟨i, hi, h1, -⟩ := firstOf _ _ hb
        unfold barAt at h1
        split at h1
        · rename_i hc
          cases hg : barGo (l.drop (i + 1)) 0 0 0 with
          | none => rw [hg] at h1; cases h1
          | some x => rw [hg] at h1; simp only [Option.map_some, Option.some.injEq, Prod.mk.injEq] at h1; rw [← h1.1]; exact hc
        · cases h1
      rw [hp, hb] at h
      simp only [Option.some.injEq, Prod.mk.injEq] at h
      obtain ⟨ha, hb2, rfl⟩ := h
      refine key _ (percF_cut hp (by omega) ?_)
      by_cases hlt : y1 < x1
      · right
        refine ⟨by omega, fun c hc => ?_⟩
        rw [show a = y1 by omega, hch] at hc
        cases hc; decide
      · left; omega
end Go.Proofs.YtnhcelckgfmljaaDoor
