/- Tables, in plain words: what the tables of a view and the columns of a table are like. -/
import Derived.Test.YtmgepckhdgoemaaDoorP2
namespace Go.Proofs.YtmgepckhdgoemaaDoor

/-- Tables from a row on, one below the other. -/
def TabsFrom (rows : List (List Gl)) (W : Nat) : Nat → List Rg → Prop
  | _, [] => True
  | e, r :: l => ∃ t b, e ≤ t ∧ t + 2 ≤ b ∧ b ≤ rows.length ∧ 1 < (partsTo (gut rows t b) W).length ∧ r = tblR rows W t b ∧ TabsFrom rows W b l
theorem TabsFrom.less {rows : List (List Gl)} {W e e' : Nat} : ∀ {l : List Rg}, TabsFrom rows W e l → e' ≤ e → TabsFrom rows W e' l
  | [], _, _ => trivial
  | _ :: _, ⟨t, b, h1, h2⟩, he => ⟨t, b, by omega, h2⟩
theorem findF_tabs (rows : List (List Gl)) (W : Nat) : ∀ f t, TabsFrom rows W t (findF rows W f t)
  | 0, _ => trivial
  | f + 1, t => by
    by_cases h : t < rows.length
    · by_cases he : endTo rows W t rows.length = t + 1
      · rw [findF_none rows W f t h he]
        exact (findF_tabs rows W f (t + 1)).less (by omega)
      · rw [findF_some rows W f t h he]
        have hbd := endTo_bd rows W t rows.length
        have htab := endTo_tab rows W t rows.length he
        unfold tabB at htab
        simp only [Bool.and_eq_true, decide_eq_true_eq] at htab
        exact ⟨t, endTo rows W t rows.length, Nat.le_refl _, by omega, by omega, htab.2, rfl, findF_tabs rows W f _⟩
    · rw [findF_end rows W (f + 1) t (by omega)]
      trivial
theorem findT_tabs {v : Vw} (hok : v.ok = true) (W : Nat) (hW : v.width = W) : TabsFrom v.rows W 0 (findT v) := by
  unfold findT
  rw [if_pos hok, hW]
  exact findF_tabs _ _ _ _

/-- Neighbouring columns, and what lies behind the last: the cells between them are free. -/
theorem partsTo_sep (f : Nat → Bool) : ∀ W, (∀ i p q, (partsTo f W)[i]? = some p → (partsTo f W)[i + 1]? = some q → p.2 + 2 ≤ q.1 ∧ ∀ c, p.2 ≤ c → c < q.1 → f c = true) ∧
    (∀ ps p, partsTo f W = ps ++ [p] → ∀ c, p.2 ≤ c → c < W → f c = true)
  | 0 => ⟨fun i p q h => by simp [partsTo] at h, fun ps p h => by simp [partsTo] at h⟩
  | W + 1 => by
    obtain ⟨h1, h2⟩ := partsTo_sep f W
    have hst : partsTo f (W + 1) = partStep (partsTo f W) W (f W) := rfl
    rw [hst]
    cases hf : f W with
    | true =>
      rw [partStep_free]
      refine ⟨h1, fun ps p h c hc1 hc2 => ?_⟩
      by_cases hcW : c = W
      · rw [hcW]; exact hf
      · exact h2 ps p h c hc1 (by omega)
    | false =>
      rcases snoc_cases (partsTo f W) with h0 | ⟨qs, ⟨a, e⟩, h0⟩
      · rw [h0, partStep_nil]
        refine ⟨fun i p q hp hq => by
          have := (List.getElem?_eq_some_iff.1 hq).1
          simp at this, fun ps p h c hc1 hc2 => ?_⟩
        have hl := congrArg List.getLast? h
        simp at hl
        subst hl
        dsimp only at hc1
        omega
      · have hbd := (partsTo_bd f W).2 (a, e) (by rw [h0]; simp)
        dsimp only at hbd
        have hlast := h2 qs (a, e) h0
        dsimp only at hlast
        rw [h0] at h1 ⊢
        by_cases hn : W < e + 2
        · rw [partStep_near hn]
          refine ⟨fun i p q hp hq => ?_, fun ps p h c hc1 hc2 => ?_⟩
          · have hil := (List.getElem?_eq_some_iff.1 hq).1
            simp at hil
            rw [List.getElem?_append_left (by omega)] at hp
            by_cases hi : i + 1 < qs.length
            · rw [List.getElem?_append_left hi] at hq
              exact h1 i p q (by rw [List.getElem?_append_left (by omega)]; exact hp) (by rw [List.getElem?_append_left hi]; exact hq)
            · have hie : i + 1 = qs.length := by omega
              rw [List.getElem?_append_right (by omega), hie, Nat.sub_self] at hq
              simp at hq
              subst hq
              have := h1 i p (a, e) (by rw [List.getElem?_append_left (by omega)]; exact hp) (by rw [List.getElem?_append_right (by omega), hie, Nat.sub_self]; rfl)
              exact this
          · have hl := congrArg List.getLast? h
            simp at hl
            subst hl
            dsimp only at hc1
            omega
        · rw [partStep_far hn]
          refine ⟨fun i p q hp hq => ?_, fun ps p h c hc1 hc2 => ?_⟩
          · have hil := (List.getElem?_eq_some_iff.1 hq).1
            simp at hil
            by_cases hi : i + 1 < (qs ++ [(a, e)]).length
            · rw [List.getElem?_append_left hi] at hq
              rw [List.getElem?_append_left (by omega)] at hp
              exact h1 i p q hp hq
            · have hie : i + 1 = (qs ++ [(a, e)]).length := by simp at hi ⊢; omega
              rw [List.getElem?_append_right (by omega), hie, Nat.sub_self] at hq
              simp at hq
              subst hq
              have hqi : i = qs.length := by simp at hie; omega
              rw [List.getElem?_append_left (by omega), hqi, List.getElem?_append_right (by omega), Nat.sub_self] at hp
              simp at hp
              subst hp
              exact ⟨by show e + 2 ≤ W; omega, fun c hc1 hc2 => hlast c hc1 hc2⟩
          · have hl := congrArg List.getLast? h
            simp at hl
            subst hl
            dsimp only at hc1
            omega
theorem gut_row {rows : List (List Gl)} {t b c : Nat} (h : gut rows t b c = true) (h3 : b ≤ rows.length) (k : Nat) (h1 : t ≤ k) (h2 : k < b) : bk (rows[k]'(by omega)) c = true := by
  unfold gut allB at h
  rw [List.all_eq_true] at h
  exact h _ (rowsIn_mem rows t b k h1 h2 h3)
end Go.Proofs.YtmgepckhdgoemaaDoor
