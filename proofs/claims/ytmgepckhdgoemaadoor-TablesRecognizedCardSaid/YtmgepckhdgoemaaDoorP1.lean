/- Tables, in plain words: the end of the longest table from a row on; the tables of a view. -/
import Derived.Test.YtmgepckhdgoemaaDoorT9
namespace Go.Proofs.YtmgepckhdgoemaaDoor

/-- Whether a range of rows has no empty row and has a gap. -/
def tabB (rows : List (List Gl)) (W t b : Nat) : Bool := ((rowsIn rows t b).all fun l => !emptyB l) && decide (1 < (partsTo (gut rows t b) W).length)
/-- The last of the ends t + 2 .. b of a table that begins at row t; t + 1 if there is none. -/
def endTo (rows : List (List Gl)) (W t : Nat) : Nat → Nat
  | 0 => t + 1
  | b + 1 => if decide (t + 2 ≤ b + 1) && tabB rows W t (b + 1) then b + 1 else endTo rows W t b
def longR (rows : List (List Gl)) (W t b : Nat) : Nat := if endTo rows W t b = t + 1 then 0 else endTo rows W t b

theorem endTo_step (rows : List (List Gl)) (W t b : Nat) : endTo rows W t (b + 1) = if decide (t + 2 ≤ b + 1) && tabB rows W t (b + 1) then b + 1 else endTo rows W t b := rfl
theorem endTo_low (rows : List (List Gl)) (W t : Nat) : ∀ b, b ≤ t + 1 → endTo rows W t b = t + 1
  | 0, _ => rfl
  | b + 1, h => by rw [endTo_step, endTo_low rows W t b (by omega), if_neg (by simp; omega)]
theorem endTo_bd (rows : List (List Gl)) (W t : Nat) : ∀ b, endTo rows W t b = t + 1 ∨ (t + 2 ≤ endTo rows W t b ∧ endTo rows W t b ≤ b)
  | 0 => .inl rfl
  | b + 1 => by
    rw [endTo_step]
    by_cases h : t + 2 ≤ b + 1
    · cases hb : tabB rows W t (b + 1) with
      | true => right; rw [if_pos (by simp; omega)]; omega
      | false =>
        rw [if_neg (by simp)]
        rcases endTo_bd rows W t b with h | h
        · exact .inl h
        · exact .inr (by omega)
    · rw [if_neg (by simp; omega)]
      rcases endTo_bd rows W t b with h | h
      · exact .inl h
      · exact .inr (by omega)
/-- A table that ends at the last end is one. -/
theorem endTo_tab (rows : List (List Gl)) (W t : Nat) : ∀ b, endTo rows W t b ≠ t + 1 → tabB rows W t (endTo rows W t b) = true
  | 0, h => absurd rfl h
  | b + 1, h => by
    rw [endTo_step] at h ⊢
    cases hc : (decide (t + 2 ≤ b + 1) && tabB rows W t (b + 1)) with
    | true => rw [if_pos rfl]; simp only [Bool.and_eq_true] at hc; exact hc.2
    | false => rw [hc, if_neg (by simp)] at h; rw [if_neg (by simp)]; exact endTo_tab rows W t b h
theorem endTo_stop (rows : List (List Gl)) (W t b : Nat) : ∀ d, (∀ b', b < b' → b' ≤ b + d → tabB rows W t b' = false) → endTo rows W t (b + d) = endTo rows W t b
  | 0, _ => rfl
  | d + 1, h => by
    rw [← Nat.add_assoc, endTo_step, h _ (by omega) (by omega), Bool.and_false, if_neg (by simp)]
    exact endTo_stop rows W t b d fun b' h1 h2 => h b' h1 (by omega)
theorem rowsIn_mem (rows : List (List Gl)) (t b k : Nat) (h1 : t ≤ k) (h2 : k < b) (h3 : b ≤ rows.length) : rows[k]'(by omega) ∈ rowsIn rows t b := by
  have h := rowsIn_get rows t b (k - t) h3 (by omega)
  have e : rows[t + (k - t)]'(by omega) = rows[k]'(by omega) := by congr 1; omega
  rw [← e, ← h]; exact List.getElem_mem _
theorem tabB_empty (rows : List (List Gl)) (W t b k : Nat) (h1 : t ≤ k) (h2 : k < b) (h3 : b ≤ rows.length) (he : emptyB (rows[k]'(by omega)) = true) : tabB rows W t b = false := by
  unfold tabB
  have : ((rowsIn rows t b).all fun l => !emptyB l) = false := List.all_eq_false.2 ⟨_, rowsIn_mem rows t b k h1 h2 h3, by simp [he]⟩
  rw [this]; rfl
theorem mem_rowsIn (rows : List (List Gl)) (t b : Nat) (h3 : b ≤ rows.length) {l : List Gl} (h : l ∈ rowsIn rows t b) : ∃ k, ∃ hk : k < rows.length, t ≤ k ∧ k < b ∧ rows[k] = l := by
  obtain ⟨i, hi, rfl⟩ := List.mem_iff_getElem.1 h
  have hi2 := hi
  rw [rowsIn_length rows t b h3] at hi2
  exact ⟨t + i, by omega, by omega, by omega, (rowsIn_get rows t b i h3 hi2).symm⟩
theorem tabB_full (rows : List (List Gl)) (W t b : Nat) (h3 : b ≤ rows.length) (h : ∀ k, t ≤ k → k < b → ∀ l, rows[k]? = some l → emptyB l = false) : tabB rows W t b = decide (1 < (partsTo (gut rows t b) W).length) := by
  unfold tabB
  have : ((rowsIn rows t b).all fun l => !emptyB l) = true := List.all_eq_true.2 fun l hl => by
    obtain ⟨k, hk, h1, h2, rfl⟩ := mem_rowsIn rows t b h3 hl
    rw [h k h1 h2 _ (List.getElem?_eq_getElem hk)]; rfl
  rw [this, Bool.true_and]

/-- A table of a view. -/
def tblR (rows : List (List Gl)) (W t b : Nat) : Rg :=
  ⟨3, 0, -1, t, (((partsTo (gut rows t b) W).head?.getD (0, 0)).1 : Nat), b, (((partsTo (gut rows t b) W).getLast?.getD (0, 0)).2 : Nat), cellOf (rows[t]?.getD []) ((partsTo (gut rows t b) W).head?.getD (0, 0)).1 ((partsTo (gut rows t b) W).head?.getD (0, 0)).2⟩
/-- The tables from a row on. -/
def findF (rows : List (List Gl)) (W : Nat) : Nat → Nat → List Rg
  | 0, _ => []
  | f + 1, t => if t < rows.length then
      if endTo rows W t rows.length = t + 1 then findF rows W f (t + 1) else tblR rows W t (endTo rows W t rows.length) :: findF rows W f (endTo rows W t rows.length)
    else []
theorem findF_end (rows : List (List Gl)) (W : Nat) : ∀ f t, rows.length ≤ t → findF rows W f t = []
  | 0, _, _ => rfl
  | f + 1, t, h => by unfold findF; rw [if_neg (by omega)]
theorem findF_none (rows : List (List Gl)) (W f t : Nat) (h : t < rows.length) (he : endTo rows W t rows.length = t + 1) : findF rows W (f + 1) t = findF rows W f (t + 1) := by
  show (if _ then _ else _) = _
  rw [if_pos h, if_pos he]
theorem findF_some (rows : List (List Gl)) (W f t : Nat) (h : t < rows.length) (he : endTo rows W t rows.length ≠ t + 1) : findF rows W (f + 1) t = tblR rows W t (endTo rows W t rows.length) :: findF rows W f (endTo rows W t rows.length) := by
  show (if _ then _ else _) = _
  rw [if_pos h, if_neg he]
/-- What Find returns. -/
def findT (v : Vw) : List Rg := if v.ok then findF v.rows v.width.toNat v.rows.length 0 else []
end Go.Proofs.YtmgepckhdgoemaaDoor
