/- The plain law of ClippingWords. -/
import Derived.Test.YtmloijhdibicdaaDoorK16
namespace Go.Proofs.YtmloijhdibicdaaDoor
open Go.RowKit Go.Shelf

theorem glErr_text {g : Gl} (h : glErr g = 0) : g.text.data.toList ≠ [] := by
  intro h0
  unfold glErr at h
  rw [if_pos (by rw [ByteArray.toList_eq, h0]; unfold clErr; simp)] at h
  omega
theorem kindT_zero {t : ByteArray} (h : kindT t = 0) (hne : t.data.toList ≠ []) : t.data.toList = [32] := by
  unfold kindT at h
  split at h
  · rename_i h0; exact absurd h0 hne
  · rename_i c r h0
    split at h
    · rename_i h1; rw [h0, h1.1, h1.2]
    · split at h <;> omega

/-- What the law asks of the word at a position. -/
theorem wordsLaw (v : Vw) (ht : v.Tame) (hok : v.ok = true) (y x : Nat) (hy : (y : Int) < v.height) (hx : (x : Int) ≤ v.width) :
    (wordE v y x = 8 ∧ wordT v y x = ⟨#[]⟩ ∧ (((rowOf v y).length : Int) ≤ idx (rowOf v y) x ∨ ∃ (k : Nat) (g : Gl), idx (rowOf v y) x = k ∧ k < (rowOf v y).length ∧ (rowOf v y)[k]? = some g ∧ g.text.data.toList = [32])) ∨
    (wordE v y x = 0 ∧ ∃ (k : Nat) (g : Gl), idx (rowOf v y) x = k ∧ k < (rowOf v y).length ∧ (rowOf v y)[k]? = some g ∧ (wordT v y x).data.toList ≠ [] ∧ (wordT v y x).size ≤ 1000000 ∧
      Lib.contains (wordT v y x).data.toList g.text.data.toList = true ∧ Lib.contains (textB (rowOf v y)).data.toList (wordT v y x).data.toList = true) := by
  have hp := Vw.proper hok
  have he : v.err = 0 := by unfold Vw.ok at hok; simpa using hok
  have hlen := hp.len
  have hyr : y < v.rows.length := by omega
  have hpos : posB v y x = true := by unfold posB; simp; omega
  obtain ⟨hl1, hl2⟩ := rowOf_tame ht hyr
  have hrow : rowErr v.width (rowOf v y) = 0 := by rw [← rowOf_get hyr]; exact hp.rows _ (List.getElem_mem hyr)
  have hgl : ∀ g ∈ rowOf v y, glErr g = 0 := firstErr_zero (by
    by_cases h : firstErr glErr (rowOf v y) = 0
    · exact h
    · have := rowErr_glyph (width := v.width) h; rw [hrow] at this; exact this.symm)
  rcases wordWays v y x with ⟨h1, -⟩ | ⟨-, h1, -⟩ | ⟨-, -, hsome, hnone⟩
  · rw [he] at h1; cases h1
  · rw [hpos] at h1; cases h1
  · rw [Int.toNat_natCast] at hsome hnone
    generalize rowOf v y = row at *
    have hi0 := idx_nonneg row x (by omega)
    obtain ⟨k, hk⟩ : ∃ k : Nat, idx row x = k := ⟨(idx row x).toNat, by omega⟩
    have hc : cidx row x = min k row.length := by unfold cidx; rw [hk]; rfl
    cases hw : wordAt (kindAt row) row.length (cidx row x) with
    | none =>
      obtain ⟨e1, e2⟩ := hnone hw
      refine .inl ⟨e1, e2, ?_⟩
      by_cases hkl : k < row.length
      · right
        have hge := List.getElem?_eq_getElem hkl
        refine ⟨k, row[k], hk, hkl, hge, ?_⟩
        have hck : cidx row x = k := by rw [hc]; omega
        rcases wordAt_none hw with h | h
        · omega
        · rw [hck, kindAt_get hkl] at h
          exact kindT_zero h (glErr_text (hgl _ (List.getElem_mem hkl)))
      · left; rw [hk]; omega
    | some p =>
      obtain ⟨e1, e2⟩ := hsome p hw
      obtain ⟨w1, w2, w3⟩ := wordAt_some hw
      have hkl : k < row.length := by omega
      have hck : cidx row x = k := by rw [hc]; omega
      rw [hck] at w1 w2
      have hge := List.getElem?_eq_getElem hkl
      obtain ⟨a, z, ha⟩ := word_contains row p.1 p.2 k _ hge w1 w2
      obtain ⟨a', z', ha'⟩ := part_in row p.1 p.2 (by omega)
      have e3 : wordT v y x = partB row p.1 p.2 := e2
      have hne := glErr_text (hgl _ (List.getElem_mem hkl))
      rw [e3]
      refine .inr ⟨e1, k, row[k], hk, hkl, hge, ?_, ?_, ?_, ?_⟩
      · rw [ha]; intro h0; simp at h0; exact hne (by simpa using h0.2.1)
      · have hs := congrArg ByteArray.size ha'
        have := textB_size0 hl1 hl2
        rw [ByteArray.size_append, ByteArray.size_append] at hs
        omega
      · rw [ha, ByteArray.data_append, ByteArray.data_append, Array.toList_append, Array.toList_append]; exact contains_of
      · rw [ha', ByteArray.data_append, ByteArray.data_append, Array.toList_append, Array.toList_append]; exact contains_of
end Go.Proofs.YtmloijhdibicdaaDoor
