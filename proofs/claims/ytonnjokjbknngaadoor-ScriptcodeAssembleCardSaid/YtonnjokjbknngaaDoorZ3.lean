/- What the library's Split, FieldsFunc and ContainsFunc give at the bytes of a source text, in plain words. -/
import Derived.Test.YtonnjokjbknngaaDoorZ2
import Derived.Lib.Split
import Derived.Lib.FieldsP
import Derived.Shelf.GgClosure.StringsIndexFunc
import Derived.Lib.MapLaws
namespace Go.Proofs.YtonnjokjbknngaaDoor
open Go Go.Lib

/-! ### lines -/
theorem nl_none : ∀ {l : BS}, (∀ c ∈ l, c ≠ 10) → index l [10] = -1
  | [], _ => rfl
  | c :: l, h => by
    have ih := nl_none (l := l) fun d hd => h d (by simp [hd])
    unfold index
    have hc : ([10] : BS).isPrefixOf (c :: l) = false := by
      simp only [List.isPrefixOf, Bool.and_true, beq_eq_false_iff_ne]
      exact fun e => h c (by simp) e.symm
    rw [hc, ih]; rfl
theorem nl_at : ∀ {a : BS} (b : BS), (∀ c ∈ a, c ≠ 10) → index (a ++ 10 :: b) [10] = a.length
  | [], b, _ => by
    unfold index
    simp [List.isPrefixOf]
  | c :: a, b, h => by
    have ih := nl_at (a := a) b fun d hd => h d (by simp [hd])
    rw [List.cons_append]
    unfold index
    have hc : ([10] : BS).isPrefixOf (c :: (a ++ 10 :: b)) = false := by
      simp only [List.isPrefixOf, Bool.and_true, beq_eq_false_iff_ne]
      exact fun e => h c (by simp) e.symm
    rw [hc, ih]
    have h2 : (((a.length : Nat) : Int) == -1) = false := by rw [beq_eq_false_iff_ne]; omega
    rw [h2]
    simp
theorem nl_split : ∀ (l : BS), (∀ c ∈ l, c ≠ 10) ∨ ∃ a b, l = a ++ 10 :: b ∧ ∀ c ∈ a, c ≠ 10
  | [] => .inl fun c h => by cases h
  | c :: l => by
    by_cases hc : c = 10
    · exact .inr ⟨[], l, by rw [hc]; rfl, fun d h => by cases h⟩
    · rcases nl_split l with h | ⟨a, b, rfl, h⟩
      · left
        intro d hd
        rcases List.mem_cons.1 hd with rfl | hd
        · exact hc
        · exact h d hd
      · right
        refine ⟨c :: a, b, rfl, fun d hd => ?_⟩
        rcases List.mem_cons.1 hd with rfl | hd
        · exact hc
        · exact h d hd
theorem linesG_app : ∀ (a t cur : BS), (∀ c ∈ a, c ≠ 10) → linesG (a ++ t) cur = linesG t (cur ++ a)
  | [], t, cur, _ => by simp
  | c :: a, t, cur, h => by
    rw [List.cons_append, linesG, if_neg (h c (by simp)), linesG_app a t _ (fun d hd => h d (by simp [hd]))]
    simp
theorem linesB_one {l : BS} (h : ∀ c ∈ l, c ≠ 10) : linesB l = [l] := by
  unfold linesB
  have := linesG_app l [] [] h
  rw [List.append_nil] at this
  rw [this, linesG]; simp
theorem linesB_cut {a : BS} (b : BS) (h : ∀ c ∈ a, c ≠ 10) : linesB (a ++ 10 :: b) = a :: linesB b := by
  unfold linesB
  rw [linesG_app a _ _ h, linesG, if_pos rfl]
  simp
theorem splitK_lines : ∀ (n : Nat) (l : BS), l.length ≤ n → splitK [10] 0 (count l [10]) l = linesB l := by
  intro n
  induction n with
  | zero =>
    intro l hl
    have : l = [] := List.eq_nil_of_length_eq_zero (by omega)
    subst this
    rw [count_miss rfl]
    rfl
  | succ n ih =>
    intro l hl
    rcases nl_split l with h | ⟨a, b, rfl, h⟩
    · rw [count_miss (nl_none h), linesB_one h]; rfl
    · have hi := nl_at b h
      have hd : (a ++ 10 :: b).drop (a.length + ([10] : BS).length) = b := by
        rw [show ([10] : BS).length = 1 from rfl, ← List.drop_drop, List.drop_left' rfl]; rfl
      rw [count_hit (by simp) hi, hd, Nat.add_comm 1, splitK]
      have h2 : (index (a ++ 10 :: b) [10] == -1) = false := by rw [hi, beq_eq_false_iff_ne]; omega
      rw [h2, hi]
      simp only [Bool.false_eq_true, if_false, Int.toNat_natCast, Nat.add_zero]
      rw [hd, ih b (by simp at hl; omega), linesB_cut b h, List.take_left' rfl]
/-- strings.Split at a newline. -/
theorem split_lines (s : ByteArray) : (splitB ⟨#[10]⟩ 0 (countB s ⟨#[10]⟩) s).map (·.data.toList) = linesB s.data.toList := by
  rw [splitB_data]
  exact splitK_lines _ _ (Nat.le_refl _)

/-! ### runes and bytes -/
/-- The rune at a place: its byte where that is ASCII; else none of them, and no byte that it takes is ASCII. -/
theorem rune_at (s : ByteArray) (pos : Nat) (h : pos < s.size) : ∃ b, s.data.toList[pos]? = some b ∧
    ((b.toNat < 128 ∧ Utf8.decode s pos = (b.toNat, 1)) ∨ (128 ≤ b.toNat ∧ 128 ≤ (Utf8.decode s pos).1 ∧ 1 ≤ (Utf8.decode s pos).2 ∧ pos + (Utf8.decode s pos).2 ≤ s.size ∧ ∀ c ∈ (s.data.toList.drop pos).take (Utf8.decode s pos).2, 128 ≤ c.toNat)) := by
  have hlen : s.data.toList.length = s.size := rfl
  have g0 : ∀ j, j < s.size → (s.get! j) = s.data.toList.getD j 0 := fun j hj => by
    obtain ⟨⟨l⟩⟩ := s
    have hj' : j < l.length := hj
    show (⟨l⟩ : Array UInt8)[j]! = l.getD j 0
    simp [List.getD, hj']
  have hp : s.data.toList[pos]? = some (s.data.toList.getD pos 0) := by
    rw [List.getElem?_eq_getElem (by omega)]; simp [List.getD, List.getElem?_eq_getElem (show pos < s.data.toList.length by omega)]
  refine ⟨s.data.toList.getD pos 0, hp, ?_⟩
  have hd := decode_at s pos
  rw [g0 pos h] at hd
  obtain ⟨b, hb⟩ : ∃ b, s.data.toList.getD pos 0 = b := ⟨_, rfl⟩
  rw [hb] at hd ⊢
  have hb256 := b.toNat_lt
  by_cases hlow : b.toNat < 128
  · left
    exact ⟨hlow, by rw [hd]; unfold decodeN; rw [if_pos hlow]⟩
  · right
    have mem : ∀ (n : Nat) (P : UInt8 → Prop), pos + n ≤ s.size → (∀ j, j < n → P (s.data.toList.getD (pos + j) 0)) → ∀ c ∈ (s.data.toList.drop pos).take n, P c := fun n P hn hP c hc => by
      obtain ⟨j, hj, rfl⟩ := List.getElem_of_mem hc
      rw [List.length_take, List.length_drop] at hj
      have := hP j (by omega)
      rw [List.getElem_take, List.getElem_drop]
      simpa [List.getD, List.getElem?_eq_getElem (show pos + j < s.data.toList.length by omega)] using this
    obtain ⟨x1, hx1⟩ : ∃ x, s.get! (pos + 1) = x := ⟨_, rfl⟩
    obtain ⟨x2, hx2⟩ : ∃ x, s.get! (pos + 2) = x := ⟨_, rfl⟩
    obtain ⟨x3, hx3⟩ : ∃ x, s.get! (pos + 3) = x := ⟨_, rfl⟩
    rw [hx1, hx2, hx3] at hd
    have l1 := x1.toNat_lt
    have l2 := x2.toNat_lt
    have l3 := x3.toNat_lt
    have hn0 : 1 ≤ s.size - pos := by omega
    rcases decodeN_shape (s.size - pos) b.toNat x1.toNat x2.toNat x3.toNat with ⟨c, e⟩ | ⟨c1, c2, c3, cv, e⟩ | ⟨c1, c2, c3, c4, cv, cs, e⟩ | ⟨c1, c2, c3, c4, c5, cv, cw, e⟩ | e
    · omega
    · rw [hd, e]
      refine ⟨by omega, by dsimp only; omega, by dsimp only; omega, by dsimp only; omega, mem 2 _ (by omega) fun j hj => ?_⟩
      match j, hj with
      | 0, _ => rw [Nat.add_zero, hb]; omega
      | 1, _ => rw [← g0 (pos + 1) (by omega), hx1]; omega
    · rw [hd, e]
      refine ⟨by omega, by dsimp only; omega, by dsimp only; omega, by dsimp only; omega, mem 3 _ (by omega) fun j hj => ?_⟩
      match j, hj with
      | 0, _ => rw [Nat.add_zero, hb]; omega
      | 1, _ => rw [← g0 (pos + 1) (by omega), hx1]; omega
      | 2, _ => rw [← g0 (pos + 2) (by omega), hx2]; omega
    · rw [hd, e]
      refine ⟨by omega, by dsimp only; omega, by dsimp only; omega, by dsimp only; omega, mem 4 _ (by omega) fun j hj => ?_⟩
      match j, hj with
      | 0, _ => rw [Nat.add_zero, hb]; omega
      | 1, _ => rw [← g0 (pos + 1) (by omega), hx1]; omega
      | 2, _ => rw [← g0 (pos + 2) (by omega), hx2]; omega
      | 3, _ => rw [← g0 (pos + 3) (by omega), hx3]; omega
    · rw [hd, e]
      refine ⟨by omega, by decide, by decide, by dsimp only; omega, mem 1 _ (by omega) fun j hj => ?_⟩
      obtain rfl : j = 0 := by omega
      rw [Nat.add_zero, hb]; omega

/-- What a label's other characters are not. -/
def badR (r : Nat) : Bool := (decide (r < 97) || decide (122 < r)) && (decide (r < 48) || decide (57 < r))
def okB (c : UInt8) : Bool := lowB c || digB c
theorem badR_byte (c : UInt8) : badR c.toNat = !okB c := by
  unfold badR okB lowB digB
  rw [Bool.eq_iff_iff]
  simp
theorem idxFrom_bad (s : ByteArray) : ∀ (f pos : Nat), s.size ≤ pos + f → decide (0 ≤ idxFuncFrom badR true s f pos) = !((s.data.toList.drop pos).all okB)
  | 0, pos, h => by
    rw [List.drop_of_length_le (show s.data.toList.length ≤ pos from h)]
    rfl
  | f + 1, pos, h => by
    unfold idxFuncFrom
    by_cases hp : pos < s.size
    · rw [if_pos hp]
      obtain ⟨b, hb, hcase⟩ := rune_at s pos hp
      have hdrop : s.data.toList.drop pos = b :: s.data.toList.drop (pos + 1) := by
        rw [List.drop_eq_getElem_cons (show pos < s.data.toList.length from hp)]
        congr 1
        rw [List.getElem?_eq_getElem (show pos < s.data.toList.length from hp)] at hb
        exact Option.some.inj hb
      rcases hcase with ⟨h1, h2⟩ | ⟨h1, h2, -, -, -⟩
      · rw [h2, hdrop, List.all_cons]
        dsimp only
        rw [badR_byte]
        cases hk : okB b with
        | true =>
          rw [if_neg (by simp), Bool.true_and]
          exact idxFrom_bad s f (pos + 1) (by omega)
        | false =>
          rw [if_pos (show (!false) = true from rfl), Bool.false_and]
          exact decide_eq_true (by omega)
      · have hbad : badR (Utf8.decode s pos).1 = true := by unfold badR; simp; omega
        rw [if_pos hbad, hdrop, List.all_cons]
        have hk : okB b = false := by unfold okB lowB digB; simp; omega
        rw [hk, Bool.false_and]
        exact decide_eq_true (by omega)
    · rw [if_neg hp, List.drop_of_length_le (show s.data.toList.length ≤ pos by show s.size ≤ pos; omega)]
      rfl
/-- strings.ContainsFunc at what a label may not hold. -/
theorem contains_bad (s : ByteArray) : decide (0 ≤ idxFunc badR true s) = !(s.data.toList.all okB) := by
  have := idxFrom_bad s s.size 0 (by omega)
  rwa [List.drop_zero] at this

/-! ### words -/
theorem piece_grow (l : BS) (a pos k : Nat) (h : a ≤ pos) : pieceU l a pos ++ (l.drop pos).take k = pieceU l a (pos + k) := pieceU_grow l a pos k h
theorem fields_words (s : ByteArray) : ∀ (f pos : Nat) (st : Option Nat) (acc : List (Nat × Nat)), s.size ≤ pos + f → pos ≤ s.size → (∀ a, st = some a → a < pos) →
    (closeSpans s (spansFromP (· == 32) s f pos st acc)).map (fun p => pieceU s.data.toList p.1 p.2) = acc.map (fun p => pieceU s.data.toList p.1 p.2) ++ wordsG (s.data.toList.drop pos) (openPiece s.data.toList st pos)
  | f, pos, st, acc, h, hp, hst => by
    have hlen : s.data.toList.length = s.size := rfl
    have hopen : ∀ a, st = some a → openPiece s.data.toList st pos ≠ [] := fun a ha h0 => by
      rw [ha] at h0
      have := congrArg List.length h0
      have hlt := hst a ha
      simp only [openPiece, pieceU, List.length_take, List.length_drop, List.length_nil] at this
      omega
    by_cases hps : pos < s.size
    · obtain ⟨f, rfl⟩ : ∃ g, f = g + 1 := ⟨f - 1, by omega⟩
      obtain ⟨b, hb, hcase⟩ := rune_at s pos hps
      have hdrop : s.data.toList.drop pos = b :: s.data.toList.drop (pos + 1) := by
        rw [List.drop_eq_getElem_cons (show pos < s.data.toList.length from hps)]
        congr 1
        rw [List.getElem?_eq_getElem (show pos < s.data.toList.length from hps)] at hb
        exact Option.some.inj hb
      by_cases hsp : (Utf8.decode s pos).1 = 32
      · -- a space
        have h1 : b.toNat < 128 ∧ Utf8.decode s pos = (b.toNat, 1) := by
          rcases hcase with hc | ⟨-, h2, -⟩
          · exact hc
          · omega
        have hb32 : b = 32 := by
          have : b.toNat = 32 := by have := hsp; rw [h1.2] at this; exact this
          exact UInt8.toNat_inj.1 this
        have hw : (Utf8.decode s pos).2 = 1 := by rw [h1.2]
        unfold spansFromP
        rw [if_pos hps, if_pos (by rw [hsp]; rfl), hw]
        rw [hdrop, hb32, wordsG, if_pos rfl]
        cases st with
        | none =>
          rw [if_pos (show openPiece s.data.toList none pos = [] from rfl)]
          have := fields_words s f (pos + 1) none acc (by omega) (by omega) (fun a ha => by cases ha)
          rw [this]; rfl
        | some a =>
          rw [if_neg (hopen a rfl)]
          have := fields_words s f (pos + 1) none (acc ++ [(a, pos)]) (by omega) (by omega) (fun a ha => by cases ha)
          rw [this]
          simp [openPiece]
      · -- a character of a word
        obtain ⟨K, hK1, hK2, hKw, hK3⟩ : ∃ K, 1 ≤ K ∧ pos + K ≤ s.size ∧ (Utf8.decode s pos).2 = K ∧ ∀ c ∈ (s.data.toList.drop pos).take K, c ≠ 32 := by
          rcases hcase with ⟨h1, h2⟩ | ⟨h1, h2, h3, h4, h5⟩
          · refine ⟨1, by omega, by omega, by rw [h2], fun c hc => ?_⟩
            rw [hdrop] at hc
            simp at hc
            subst hc
            intro h32
            rw [h2] at hsp
            exact hsp (by rw [h32]; rfl)
          · exact ⟨_, h3, h4, rfl, fun c hc h32 => by have := h5 c hc; rw [h32] at this; revert this; decide⟩
        have hsplit : wordsG (s.data.toList.drop pos) (openPiece s.data.toList st pos) = wordsG (s.data.toList.drop (pos + K)) (openPiece s.data.toList st pos ++ (s.data.toList.drop pos).take K) := by
          rw [← wordsG_app _ _ _ hK3]
          congr 1
          rw [← List.drop_drop, List.take_append_drop]
        unfold spansFromP
        rw [if_pos hps, if_neg (by simpa using hsp), hKw, hsplit]
        cases st with
        | none =>
          have := fields_words s f (pos + K) (some pos) acc (by omega) (by omega) (fun a ha => by cases ha; omega)
          rw [this]
          congr 2
          show pieceU s.data.toList pos (pos + K) = [] ++ _
          unfold pieceU
          rw [List.nil_append, show pos + K - pos = K by omega]
        | some a =>
          have ha := hst a rfl
          have := fields_words s f (pos + K) (some a) acc (by omega) (by omega) (fun a' ha' => by cases ha'; omega)
          rw [this]
          congr 2
          exact (pieceU_grow _ _ _ _ (by omega)).symm
    · rw [spansFromP_end _ _ _ _ _ _ hps]
      have hpe : pos = s.size := by omega
      rw [List.drop_of_length_le (by omega), wordsG]
      cases st with
      | none => simp [closeSpans, openPiece]
      | some a =>
        rw [if_neg (hopen a rfl)]
        simp [closeSpans, openPiece, hpe]
/-- strings.FieldsFunc at the space. -/
theorem fields_eq (s : ByteArray) : (goFieldsP (· == 32) s).map (·.data.toList) = wordsB s.data.toList := by
  have h := fields_words s s.size 0 none [] (by omega) (by omega) (fun a ha => by cases ha)
  rw [List.map_nil, List.nil_append, List.drop_zero] at h
  show _ = wordsG s.data.toList []
  rw [show ([] : BS) = openPiece s.data.toList none 0 from rfl, ← h]
  unfold goFieldsP spansOfP
  rw [List.map_map]
  refine List.map_congr_left fun p hp => ?_
  show (s.extract p.1 p.2).data.toList = pieceU s.data.toList p.1 p.2
  rw [ByteArray.data_extract, Array.toList_extract]
  rfl
end Go.Proofs.YtonnjokjbknngaaDoor
