/- Frames, in plain words: what all frames of a view are like. -/
import Derived.Test.YtdgmjbcfopkibaaDoorF10
namespace Go.Proofs.YtdgmjbcfopkibaaDoor
open Go.RowKit

/-- A frame comes behind another by its top left corner. -/
def Rg.after (a b : Rg) : Prop := a.top < b.top ∨ (a.top = b.top ∧ a.left < b.left)
/-- A frame of a view. -/
structure IsFrame (v : Vw) (r : Rg) (t l b rr : Nat) : Prop where
  eq : r = ⟨2, 0, -1, t, l, b, rr, titleB v.pic (v.rows.getD t []) t l rr⟩
  from_ : fromF v.pic v.rows.length v.width.toNat t l = some (b, rr)
theorem frameF_some {v : Vw} {t l : Nat} {r : Rg} (h : frameF v t l = some r) : ∃ b rr, IsFrame v r t l b rr := by
  unfold frameF at h
  rw [Option.map_eq_some_iff] at h
  obtain ⟨⟨b, rr⟩, h1, h2⟩ := h
  exact ⟨b, rr, h2.symm, h1⟩
theorem colsF_mem {v : Vw} {t : Nat} : ∀ (n l : Nat) (r : Rg), r ∈ colsF v t l n → ∃ l' b rr, l ≤ l' ∧ l' < l + n ∧ IsFrame v r t l' b rr
  | 0, _, _, h => by cases h
  | n + 1, l, r, h => by
    unfold colsF at h
    rcases List.mem_append.1 h with h | h
    · rw [Option.mem_toList] at h
      obtain ⟨b, rr, h1⟩ := frameF_some h
      exact ⟨l, b, rr, Nat.le_refl _, by omega, h1⟩
    · obtain ⟨l', b, rr, h1, h2, h3⟩ := colsF_mem n (l + 1) r h
      exact ⟨l', b, rr, by omega, by omega, h3⟩
theorem rowsF_mem {v : Vw} : ∀ (n t : Nat) (r : Rg), r ∈ rowsF v t n → ∃ t' l b rr, t ≤ t' ∧ t' < t + n ∧ l < v.width.toNat ∧ IsFrame v r t' l b rr
  | 0, _, _, h => by cases h
  | n + 1, t, r, h => by
    unfold rowsF at h
    rcases List.mem_append.1 h with h | h
    · obtain ⟨l, b, rr, h1, h2, h3⟩ := colsF_mem _ _ r h
      exact ⟨t, l, b, rr, Nat.le_refl _, by omega, by omega, h3⟩
    · obtain ⟨t', l, b, rr, h1, h2, h3, h4⟩ := rowsF_mem n (t + 1) r h
      exact ⟨t', l, b, rr, by omega, by omega, h3, h4⟩
theorem colsF_sorted {v : Vw} {t : Nat} : ∀ (n l : Nat), (colsF v t l n).Pairwise Rg.after
  | 0, _ => List.Pairwise.nil
  | n + 1, l => by
    unfold colsF
    rw [List.pairwise_append]
    refine ⟨by cases frameF v t l <;> simp, colsF_sorted n (l + 1), fun a ha b hb => ?_⟩
    rw [Option.mem_toList] at ha
    obtain ⟨_, _, ha'⟩ := frameF_some ha
    obtain ⟨l', _, _, h1, _, hb'⟩ := colsF_mem n (l + 1) b hb
    right
    rw [ha'.eq, hb'.eq]
    exact ⟨rfl, by show (l : Int) < (l' : Int); omega⟩
theorem rowsF_sorted {v : Vw} : ∀ (n t : Nat), (rowsF v t n).Pairwise Rg.after
  | 0, _ => List.Pairwise.nil
  | n + 1, t => by
    unfold rowsF
    rw [List.pairwise_append]
    refine ⟨colsF_sorted _ _, rowsF_sorted n (t + 1), fun a ha b hb => ?_⟩
    obtain ⟨_, _, _, _, _, ha'⟩ := colsF_mem _ _ a ha
    obtain ⟨t', _, _, _, h1, _, _, hb'⟩ := rowsF_mem n (t + 1) b hb
    left
    rw [ha'.eq, hb'.eq]
    show (t : Int) < (t' : Int); omega
theorem colsF_len {v : Vw} {t : Nat} : ∀ (n l : Nat), (colsF v t l n).length ≤ n
  | 0, _ => Nat.le_refl _
  | n + 1, l => by
    have := colsF_len (v := v) (t := t) n (l + 1)
    unfold colsF
    rw [List.length_append]
    have h1 : (frameF v t l).toList.length ≤ 1 := by cases frameF v t l <;> simp
    omega
theorem rowsF_len {v : Vw} : ∀ (n t : Nat), (rowsF v t n).length ≤ n * v.width.toNat
  | 0, _ => by simp [rowsF]
  | n + 1, t => by
    have h1 := rowsF_len (v := v) n (t + 1)
    have h2 := colsF_len (v := v) (t := t) v.width.toNat 0
    unfold rowsF
    rw [List.length_append, Nat.succ_mul]
    omega
theorem framesT_len {v : Vw} (hok : v.ok = true) : (framesT v).length ≤ v.rows.length * v.width.toNat := by
  unfold framesT
  rw [if_pos hok]
  exact rowsF_len _ _
theorem framesT_mem {v : Vw} {r : Rg} (h : r ∈ framesT v) : v.ok = true ∧ ∃ t l b rr, t < v.rows.length ∧ l < v.width.toNat ∧ IsFrame v r t l b rr := by
  unfold framesT at h
  by_cases hok : v.ok = true
  · rw [if_pos hok] at h
    obtain ⟨t, l, b, rr, -, h1, h2, h3⟩ := rowsF_mem _ _ r h
    exact ⟨hok, t, l, b, rr, by omega, h2, h3⟩
  · rw [if_neg hok] at h; cases h
theorem framesT_sorted (v : Vw) : (framesT v).Pairwise Rg.after := by
  unfold framesT
  split
  · exact rowsF_sorted _ _
  · exact List.Pairwise.nil
theorem IsFrame.bd {v : Vw} {r : Rg} {t l b rr : Nat} (h : IsFrame v r t l b rr) : closedB v.pic t l b rr = true ∧ t + 2 ≤ b ∧ b ≤ v.rows.length ∧ l + 2 ≤ rr ∧ rr ≤ v.width.toNat := by
  obtain ⟨-, h2, h3, h4, h5, h6, -⟩ := fromF_some h.from_
  exact ⟨h2, h3, h4, h5, h6⟩
theorem closedT_nat {v : Vw} (hok : v.ok = true) {t l b r : Nat} (h1 : t + 2 ≤ b) (h2 : b ≤ v.rows.length) (h3 : l + 2 ≤ r) (h4 : r ≤ v.width.toNat) : closedT v t l b r = closedB v.pic t l b r := by
  have hp := Vw.proper hok
  have hlen := hp.len
  have hw := hp.w1
  unfold closedT
  rw [hok, (rectB_iff v t l b r).2 ⟨by omega, by omega, by omega, by omega, by omega, by omega, by omega, by omega⟩]
  rfl
/-- P23.2: a frame is closed, and its title is its label. -/
theorem IsFrame.says {v : Vw} (hok : v.ok = true) {r : Rg} {t l b rr : Nat} (h : IsFrame v r t l b rr) : closedT v r.top r.left r.bottom r.right = true ∧ titleT v r = r.label := by
  obtain ⟨h1, h2, h3, h4, h5⟩ := h.bd
  have hc := closedT_nat hok h2 h3 h4 h5
  rw [h1] at hc
  rw [h.eq]
  refine ⟨hc, ?_⟩
  unfold titleT
  dsimp only
  rw [if_pos hc]
  rfl

theorem colsF_has {v : Vw} {t : Nat} : ∀ (n l l' : Nat), l ≤ l' → l' < l + n → ∀ r, frameF v t l' = some r → r ∈ colsF v t l n
  | 0, l, l', h1, h2, _, _ => by omega
  | n + 1, l, l', h1, h2, r, hr => by
    unfold colsF
    rw [List.mem_append]
    by_cases h : l' = l
    · left; rw [← h, hr]; simp
    · right; exact colsF_has n (l + 1) l' (by omega) (by omega) r hr
theorem rowsF_has {v : Vw} : ∀ (n t t' : Nat), t ≤ t' → t' < t + n → ∀ l r, l < v.width.toNat → frameF v t' l = some r → r ∈ rowsF v t n
  | 0, t, t', h1, h2, _, _, _, _ => by omega
  | n + 1, t, t', h1, h2, l, r, hl, hr => by
    unfold rowsF
    rw [List.mem_append]
    by_cases h : t' = t
    · left; rw [← h]; exact colsF_has _ 0 l (Nat.zero_le _) (by omega) r hr
    · right; exact rowsF_has n (t + 1) t' (by omega) (by omega) l r hl hr
/-- P23.2: for a closed rectangle a frame with its top left corner is found; whichever has this corner is not wider, and not higher if it is as wide. -/
theorem closed_found {v : Vw} {t l b r : Int} (h : closedT v t l b r = true) : (∃ x ∈ framesT v, x.top = t ∧ x.left = l) ∧ ∀ x ∈ framesT v, x.top = t → x.left = l → x.right < r ∨ (x.right = r ∧ x.bottom ≤ b) := by
  have hok : v.ok = true := by unfold closedT at h; simp only [Bool.and_eq_true] at h; exact h.1.1
  have hrect : rectB v t l b r = true := by unfold closedT at h; simp only [Bool.and_eq_true] at h; exact h.1.2
  have hcl : closedB v.pic t.toNat l.toNat b.toNat r.toNat = true := by unfold closedT at h; simp only [Bool.and_eq_true] at h; exact h.2
  rw [rectB_iff] at hrect
  have hp := Vw.proper hok
  have hlen := hp.len
  have hw := hp.w1
  obtain ⟨T, rfl⟩ : ∃ x : Nat, t = (x : Int) := ⟨t.toNat, by omega⟩
  obtain ⟨L, rfl⟩ : ∃ x : Nat, l = (x : Int) := ⟨l.toNat, by omega⟩
  obtain ⟨B, rfl⟩ : ∃ x : Nat, b = (x : Int) := ⟨b.toNat, by omega⟩
  obtain ⟨R, rfl⟩ : ∃ x : Nat, r = (x : Int) := ⟨r.toNat, by omega⟩
  simp only [Int.toNat_natCast] at hcl
  have g1 : T + 2 ≤ B := by omega
  have g2 : B ≤ v.rows.length := by omega
  have g3 : L + 2 ≤ R := by omega
  have g4 : R ≤ v.width.toNat := by omega
  constructor
  · cases hf : fromF v.pic v.rows.length v.width.toNat T L with
    | none =>
      have := fromF_none hf g1 g2 g3 g4
      rw [hcl] at this; cases this
    | some x =>
      refine ⟨⟨2, 0, -1, T, L, x.1, x.2, titleB v.pic (v.rows.getD T []) T L x.2⟩, ?_, rfl, rfl⟩
      unfold framesT
      rw [if_pos hok]
      exact rowsF_has _ 0 T (Nat.zero_le _) (by omega) L _ (by omega) (by unfold frameF; rw [hf]; rfl)
  · intro x hx h1 h2
    obtain ⟨-, t', l', b', r', -, -, hfr⟩ := framesT_mem hx
    rw [hfr.eq] at h1 h2 ⊢
    dsimp only at h1 h2 ⊢
    have e1 : t' = T := by omega
    have e2 : l' = L := by omega
    subst e1 e2
    obtain ⟨-, -, -, -, -, -, f1, f2⟩ := fromF_some hfr.from_
    rcases Nat.lt_trichotomy r' R with h3 | h3 | h3
    · left; omega
    · right
      subst h3
      refine ⟨rfl, ?_⟩
      by_cases hb : B < b'
      · have := f1 B g1 hb
        rw [hcl] at this; cases this
      · omega
    · have := f2 R g3 h3 B g1 g2
      rw [hcl] at this; cases this
end Go.Proofs.YtdgmjbcfopkibaaDoor
