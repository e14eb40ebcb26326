/- Plain: the reference's decoder and the model's own decoder agree on valid strings; a string is valid for both or for neither. -/
import Derived.Test.YtdkppdjonlldhaaGreatDoorV5
import Derived.Lib.ValidLaws
import Derived.Lib.MapLaws
namespace Go.Proofs.YtdkppdjonlldhaaGreatDoor
open Go Go.Lib

def GoodR (r : Int) : Prop := (0 ≤ r ∧ r < 55296) ∨ (57343 < r ∧ r ≤ 1114111)
instance (r : Int) : Decidable (GoodR r) := by unfold GoodR; exact inferInstance

theorem u8_of {x : Int} (h0 : 0 ≤ x) (h1 : x < 256) : (x.toNat.toUInt8).toNat = x.toNat := by
  have : x.toNat < 256 := by omega
  simp [Nat.toUInt8, Nat.mod_eq_of_lt this]
theorem u8_of' {x : Int} (h0 : 0 ≤ x) (h1 : x < 256) : ((x.toNat.toUInt8).toNat : Int) = x := by rw [u8_of h0 h1]; omega

theorem decFrom_enc (r : Int) (hr : GoodR r) (rest : List UInt8) (out : List Int) : decFrom (encodeRune r ++ rest) [] out = decFrom rest [] (out ++ [r]) := by
  unfold GoodR at hr
  unfold encodeRune
  rcases (show (0 ≤ r ∧ r ≤ 127) ∨ (128 ≤ r ∧ r ≤ 2047) ∨ ((2048 ≤ r ∧ r < 55296) ∨ (57343 < r ∧ r ≤ 65535)) ∨ (65536 ≤ r ∧ r ≤ 1114111) by omega) with ⟨g1, g2⟩ | ⟨g1, g2⟩ | g | ⟨g1, g2⟩
  · rw [encodeRuneZ_one g1 g2]
    simp only [List.map_cons, List.map_nil, List.cons_append, List.nil_append]
    have e := u8_of g1 (by omega : r < 256)
    rw [decFrom_low (by rw [e]; omega), e]
    congr 2
    simp; omega
  · rw [encodeRuneZ_two g1 g2]
    simp only [List.map_cons, List.map_nil, List.cons_append, List.nil_append]
    have e0 := u8_of (x := 192 + r / 64) (by omega) (by omega)
    have e1 := u8_of (x := 128 + r % 64) (by omega) (by omega)
    obtain ⟨b0, hb0⟩ : ∃ b0, (192 + r / 64).toNat.toUInt8 = b0 := ⟨_, rfl⟩
    obtain ⟨b1, hb1⟩ : ∃ b1, (128 + r % 64).toNat.toUInt8 = b1 := ⟨_, rfl⟩
    rw [hb0] at e0 ⊢
    rw [hb1] at e1 ⊢
    have s0 : limSize b0.toNat = 2 := by unfold limSize; rw [if_pos (by omega)]
    rw [decFrom_lead (by omega) (by omega), decFrom_full (ks := []) ?_ (by simp [s0])]
    · congr 2
      simp [valueL, valTail, valBase]; omega
    · simp only [List.length_nil, Nat.zero_add, limLow, limHigh, if_true]
      repeat' split
      all_goals omega
  · rw [encodeRuneZ_three g]
    simp only [List.map_cons, List.map_nil, List.cons_append, List.nil_append]
    have e0 := u8_of (x := 224 + r / 4096) (by omega) (by omega)
    have e1 := u8_of (x := 128 + r / 64 % 64) (by omega) (by omega)
    have e2 := u8_of (x := 128 + r % 64) (by omega) (by omega)
    obtain ⟨b0, hb0⟩ : ∃ b0, (224 + r / 4096).toNat.toUInt8 = b0 := ⟨_, rfl⟩
    obtain ⟨b1, hb1⟩ : ∃ b1, (128 + r / 64 % 64).toNat.toUInt8 = b1 := ⟨_, rfl⟩
    obtain ⟨b2, hb2⟩ : ∃ b2, (128 + r % 64).toNat.toUInt8 = b2 := ⟨_, rfl⟩
    rw [hb0] at e0 ⊢
    rw [hb1] at e1 ⊢
    rw [hb2] at e2 ⊢
    have s0 : limSize b0.toNat = 3 := by unfold limSize; rw [if_neg (by omega), if_pos (by omega)]
    rw [decFrom_lead (by omega) (by omega), decFrom_more (ks := []) ?_ (by simp [s0]), List.nil_append, decFrom_full (ks := [b1]) ?_ (by simp [s0])]
    · congr 2
      simp [valueL, valTail, valBase]; omega
    · simp only [List.length_cons, List.length_nil, Nat.zero_add, limLow, limHigh, Nat.reduceAdd]
      repeat' split
      all_goals omega
    · simp only [List.length_nil, Nat.zero_add, limLow, limHigh, if_true]
      repeat' split
      all_goals omega
  · rw [encodeRuneZ_four g1 g2]
    simp only [List.map_cons, List.map_nil, List.cons_append, List.nil_append]
    have e0 := u8_of (x := 240 + r / 262144) (by omega) (by omega)
    have e1 := u8_of (x := 128 + r / 4096 % 64) (by omega) (by omega)
    have e2 := u8_of (x := 128 + r / 64 % 64) (by omega) (by omega)
    have e3 := u8_of (x := 128 + r % 64) (by omega) (by omega)
    obtain ⟨b0, hb0⟩ : ∃ b0, (240 + r / 262144).toNat.toUInt8 = b0 := ⟨_, rfl⟩
    obtain ⟨b1, hb1⟩ : ∃ b1, (128 + r / 4096 % 64).toNat.toUInt8 = b1 := ⟨_, rfl⟩
    obtain ⟨b2, hb2⟩ : ∃ b2, (128 + r / 64 % 64).toNat.toUInt8 = b2 := ⟨_, rfl⟩
    obtain ⟨b3, hb3⟩ : ∃ b3, (128 + r % 64).toNat.toUInt8 = b3 := ⟨_, rfl⟩
    rw [hb0] at e0 ⊢
    rw [hb1] at e1 ⊢
    rw [hb2] at e2 ⊢
    rw [hb3] at e3 ⊢
    have s0 : limSize b0.toNat = 4 := by unfold limSize; rw [if_neg (by omega), if_neg (by omega), if_pos (by omega)]
    rw [decFrom_lead (by omega) (by omega), decFrom_more (ks := []) ?_ (by simp [s0]), List.nil_append, decFrom_more (ks := [b1]) ?_ (by simp [s0]), List.cons_append, List.nil_append, decFrom_full (ks := [b1, b2]) ?_ (by simp [s0])]
    · congr 2
      simp [valueL, valTail, valBase]; omega
    · simp only [List.length_cons, List.length_nil, Nat.zero_add, limLow, limHigh, Nat.reduceAdd]
      repeat' split
      all_goals omega
    · simp only [List.length_cons, List.length_nil, Nat.zero_add, limLow, limHigh, Nat.reduceAdd]
      repeat' split
      all_goals omega
    · simp only [List.length_nil, Nat.zero_add, limLow, limHigh, if_true]
      repeat' split
      all_goals omega

theorem decFrom_encs : ∀ (rs : List Int), (∀ r ∈ rs, GoodR r) → ∀ (rest : List UInt8) (out : List Int), decFrom (encs rs ++ rest) [] out = decFrom rest [] (out ++ rs)
  | [], _, rest, out => by simp [encs]
  | r :: rs, h, rest, out => by
    have : encs (r :: rs) ++ rest = encodeRune r ++ (encs rs ++ rest) := by simp [encs]
    rw [this, decFrom_enc r (h r (by simp)), decFrom_encs rs (fun x hx => h x (by simp [hx]))]
    simp

/-- All characters of a string, as []rune does. -/
def runesL : Nat → List UInt8 → List Int
  | 0, _ => []
  | n + 1, l => if l = [] then [] else ((decodeL l).1 : Int) :: runesL n (l.drop (decodeL l).2)
def runesD (l : List UInt8) : List Int := runesL l.length l

theorem decodeN_good (n b0 b1 b2 b3 : Nat) (h0 : b0 < 256) : GoodR ((decodeN n b0 b1 b2 b3).1 : Int) := by
  unfold GoodR
  rcases decodeN_shape n b0 b1 b2 b3 with ⟨c, e⟩ | ⟨c1, c2, c3, cv, e⟩ | ⟨c1, c2, c3, c4, cv, cs, e⟩ | ⟨c1, c2, c3, c4, c5, cv, cw, e⟩ | e
  all_goals rw [e]; dsimp only; omega
theorem decodeL_good (l : List UInt8) : GoodR ((decodeL l).1 : Int) := by
  rw [decodeL_N]; exact decodeN_good _ _ _ _ _ (UInt8.toNat_lt _)

theorem runesL_good : ∀ (n : Nat) (l : List UInt8), ∀ r ∈ runesL n l, GoodR r
  | 0, l, r, h => by simp [runesL] at h
  | n + 1, l, r, h => by
    unfold runesL at h
    split at h
    · simp at h
    · rcases List.mem_cons.1 h with rfl | h
      · exact decodeL_good l
      · exact runesL_good n _ r h

theorem encs_runesL : ∀ (n : Nat) (l : List UInt8), l.length ≤ n → validD l = true → encs (runesL n l) = l
  | 0, l, h, _ => by
    have : l = [] := List.eq_nil_of_length_eq_zero (by omega)
    subst this; rfl
  | n + 1, l, h, hv => by
    unfold runesL
    by_cases hl : l = []
    · rw [if_pos hl, hl]; rfl
    · rw [if_neg hl]
      rw [validD_step l hl] at hv
      by_cases hb : (decodeL l).1 = 65533 ∧ (decodeL l).2 = 1
      · rw [if_pos hb] at hv; cases hv
      · rw [if_neg hb] at hv
        have hw := decodeL_width l
        have h1 := encode_decode l hl hb
        have ih := encs_runesL n (l.drop (decodeL l).2) (by rw [List.length_drop]; omega) hv
        show encodeRune _ ++ encs _ = l
        rw [h1, ih, List.take_append_drop]

theorem runesD_encs (l : List UInt8) (hv : validD l = true) : encs (runesD l) = l := encs_runesL _ l (Nat.le_refl _) hv
theorem decFrom_valid (l : List UInt8) (hv : validD l = true) : decFrom l [] [] = (runesD l, []) := by
  have h := decFrom_encs (runesD l) (runesL_good _ l) [] []
  rw [List.append_nil, runesD_encs l hv] at h
  rw [h]; simp [decFrom]
theorem encodeRune_bad {r : Int} (h : ¬ GoodR r) : encodeRune r = encodeRune 65533 := by
  unfold encodeRune
  rw [encodeRuneZ_bad (by unfold GoodR at h; omega)]
  rfl

theorem decodeL_enc (r : Int) (hr : GoodR r) (t : List UInt8) : decodeL (encodeRune r ++ t) = (r.toNat, (encodeRune r).length) := by
  unfold GoodR at hr
  rw [decodeL_N]
  unfold encodeRune
  rcases (show (0 ≤ r ∧ r ≤ 127) ∨ (128 ≤ r ∧ r ≤ 2047) ∨ ((2048 ≤ r ∧ r < 55296) ∨ (57343 < r ∧ r ≤ 65535)) ∨ (65536 ≤ r ∧ r ≤ 1114111) by omega) with ⟨g1, g2⟩ | ⟨g1, g2⟩ | g | ⟨g1, g2⟩
  · rw [encodeRuneZ_one g1 g2]
    have e := u8_of g1 (by omega : r < 256)
    simp only [List.map_cons, List.map_nil, List.cons_append, List.nil_append, List.getD_cons_zero, List.length_cons, List.length_nil, e]
    unfold decodeN
    rw [if_pos (by omega)]
  · rw [encodeRuneZ_two g1 g2]
    have e0 := u8_of (x := 192 + r / 64) (by omega) (by omega)
    have e1 := u8_of (x := 128 + r % 64) (by omega) (by omega)
    simp only [List.map_cons, List.map_nil, List.cons_append, List.nil_append, List.getD_cons_zero, List.getD_cons_succ, List.length_cons, List.length_nil, e0, e1]
    unfold decodeN
    rw [if_neg (by omega), if_pos (by omega), if_pos (by omega)]
    congr 1; omega
  · rw [encodeRuneZ_three g]
    have e0 := u8_of (x := 224 + r / 4096) (by omega) (by omega)
    have e1 := u8_of (x := 128 + r / 64 % 64) (by omega) (by omega)
    have e2 := u8_of (x := 128 + r % 64) (by omega) (by omega)
    simp only [List.map_cons, List.map_nil, List.cons_append, List.nil_append, List.getD_cons_zero, List.getD_cons_succ, List.length_cons, List.length_nil, e0, e1, e2]
    unfold decodeN
    rw [if_neg (by omega), if_neg (by omega), if_pos (by omega), if_pos (by omega)]
    congr 1; omega
  · rw [encodeRuneZ_four g1 g2]
    have e0 := u8_of (x := 240 + r / 262144) (by omega) (by omega)
    have e1 := u8_of (x := 128 + r / 4096 % 64) (by omega) (by omega)
    have e2 := u8_of (x := 128 + r / 64 % 64) (by omega) (by omega)
    have e3 := u8_of (x := 128 + r % 64) (by omega) (by omega)
    simp only [List.map_cons, List.map_nil, List.cons_append, List.nil_append, List.getD_cons_zero, List.getD_cons_succ, List.length_cons, List.length_nil, e0, e1, e2, e3]
    unfold decodeN
    rw [if_neg (by omega), if_neg (by omega), if_neg (by omega), if_pos (by omega), if_pos (by omega)]
    congr 1; omega

theorem enc_pos (r : Int) : 1 ≤ (encodeRune r).length := by unfold encodeRune; rw [List.length_map]; exact (encodeRuneZ_length r).1
theorem validD_enc (r : Int) (hr : GoodR r) (t : List UInt8) : validD (encodeRune r ++ t) = validD t := by
  have hp := enc_pos r
  have hne : encodeRune r ++ t ≠ [] := fun h => by have := congrArg List.length h; rw [List.length_append, List.length_nil] at this; omega
  rw [validD_step _ hne, decodeL_enc r hr t]
  dsimp only
  rw [if_neg, List.drop_left]
  rintro ⟨h1, h2⟩
  have h3 : r = 65533 := by unfold GoodR at hr; omega
  subst h3
  revert h2; decide
theorem validD_encs : ∀ rs : List Int, validD (encs rs) = true
  | [] => rfl
  | r :: rs => by
    show validD (encodeRune r ++ encs rs) = true
    by_cases hr : GoodR r
    · rw [validD_enc r hr]; exact validD_encs rs
    · rw [encodeRune_bad hr, validD_enc 65533 (by decide)]; exact validD_encs rs

/-- narratorref01.Valid's answer is the library's. -/
def valid01B (l : List UInt8) : Bool := decide ((decFrom l [] []).2 = []) && decide (encs (decFrom l [] []).1 = l)
theorem valid01_eq (l : List UInt8) : valid01B l = validD l := by
  unfold valid01B
  cases hv : validD l with
  | true => rw [decFrom_valid l hv]; simp [runesD_encs l hv]
  | false =>
    rw [Bool.and_eq_false_iff]
    right
    rw [decide_eq_false_iff_not]
    intro h
    have := validD_encs (decFrom l [] []).1
    rw [h, hv] at this
    cases this
end Go.Proofs.YtdkppdjonlldhaaGreatDoor
