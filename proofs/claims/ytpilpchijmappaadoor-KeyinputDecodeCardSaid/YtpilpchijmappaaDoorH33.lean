/- narratorref14.Decode: what it searches, in plain words. -/
import Derived.Test.YtpilpchijmappaaDoorH32
import Derived.Test.YtpilpchijmappaaDoorH28
import Derived.Test.YtpilpchijmappaaDoorH17
namespace Go.Proofs.YtpilpchijmappaaDoor
open Go.RowKit

theorem inc_single {s : List UInt8} (h : incB s = true) : singleL s = none := by
  match s, h with
  | [b], h =>
    simp [incB] at h
    have hb : ¬ (1 ≤ b.toNat ∧ b.toNat ≤ 26) := by have := lim_lead (b := b.toNat) (by omega); omega
    exact single_none rfl hb (by rw [decodeL_at]; exact dec_short (by show 0 < limSize b.toNat; omega) (by show 1 < limSize b.toNat; omega))
  | [b, c], h =>
    simp [incB] at h
    have hb : ¬ (1 ≤ b.toNat ∧ b.toNat ≤ 26) := by have := lim_lead (b := b.toNat) (by omega); omega
    exact single_none rfl hb (by rw [decodeL_at]; exact dec_short (by show 0 < limSize b.toNat; omega) (by show 2 < limSize b.toNat; omega))
  | [b, c, d], h =>
    simp [incB] at h
    have hb : ¬ (1 ≤ b.toNat ∧ b.toNat ≤ 26) := by have := lim_lead (b := b.toNat) (by omega); omega
    exact single_none rfl hb (by rw [decodeL_at]; exact dec_short (by show 0 < limSize b.toNat; omega) (by show 3 < limSize b.toNat; omega))
  | [], h => cases h
  | _ :: _ :: _ :: _ :: _, h => cases h
theorem charL_all (s : List UInt8) : charL s = match singleL s with | some x => (x.1, (x.2 : Int)) | none => (zeroKey, if begB s then -1 else 0) := by
  by_cases hs : s = []
  · subst hs; rfl
  · rw [charL_eq hs]
    unfold charV begB
    rw [decide_eq_false hs, Bool.false_or]
    cases singleL s <;> rfl
theorem charL_neg (s : List UInt8) : decide ((charL s).2 < 0) = begB s := by
  rw [charL_all]
  cases h : singleL s with
  | some x =>
    obtain ⟨k, n⟩ := x
    have hb : begB s = false := by
      unfold begB
      by_cases hs : s = []
      · subst hs; cases h
      · rw [decide_eq_false hs, Bool.false_or]
        cases hi : incB s with
        | false => rfl
        | true => rw [inc_single hi] at h; cases h
    rw [hb]
    exact decide_eq_false (by show ¬ ((n : Int) < 0); omega)
  | none =>
    cases begB s <;> rfl
theorem charL_bd (s : List UInt8) : (charL s).2 ≤ s.length := by
  rw [charL_all]
  cases h : singleL s with
  | some x =>
    obtain ⟨k, n⟩ := x
    obtain ⟨-, -, -, -, -, h6⟩ := single_ok h
    show (n : Int) ≤ s.length
    omega
  | none => show (if begB s = true then (-1 : Int) else 0) ≤ _; split <;> omega
theorem char_over (s : List UInt8) (b : Key × Nat) : over (singleL s) b = if (b.2 : Int) < (charL s).2 then ((charL s).1, (charL s).2.toNat) else b := by
  rw [charL_all]
  cases h : singleL s with
  | some x =>
    obtain ⟨k, n⟩ := x
    show (if b.2 < n then (k, n) else b) = if (b.2 : Int) < (n : Int) then (k, (n : Int).toNat) else b
    by_cases hlt : b.2 < n
    · rw [if_pos hlt, if_pos (by omega)]; rfl
    · rw [if_neg hlt, if_neg (by omega)]
  | none =>
    show b = if (b.2 : Int) < (if begB s = true then (-1 : Int) else 0) then _ else b
    rw [if_neg]
    split <;> omega
theorem alt_over (t : List UInt8) (b : Key × Nat) : over (altL (27 :: t)) b = if 0 < (charL t).2 ∧ (b.2 : Int) < (charL t).2 + 1 then (withAlt (charL t).1, ((charL t).2 + 1).toNat) else b := by
  rw [charL_all]
  unfold altL
  dsimp only
  rw [if_pos rfl]
  cases h : singleL t with
  | some x =>
    obtain ⟨k, n⟩ := x
    obtain ⟨-, -, -, -, h5, -⟩ := single_ok h
    show (if b.2 < n + 1 then (withAlt k, n + 1) else b) = if 0 < (n : Int) ∧ (b.2 : Int) < (n : Int) + 1 then (withAlt k, ((n : Int) + 1).toNat) else b
    by_cases hlt : b.2 < n + 1
    · rw [if_pos hlt, if_pos ⟨by omega, by omega⟩]; rfl
    · rw [if_neg hlt, if_neg (by omega)]
  | none =>
    show b = if 0 < (if begB t = true then (-1 : Int) else 0) ∧ _ then _ else b
    rw [if_neg]
    rintro ⟨h1, -⟩
    revert h1
    split <;> omega
theorem alt_plain {s : List UInt8} (h : ∀ t, s ≠ 27 :: t) (b : Key × Nat) : over (altL s) b = b := by
  unfold altL
  match s, h with
  | [], _ => rfl
  | c :: t, h =>
    dsimp only
    rw [if_neg (fun hc => h t (by rw [hc]))]
    rfl

theorem drop_ext (s : ByteArray) (n : Nat) : (s.extract n s.size).data.toList = s.data.toList.drop n := by
  rw [ByteArray.data_extract, Array.toList_extract]
  show (s.data.toList.drop n).take (s.size - n) = _
  have : s.data.toList.length = s.size := rfl
  exact List.take_of_length_le (by rw [List.length_drop]; omega)
def foldR (app nl : Bool) (l : List UInt8) (i : Nat) : Key × Nat := (namedKeys.take i).foldl (bestStep app nl l) (zeroKey, 0)
def shR (app nl : Bool) (l : List UInt8) (i : Nat) : Bool := decide (l = []) || (namedKeys.take i).any fun k => l.isPrefixOf (keyEnc app nl k)
theorem foldR_succ {app nl : Bool} {l : List UInt8} {i : Nat} {k : Key} (h : namedKeys[i]? = some k) : foldR app nl l (i + 1) = bestStep app nl l (foldR app nl l i) k := by
  obtain ⟨hl, hx⟩ := List.getElem?_eq_some_iff.1 h
  unfold foldR
  rw [List.take_succ_eq_append_getElem hl, List.foldl_append, hx]
  rfl
theorem shR_succ {app nl : Bool} {l : List UInt8} {i : Nat} {k : Key} (h : namedKeys[i]? = some k) : shR app nl l (i + 1) = (shR app nl l i || l.isPrefixOf (keyEnc app nl k)) := by
  obtain ⟨hl, hx⟩ := List.getElem?_eq_some_iff.1 h
  unfold shR
  rw [List.take_succ_eq_append_getElem hl, List.any_append, hx]
  simp [Bool.or_assoc]
theorem shR_all (app nl : Bool) (l : List UInt8) : (shR app nl l namedKeys.length || decide ((charL l).2 < 0)) = shortB app nl l := by
  rw [charL_neg]
  unfold shR shortB begB
  rw [List.take_length]
  cases decide (l = []) <;> cases incB l <;> simp
theorem foldR_all (app nl : Bool) (l : List UInt8) : over (altL l) (over (singleL l) (foldR app nl l namedKeys.length)) = decP app nl l := by
  rw [← decR_eq]
  unfold foldR decR
  rw [List.take_length]
theorem foldR_le (app nl : Bool) (l : List UInt8) : ∀ i, (foldR app nl l i).2 ≤ l.length
  | 0 => by unfold foldR; simp
  | i + 1 => by
    by_cases h : i < namedKeys.length
    · rw [foldR_succ (List.getElem?_eq_getElem h)]
      exact bestStep_le _ _ _ _ _ (foldR_le app nl l i)
    · have : foldR app nl l (i + 1) = foldR app nl l i := by unfold foldR; rw [List.take_of_length_le (by omega), List.take_of_length_le (by omega)]
      rw [this]; exact foldR_le app nl l i
theorem headRel_int {B b7 : Nat} {w0 wx : World} {m : Md} {k : Key} {z : Int} (h0 : 0 ≤ z) (h2 : DecSt wx B b7 m k) (h3 : Below B w0 wx) : HeadRel B b7 w0 m (k, z.toNat) (.int .i64 z) wx := ⟨int_eq (by show z = (z.toNat : Int); omega), h2, h3⟩
end Go.Proofs.YtpilpchijmappaaDoor
