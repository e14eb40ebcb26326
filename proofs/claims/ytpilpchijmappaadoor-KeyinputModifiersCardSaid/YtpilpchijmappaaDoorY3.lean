/- The character at the beginning of bytes, as the reference seeks it; beginnings that are no whole character: in plain words. -/
import Derived.Test.YtpilpchijmappaaDoorY2
namespace Go.Proofs.YtpilpchijmappaaDoor
open Go Go.Lib

/-- One round of the reference's search: n bytes. -/
def charStep (s : List UInt8) (n : Nat) : Option (Key × Int) :=
  if (decFrom (s.take n) [] []).1.length = 1 ∧ (decFrom (s.take n) [] []).2 = [] then
    (if keyErr (runeKey ((decFrom (s.take n) [] []).1.getD 0 0)) = 0 ∧ encs (decFrom (s.take n) [] []).1 = s.take n then some (runeKey ((decFrom (s.take n) [] []).1.getD 0 0), (n : Int)) else some (zeroKey, 0))
  else if 0 < (decFrom (s.take n) [] []).1.length then some (zeroKey, 0) else none
/-- The rounds from n on. -/
def charFrom (s : List UInt8) : Nat → Nat → Key × Int
  | 0, _ => (zeroKey, -1)
  | f + 1, n => if n ≤ s.length then (charStep s n).getD (charFrom s f (n + 1)) else (zeroKey, -1)
def charL (s : List UInt8) : Key × Int :=
  match s with
  | [] => (zeroKey, -1)
  | b :: _ => if 1 ≤ b.toNat ∧ b.toNat ≤ 26 then (if keyErr (ctlKey b) = 0 then (ctlKey b, 1) else (zeroKey, 0)) else charFrom s 4 1

theorem keyErr_rune (r : Int) : keyErr (runeKey r) = 0 ↔ printB r = true := by
  unfold keyErr
  rw [if_pos (show (runeKey r).nm = [] from rfl)]
  have : charB (runeKey r) = printB r := rfl
  rw [this]
  cases printB r <;> simp
theorem keyErr_ctl (b : UInt8) : keyErr (ctlKey b) = 0 ↔ charB (ctlKey b) = true := by
  unfold keyErr
  rw [if_pos (show (ctlKey b).nm = [] from rfl)]
  cases charB (ctlKey b) <;> simp

theorem step_none {s : List UInt8} {n : Nat} {k : List UInt8} (h : decFrom (s.take n) [] [] = ([], k)) : charStep s n = none := by
  unfold charStep
  rw [h]; simp
theorem step_zero {s : List UInt8} {n : Nat} {l : List Int} {k : List UInt8} (h : decFrom (s.take n) [] [] = (l, k)) (hl : 0 < l.length) (h2 : l.length ≠ 1 ∨ k ≠ [] ∨ encs l ≠ s.take n) : charStep s n = some (zeroKey, 0) := by
  unfold charStep
  rw [h]
  dsimp only
  by_cases h3 : l.length = 1 ∧ k = []
  · rw [if_pos h3, if_neg]
    rintro ⟨-, h4⟩
    rcases h2 with h2 | h2 | h2
    · exact h2 h3.1
    · exact h2 h3.2
    · exact h2 h4
  · rw [if_neg h3, if_pos hl]
theorem step_one {s : List UInt8} {n : Nat} {r : Int} (h : decFrom (s.take n) [] [] = ([r], [])) (he : encodeRune r = s.take n) : charStep s n = some (if printB r = true then (runeKey r, (n : Int)) else (zeroKey, 0)) := by
  unfold charStep
  rw [h]
  have e : encs [r] = s.take n := by simp [encs, he]
  simp only [List.length_cons, List.length_nil, and_self, if_true, List.getD_cons_zero, e, and_true, keyErr_rune]
  by_cases hp : printB r = true
  · simp [hp]
  · simp [hp]

theorem lim_one (b : Nat) : limSize b ≠ 1 := by unfold limSize; repeat' split
                                                all_goals omega
theorem lim_lead {b : Nat} (h : 0 < limSize b) : ¬ b < 128 := by unfold limSize at h; repeat' split at h
                                                                 all_goals omega
set_option maxHeartbeats 4000000 in
/-- Go's decoder at a lead byte. -/
theorem dec_short {n b0 b1 b2 b3 : Nat} (_h : 0 < limSize b0) (hn : n < limSize b0) : decodeN n b0 b1 b2 b3 = (65533, 1) := by
  unfold limSize at hn
  unfold decodeN
  repeat' split at hn
  all_goals (repeat' split)
  all_goals first | rfl | (exfalso; omega)
set_option maxHeartbeats 4000000 in
theorem dec_junk {n b0 b1 b2 b3 : Nat} (h : ¬ 0 < limSize b0) (h2 : ¬ b0 < 128) (h3 : b0 < 256) (_h4 : b1 < 256) (_h5 : b2 < 256) (_h6 : b3 < 256) : decodeN n b0 b1 b2 b3 = (65533, 1) := by
  unfold limSize at h
  unfold decodeN
  repeat' split at h
  all_goals (repeat' split)
  all_goals first | rfl | (exfalso; omega)
set_option maxHeartbeats 4000000 in
theorem dec_bad1 {n b0 b1 b2 b3 : Nat} (h : 0 < limSize b0) (h1 : b1 < limLow 1 b0 ∨ limHigh 1 b0 < b1) (h4 : b1 < 256) (_h5 : b2 < 256) (_h6 : b3 < 256) : decodeN n b0 b1 b2 b3 = (65533, 1) := by
  unfold limSize at h
  unfold limLow limHigh at h1
  simp only [if_true] at h1
  unfold decodeN
  repeat' split at h
  all_goals (repeat' split at h1)
  all_goals (repeat' split)
  all_goals first | rfl | (exfalso; omega)
set_option maxHeartbeats 4000000 in
theorem dec_bad2 {n b0 b1 b2 b3 : Nat} (h : 2 < limSize b0) (h1 : b2 < 128 ∨ 191 < b2) (_h4 : b1 < 256) (h5 : b2 < 256) (_h6 : b3 < 256) : decodeN n b0 b1 b2 b3 = (65533, 1) := by
  unfold limSize at h
  unfold decodeN
  repeat' split at h
  all_goals (repeat' split)
  all_goals first | rfl | (exfalso; omega)
set_option maxHeartbeats 4000000 in
theorem dec_bad3 {n b0 b1 b2 b3 : Nat} (h : 3 < limSize b0) (h1 : b3 < 128 ∨ 191 < b3) (_h4 : b1 < 256) (_h5 : b2 < 256) (h6 : b3 < 256) : decodeN n b0 b1 b2 b3 = (65533, 1) := by
  unfold limSize at h
  unfold decodeN
  repeat' split at h
  all_goals (repeat' split)
  all_goals first | rfl | (exfalso; omega)
theorem lim_is2 {b : Nat} (h : limSize b = 2) : 194 ≤ b ∧ b ≤ 223 := by unfold limSize at h; repeat' split at h
                                                                        all_goals omega
theorem lim_is3 {b : Nat} (h : limSize b = 3) : 224 ≤ b ∧ b ≤ 239 := by unfold limSize at h; repeat' split at h
                                                                        all_goals omega
theorem lim_is4 {b : Nat} (h : limSize b = 4) : 240 ≤ b ∧ b ≤ 244 := by unfold limSize at h; repeat' split at h
                                                                        all_goals omega
theorem lim_ok {b c : Nat} (h : ¬ (c < limLow 1 b ∨ limHigh 1 b < c)) : 128 ≤ c ∧ c ≤ 191 ∧ (b = 224 → 160 ≤ c) ∧ (b = 237 → c ≤ 159) ∧ (b = 240 → 144 ≤ c) ∧ (b = 244 → c ≤ 143) := by
  unfold limLow limHigh at h
  simp only [if_true] at h
  repeat' split at h
  all_goals omega
theorem dec_two {n b0 b1 b2 b3 : Nat} (hz : limSize b0 = 2) (hn : 2 ≤ n) (h1 : ¬ (b1 < limLow 1 b0 ∨ limHigh 1 b0 < b1)) : decodeN n b0 b1 b2 b3 = (b0 % 32 * 64 + b1 % 64, 2) := by
  have := lim_is2 hz
  have := lim_ok h1
  unfold decodeN
  rw [if_neg (by omega), if_pos (by omega), if_pos (by omega)]
theorem dec_three {n b0 b1 b2 b3 : Nat} (hz : limSize b0 = 3) (hn : 3 ≤ n) (h1 : ¬ (b1 < limLow 1 b0 ∨ limHigh 1 b0 < b1)) (h2 : ¬ (b2 < 128 ∨ 191 < b2)) : decodeN n b0 b1 b2 b3 = (b0 % 16 * 4096 + b1 % 64 * 64 + b2 % 64, 3) := by
  have := lim_is3 hz
  have := lim_ok h1
  unfold decodeN
  rw [if_neg (by omega), if_neg (by omega), if_pos (by omega), if_pos (by omega)]
theorem dec_four {n b0 b1 b2 b3 : Nat} (hz : limSize b0 = 4) (hn : 4 ≤ n) (h1 : ¬ (b1 < limLow 1 b0 ∨ limHigh 1 b0 < b1)) (h2 : ¬ (b2 < 128 ∨ 191 < b2)) (h3 : ¬ (b3 < 128 ∨ 191 < b3)) : decodeN n b0 b1 b2 b3 = (b0 % 8 * 262144 + b1 % 64 * 4096 + b2 % 64 * 64 + b3 % 64, 4) := by
  have := lim_is4 hz
  have := lim_ok h1
  unfold decodeN
  rw [if_neg (by omega), if_neg (by omega), if_neg (by omega), if_pos (by omega), if_pos (by omega)]

theorem lim1 (n b : Nat) (h : n ≠ 1) : limLow n b = 128 ∧ limHigh n b = 191 := by unfold limLow limHigh; rw [if_neg h, if_neg h]; exact ⟨rfl, rfl⟩

/-- A byte that does not go on: the reference finds two things, or one and something pending. -/
theorem bad_two (c : UInt8) : ∃ l k, decFrom [c] [] [65533] = (l, k) ∧ 0 < l.length ∧ (l.length ≠ 1 ∨ k ≠ []) := by
  by_cases h : c.toNat < 128
  · exact ⟨_, _, by rw [decFrom_low h, decFrom], by simp, .inl (by simp)⟩
  · by_cases h2 : 0 < limSize c.toNat
    · exact ⟨_, _, by rw [decFrom_lead h h2, decFrom], by simp, .inr (by simp)⟩
    · exact ⟨_, _, by rw [decFrom_junk h h2, decFrom], by simp, .inl (by simp)⟩
theorem junk_enc (b : UInt8) : encs [65533] ≠ [b] := by
  intro h
  have h2 := congrArg List.length h
  rw [show (encs [65533]).length = 3 by decide] at h2
  simp at h2

theorem single_none {s : List UInt8} {b : UInt8} {t : List UInt8} (hs : s = b :: t) (hb : ¬ (1 ≤ b.toNat ∧ b.toNat ≤ 26)) (h : decodeL s = (65533, 1)) : singleL s = none := by
  subst hs
  unfold singleL
  dsimp only
  rw [if_neg hb, h, if_neg]
  simp
theorem single_val {s : List UInt8} {b : UInt8} {t : List UInt8} {r n : Nat} (hs : s = b :: t) (hb : ¬ (1 ≤ b.toNat ∧ b.toNat ≤ 26)) (h : decodeL s = (r, n)) (hn : r ≠ 65533 ∨ 1 < n) :
    singleL s = if printB (r : Int) = true then some (runeKey r, n) else none := by
  subst hs
  unfold singleL
  dsimp only
  rw [if_neg hb, h]
  dsimp only
  by_cases hp : printB (r : Int) = true
  · rw [if_pos ⟨hn, hp⟩, if_pos hp]
  · rw [if_neg (fun h => hp h.2), if_neg hp]
/-- What the search comes to. -/
def charV (s : List UInt8) : Key × Int := match singleL s with | some x => (x.1, (x.2 : Int)) | none => (zeroKey, if incB s then -1 else 0)
theorem charV_none {s : List UInt8} (h : singleL s = none) (hi : incB s = false) : charV s = (zeroKey, 0) := by unfold charV; rw [h, hi]; rfl
theorem charV_inc {s : List UInt8} (h : singleL s = none) (hi : incB s = true) : charV s = (zeroKey, -1) := by unfold charV; rw [h, hi]; rfl
theorem charV_val {s : List UInt8} {b : UInt8} {t : List UInt8} {r n : Nat} (hs : s = b :: t) (hb : ¬ (1 ≤ b.toNat ∧ b.toNat ≤ 26)) (h : decodeL s = (r, n)) (hn : r ≠ 65533 ∨ 1 < n) (hi : incB s = false) :
    charV s = if printB (r : Int) = true then (runeKey r, (n : Int)) else (zeroKey, 0) := by
  unfold charV
  rw [single_val hs hb h hn]
  by_cases hp : printB (r : Int) = true
  · rw [if_pos hp, if_pos hp]
  · rw [if_neg hp, if_neg hp, hi]; rfl

theorem charFrom_some {s : List UInt8} {f n : Nat} {x : Key × Int} (hn : n ≤ s.length) (h : charStep s n = some x) : charFrom s (f + 1) n = x := by
  unfold charFrom; rw [if_pos hn, h]; rfl
theorem charFrom_none {s : List UInt8} {f n : Nat} (hn : n ≤ s.length) (h : charStep s n = none) : charFrom s (f + 1) n = charFrom s f (n + 1) := by
  conv => lhs; unfold charFrom
  rw [if_pos hn, h]; rfl
theorem charFrom_end {s : List UInt8} {f n : Nat} (hn : s.length < n) : charFrom s f n = (zeroKey, -1) := by
  cases f with
  | zero => rfl
  | succ f => unfold charFrom; rw [if_neg (by omega)]
theorem decodeL_at (s : List UInt8) : decodeL s = decodeN s.length (s.getD 0 0).toNat (s.getD 1 0).toNat (s.getD 2 0).toNat (s.getD 3 0).toNat := decodeL_N s

theorem valueL2 {b c : UInt8} (h : limSize b.toNat = 2) (h1 : ¬ (c.toNat < limLow 1 b.toNat ∨ limHigh 1 b.toNat < c.toNat)) : valueL [b, c] = ((b.toNat % 32 * 64 + c.toNat % 64 : Nat) : Int) := by
  have := lim_is2 h
  have := lim_ok h1
  simp [valueL, valTail, valBase]
  omega
theorem valueL3 {b c d : UInt8} (h : limSize b.toNat = 3) (h1 : ¬ (c.toNat < limLow 1 b.toNat ∨ limHigh 1 b.toNat < c.toNat)) (h2 : ¬ (d.toNat < 128 ∨ 191 < d.toNat)) : valueL [b, c, d] = ((b.toNat % 16 * 4096 + c.toNat % 64 * 64 + d.toNat % 64 : Nat) : Int) := by
  have := lim_is3 h
  have := lim_ok h1
  simp [valueL, valTail, valBase]
  omega
theorem valueL4 {b c d e : UInt8} (h : limSize b.toNat = 4) (h1 : ¬ (c.toNat < limLow 1 b.toNat ∨ limHigh 1 b.toNat < c.toNat)) (h2 : ¬ (d.toNat < 128 ∨ 191 < d.toNat)) (h3 : ¬ (e.toNat < 128 ∨ 191 < e.toNat)) :
    valueL [b, c, d, e] = ((b.toNat % 8 * 262144 + c.toNat % 64 * 4096 + d.toNat % 64 * 64 + e.toNat % 64 : Nat) : Int) := by
  have := lim_is4 h
  have := lim_ok h1
  simp [valueL, valTail, valBase]
  omega

set_option maxHeartbeats 4000000 in
theorem charFrom_eq {s : List UInt8} {b : UInt8} {t : List UInt8} (hs : s = b :: t) (hb : ¬ (1 ≤ b.toNat ∧ b.toNat ≤ 26)) : charFrom s 4 1 = charV s := by
  have hb256 := b.toNat_lt
  have hlen : s.length = t.length + 1 := by rw [hs]; rfl
  have d0 : (s.getD 0 0) = b := by rw [hs]; rfl
  have hd := decodeL_at s
  rw [d0] at hd
  have ht1 : s.take 1 = [b] := by rw [hs]; rfl
  have l1 := (s.getD 1 0).toNat_lt
  have l2 := (s.getD 2 0).toNat_lt
  have l3 := (s.getD 3 0).toNat_lt
  by_cases hlow : b.toNat < 128
  · -- a byte of its own
    have hdL : decodeL s = (b.toNat, 1) := by rw [hd]; unfold decodeN; rw [if_pos hlow]
    have hsz : limSize b.toNat = 0 := by
      rcases Nat.eq_zero_or_pos (limSize b.toNat) with h | h
      · exact h
      · exact absurd hlow (lim_lead h)
    have hinc : incB s = false := by
      rw [hs]
      match t with
      | [] => simp [incB, hsz]
      | [_] => simp [incB, hsz]
      | [_, _] => simp [incB, hsz]
      | _ :: _ :: _ :: _ => rfl
    have hst : charStep s 1 = some (if printB (b.toNat : Int) = true then (runeKey (b.toNat : Int), ((1 : Nat) : Int)) else (zeroKey, 0)) :=
      step_one (by rw [ht1, decFrom_low hlow, decFrom]; rfl) (by rw [ht1]; unfold encodeRune; rw [encodeRuneZ_one (by omega) (by omega)]; simp [Nat.toUInt8])
    rw [charFrom_some (by omega) hst, charV_val hs hb hdL (.inl (by omega)) hinc]
  by_cases hlead : 0 < limSize b.toNat
  case neg =>
    have hdL : decodeL s = (65533, 1) := by rw [hd]; exact dec_junk hlead hlow hb256 l1 l2 l3
    have hinc : incB s = false := by
      rw [hs]
      match t with
      | [] => simp [incB]; omega
      | [_] => simp [incB]; omega
      | [_, _] => simp [incB]; omega
      | _ :: _ :: _ :: _ => rfl
    have hst : charStep s 1 = some (zeroKey, 0) := step_zero (l := [65533]) (k := []) (by rw [ht1, decFrom_junk hlow hlead, decFrom]; rfl) (by simp) (.inr (.inr (by rw [ht1]; exact junk_enc b)))
    rw [charFrom_some (by omega) hst, charV_none (single_none hs hb hdL) hinc]
  have hz1 := lim_one b.toNat
  have hz4 := limSize_le b.toNat
  have hst1 : charStep s 1 = none := step_none (k := [b]) (by rw [ht1, decFrom_lead hlow hlead, decFrom])
  rw [charFrom_none (by omega) hst1]
  match t, hs with
  | [], hs =>
    simp only [List.length_nil] at hlen
    rw [charFrom_end (by omega), charV_inc (single_none hs hb (by rw [hd]; exact dec_short hlead (by omega))) (by rw [hs]; simp [incB]; omega)]
  | c :: t, hs =>
    have ht2 : s.take 2 = [b, c] := by rw [hs]; rfl
    have d1 : (s.getD 1 0) = c := by rw [hs]; rfl
    rw [d1] at hd l1
    simp only [List.length_cons] at hlen
    by_cases hbad : c.toNat < limLow 1 b.toNat ∨ limHigh 1 b.toNat < c.toNat
    · have hdL : decodeL s = (65533, 1) := by rw [hd]; exact dec_bad1 hlead hbad l1 l2 l3
      have hinc : incB s = false := by
        rw [hs]
        match t with
        | [] => simp [incB]; omega
        | [_] => simp [incB]; omega
        | _ :: _ :: _ => rfl
      obtain ⟨l, k, h1, h2, h3⟩ := bad_two c
      have hst : charStep s 2 = some (zeroKey, 0) := step_zero (l := l) (k := k) (by rw [ht2, decFrom_lead hlow hlead, decFrom_bad (by simpa using hbad)]; exact h1) h2 (by rcases h3 with h3 | h3; exact .inl h3; exact .inr (.inl h3))
      rw [charFrom_some (by omega) hst, charV_none (single_none hs hb hdL) hinc]
    by_cases hz : limSize b.toNat = 2
    · have hdL : decodeL s = (b.toNat % 32 * 64 + c.toNat % 64, 2) := by rw [hd]; exact dec_two hz (by omega) hbad
      have hv := valueL2 hz hbad
      have hinc : incB s = false := by
        rw [hs]
        match t with
        | [] => simp [incB, hz]
        | [_] => simp [incB, hz]
        | _ :: _ :: _ => rfl
      have henc : encodeRune ((b.toNat % 32 * 64 + c.toNat % 64 : Nat) : Int) = s.take 2 := by
        have := encode_decode s (by rw [hs]; simp) (by rw [hdL]; simp)
        rw [hdL] at this; exact this
      have hst := step_one (s := s) (n := 2) (r := ((b.toNat % 32 * 64 + c.toNat % 64 : Nat) : Int)) (by rw [ht2, decFrom_lead hlow hlead, decFrom_full (ks := []) (by simpa using hbad) (by simp [hz])]; show decFrom [] [] [valueL [b, c]] = _; rw [hv, decFrom]) henc
      rw [charFrom_some (by omega) hst, charV_val hs hb hdL (.inr (by omega)) hinc]
    have hst2 : charStep s 2 = none := step_none (k := [b, c]) (by rw [ht2, decFrom_lead hlow hlead, decFrom_more (ks := []) (by simpa using hbad) (by simp; omega), decFrom]; rfl)
    rw [charFrom_none (by omega) hst2]
    match t, hs with
    | [], hs =>
      rw [charFrom_end (by simp only [List.length_nil] at hlen; omega), charV_inc (single_none hs hb (by rw [hd]; exact dec_short hlead (by simp only [List.length_nil] at hlen; omega))) (by rw [hs]; simp [incB]; omega)]
    | d :: t, hs =>
      have ht3 : s.take 3 = [b, c, d] := by rw [hs]; rfl
      have d2 : (s.getD 2 0) = d := by rw [hs]; rfl
      rw [d2] at hd l2
      simp only [List.length_cons] at hlen
      obtain ⟨w1, w2⟩ := lim1 2 b.toNat (by omega)
      have hpre : ∀ r, decFrom (b :: c :: r) [] [] = decFrom r [b, c] [] := fun r => by rw [decFrom_lead hlow hlead, decFrom_more (ks := []) (by simpa using hbad) (by simp; omega)]; rfl
      by_cases hbad2 : d.toNat < 128 ∨ 191 < d.toNat
      · have hdL : decodeL s = (65533, 1) := by rw [hd]; exact dec_bad2 (by omega) hbad2 l1 l2 l3
        have hinc : incB s = false := by
          rw [hs]
          match t with
          | [] => simp [incB]; omega
          | _ :: _ => rfl
        obtain ⟨l, k, h1, h2, h3⟩ := bad_two d
        have hst : charStep s 3 = some (zeroKey, 0) := step_zero (l := l) (k := k) (by rw [ht3, hpre, decFrom_bad (by simpa [w1, w2] using hbad2)]; exact h1) h2 (by rcases h3 with h3 | h3; exact .inl h3; exact .inr (.inl h3))
        rw [charFrom_some (by omega) hst, charV_none (single_none hs hb hdL) hinc]
      by_cases hz3 : limSize b.toNat = 3
      · have hdL := hd.trans (dec_three hz3 (by omega) hbad hbad2)
        have hv := valueL3 hz3 hbad hbad2
        have hinc : incB s = false := by
          rw [hs]
          match t with
          | [] => simp [incB, hz3]
          | _ :: _ => rfl
        have henc := encode_decode s (by rw [hs]; simp) (by rw [hdL]; simp)
        rw [hdL] at henc
        have hst := step_one (s := s) (n := 3) (r := ((b.toNat % 16 * 4096 + c.toNat % 64 * 64 + d.toNat % 64 : Nat) : Int)) (by rw [ht3, hpre, decFrom_full (ks := [c]) (by simpa [w1, w2] using hbad2) (by simp [hz3])]; show decFrom [] [] [valueL [b, c, d]] = _; rw [hv, decFrom]) henc
        rw [charFrom_some (by omega) hst, charV_val hs hb hdL (.inr (by omega)) hinc]
      have hst3 : charStep s 3 = none := step_none (k := [b, c, d]) (by rw [ht3, hpre, decFrom_more (ks := [c]) (by simpa [w1, w2] using hbad2) (by simp; omega), decFrom]; rfl)
      rw [charFrom_none (by omega) hst3]
      match t, hs with
      | [], hs =>
        simp only [List.length_nil] at hlen
        rw [charFrom_end (by omega), charV_inc (single_none hs hb (by rw [hd]; exact dec_short hlead (by omega))) (by rw [hs]; simp [incB]; omega)]
      | e :: t, hs =>
        have ht4 : s.take 4 = [b, c, d, e] := by rw [hs]; rfl
        have d3 : (s.getD 3 0) = e := by rw [hs]; rfl
        rw [d3] at hd l3
        simp only [List.length_cons] at hlen
        obtain ⟨x1, x2⟩ := lim1 3 b.toNat (by omega)
        have hpre3 : ∀ r, decFrom (b :: c :: d :: r) [] [] = decFrom r [b, c, d] [] := fun r => by rw [hpre, decFrom_more (ks := [c]) (by simpa [w1, w2] using hbad2) (by simp; omega)]; rfl
        have hinc : incB s = false := by rw [hs]; rfl
        by_cases hbad3 : e.toNat < 128 ∨ 191 < e.toNat
        · have hdL : decodeL s = (65533, 1) := by rw [hd]; exact dec_bad3 (by omega) hbad3 l1 l2 l3
          obtain ⟨l, k, h1, h2, h3⟩ := bad_two e
          have hst : charStep s 4 = some (zeroKey, 0) := step_zero (l := l) (k := k) (by rw [ht4, hpre3, decFrom_bad (by simpa [x1, x2] using hbad3)]; exact h1) h2 (by rcases h3 with h3 | h3; exact .inl h3; exact .inr (.inl h3))
          rw [charFrom_some (by omega) hst, charV_none (single_none hs hb hdL) hinc]
        · have hz4' : limSize b.toNat = 4 := by omega
          have hdL := hd.trans (dec_four hz4' (by omega) hbad hbad2 hbad3)
          have hv := valueL4 hz4' hbad hbad2 hbad3
          have henc := encode_decode s (by rw [hs]; simp) (by rw [hdL]; simp)
          rw [hdL] at henc
          have hst := step_one (s := s) (n := 4) (r := ((b.toNat % 8 * 262144 + c.toNat % 64 * 4096 + d.toNat % 64 * 64 + e.toNat % 64 : Nat) : Int)) (by rw [ht4, hpre3, decFrom_full (ks := [c, d]) (by simpa [x1, x2] using hbad3) (by simp [hz4'])]; show decFrom [] [] [valueL [b, c, d, e]] = _; rw [hv, decFrom]) henc
          rw [charFrom_some (by omega) hst, charV_val hs hb hdL (.inr (by omega)) hinc]
/-- The reference's answer: the character, or why there is none. -/
theorem charL_eq {s : List UInt8} (hne : s ≠ []) : charL s = charV s := by
  match s, hne with
  | b :: t, _ =>
    unfold charL
    dsimp only
    by_cases hb : 1 ≤ b.toNat ∧ b.toNat ≤ 26
    · rw [if_pos hb]
      have hsing : singleL (b :: t) = if charB (ctlKey b) then some (ctlKey b, 1) else none := by unfold singleL; dsimp only; rw [if_pos hb]
      have hsz : limSize b.toNat = 0 := by
        rcases Nat.eq_zero_or_pos (limSize b.toNat) with h | h
        · exact h
        · exact absurd (show b.toNat < 128 by omega) (lim_lead h)
      have hinc : incB (b :: t) = false := by
        match t with
        | [] => simp [incB, hsz]
        | [_] => simp [incB, hsz]
        | [_, _] => simp [incB, hsz]
        | _ :: _ :: _ :: _ => rfl
      unfold charV
      rw [hsing, hinc]
      by_cases hc : charB (ctlKey b) = true
      · rw [if_pos ((keyErr_ctl b).2 hc), hc]; rfl
      · rw [if_neg (fun h => hc ((keyErr_ctl b).1 h))]
        rw [Bool.not_eq_true] at hc
        rw [hc]; rfl
    · rw [if_neg hb]
      exact charFrom_eq rfl hb
end Go.Proofs.YtpilpchijmappaaDoor
