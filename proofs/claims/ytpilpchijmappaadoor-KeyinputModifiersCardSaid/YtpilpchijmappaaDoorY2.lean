/- The key at the beginning of bytes, in plain words. -/
import Derived.Test.YtpilpchijmappaaDoorY1
namespace Go.Proofs.YtpilpchijmappaaDoor
open Go Go.Lib

def zeroKey : Key := ⟨⟨#[]⟩, 0, false, false, false⟩
def ctlKey (b : UInt8) : Key := ⟨⟨#[]⟩, 96 + (b.toNat : Int), true, false, false⟩
def runeKey (r : Int) : Key := ⟨⟨#[]⟩, r, false, false, false⟩
/-- The character at the beginning of bytes. -/
def singleL (s : List UInt8) : Option (Key × Nat) :=
  match s with
  | [] => none
  | b :: _ =>
    if 1 ≤ b.toNat ∧ b.toNat ≤ 26 then (if charB (ctlKey b) then some (ctlKey b, 1) else none)
    else if ((decodeL s).1 ≠ 65533 ∨ 1 < (decodeL s).2) ∧ printB ((decodeL s).1 : Int) = true then some (runeKey (decodeL s).1, (decodeL s).2) else none

theorem single_ok {s : List UInt8} {k : Key} {n : Nat} (h : singleL s = some (k, n)) : keyErr k = 0 ∧ k.nm = [] ∧ k.alt = false ∧ (∀ app nl, keyEnc app nl k = s.take n) ∧ 1 ≤ n ∧ n ≤ s.length := by
  unfold singleL at h
  match s, h with
  | b :: t, h =>
    by_cases hb : 1 ≤ b.toNat ∧ b.toNat ≤ 26
    · simp only [if_pos hb] at h
      cases hc : charB (ctlKey b) with
      | false => rw [hc] at h; simp at h
      | true =>
        rw [hc] at h
        simp only [if_true, Option.some.injEq, Prod.mk.injEq] at h
        obtain ⟨rfl, rfl⟩ := h
        refine ⟨?_, rfl, rfl, fun app nl => ?_, Nat.le_refl _, by simp⟩
        · unfold keyErr; rw [if_pos (show (ctlKey b).nm = [] from rfl), hc]; rfl
        · show [] ++ encChar (96 + (b.toNat : Int)) true = [b]
          unfold encChar
          rw [if_pos rfl, List.nil_append, show (96 + (b.toNat : Int) - 96).toNat = b.toNat by omega]
          congr 1
          exact UInt8.toNat_inj.1 (by have := b.toNat_lt; simp [Nat.toUInt8])
    · simp only [if_neg hb] at h
      by_cases hd : ((decodeL (b :: t)).1 ≠ 65533 ∨ 1 < (decodeL (b :: t)).2) ∧ printB ((decodeL (b :: t)).1 : Int) = true
      · rw [if_pos hd] at h
        simp only [Option.some.injEq, Prod.mk.injEq] at h
        obtain ⟨rfl, rfl⟩ := h
        have hw := decodeL_width (b :: t)
        have he := encode_decode (b :: t) (by simp) (by omega)
        have hc : charB (runeKey (decodeL (b :: t)).1) = true := by
          unfold charB runeKey
          simpa using hd.2
        have hlen := congrArg List.length he
        have hle : (decodeL (b :: t)).2 ≤ (b :: t).length := by
          rw [decodeL_N]
          rcases decodeN_shape (b :: t).length ((b :: t).getD 0 0).toNat ((b :: t).getD 1 0).toNat ((b :: t).getD 2 0).toNat ((b :: t).getD 3 0).toNat with ⟨c, e⟩ | ⟨c1, c2, c3, cv, e⟩ | ⟨c1, c2, c3, c4, cv, cs, e⟩ | ⟨c1, c2, c3, c4, c5, cv, cw, e⟩ | e
          all_goals rw [e]; simp only [List.length_cons] at *; omega
        refine ⟨?_, rfl, rfl, fun app nl => ?_, by omega, hle⟩
        · unfold keyErr; rw [if_pos (show (runeKey (decodeL (b :: t)).1).nm = [] from rfl), hc]; rfl
        · show [] ++ encChar ((decodeL (b :: t)).1 : Int) false = _
          unfold encChar
          rw [if_neg (by simp), List.nil_append]
          exact he
      · rw [if_neg hd] at h; cases h
theorem single_has {app nl : Bool} {k : Key} {s : List UInt8} (h : keyErr k = 0) (hn : k.nm = []) (ha : k.alt = false) (hp : keyEnc app nl k <+: s) : singleL s = some (k, (keyEnc app nl k).length) := by
  rcases key_shape h with ⟨-, a2, a3, a4⟩ | ⟨a1, -⟩
  · have e4 := a4 app nl
    rw [ha] at e4
    simp only [Bool.false_eq_true, if_false, List.nil_append] at e4
    rw [e4] at hp ⊢
    obtain ⟨t, rfl⟩ := hp
    obtain ⟨x, l, hx, -, -, -, -, hx5⟩ := char_head a3
    cases hc : k.control with
    | true =>
      rw [hc] at hx a3 hx5
      have a3' := a3
      unfold charB at a3'
      simp only [Bool.not_false, if_true, Bool.true_and, Bool.and_eq_true, decide_eq_true_iff] at a3'
      have e := u8_of (x := k.rune - 96) (by omega) (by omega)
      have hx' := hx
      unfold encChar at hx'
      simp only [if_true, List.cons.injEq] at hx'
      rw [hx'.1] at e
      obtain rfl : l = [] := hx'.2.symm
      have hk : ctlKey x = k := by
        unfold ctlKey
        exact key_ext hn.symm (by show 96 + (x.toNat : Int) = k.rune; omega) hc.symm ha.symm a2.symm
      rw [hx]
      unfold singleL
      simp only [List.cons_append, List.nil_append, List.length_cons, List.length_nil]
      rw [if_pos (by omega), hk]
      have hcb : charB k = true := by
        unfold charB
        rw [a2, hc]
        unfold charB at a3
        simpa using a3
      rw [hcb]
      rfl
    | false =>
      rw [hc] at hx a3 hx5
      have a3' := a3
      unfold charB at a3'
      simp only [Bool.not_false, Bool.true_and, Bool.false_eq_true, if_false] at a3'
      have a3'' := a3'
      unfold printB at a3''
      simp only [Bool.and_eq_true, decide_eq_true_iff] at a3''
      have hd := decodeL_enc k.rune a3''.1 t
      have hctl : ¬ (k.rune < 0x20 ∨ 0x7F ≤ k.rune ∧ k.rune ≤ 0x9F) := fun hc => by have := a3''.2; rw [cw_ctl hc] at this; omega
      have hnx : ¬ (1 ≤ x.toNat ∧ x.toNat ≤ 26) := fun hh => by
        have := (hx5 (by omega)).2.1 rfl
        omega
      have hg := a3''.1
      have hr0 : ((k.rune.toNat : Nat) : Int) = k.rune := by unfold GoodR at hg; omega
      have hk : runeKey k.rune = k := by
        unfold runeKey
        exact key_ext hn.symm rfl hc.symm ha.symm a2.symm
      have hee : encChar k.rune false = encodeRune k.rune := by unfold encChar; rw [if_neg (by simp)]
      rw [hee] at hx ⊢
      have hcons : encodeRune k.rune ++ t = x :: (l ++ t) := by rw [hx]; rfl
      have h1 := enc_pos k.rune
      have hc2 : k.rune.toNat ≠ 65533 ∨ 1 < (encodeRune k.rune).length := by
        by_cases hf : k.rune.toNat = 65533
        · right
          have : k.rune = 65533 := by omega
          rw [this]; decide
        · exact .inl hf
      unfold singleL
      rw [hcons] at hd ⊢
      dsimp only
      rw [if_neg hnx, hd]
      dsimp only
      rw [hr0, if_pos ⟨hc2, a3'⟩, hk]
  · exact absurd hn a1
theorem single_esc (t : List UInt8) : singleL (27 :: t) = none := by
  cases h : singleL (27 :: t) with
  | none => rfl
  | some x =>
    obtain ⟨k, n⟩ := x
    obtain ⟨h1, h2, h3, h4, h5, h6⟩ := single_ok h
    exfalso
    rcases key_shape h1 with ⟨-, a2, a3, a4⟩ | ⟨a1, -⟩
    · obtain ⟨y, l, hy, -, -, y3, -⟩ := char_head a3
      have e := (a4 false false).symm.trans (h4 false false)
      rw [h3, hy] at e
      obtain ⟨m, rfl⟩ : ∃ m, n = m + 1 := ⟨n - 1, by omega⟩
      simp at e
      exact y3 e.1
    · exact a1 h2

def withAlt (k : Key) : Key := ⟨k.name, k.rune, k.control, true, k.shift⟩
theorem alt_err {k : Key} (h : keyErr k = 0) (hn : k.nm = []) : keyErr (withAlt k) = 0 := by
  unfold keyErr at h ⊢
  have hn' : (withAlt k).nm = [] := hn
  rw [if_pos hn] at h
  rw [if_pos hn']
  exact h
theorem alt_enc {app nl : Bool} {k : Key} (hn : k.nm = []) (ha : k.alt = false) : keyEnc app nl (withAlt k) = 27 :: keyEnc app nl k := by
  have hn' : (withAlt k).nm = [] := hn
  unfold keyEnc
  rw [if_pos hn, if_pos hn', ha]
  rfl

/-- What a search for the longest encoding has found. -/
def Found (app nl : Bool) (s : List UInt8) (b : Key × Nat) : Prop := b = (zeroKey, 0) ∨ (keyErr b.1 = 0 ∧ keyEnc app nl b.1 = s.take b.2 ∧ 1 ≤ b.2 ∧ b.2 ≤ s.length)
def Most (app nl : Bool) (s : List UInt8) (b : Key × Nat) : Prop := ∀ k, keyErr k = 0 → keyEnc app nl k <+: s → (keyEnc app nl k).length ≤ b.2
theorem found_eq {app nl : Bool} {s : List UInt8} {b b' : Key × Nat} (h : Found app nl s b) (h' : Found app nl s b') (hm : Most app nl s b) (hm' : Most app nl s b') : b = b' := by
  have f : ∀ {b b' : Key × Nat}, Found app nl s b → Most app nl s b' → b.2 ≤ b'.2 := fun {b b'} h hm => by
    rcases h with rfl | ⟨h1, h2, h3, h4⟩
    · exact Nat.zero_le _
    · have := hm _ h1 (by rw [h2]; exact List.take_prefix _ _)
      rw [h2, List.length_take] at this
      omega
  have e : b.2 = b'.2 := Nat.le_antisymm (f h hm') (f h' hm)
  rcases h with rfl | ⟨h1, h2, h3, h4⟩ <;> rcases h' with rfl | ⟨h1', h2', h3', h4'⟩
  · rfl
  · exfalso; simp only at e; omega
  · exfalso; simp only at e; omega
  · obtain ⟨k, n⟩ := b
    obtain ⟨k', n'⟩ := b'
    simp only at e h1 h2 h1' h2'
    subst e
    rw [key_inj h1 h1' (h2.trans h2'.symm)]
def bestStep (app nl : Bool) (s : List UInt8) (b : Key × Nat) (k : Key) : Key × Nat :=
  if (keyEnc app nl k).isPrefixOf s && decide (b.2 < (keyEnc app nl k).length) then (k, (keyEnc app nl k).length) else b
theorem step_found {app nl : Bool} {s : List UInt8} {b : Key × Nat} {k : Key} (hk : keyErr k = 0) (h : Found app nl s b) : Found app nl s (bestStep app nl s b k) ∧ b.2 ≤ (bestStep app nl s b k).2 ∧ (keyEnc app nl k <+: s → (keyEnc app nl k).length ≤ (bestStep app nl s b k).2) := by
  unfold bestStep
  cases h1 : (keyEnc app nl k).isPrefixOf s && decide (b.2 < (keyEnc app nl k).length) with
  | true =>
    rw [Bool.and_eq_true, decide_eq_true_iff, List.isPrefixOf_iff_prefix] at h1
    obtain ⟨⟨t, ht⟩, h2⟩ := h1
    rw [if_pos rfl]
    refine ⟨.inr ⟨hk, ?_, by show 1 ≤ (keyEnc app nl k).length; omega, ?_⟩, by show _ ≤ (keyEnc app nl k).length; omega, fun _ => Nat.le_refl _⟩
    · show keyEnc app nl k = s.take (keyEnc app nl k).length
      rw [← ht, List.take_left']
      rfl
    · show (keyEnc app nl k).length ≤ s.length
      rw [← ht]; simp
  | false =>
    rw [if_neg (by simp)]
    refine ⟨h, Nat.le_refl _, fun hp => ?_⟩
    rw [List.isPrefixOf_iff_prefix.2 hp] at h1
    simp at h1
    exact h1
theorem fold_found {app nl : Bool} {s : List UInt8} : ∀ (l : List Key) (b : Key × Nat), (∀ k ∈ l, keyErr k = 0) → Found app nl s b → Found app nl s (l.foldl (bestStep app nl s) b) ∧ b.2 ≤ (l.foldl (bestStep app nl s) b).2 ∧ ∀ k ∈ l, keyEnc app nl k <+: s → (keyEnc app nl k).length ≤ (l.foldl (bestStep app nl s) b).2
  | [], b, _, h => ⟨h, Nat.le_refl _, fun k hk => by cases hk⟩
  | k :: l, b, hv, h => by
    obtain ⟨h1, h2, h3⟩ := step_found (app := app) (nl := nl) (s := s) (hv k (by simp)) h
    obtain ⟨h4, h5, h6⟩ := fold_found l (bestStep app nl s b k) (fun k' hk' => hv k' (by simp [hk'])) h1
    refine ⟨h4, Nat.le_trans h2 h5, fun k' hk' hp => ?_⟩
    rcases List.mem_cons.1 hk' with rfl | hk'
    · exact Nat.le_trans (h3 hp) h5
    · exact h6 k' hk' hp

def toKey (x : List UInt8 × Bool × Bool × Bool) : Key := ⟨⟨x.1.toArray⟩, 0, x.2.1, x.2.2.1, x.2.2.2⟩
def namedKeys : List Key := allNamed.map toKey
theorem toKey_err {x : List UInt8 × Bool × Bool × Bool} (h : x ∈ allNamed) : keyErr (toKey x) = 0 := by
  obtain ⟨h1, h2⟩ := of_named h
  have hn : (toKey x).nm = x.1 := by simp [toKey]
  unfold keyErr
  rw [if_neg (by rw [hn]; exact names_ne _ h1), if_neg (by rw [hn]; simpa using h1), hn]
  show (if decide ((0 : Int) = 0) && modB x.1 x.2.1 x.2.2.1 x.2.2.2 then (0 : Int) else 1) = 0
  rw [h2]; rfl
theorem named_valid : ∀ k ∈ namedKeys, keyErr k = 0 := fun k hk => by
  obtain ⟨x, hx, rfl⟩ := List.mem_map.1 hk
  exact toKey_err hx
theorem named_in {k : Key} (h : keyErr k = 0) (hn : k.nm ≠ []) : k ∈ namedKeys := by
  rcases key_shape h with ⟨a1, -⟩ | ⟨a1, a2, a3, a4⟩
  · exact absurd a1 hn
  · refine List.mem_map.2 ⟨_, a3, ?_⟩
    exact key_ext (by simp [toKey]) a2.symm rfl rfl rfl

/-- The search of the program. -/
def headP (s : List UInt8) : Key × Nat :=
  match s with
  | [] => (zeroKey, 0)
  | b :: t => if b = 27 then (match singleL t with | some (k, n) => (withAlt k, n + 1) | none => (zeroKey, 0)) else (singleL s).getD (zeroKey, 0)
def decP (app nl : Bool) (s : List UInt8) : Key × Nat := namedKeys.foldl (bestStep app nl s) (headP s)
/-- The search of the reference. -/
def over (o : Option (Key × Nat)) (b : Key × Nat) : Key × Nat := match o with | some x => if b.2 < x.2 then x else b | none => b
def altL (s : List UInt8) : Option (Key × Nat) := match s with | [] => none | b :: t => if b = 27 then (singleL t).map fun x => (withAlt x.1, x.2 + 1) else none
def decR (app nl : Bool) (s : List UInt8) : Key × Nat := over (altL s) (over (singleL s) (namedKeys.foldl (bestStep app nl s) (zeroKey, 0)))

theorem alt_ok {app nl : Bool} {s : List UInt8} {k : Key} {n : Nat} (h : altL s = some (k, n)) : keyErr k = 0 ∧ keyEnc app nl k = s.take n ∧ 1 ≤ n ∧ n ≤ s.length := by
  unfold altL at h
  match s, h with
  | b :: t, h =>
    dsimp only at h
    by_cases hb : b = 27
    · rw [if_pos hb, Option.map_eq_some_iff] at h
      obtain ⟨⟨k', n'⟩, h1, h2⟩ := h
      obtain ⟨a1, a2, a3, a4, a5, a6⟩ := single_ok h1
      simp only [Prod.mk.injEq] at h2
      obtain ⟨rfl, rfl⟩ := h2
      refine ⟨alt_err a1 a2, ?_, by omega, by simp; omega⟩
      rw [alt_enc a2 a3, a4, hb, List.take_succ_cons]
    · rw [if_neg hb] at h; cases h
theorem alt_has {app nl : Bool} {k : Key} {s : List UInt8} (h : keyErr k = 0) (hn : k.nm = []) (ha : k.alt = true) (hp : keyEnc app nl k <+: s) : altL s = some (k, (keyEnc app nl k).length) := by
  have hk' : keyErr ⟨k.name, k.rune, k.control, false, k.shift⟩ = 0 := by
    unfold keyErr at h ⊢
    rw [if_pos hn] at h
    rw [if_pos hn]
    exact h
  have he : keyEnc app nl k = 27 :: keyEnc app nl ⟨k.name, k.rune, k.control, false, k.shift⟩ := by
    rw [← alt_enc (k := ⟨k.name, k.rune, k.control, false, k.shift⟩) hn rfl]
    congr 1
    exact key_ext rfl rfl rfl ha rfl
  rw [he] at hp ⊢
  match s, hp with
  | b :: t, hp =>
    rw [List.cons_prefix_cons] at hp
    obtain ⟨rfl, hp⟩ := hp
    unfold altL
    dsimp only
    rw [if_pos rfl, single_has hk' hn rfl hp]
    simp only [Option.map_some, Option.some.injEq, Prod.mk.injEq, List.length_cons, and_true]
    exact key_ext rfl rfl rfl ha.symm rfl
theorem headP_eq (s : List UInt8) : headP s = (altL s).getD ((singleL s).getD (zeroKey, 0)) := by
  unfold headP altL
  match s with
  | [] => rfl
  | b :: t =>
    dsimp only
    by_cases hb : b = 27
    · rw [if_pos hb, if_pos hb, hb, single_esc]
      cases singleL t <;> rfl
    · rw [if_neg hb, if_neg hb]; rfl
theorem alt_single {s : List UInt8} {x : Key × Nat} (h : altL s = some x) : singleL s = none := by
  unfold altL at h
  match s, h with
  | b :: t, h =>
    dsimp only at h
    by_cases hb : b = 27
    · rw [hb]; exact single_esc t
    · rw [if_neg hb] at h; cases h
theorem head_found (app nl : Bool) (s : List UInt8) : Found app nl s (headP s) := by
  rw [headP_eq]
  cases h : altL s with
  | some x => exact .inr (alt_ok h)
  | none =>
    cases h2 : singleL s with
    | some x => obtain ⟨a1, a2, a3, a4, a5, a6⟩ := single_ok h2; exact .inr ⟨a1, a4 _ _, a5, a6⟩
    | none => exact .inl rfl
theorem most_of {app nl : Bool} {s : List UInt8} {b : Key × Nat} (h1 : ∀ x, altL s = some x → x.2 ≤ b.2) (h2 : ∀ x, singleL s = some x → x.2 ≤ b.2) (h3 : ∀ k ∈ namedKeys, keyEnc app nl k <+: s → (keyEnc app nl k).length ≤ b.2) : Most app nl s b := by
  intro k hk hp
  by_cases hn : k.nm = []
  · cases ha : k.alt with
    | true => exact h1 _ (alt_has hk hn ha hp)
    | false => exact h2 _ (single_has hk hn ha hp)
  · exact h3 k (named_in hk hn) hp
theorem decP_found (app nl : Bool) (s : List UInt8) : Found app nl s (decP app nl s) ∧ Most app nl s (decP app nl s) := by
  obtain ⟨h1, h2, h3⟩ := fold_found (app := app) (nl := nl) (s := s) namedKeys (headP s) named_valid (head_found app nl s)
  refine ⟨h1, most_of (fun x hx => Nat.le_trans ?_ h2) (fun x hx => Nat.le_trans ?_ h2) h3⟩
  · rw [headP_eq, hx]; exact Nat.le_refl _
  · rw [headP_eq]
    cases h : altL s with
    | some y => rw [alt_single h] at hx; cases hx
    | none => rw [hx]; exact Nat.le_refl _
theorem over_found {app nl : Bool} {s : List UInt8} {o : Option (Key × Nat)} {b : Key × Nat} (h : Found app nl s b) (ho : ∀ x, o = some x → Found app nl s x) : Found app nl s (over o b) ∧ b.2 ≤ (over o b).2 ∧ ∀ x, o = some x → x.2 ≤ (over o b).2 := by
  unfold over
  match o with
  | none => exact ⟨h, Nat.le_refl _, fun x hx => by cases hx⟩
  | some x =>
    dsimp only
    by_cases hlt : b.2 < x.2
    · rw [if_pos hlt]; exact ⟨ho x rfl, by omega, fun y hy => by cases hy; exact Nat.le_refl _⟩
    · rw [if_neg hlt]; exact ⟨h, Nat.le_refl _, fun y hy => by cases hy; omega⟩
theorem decR_found (app nl : Bool) (s : List UInt8) : Found app nl s (decR app nl s) ∧ Most app nl s (decR app nl s) := by
  obtain ⟨h1, h2, h3⟩ := fold_found (app := app) (nl := nl) (s := s) namedKeys (zeroKey, 0) named_valid (.inl rfl)
  obtain ⟨g1, g2, g3⟩ := over_found (o := singleL s) h1 (fun x hx => by obtain ⟨a1, a2, a3, a4, a5, a6⟩ := single_ok (k := x.1) (n := x.2) hx; exact .inr ⟨a1, a4 _ _, a5, a6⟩)
  obtain ⟨f1, f2, f3⟩ := over_found (o := altL s) g1 (fun x hx => .inr (alt_ok (k := x.1) (n := x.2) hx))
  exact ⟨f1, most_of f3 (fun x hx => Nat.le_trans (g3 x hx) f2) fun k hk hp => Nat.le_trans (h3 k hk hp) (Nat.le_trans g2 f2)⟩
theorem decR_eq (app nl : Bool) (s : List UInt8) : decR app nl s = decP app nl s :=
  found_eq (decR_found app nl s).1 (decP_found app nl s).1 (decR_found app nl s).2 (decP_found app nl s).2

/-- P14.2: decoding an encoding. -/
theorem dec_enc {app nl : Bool} {k : Key} (h : keyErr k = 0) : decP app nl (keyEnc app nl k) = (k, (keyEnc app nl k).length) := by
  have hne := key_nonempty (app := app) (nl := nl) h
  refine found_eq (decP_found _ _ _).1 (.inr ⟨h, by rw [List.take_length], ?_, Nat.le_refl _⟩) (decP_found _ _ _).2 fun k' hk' hp => hp.length_le
  show 1 ≤ (keyEnc app nl k).length
  have := List.length_pos_iff.2 hne
  omega
/-- P14.3: decoding encodings one behind the other. -/
theorem dec_seq {app nl : Bool} {k : Key} (h : keyErr k = 0) (hh : ¬ headKey k) (t : List UInt8) : decP app nl (keyEnc app nl k ++ t) = (k, (keyEnc app nl k).length) := by
  obtain ⟨h1, h2⟩ := decP_found app nl (keyEnc app nl k ++ t)
  have h3 := h2 k h (List.prefix_append _ _)
  have hne := List.length_pos_iff.2 (key_nonempty (app := app) (nl := nl) h)
  rcases h1 with h1 | ⟨a1, a2, a3, a4⟩
  · exfalso; rw [h1] at h3; simp only at h3; omega
  · obtain ⟨⟨k', n⟩, hd⟩ : ∃ x, decP app nl (keyEnc app nl k ++ t) = x := ⟨_, rfl⟩
    rw [hd] at h3 a1 a2 a3 a4
    simp only at h3 a1 a2 a3 a4
    have hp : keyEnc app nl k <+: keyEnc app nl k' := by
      rw [a2]
      obtain ⟨d, rfl⟩ : ∃ d, n = (keyEnc app nl k).length + d := ⟨n - (keyEnc app nl k).length, by omega⟩
      rw [List.take_append, List.take_of_length_le (by omega)]
      exact List.prefix_append _ _
    rcases key_prefix h a1 hp with rfl | hx
    · have := congrArg List.length a2
      rw [List.length_take] at this
      rw [hd, show n = (keyEnc app nl k).length by omega]
    · exact absurd hx hh

/-- Bytes that an encoding of a character begins with, and no more. -/
def incB : List UInt8 → Bool
  | [] => false
  | [b] => decide (1 < limSize b.toNat)
  | [b, c] => decide (2 < limSize b.toNat) && decide (limLow 1 b.toNat ≤ c.toNat) && decide (c.toNat ≤ limHigh 1 b.toNat)
  | [b, c, d] => decide (3 < limSize b.toNat) && decide (limLow 1 b.toNat ≤ c.toNat) && decide (c.toNat ≤ limHigh 1 b.toNat) && decide (128 ≤ d.toNat) && decide (d.toNat ≤ 191)
  | _ => false
def shortB (app nl : Bool) (s : List UInt8) : Bool := decide (s = []) || incB s || namedKeys.any fun k => s.isPrefixOf (keyEnc app nl k)
def decErr (app nl : Bool) (s : List UInt8) : Int := if 0 < (decP app nl s).2 then 0 else if shortB app nl s then 4 else 3
end Go.Proofs.YtpilpchijmappaaDoor
