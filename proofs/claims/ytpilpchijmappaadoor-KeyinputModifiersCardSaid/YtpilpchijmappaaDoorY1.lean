/- Keys and their encodings, in plain words. -/
import Derived.Test.YtpilpchijmappaaDoorU1
import Derived.Test.YtpilpchijmappaaDoorV2
namespace Go.Proofs.YtpilpchijmappaaDoor
open Go Go.Lib

structure Key where
  name : ByteArray
  rune : Int
  control : Bool
  alt : Bool
  shift : Bool

abbrev Key.nm (k : Key) : List UInt8 := k.name.data.toList

def nTab : List UInt8 := [84, 97, 98]
def nEnter : List UInt8 := [69, 110, 116, 101, 114]
def nEscape : List UInt8 := [69, 115, 99, 97, 112, 101]
def nBack : List UInt8 := [66, 97, 99, 107, 115, 112, 97, 99, 101]
def keyNames : List (List UInt8) := [[85, 112], [68, 111, 119, 110], [82, 105, 103, 104, 116], [76, 101, 102, 116], [72, 111, 109, 101], [69, 110, 100], [73, 110, 115, 101, 114, 116], [68, 101, 108, 101, 116, 101], [80, 97, 103, 101, 85, 112], [80, 97, 103, 101, 68, 111, 119, 110], [84, 97, 98], [69, 110, 116, 101, 114], [69, 115, 99, 97, 112, 101], [66, 97, 99, 107, 115, 112, 97, 99, 101], [70, 49], [70, 50], [70, 51], [70, 52], [70, 53], [70, 54], [70, 55], [70, 56], [70, 57], [70, 49, 48], [70, 49, 49], [70, 49, 50]]
/-- The names with a letter; the second tells whether it is a function key's. -/
def letterTab : List (List UInt8 × UInt8 × Bool) := [([85, 112], 65, false), ([68, 111, 119, 110], 66, false), ([82, 105, 103, 104, 116], 67, false), ([76, 101, 102, 116], 68, false), ([69, 110, 100], 70, false), ([72, 111, 109, 101], 72, false), ([70, 49], 80, true), ([70, 50], 81, true), ([70, 51], 82, true), ([70, 52], 83, true)]
def tildeTab : List (List UInt8 × List UInt8) := [([73, 110, 115, 101, 114, 116], [50]), ([68, 101, 108, 101, 116, 101], [51]), ([80, 97, 103, 101, 85, 112], [53]), ([80, 97, 103, 101, 68, 111, 119, 110], [54]), ([70, 53], [49, 53]), ([70, 54], [49, 55]), ([70, 55], [49, 56]), ([70, 56], [49, 57]), ([70, 57], [50, 48]), ([70, 49, 48], [50, 49]), ([70, 49, 49], [50, 51]), ([70, 49, 50], [50, 52])]
def lookL {α : Type} (n : List UInt8) : List (List UInt8 × α) → Option α
  | [] => none
  | x :: r => if x.1 = n then some x.2 else lookL n r
def printB (r : Int) : Bool := decide (GoodR r) && decide (0 ≤ cw r)
def charB (k : Key) : Bool := !k.shift && (if k.control then decide (97 ≤ k.rune) && decide (k.rune ≤ 122) && decide (k.rune ≠ 105) && decide (k.rune ≠ 109) else printB k.rune)
/-- Whether a key with a name may have its modifiers. -/
def modB (n : List UInt8) (control alt shift : Bool) : Bool :=
  if n = nTab then !control && !(shift && alt) else if n = nEnter ∨ n = nEscape ∨ n = nBack then !control && !shift else true
/-- Why a key is invalid: 0 it is not, 1 the argument, 6 the name. -/
def keyErr (k : Key) : Int :=
  if k.nm = [] then (if charB k then 0 else 1) else if k.nm ∉ keyNames then 6 else if decide (k.rune = 0) && modB k.nm k.control k.alt k.shift then 0 else 1
def modNum (control alt shift : Bool) : Nat := 1 + (if shift then 1 else 0) + (if alt then 2 else 0) + (if control then 4 else 0)
/-- The encoding of a key with a name. -/
def encName (app nl : Bool) (n : List UInt8) (control alt shift : Bool) : List UInt8 :=
  match lookL n letterTab with
  | some (c, f) => if modNum control alt shift = 1 then (if f || app then [27, 79, c] else [27, 91, c]) else [27, 91, 49, 59, (48 + modNum control alt shift).toUInt8, c]
  | none => match lookL n tildeTab with
    | some d => [27, 91] ++ d ++ (if modNum control alt shift = 1 then [] else [59, (48 + modNum control alt shift).toUInt8]) ++ [126]
    | none =>
      if n = nTab && shift then [27, 91, 90]
      else (if alt then [27] else []) ++ (if n = nTab then [9] else if n = nEnter then (if nl then [13, 10] else [13]) else if n = nEscape then [27] else [127])
/-- The bytes of a key without a name, without Alt. -/
def encChar (rune : Int) (control : Bool) : List UInt8 := if control then [(rune - 96).toNat.toUInt8] else encodeRune rune
def keyEnc (app nl : Bool) (k : Key) : List UInt8 :=
  if k.nm = [] then (if k.alt then [27] else []) ++ encChar k.rune k.control else encName app nl k.nm k.control k.alt k.shift

theorem ba_ext {a b : ByteArray} (h : a.data.toList = b.data.toList) : a = b := by
  obtain ⟨⟨x⟩⟩ := a; obtain ⟨⟨y⟩⟩ := b
  simp at h; rw [h]
/-- The keys with a name. -/
def allNamed : List (List UInt8 × Bool × Bool × Bool) := (keyNames.flatMap fun n => [(n, false, false, false), (n, false, false, true), (n, false, true, false), (n, false, true, true), (n, true, false, false), (n, true, false, true), (n, true, true, false), (n, true, true, true)]).filter fun x => modB x.1 x.2.1 x.2.2.1 x.2.2.2
theorem named_mem {n : List UInt8} {c a s : Bool} (h : n ∈ keyNames) (hm : modB n c a s = true) : (n, c, a, s) ∈ allNamed := by
  unfold allNamed
  rw [List.mem_filter]
  refine ⟨List.mem_flatMap.2 ⟨n, h, ?_⟩, hm⟩
  cases c <;> cases a <;> cases s <;> simp
theorem of_named {n : List UInt8} {c a s : Bool} (h : (n, c, a, s) ∈ allNamed) : n ∈ keyNames ∧ modB n c a s = true := by
  unfold allNamed at h
  rw [List.mem_filter] at h
  obtain ⟨h1, h2⟩ := h
  obtain ⟨m, hm, h3⟩ := List.mem_flatMap.1 h1
  simp only [List.mem_cons, Prod.mk.injEq, List.mem_nil_iff, or_false] at h3
  refine ⟨?_, h2⟩
  rcases h3 with h | h | h | h | h | h | h | h <;> rw [h.1] <;> exact hm
theorem names_ne : ∀ n ∈ keyNames, n ≠ [] := by decide

abbrev encX (app nl : Bool) (x : List UInt8 × Bool × Bool × Bool) : List UInt8 := encName app nl x.1 x.2.1 x.2.2.1 x.2.2.2
def PreX (app nl : Bool) (x y : List UInt8 × Bool × Bool × Bool) : Bool := !(encX app nl x).isPrefixOf (encX app nl y) || decide (x = y) || (x.1 == nEscape && !x.2.2.1)
set_option maxRecDepth 100000 in
theorem named_pre (app nl : Bool) : (allNamed.all fun x => allNamed.all fun y => PreX app nl x y) = true := by
  cases app <;> cases nl <;> decide +kernel
theorem named_prefix {app nl : Bool} {x y : List UInt8 × Bool × Bool × Bool} (hx : x ∈ allNamed) (hy : y ∈ allNamed) (h : encX app nl x <+: encX app nl y) : x = y ∨ x.1 = nEscape := by
  have := List.all_eq_true.1 (List.all_eq_true.1 (named_pre app nl) x hx) y hy
  unfold PreX at this
  rw [List.isPrefixOf_iff_prefix.2 h] at this
  simp only [Bool.not_true, Bool.false_or, Bool.or_eq_true, decide_eq_true_iff, Bool.and_eq_true, beq_iff_eq] at this
  rcases this with h1 | h1
  · exact .inl h1
  · exact .inr h1.1
/-- How the encodings of keys with names begin. -/
def HeadX (l : List UInt8) : Bool := match l with
  | [] => false
  | [c] => c == 9 || c == 13 || c == 27 || c == 127
  | [c, d] => (c == 13 && d == 10) || (c == 27 && (d == 9 || d == 13 || d == 27 || d == 127))
  | c :: d :: _ => c == 27 && (d == 91 || d == 79 || d == 13)
set_option maxRecDepth 100000 in
theorem named_head (app nl : Bool) : (allNamed.all fun x => HeadX (encX app nl x)) = true := by
  cases app <;> cases nl <;> decide +kernel
theorem named_heads {app nl : Bool} {x : List UInt8 × Bool × Bool × Bool} (hx : x ∈ allNamed) : HeadX (encX app nl x) = true := List.all_eq_true.1 (named_head app nl) x hx
theorem named_len {app nl : Bool} {x : List UInt8 × Bool × Bool × Bool} (hx : x ∈ allNamed) : (encX app nl x).length ≤ 7 ∧ encX app nl x ≠ [] := by
  have h : (allNamed.all fun x => decide ((encX app nl x).length ≤ 7) && decide (encX app nl x ≠ [])) = true := by cases app <;> cases nl <;> decide +kernel
  have := List.all_eq_true.1 h x hx
  simp only [Bool.and_eq_true, decide_eq_true_iff] at this
  exact this

/-- The beginning of a character's bytes. -/
theorem char_head {r : Int} {c : Bool} (h : charB ⟨⟨#[]⟩, r, c, false, false⟩ = true) : ∃ x l, encChar r c = x :: l ∧ x ≠ 9 ∧ x ≠ 13 ∧ x ≠ 27 ∧ x ≠ 127 ∧ (x.toNat < 128 → l = [] ∧ (c = false → r = x.toNat) ∧ (c = true → x.toNat ≤ 26)) := by
  unfold charB at h
  unfold encChar
  cases c with
  | true =>
    simp only [Bool.not_false, if_true, Bool.true_and, Bool.and_eq_true, decide_eq_true_iff] at h
    obtain ⟨⟨⟨h1, h2⟩, h3⟩, h4⟩ := h
    have e := u8_of (x := r - 96) (by omega) (by omega)
    have hn : ∀ n : UInt8, (r - 96).toNat.toUInt8 = n → (r - 96).toNat = n.toNat := fun n hn => by rw [← hn, e]
    refine ⟨_, [], rfl, fun h => ?_, fun h => ?_, fun h => ?_, fun h => ?_, fun _ => ⟨rfl, (fun h => by cases h), (fun _ => by rw [e]; omega)⟩⟩
    · have := hn _ h; have : (9 : UInt8).toNat = 9 := rfl; omega
    · have := hn _ h; have : (13 : UInt8).toNat = 13 := rfl; omega
    · have := hn _ h; have : (27 : UInt8).toNat = 27 := rfl; omega
    · have := hn _ h; have : (127 : UInt8).toNat = 127 := rfl; omega
  | false =>
    simp only [Bool.not_false, Bool.true_and, Bool.false_eq_true, if_false] at h
    unfold printB at h
    simp only [Bool.and_eq_true, decide_eq_true_iff] at h
    obtain ⟨hg, hw⟩ := h
    have hctl : ¬ (r < 0x20 ∨ 0x7F ≤ r ∧ r ≤ 0x9F) := fun hc => by rw [cw_ctl hc] at hw; omega
    simp only [Bool.false_eq_true, if_false]
    unfold GoodR at hg
    unfold encodeRune
    rcases (show (0 ≤ r ∧ r ≤ 127) ∨ (128 ≤ r ∧ r ≤ 2047) ∨ ((2048 ≤ r ∧ r < 55296) ∨ (57343 < r ∧ r ≤ 65535)) ∨ (65536 ≤ r ∧ r ≤ 1114111) by omega) with ⟨g1, g2⟩ | ⟨g1, g2⟩ | g | ⟨g1, g2⟩
    · rw [encodeRuneZ_one g1 g2]
      have e := u8_of (x := r) g1 (by omega)
      have hn : ∀ n : UInt8, r.toNat.toUInt8 = n → r.toNat = n.toNat := fun n hn => by rw [← hn, e]
      refine ⟨_, [], rfl, fun h => ?_, fun h => ?_, fun h => ?_, fun h => ?_, fun _ => ⟨rfl, (fun _ => by rw [e]; omega), (fun h => by cases h)⟩⟩
      · have := hn _ h; have : (9 : UInt8).toNat = 9 := rfl; omega
      · have := hn _ h; have : (13 : UInt8).toNat = 13 := rfl; omega
      · have := hn _ h; have : (27 : UInt8).toNat = 27 := rfl; omega
      · have := hn _ h; have : (127 : UInt8).toNat = 127 := rfl; omega
    · rw [encodeRuneZ_two g1 g2]
      have e := u8_of (x := 192 + r / 64) (by omega) (by omega)
      have hn : ∀ n : UInt8, n.toNat < 128 → (192 + r / 64).toNat.toUInt8 ≠ n := fun n hl hn => by rw [hn] at e; omega
      exact ⟨_, _, rfl, hn _ (by decide), hn _ (by decide), hn _ (by decide), hn _ (by decide), fun h => absurd rfl (hn _ h)⟩
    · rw [encodeRuneZ_three g]
      have e := u8_of (x := 224 + r / 4096) (by omega) (by omega)
      have hn : ∀ n : UInt8, n.toNat < 128 → (224 + r / 4096).toNat.toUInt8 ≠ n := fun n hl hn => by rw [hn] at e; omega
      exact ⟨_, _, rfl, hn _ (by decide), hn _ (by decide), hn _ (by decide), hn _ (by decide), fun h => absurd rfl (hn _ h)⟩
    · rw [encodeRuneZ_four g1 g2]
      have e := u8_of (x := 240 + r / 262144) (by omega) (by omega)
      have hn : ∀ n : UInt8, n.toNat < 128 → (240 + r / 262144).toNat.toUInt8 ≠ n := fun n hl hn => by rw [hn] at e; omega
      exact ⟨_, _, rfl, hn _ (by decide), hn _ (by decide), hn _ (by decide), hn _ (by decide), fun h => absurd rfl (hn _ h)⟩
theorem char_prefix {r r' : Int} {c c' : Bool} (h : charB ⟨⟨#[]⟩, r, c, false, false⟩ = true) (h' : charB ⟨⟨#[]⟩, r', c', false, false⟩ = true) (hp : encChar r c <+: encChar r' c') : r = r' ∧ c = c' := by
  obtain ⟨t, ht⟩ := hp
  obtain ⟨x, l, hx, -, -, -, -, hx5⟩ := char_head h
  obtain ⟨y, m, hy, -, -, -, -, hy5⟩ := char_head h'
  have hxy : x = y := by rw [hx, hy] at ht; exact (List.cons.inj ht).1
  subst hxy
  unfold charB at h h'
  cases c <;> cases c'
  · simp only [Bool.not_false, Bool.true_and, Bool.false_eq_true, if_false] at h h'
    unfold printB at h h'
    simp only [Bool.and_eq_true, decide_eq_true_iff] at h h'
    have e1 := decodeL_enc r h.1 t
    have e2 := decodeL_enc r' h'.1 []
    unfold encChar at ht
    simp only [Bool.false_eq_true, if_false] at ht
    rw [ht] at e1
    rw [List.append_nil, e1] at e2
    have e3 := congrArg Prod.fst e2
    simp only at e3
    have := h.1
    have := h'.1
    unfold GoodR at *
    exact ⟨by omega, rfl⟩
  · exfalso
    simp only [Bool.not_false, if_true, Bool.true_and, Bool.and_eq_true, decide_eq_true_iff] at h'
    unfold encChar at hy
    simp only [if_true, List.cons.injEq] at hy
    have e := u8_of (x := r' - 96) (by omega) (by omega)
    rw [hy.1] at e
    have h2 := (hx5 (by omega)).2.1 rfl
    simp only [Bool.not_false, Bool.true_and, Bool.false_eq_true, if_false] at h
    unfold printB at h
    simp only [Bool.and_eq_true, decide_eq_true_iff] at h
    have hw := h.2
    rw [cw_ctl (by omega)] at hw
    omega
  · exfalso
    simp only [Bool.not_false, if_true, Bool.true_and, Bool.and_eq_true, decide_eq_true_iff] at h
    unfold encChar at hx
    simp only [if_true, List.cons.injEq] at hx
    have e := u8_of (x := r - 96) (by omega) (by omega)
    rw [hx.1] at e
    have h2 := (hy5 (by omega)).2.1 rfl
    simp only [Bool.not_false, Bool.true_and, Bool.false_eq_true, if_false] at h'
    unfold printB at h'
    simp only [Bool.and_eq_true, decide_eq_true_iff] at h'
    have hw := h'.2
    rw [cw_ctl (by omega)] at hw
    omega
  · simp only [Bool.not_false, if_true, Bool.true_and, Bool.and_eq_true, decide_eq_true_iff] at h h'
    unfold encChar at hx hy
    simp only [if_true, List.cons.injEq] at hx hy
    have e := u8_of (x := r - 96) (by omega) (by omega)
    have e' := u8_of (x := r' - 96) (by omega) (by omega)
    rw [hx.1] at e
    rw [hy.1] at e'
    exact ⟨by omega, rfl⟩

/-- A valid key, in one of two shapes. -/
theorem key_shape {k : Key} (h : keyErr k = 0) : (k.nm = [] ∧ k.shift = false ∧ charB ⟨⟨#[]⟩, k.rune, k.control, false, false⟩ = true ∧ ∀ app nl, keyEnc app nl k = (if k.alt then [27] else []) ++ encChar k.rune k.control) ∨
    (k.nm ≠ [] ∧ k.rune = 0 ∧ (k.nm, k.control, k.alt, k.shift) ∈ allNamed ∧ ∀ app nl, keyEnc app nl k = encX app nl (k.nm, k.control, k.alt, k.shift)) := by
  unfold keyErr at h
  by_cases hn : k.nm = []
  · rw [if_pos hn] at h
    left
    cases hc : charB k with
    | false => rw [hc] at h; simp at h
    | true =>
      unfold charB at hc
      have hs : k.shift = false := by cases hh : k.shift; rfl; rw [hh] at hc; simp at hc
      refine ⟨hn, hs, ?_, fun app nl => by unfold keyEnc; rw [if_pos hn]⟩
      unfold charB
      rw [hs] at hc
      exact hc
  · rw [if_neg hn] at h
    right
    by_cases hm : k.nm ∈ keyNames
    · rw [if_neg (by simpa using hm)] at h
      cases hc : decide (k.rune = 0) && modB k.nm k.control k.alt k.shift with
      | false => rw [hc] at h; simp at h
      | true =>
        rw [Bool.and_eq_true, decide_eq_true_iff] at hc
        exact ⟨hn, hc.1, named_mem hm hc.2, fun app nl => by unfold keyEnc; rw [if_neg hn]⟩
    · rw [if_pos hm] at h; omega
theorem key_ext {a b : Key} (h1 : a.nm = b.nm) (h2 : a.rune = b.rune) (h3 : a.control = b.control) (h4 : a.alt = b.alt) (h5 : a.shift = b.shift) : a = b := by
  obtain ⟨n, r, c, al, s⟩ := a
  obtain ⟨n', r', c', al', s'⟩ := b
  have := ba_ext h1
  simp only at this h2 h3 h4 h5
  subst this h2 h3 h4 h5
  rfl
/-- A key whose encoding may begin another's. -/
def headKey (k : Key) : Prop := k.nm = nEscape ∨ (k.nm = [] ∧ k.alt = true ∧ (k.rune = 91 ∨ k.rune = 79))

theorem key_prefix {app nl : Bool} {a b : Key} (ha : keyErr a = 0) (hb : keyErr b = 0) (hp : keyEnc app nl a <+: keyEnc app nl b) : a = b ∨ headKey a := by
  rcases key_shape ha with ⟨a1, a2, a3, a4⟩ | ⟨a1, a2, a3, a4⟩ <;> rcases key_shape hb with ⟨b1, b2, b3, b4⟩ | ⟨b1, b2, b3, b4⟩ <;> rw [a4, b4] at hp
  · -- two characters
    left
    have key : a.alt = b.alt ∧ encChar a.rune a.control <+: encChar b.rune b.control := by
      obtain ⟨x, l, hx, -, -, hx3, -, -⟩ := char_head a3
      obtain ⟨y, m, hy, -, -, hy3, -, -⟩ := char_head b3
      cases h1 : a.alt <;> cases h2 : b.alt <;> rw [h1, h2] at hp
      · exact ⟨rfl, by simpa using hp⟩
      · rw [hx] at hp
        simp only [Bool.false_eq_true, if_false, if_true, List.nil_append, List.cons_append, List.cons_prefix_cons] at hp
        exact absurd hp.1 hx3
      · rw [hy] at hp
        simp only [Bool.false_eq_true, if_false, if_true, List.nil_append, List.cons_append, List.cons_prefix_cons] at hp
        exact absurd hp.1.symm hy3
      · simp only [if_true, List.cons_append, List.nil_append, List.cons_prefix_cons, true_and] at hp
        exact ⟨rfl, hp⟩
    obtain ⟨h3, h4⟩ := char_prefix a3 b3 key.2
    exact key_ext (a1.trans b1.symm) h3 h4 key.1 (a2.trans b2.symm)
  · -- a character ahead of a name
    right
    have hh := named_heads (app := app) (nl := nl) b3
    obtain ⟨x, l, hx, x1, x2, x3, x4, x5⟩ := char_head a3
    rw [hx] at hp
    cases h1 : a.alt <;> rw [h1] at hp
    · exfalso
      simp only [Bool.false_eq_true, if_false, List.nil_append] at hp
      match he : encX app nl (b.nm, b.control, b.alt, b.shift), hp, hh with
      | [c], hp, hh => simp only [List.cons_prefix_cons] at hp; simp [HeadX] at hh; rcases hh with ((rfl | rfl) | rfl) | rfl <;> simp_all
      | [c, d], hp, hh => simp only [List.cons_prefix_cons] at hp; simp [HeadX] at hh; rcases hh with ⟨rfl, -⟩ | ⟨rfl, -⟩ <;> simp_all
      | c :: d :: e :: t, hp, hh => simp only [List.cons_prefix_cons] at hp; simp [HeadX] at hh; simp_all
      | [], hp, hh => simp [HeadX] at hh
    · refine .inr ⟨a1, h1, ?_⟩
      simp only [if_true, List.cons_append, List.nil_append] at hp
      have key : x = 91 ∨ x = 79 := by
        match he : encX app nl (b.nm, b.control, b.alt, b.shift), hp, hh with
        | [c], hp, hh => simp only [List.cons_prefix_cons] at hp; simp at hp
        | [c, d], hp, hh =>
          simp only [List.cons_prefix_cons] at hp
          simp [HeadX] at hh
          rcases hh with ⟨rfl, -⟩ | ⟨rfl, ((rfl | rfl) | rfl) | rfl⟩ <;> simp_all
        | c :: d :: e :: t, hp, hh =>
          simp only [List.cons_prefix_cons] at hp
          simp [HeadX] at hh
          obtain ⟨rfl, (rfl | rfl) | rfl⟩ := hh <;> simp_all
        | [], hp, hh => simp [HeadX] at hh
      have hx128 : x.toNat < 128 := by rcases key with rfl | rfl <;> decide
      obtain ⟨-, y1, y2⟩ := x5 hx128
      cases hc : a.control with
      | true => have := y2 hc; rcases key with rfl | rfl <;> (exfalso; revert this; decide)
      | false =>
        have := y1 hc
        rcases key with rfl | rfl
        · left; exact this
        · right; exact this
  · -- a name ahead of a character
    right
    left
    have hh := named_heads (app := app) (nl := nl) a3
    have hkey : encX app nl (a.nm, a.control, a.alt, a.shift) = [27] := by
      obtain ⟨x, l, hx, x1, x2, x3, x4, x5⟩ := char_head b3
      rw [hx] at hp
      cases h1 : b.alt <;> rw [h1] at hp
      · exfalso
        simp only [Bool.false_eq_true, if_false, List.nil_append] at hp
        match he : encX app nl (a.nm, a.control, a.alt, a.shift), hp, hh with
        | [c], hp, hh => simp only [List.cons_prefix_cons] at hp; simp [HeadX] at hh; rcases hh with ((rfl | rfl) | rfl) | rfl <;> simp_all
        | [c, d], hp, hh => simp only [List.cons_prefix_cons] at hp; simp [HeadX] at hh; rcases hh with ⟨rfl, -⟩ | ⟨rfl, -⟩ <;> simp_all
        | c :: d :: e :: t, hp, hh => simp only [List.cons_prefix_cons] at hp; simp [HeadX] at hh; simp_all
        | [], hp, hh => simp [HeadX] at hh
      · simp only [if_true, List.cons_append, List.nil_append] at hp
        match he : encX app nl (a.nm, a.control, a.alt, a.shift), hp, hh with
        | [c], hp, hh => simp only [List.cons_prefix_cons] at hp; rw [hp.1]
        | [c, d], hp, hh =>
          exfalso
          simp only [List.cons_prefix_cons] at hp
          simp [HeadX] at hh
          rcases hh with ⟨rfl, -⟩ | ⟨rfl, ((rfl | rfl) | rfl) | rfl⟩ <;> simp_all
        | c :: d :: e :: t, hp, hh =>
          exfalso
          simp only [List.cons_prefix_cons] at hp
          simp [HeadX] at hh
          obtain ⟨rfl, (rfl | rfl) | rfl⟩ := hh
          · have := (x5 (by rw [← hp.2.1]; decide)).1; rw [this] at hp; simp at hp
          · have := (x5 (by rw [← hp.2.1]; decide)).1; rw [this] at hp; simp at hp
          · exact x2 hp.2.1.symm
        | [], hp, hh => simp [HeadX] at hh
    have h2 : (allNamed.all fun x => decide (encX app nl x = [27] → x.1 = nEscape)) = true := by cases app <;> cases nl <;> decide +kernel
    have h3 := of_decide_eq_true (List.all_eq_true.1 h2 _ a3)
    exact h3 hkey
  · rcases named_prefix a3 b3 hp with h | h
    · left
      simp only [Prod.mk.injEq] at h
      exact key_ext h.1 (a2.trans b2.symm) h.2.1 h.2.2.1 h.2.2.2
    · exact .inr (.inl h)

theorem key_nonempty {app nl : Bool} {k : Key} (h : keyErr k = 0) : keyEnc app nl k ≠ [] := by
  rcases key_shape h with ⟨a1, a2, a3, a4⟩ | ⟨a1, a2, a3, a4⟩ <;> rw [a4]
  · obtain ⟨x, l, hx, -⟩ := char_head a3
    rw [hx]; simp
  · exact (named_len a3).2
/-- P14.2: different keys have different encodings. -/
theorem key_inj {app nl : Bool} {a b : Key} (ha : keyErr a = 0) (hb : keyErr b = 0) (he : keyEnc app nl a = keyEnc app nl b) : a = b := by
  rcases key_prefix ha hb (by rw [he]; exact List.prefix_rfl) with h | h
  · exact h
  · rcases key_prefix hb ha (by rw [he]; exact List.prefix_rfl) with h' | h'
    · exact h'.symm
    · -- both may begin another's
      have esc : ∀ k : Key, keyErr k = 0 → k.nm = nEscape → ∀ app nl, keyEnc app nl k = (if k.alt then [27] else []) ++ [27] := by
        intro k hk hn app nl
        rcases key_shape hk with ⟨a1, a2, a3, a4⟩ | ⟨a1, a2, a3, a4⟩
        · rw [hn] at a1; cases a1
        · rw [a4, hn]
          have : modB nEscape k.control k.alt k.shift = true := by rw [← hn]; exact (of_named a3).2
          cases k.control <;> cases k.alt <;> cases k.shift <;> first | rfl | (revert this; decide)
      have brk : ∀ k : Key, keyErr k = 0 → k.nm = [] → k.alt = true → (k.rune = 91 ∨ k.rune = 79) → k.control = false ∧ ∀ app nl, keyEnc app nl k = [27, k.rune.toNat.toUInt8] := by
        intro k hk hn hal hr
        rcases key_shape hk with ⟨a1, a2, a3, a4⟩ | ⟨a1, a2, a3, a4⟩
        · have hc : k.control = false := by
            cases hc : k.control
            · rfl
            · rw [hc] at a3
              unfold charB at a3
              simp only [Bool.not_false, if_true, Bool.true_and, Bool.and_eq_true, decide_eq_true_iff] at a3
              omega
          refine ⟨hc, fun app nl => ?_⟩
          rw [a4, hal, hc]
          rcases hr with hr | hr <;> rw [hr] <;> rfl
        · exact absurd hn a1
      rcases h with h | ⟨h1, h2, h3⟩ <;> rcases h' with h' | ⟨h1', h2', h3'⟩
      · have ea := esc a ha h app nl
        have eb := esc b hb h' app nl
        rw [ea, eb] at he
        have hal : a.alt = b.alt := by revert he; cases a.alt <;> cases b.alt <;> simp
        rcases key_shape ha with ⟨x1, -⟩ | ⟨x1, x2, x3, -⟩
        · rw [h] at x1; cases x1
        rcases key_shape hb with ⟨y1, -⟩ | ⟨y1, y2, y3, -⟩
        · rw [h'] at y1; cases y1
        have m1 : modB nEscape a.control a.alt a.shift = true := by rw [← h]; exact (of_named x3).2
        have m2 : modB nEscape b.control b.alt b.shift = true := by rw [← h']; exact (of_named y3).2
        have f : ∀ c al s, modB nEscape c al s = true → c = false ∧ s = false := by decide
        obtain ⟨p1, p2⟩ := f _ _ _ m1
        obtain ⟨q1, q2⟩ := f _ _ _ m2
        exact key_ext (h.trans h'.symm) (x2.trans y2.symm) (p1.trans q1.symm) hal (p2.trans q2.symm)
      · exfalso
        rw [esc a ha h app nl, (brk b hb h1' h2' h3').2 app nl] at he
        revert he
        rcases h3' with hr | hr <;> rw [hr] <;> cases a.alt <;> decide
      · exfalso
        rw [esc b hb h' app nl, (brk a ha h1 h2 h3).2 app nl] at he
        revert he
        rcases h3 with hr | hr <;> rw [hr] <;> cases b.alt <;> decide
      · obtain ⟨c1, e1⟩ := brk a ha h1 h2 h3
        obtain ⟨c2, e2⟩ := brk b hb h1' h2' h3'
        rw [e1, e2] at he
        have hr : a.rune = b.rune := by
          revert he
          rcases h3 with hr | hr <;> rcases h3' with hr' | hr' <;> rw [hr, hr'] <;> first | (intro; rfl) | decide
        rcases key_shape ha with ⟨-, s1, -⟩ | ⟨x1, -⟩
        · rcases key_shape hb with ⟨-, s2, -⟩ | ⟨x2, -⟩
          · exact key_ext (h1.trans h1'.symm) hr (c1.trans c2.symm) (h2.trans h2'.symm) (s1.trans s2.symm)
          · exact absurd h1' x2
        · exact absurd h1 x1
end Go.Proofs.YtpilpchijmappaaDoor
