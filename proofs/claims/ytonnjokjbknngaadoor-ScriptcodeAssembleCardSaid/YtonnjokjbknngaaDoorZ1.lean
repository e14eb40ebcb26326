/- Scripts: instructions, the bounds of their arguments, their bytes; in plain words. -/
import Derived.Test.YtonnjokjbknngaaDoorMem2
namespace Go.Proofs.YtonnjokjbknngaaDoor

structure Ins where
  op : Int
  arg : Int

/-- The least and the greatest argument. -/
def loA (op : Int) (i : Nat) : Int := if op = 1 then -999999999 else if op = 17 ∨ op = 18 then (i : Int) + 1 else 0
def hiA (op : Int) (n : Nat) : Int := if op = 1 then 999999999 else if op = 17 ∨ op = 18 then (n : Int) else 0
def insErr (n i : Nat) (x : Ins) : Int := if x.op < 0 ∨ 20 < x.op then 9 else if x.arg < loA x.op i ∨ hiA x.op n < x.arg then 2 else 0
/-- The first error from instruction i on. -/
def errFrom (n : Nat) : Nat → List Ins → Int
  | _, [] => 0
  | i, x :: l => if insErr n i x = 0 then errFrom n (i + 1) l else insErr n i x
def codeErr (l : List Ins) : Int := if 500 < l.length then 5 else errFrom l.length 0 l
theorem errFrom_ok {n : Nat} : ∀ {l : List Ins} {i : Nat}, errFrom n i l = 0 → ∀ k x, l[k]? = some x → insErr n (i + k) x = 0
  | [], _, _, k, x, hx => by simp at hx
  | y :: l, i, h, k, x, hx => by
    unfold errFrom at h
    by_cases h0 : insErr n i y = 0
    · rw [if_pos h0] at h
      match k, hx with
      | 0, hx => simp at hx; subst hx; exact h0
      | k + 1, hx =>
        have := errFrom_ok h k x (by simpa using hx)
        rwa [show i + (k + 1) = i + 1 + k by omega]
    · rw [if_neg h0] at h
      exact absurd h h0
theorem errFrom_all {n : Nat} : ∀ {l : List Ins} {i : Nat}, (∀ k x, l[k]? = some x → insErr n (i + k) x = 0) → errFrom n i l = 0
  | [], _, _ => rfl
  | y :: l, i, h => by
    unfold errFrom
    rw [if_pos (show insErr n i y = 0 from h 0 y rfl)]
    exact errFrom_all fun k x hx => by
      have := h (k + 1) x (by simpa using hx)
      rwa [show i + (k + 1) = i + 1 + k by omega] at this

/-- Bytes, the greatest first. -/
def beB : Nat → Nat → List UInt8
  | 0, _ => []
  | k + 1, n => (n / 256 ^ k % 256).toUInt8 :: beB k n
def valBE (l : List UInt8) : Nat := l.foldl (fun n b => 256 * n + b.toNat) 0
theorem beB_len : ∀ k n, (beB k n).length = k
  | 0, _ => rfl
  | k + 1, n => by simp [beB, beB_len k n]
theorem valBE_from (l : List UInt8) : ∀ n, l.foldl (fun n b => 256 * n + b.toNat) n = n * 256 ^ l.length + valBE l := by
  induction l with
  | nil => intro n; simp [valBE]
  | cons b t ih =>
    intro n
    unfold valBE
    rw [List.foldl_cons, List.foldl_cons, ih, ih (256 * 0 + b.toNat), List.length_cons, Nat.pow_succ]
    simp only [Nat.mul_zero, Nat.zero_add, Nat.add_mul]
    rw [show 256 * n * 256 ^ t.length = n * (256 ^ t.length * 256) by rw [Nat.mul_comm 256 n, Nat.mul_assoc, Nat.mul_comm 256]]
    omega
theorem valBE_cons (b : UInt8) (t : List UInt8) : valBE (b :: t) = b.toNat * 256 ^ t.length + valBE t := by
  show (b :: t).foldl (fun n b => 256 * n + b.toNat) 0 = _
  rw [List.foldl_cons, valBE_from]
  simp
theorem valBE_snoc (l : List UInt8) (b : UInt8) : valBE (l ++ [b]) = 256 * valBE l + b.toNat := by simp [valBE]
theorem valBE_lt : ∀ l : List UInt8, valBE l < 256 ^ l.length
  | [] => by decide
  | b :: t => by
    have h1 := valBE_lt t
    have h2 := b.toNat_lt
    rw [valBE_cons, List.length_cons, Nat.pow_succ]
    have h3 : b.toNat * 256 ^ t.length ≤ 255 * 256 ^ t.length := Nat.mul_le_mul_right _ (by omega)
    omega
theorem valBE_beB : ∀ k n, valBE (beB k n) = n % 256 ^ k
  | 0, n => by simp [beB, valBE, Nat.mod_one]
  | k + 1, n => by
    unfold beB
    rw [valBE_cons, beB_len, valBE_beB k n]
    have h1 : (n / 256 ^ k % 256).toUInt8.toNat = n / 256 ^ k % 256 := by simp [Nat.toUInt8]
    rw [h1, Nat.pow_succ, Nat.mod_mul, Nat.mul_comm (256 ^ k)]
    omega
theorem beB_add (k m n : Nat) : beB k (m * 256 ^ k + n) = beB k n := by
  induction k generalizing m n with
  | zero => rfl
  | succ k ih =>
    unfold beB
    have e : m * 256 ^ (k + 1) + n = m * 256 * 256 ^ k + n := by rw [Nat.pow_succ, Nat.mul_assoc, Nat.mul_comm 256]
    rw [e, ih (m * 256) n]
    congr 2
    rw [Nat.add_comm, Nat.add_mul_div_right _ _ (Nat.pow_pos (by decide)), Nat.add_mul_mod_self_right]
theorem beB_valBE : ∀ l : List UInt8, beB l.length (valBE l) = l
  | [] => rfl
  | b :: t => by
    have h1 := valBE_lt t
    have h2 := b.toNat_lt
    show ((valBE (b :: t)) / 256 ^ t.length % 256).toUInt8 :: beB t.length (valBE (b :: t)) = b :: t
    rw [valBE_cons, beB_add, beB_valBE t]
    congr 1
    rw [Nat.add_comm, Nat.add_mul_div_right _ _ (Nat.pow_pos (by decide)), Nat.div_eq_of_lt h1, Nat.zero_add, Nat.mod_eq_of_lt h2]
    simp [Nat.toUInt8]

def szN (b : Nat) : Nat := if b = 1 then 4 else if b = 17 ∨ b = 18 then 2 else 0
def encI (i : Nat) (x : Ins) : List UInt8 := x.op.toNat.toUInt8 :: beB (szN x.op.toNat) (x.arg - loA x.op i).toNat
def encFrom : Nat → List Ins → List UInt8
  | _, [] => []
  | i, x :: l => encI i x ++ encFrom (i + 1) l
theorem encFrom_snoc : ∀ (l : List Ins) (i : Nat) (x : Ins), encFrom i (l ++ [x]) = encFrom i l ++ encI (i + l.length) x
  | [], i, x => by simp [encFrom]
  | y :: l, i, x => by
    simp only [List.cons_append, encFrom, encFrom_snoc l (i + 1) x, List.append_assoc, List.length_cons]
    rw [show i + 1 + l.length = i + (l.length + 1) by omega]
theorem encI_len (i : Nat) (x : Ins) : (encI i x).length = 1 + szN x.op.toNat := by simp [encI, beB_len]; omega
theorem szN_le (b : Nat) : szN b ≤ 4 := by unfold szN; repeat' split
                                           all_goals omega
theorem encFrom_len : ∀ (l : List Ins) (i : Nat), (encFrom i l).length ≤ 5 * l.length
  | [], _ => by simp [encFrom]
  | x :: l, i => by
    have h1 := encFrom_len l (i + 1)
    have h2 := encI_len i x
    have h3 := szN_le x.op.toNat
    simp only [encFrom, List.length_append, List.length_cons]; omega

/-- What decoding comes to from the bytes that are left and the instructions so far: the error, and the script. -/
def decG : Nat → List UInt8 → List Ins → Int × List Ins
  | 0, _, _ => (4, [])
  | _ + 1, [], acc => if codeErr acc = 0 then (0, acc) else (codeErr acc, [])
  | f + 1, b :: t, acc =>
    if acc.length = 500 then (5, []) else if 20 < b.toNat then (9, []) else if t.length < szN b.toNat then (4, [])
    else decG f (t.drop (szN b.toNat)) (acc ++ [⟨b.toNat, (valBE (t.take (szN b.toNat)) : Int) + loA b.toNat acc.length⟩])
def decC (s : List UInt8) : Int × List Ins := decG (s.length + 1) s []

theorem ins_ok_op {n i : Nat} {x : Ins} (h : insErr n i x = 0) : 0 ≤ x.op ∧ x.op ≤ 20 ∧ loA x.op i ≤ x.arg ∧ x.arg ≤ hiA x.op n := by
  unfold insErr at h
  by_cases h1 : x.op < 0 ∨ 20 < x.op
  · rw [if_pos h1] at h; omega
  · rw [if_neg h1] at h
    by_cases h2 : x.arg < loA x.op i ∨ hiA x.op n < x.arg
    · rw [if_pos h2] at h; omega
    · omega
theorem ins_span {n i : Nat} {x : Ins} (h : insErr n i x = 0) (hn : n ≤ 500) : (x.arg - loA x.op i).toNat < 256 ^ szN x.op.toNat := by
  obtain ⟨h1, h2, h3, h4⟩ := ins_ok_op h
  unfold hiA at h4
  unfold loA at h3 ⊢
  unfold szN
  by_cases q1 : x.op = 1
  · rw [if_pos q1] at h3 h4 ⊢
    rw [if_pos (show x.op.toNat = 1 by omega)]
    have : (256 : Nat) ^ 4 = 4294967296 := by decide
    omega
  · rw [if_neg q1] at h3 h4 ⊢
    rw [if_neg (show ¬ x.op.toNat = 1 by omega)]
    by_cases q2 : x.op = 17 ∨ x.op = 18
    · rw [if_pos q2] at h3 h4 ⊢
      rw [if_pos (show x.op.toNat = 17 ∨ x.op.toNat = 18 by omega)]
      have : (256 : Nat) ^ 2 = 65536 := by decide
      omega
    · rw [if_neg q2] at h3 h4 ⊢
      rw [if_neg (show ¬ (x.op.toNat = 17 ∨ x.op.toNat = 18) by omega)]
      simp; omega
theorem ins_ext {x y : Ins} (h1 : x.op = y.op) (h2 : x.arg = y.arg) : x = y := by
  obtain ⟨a, b⟩ := x; obtain ⟨c, d⟩ := y
  simp only at h1 h2; subst h1 h2; rfl

/-- One instruction's bytes, decoded. -/
theorem decG_enc {n : Nat} {acc : List Ins} {x : Ins} (h : insErr n acc.length x = 0) (hn : n ≤ 500) (hl : acc.length < 500) (f : Nat) (r : List UInt8) : decG (f + 1) (encI acc.length x ++ r) acc = decG f r (acc ++ [x]) := by
  obtain ⟨h1, h2, h3, h4⟩ := ins_ok_op h
  have hs := ins_span h hn
  have hb : (x.op.toNat.toUInt8).toNat = x.op.toNat := by
    have : x.op.toNat < 256 := by omega
    simp [Nat.toUInt8, Nat.mod_eq_of_lt this]
  unfold encI
  rw [List.cons_append, decG, hb, if_neg (by omega), if_neg (by omega), if_neg (by rw [List.length_append, beB_len]; omega)]
  have e1 : (beB (szN x.op.toNat) (x.arg - loA x.op acc.length).toNat ++ r).drop (szN x.op.toNat) = r := List.drop_left' (beB_len _ _)
  have e2 : (beB (szN x.op.toNat) (x.arg - loA x.op acc.length).toNat ++ r).take (szN x.op.toNat) = beB (szN x.op.toNat) (x.arg - loA x.op acc.length).toNat := List.take_left' (beB_len _ _)
  rw [e1, e2, valBE_beB, Nat.mod_eq_of_lt hs]
  congr 3
  refine ins_ext (by show ((x.op.toNat : Nat) : Int) = x.op; omega) ?_
  show ((x.arg - loA x.op acc.length).toNat : Int) + loA (x.op.toNat : Int) acc.length = x.arg
  rw [show ((x.op.toNat : Nat) : Int) = x.op by omega]
  omega
theorem decG_all {n : Nat} (hn : n ≤ 500) : ∀ (l acc : List Ins) (f : Nat), (∀ k x, l[k]? = some x → insErr n (acc.length + k) x = 0) → acc.length + l.length ≤ 500 → l.length < f → decG f (encFrom acc.length l) acc = if codeErr (acc ++ l) = 0 then (0, acc ++ l) else (codeErr (acc ++ l), [])
  | [], acc, f, _, _, hf => by
    obtain ⟨g, rfl⟩ : ∃ g, f = g + 1 := ⟨f - 1, by simp at hf; omega⟩
    simp [encFrom, decG]
  | x :: l, acc, f, h, hle, hf => by
    simp only [List.length_cons] at hle hf
    obtain ⟨g, rfl⟩ : ∃ g, f = g + 1 := ⟨f - 1, by omega⟩
    rw [show encFrom acc.length (x :: l) = encI acc.length x ++ encFrom (acc.length + 1) l from rfl, decG_enc (h 0 x rfl) hn (by omega)]
    have hlen : (acc ++ [x]).length = acc.length + 1 := by simp
    have := decG_all hn l (acc ++ [x]) g (fun k y hy => by
      have := h (k + 1) y (by simpa using hy)
      rw [hlen]
      rwa [show acc.length + 1 + k = acc.length + (k + 1) by omega]) (by rw [hlen]; omega) (by omega)
    rw [hlen] at this
    rw [this, List.append_assoc]; rfl
/-- P46.3: decoding an encoding. -/
theorem dec_enc46 {l : List Ins} (h : codeErr l = 0) : decC (encFrom 0 l) = (0, l) := by
  unfold decC
  have hlen : l.length ≤ 500 := by
    unfold codeErr at h
    by_cases h1 : 500 < l.length
    · rw [if_pos h1] at h; omega
    · omega
  have hv := h
  unfold codeErr at hv
  rw [if_neg (by omega)] at hv
  have hge : ∀ (l : List Ins) i, l.length ≤ (encFrom i l).length := fun l => by
    induction l with
    | nil => intro i; simp
    | cons x l ih => intro i; have h1 := ih (i + 1); have h2 := encI_len i x; simp only [encFrom, List.length_append, List.length_cons]; omega
  have h0 := hge l 0
  have := decG_all hlen l [] ((encFrom 0 l).length + 1) (fun k x hx => by simpa using errFrom_ok hv k x hx) (by simpa using hlen) (by omega)
  simp only [List.length_nil, List.nil_append] at this
  rw [this, if_pos h]

theorem decG_split {f : Nat} {b : UInt8} {t : List UInt8} {acc : List Ins} {l : List Ins} (h : decG (f + 1) (b :: t) acc = (0, l)) :
    acc.length ≠ 500 ∧ b.toNat ≤ 20 ∧ szN b.toNat ≤ t.length ∧ decG f (t.drop (szN b.toNat)) (acc ++ [⟨b.toNat, (valBE (t.take (szN b.toNat)) : Int) + loA b.toNat acc.length⟩]) = (0, l) := by
  unfold decG at h
  by_cases h1 : acc.length = 500
  · rw [if_pos h1] at h; cases h
  rw [if_neg h1] at h
  by_cases h2 : 20 < b.toNat
  · rw [if_pos h2] at h; cases h
  rw [if_neg h2] at h
  by_cases h3 : t.length < szN b.toNat
  · rw [if_pos h3] at h; cases h
  rw [if_neg h3] at h
  exact ⟨h1, by omega, by omega, h⟩
theorem decG_canon : ∀ (f : Nat) (s : List UInt8) (acc l : List Ins), decG f s acc = (0, l) → codeErr l = 0 ∧ encFrom 0 l = encFrom 0 acc ++ s
  | 0, s, acc, l, h => by unfold decG at h; cases h
  | f + 1, [], acc, l, h => by
    unfold decG at h
    by_cases h1 : codeErr acc = 0
    · rw [if_pos h1] at h; cases h; exact ⟨h1, by simp⟩
    · rw [if_neg h1] at h
      simp only [Prod.mk.injEq] at h
      exact absurd h.1 h1
  | f + 1, b :: t, acc, l, h => by
    obtain ⟨h1, h2, h3, h4⟩ := decG_split h
    obtain ⟨h5, h6⟩ := decG_canon f _ _ l h4
    refine ⟨h5, ?_⟩
    rw [h6, encFrom_snoc, Nat.zero_add]
    unfold encI
    have e1 : ((b.toNat : Int)).toNat = b.toNat := by omega
    have e2 : ((valBE (t.take (szN b.toNat)) : Int) + loA b.toNat acc.length - loA b.toNat acc.length).toNat = valBE (t.take (szN b.toNat)) := by omega
    have e3 : (t.take (szN b.toNat)).length = szN b.toNat := by rw [List.length_take]; omega
    have e4 := beB_valBE (t.take (szN b.toNat))
    rw [e3] at e4
    dsimp only
    rw [e1, e2, e4]
    have e5 : b.toNat.toUInt8 = b := by simp [Nat.toUInt8]
    rw [e5, List.append_assoc, List.cons_append, List.take_append_drop]
/-- P46.3: a string that can be decoded is the encoding of its script. -/
theorem dec_canon {s : List UInt8} {l : List Ins} (h : decC s = (0, l)) : codeErr l = 0 ∧ encFrom 0 l = s := by
  have := decG_canon _ _ _ _ h
  simpa [encFrom] using this
theorem decC_err (s : List UInt8) : (decC s).1 ≠ 0 → (decC s).2 = [] := by
  unfold decC
  have : ∀ (f : Nat) (s : List UInt8) (acc : List Ins), (decG f s acc).1 ≠ 0 → (decG f s acc).2 = [] := by
    intro f
    induction f with
    | zero => intro s acc _; rfl
    | succ f ih =>
      intro s acc h
      match s with
      | [] =>
        unfold decG at h ⊢
        split
        · rename_i h1; rw [if_pos h1] at h; exact absurd rfl h
        · rfl
      | b :: t =>
        unfold decG at h ⊢
        split
        · rfl
        · rename_i h1
          rw [if_neg h1] at h
          split
          · rfl
          · rename_i h2
            rw [if_neg h2] at h
            split
            · rfl
            · rename_i h3
              rw [if_neg h3] at h
              exact ih _ _ h
  exact this _ _ _
/-- A proper prefix has fewer instructions. -/
theorem prefix_fewer : ∀ (f g : Nat) (s r : List UInt8) (acc : List Ins) (l m : List Ins), decG f (s ++ r) acc = (0, l) → r ≠ [] → decG g s acc = (0, m) → m.length < l.length
  | 0, _, s, r, acc, l, m, h, _, _ => by unfold decG at h; cases h
  | _ + 1, 0, s, r, acc, l, m, _, _, h2 => by unfold decG at h2; cases h2
  | f + 1, g + 1, [], r, acc, l, m, h, hr, h2 => by
    unfold decG at h2
    have hm : m = acc := by
      split at h2
      · cases h2; rfl
      · rename_i h3
        simp only [Prod.mk.injEq] at h2
        exact absurd h2.1 h3
    subst hm
    match r, hr with
    | b :: t, _ =>
      obtain ⟨h1, h2', h3, h4⟩ := decG_split h
      have : ∀ (f : Nat) (s : List UInt8) (acc l : List Ins), decG f s acc = (0, l) → acc.length ≤ l.length := by
        intro f
        induction f with
        | zero => intro s acc l h; unfold decG at h; cases h
        | succ f ih =>
          intro s acc l h
          match s, h with
          | [], h =>
            unfold decG at h
            split at h
            · cases h; exact Nat.le_refl _
            · rename_i h3
              simp only [Prod.mk.injEq] at h
              exact absurd h.1 h3
          | b :: t, h =>
            obtain ⟨-, -, -, h4⟩ := decG_split h
            have := ih _ _ _ h4
            simp at this; omega
      have := this _ _ _ _ h4
      simp at this; omega
  | f + 1, g + 1, b :: s, r, acc, l, m, h, hr, h2 => by
    obtain ⟨a1, a2, a3, a4⟩ := decG_split (t := s ++ r) h
    obtain ⟨b1, b2, b3, b4⟩ := decG_split h2
    rw [List.take_append_of_le_length b3, List.drop_append_of_le_length b3] at a4
    exact prefix_fewer f g _ r _ l m a4 hr b4
end Go.Proofs.YtonnjokjbknngaaDoor
