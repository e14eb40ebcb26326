/- Copied text, in plain words. -/
import Derived.Test.YtdkppdjonlldhaaGreatDoorReg
import Derived.Test.YtdkppdjonlldhaaGreatDoorV13
import Derived.Lib.Join
namespace Go.Proofs.YtdkppdjonlldhaaGreatDoor

theorem ba_ext {a b : ByteArray} (h : a.data.toList = b.data.toList) : a = b := by
  obtain ⟨⟨x⟩⟩ := a; obtain ⟨⟨y⟩⟩ := b
  simp at h; rw [h]
theorem ba_app (a b : ByteArray) : (a ++ b).data.toList = a.data.toList ++ b.data.toList := by simp
theorem ba_assoc (a b c : ByteArray) : a ++ b ++ c = a ++ (b ++ c) := ba_ext (by simp)
theorem ba_nil (a : ByteArray) : a ++ ⟨#[]⟩ = a := ba_ext (by simp)
theorem nil_ba (a : ByteArray) : (⟨#[]⟩ : ByteArray) ++ a = a := ba_ext (by simp)
theorem ba_cancel {a b c : ByteArray} (h : a ++ b = a ++ c) : b = c := by
  refine ba_ext ?_
  have := congrArg (fun x => x.data.toList) h
  simpa using this

theorem snocInd {α : Type} {motive : List α → Prop} (nil : motive []) (append_singleton : ∀ xs y, motive xs → motive (xs ++ [y])) (l : List α) : motive l := by
  rw [← List.reverse_reverse l]
  induction l.reverse with
  | nil => exact nil
  | cons x xs ih => rw [List.reverse_cons]; exact append_singleton _ _ ih

def nl : ByteArray := ⟨#[10]⟩
def joinN (xs : List ByteArray) : ByteArray := ⟨(Lib.join (xs.map (·.data.toList)) [10]).toArray⟩
def linesN (xs : List ByteArray) : ByteArray := xs.foldl (fun s x => s ++ x ++ nl) ⟨#[]⟩
theorem joinN_nil : joinN [] = ⟨#[]⟩ := by unfold joinN; rw [List.map_nil, Lib.join_nil]
theorem joinN_one (x : ByteArray) : joinN [x] = x := by
  unfold joinN; rw [List.map_cons, List.map_nil, Lib.join_one]
theorem joinN_snoc (xs : List ByteArray) (x : ByteArray) (h : xs ≠ []) : joinN (xs ++ [x]) = joinN xs ++ nl ++ x := by
  match xs, h with
  | y :: xs, _ =>
    refine ba_ext ?_
    unfold joinN nl
    rw [ba_app, ba_app]
    simp only [List.cons_append, List.map_cons, List.map_append, List.map_nil, Lib.join_cons, Lib.joinTail]
    simp
theorem linesN_snoc (xs : List ByteArray) (x : ByteArray) : linesN (xs ++ [x]) = linesN xs ++ x ++ nl := by
  unfold linesN; rw [List.foldl_append]; rfl
theorem joinN_lines : ∀ (xs : List ByteArray) (x : ByteArray), joinN (xs ++ [x]) = linesN xs ++ x := by
  intro xs
  induction xs using snocInd with
  | nil => intro x; rw [List.nil_append, joinN_one]; exact (nil_ba x).symm
  | append_singleton xs y ih =>
    intro x
    rw [joinN_snoc _ _ (by simp), ih, linesN_snoc]
theorem linesN_from (a : ByteArray) : ∀ xs : List ByteArray, xs.foldl (fun s x => s ++ x ++ nl) a = a ++ linesN xs := by
  intro xs
  induction xs using snocInd with
  | nil => exact (ba_nil a).symm
  | append_singleton xs y ih => rw [List.foldl_append, linesN_snoc, ih]; show a ++ linesN xs ++ y ++ nl = _; rw [ba_assoc, ba_assoc, ba_assoc]
theorem linesN_app (xs ys : List ByteArray) : linesN (xs ++ ys) = linesN xs ++ linesN ys := by
  conv => lhs; unfold linesN
  rw [List.foldl_append, linesN_from]; rfl
theorem linesN_cons (x : ByteArray) (ys : List ByteArray) : linesN (x :: ys) = x ++ nl ++ linesN ys := by
  rw [show x :: ys = [x] ++ ys from rfl, linesN_app]
  rfl

theorem textB_from (a : ByteArray) : ∀ l : List Gl, l.foldl (fun s g => s ++ g.text) a = a ++ textB l := by
  intro l
  induction l using snocInd with
  | nil => exact (ba_nil a).symm
  | append_singleton xs y ih =>
    rw [List.foldl_append]
    conv => rhs; unfold textB
    rw [List.foldl_append, ih]
    show a ++ textB xs ++ y.text = a ++ (textB xs ++ y.text)
    rw [ba_assoc]
theorem textB_app (l m : List Gl) : textB (l ++ m) = textB l ++ textB m := by
  conv => lhs; unfold textB
  rw [List.foldl_append, textB_from]; rfl
theorem textB_nil : textB [] = ⟨#[]⟩ := rfl
theorem textB_one (g : Gl) : textB [g] = g.text := nil_ba _
theorem textB_cons (g : Gl) (l : List Gl) : textB (g :: l) = g.text ++ textB l := by
  rw [show g :: l = [g] ++ l from rfl, textB_app, textB_one]
theorem textB_part (l : List Gl) (a b : Nat) (h : a ≤ b) : textB (l.take a) ++ textB ((l.take b).drop a) = textB (l.take b) := by
  rw [← textB_app]
  congr 1
  have e : l.take a = (l.take b).take a := by rw [List.take_take, Nat.min_eq_left h]
  rw [e, List.take_append_drop]

/-- The index of a column, within a row. -/
def cidx (l : List Gl) (c : Int) : Nat := min (idx l c).toNat l.length
theorem idx_nonneg : ∀ (l : List Gl) (c : Int), 0 ≤ c → 0 ≤ idx l c
  | [], c, h => h
  | g :: l, c, h => by
    unfold idx
    split
    · omega
    · rename_i h1
      have := idx_nonneg l (c - glW g) (by omega)
      omega
theorem idx_mono : ∀ (l : List Gl) (a b : Int), a ≤ b → idx l a ≤ idx l b ∨ a < 0
  | [], a, b, h => Or.inl h
  | g :: l, a, b, h => by
    by_cases h0 : a < 0
    · exact .inr h0
    · left
      unfold idx
      by_cases h1 : a < glW g
      · rw [if_pos h1]
        split
        · omega
        · have := idx_nonneg l (b - glW g) (by omega); omega
      · rw [if_neg h1, if_neg (by omega)]
        rcases idx_mono l (a - glW g) (b - glW g) (by omega) with h2 | h2
        · omega
        · omega
theorem cidx_mono (l : List Gl) {a b : Int} (h0 : 0 ≤ a) (h : a ≤ b) : cidx l a ≤ cidx l b := by
  unfold cidx
  rcases idx_mono l a b h with h1 | h1
  · omega
  · omega
theorem cidx_le (l : List Gl) (c : Int) : cidx l c ≤ l.length := by unfold cidx; omega
theorem idx_zero : ∀ l : List Gl, idx l 0 = 0
  | [] => rfl
  | g :: l => by unfold idx; rw [if_pos (by have := glW_pos g; omega)]
theorem cidx_zero (l : List Gl) : cidx l 0 = 0 := by unfold cidx; rw [idx_zero]; simp
theorem idx_end : ∀ (l : List Gl) (c : Int), (widthOf l : Int) ≤ c → (l.length : Int) ≤ idx l c
  | [], c, h => by
    simp [widthOf] at h
    show (0 : Int) ≤ c
    exact h
  | g :: l, c, h => by
    have hw : widthOf (g :: l) = glW g + widthOf l := by simp [widthOf]
    unfold idx
    rw [if_neg (by omega)]
    have := idx_end l (c - glW g) (by omega)
    simp only [List.length_cons]; omega
theorem cidx_end (l : List Gl) (c : Int) (h : (widthOf l : Int) ≤ c) : cidx l c = l.length := by
  have := idx_end l c h
  unfold cidx; omega

def rowOf (v : Vw) (y : Nat) : List Gl := v.rows[y]?.getD []
def posB (v : Vw) (r c : Int) : Bool := ((decide (0 ≤ r) && decide (r < v.height)) && decide (0 ≤ c)) && decide (c ≤ v.width)
/-- The part of a row between two positions. -/
def lineB (v : Vw) (fr fc tr tc : Int) (y : Nat) : ByteArray :=
  textB (((rowOf v y).take (if (y : Int) = tr then cidx (rowOf v y) tc else (rowOf v y).length)).drop (if (y : Int) = fr then cidx (rowOf v y) fc else 0))
def betE (v : Vw) (fr fc tr tc : Int) : Int :=
  if v.err ≠ 0 then v.err else if posB v fr fc = false then 2 else if posB v tr tc = false then 2 else if tr < fr then 10 else if tr = fr ∧ tc < fc then 10 else 0
/-- The lines from row a on, n of them. -/
def linesFrom (f : Nat → ByteArray) (a n : Nat) : List ByteArray := (List.range n).map fun k => f (a + k)
theorem linesFrom_succ (f : Nat → ByteArray) (a n : Nat) : linesFrom f a (n + 1) = linesFrom f a n ++ [f (a + n)] := by
  unfold linesFrom; rw [List.range_succ, List.map_append]; rfl
theorem linesFrom_len (f : Nat → ByteArray) (a n : Nat) : (linesFrom f a n).length = n := by simp [linesFrom]
theorem linesFrom_get (f : Nat → ByteArray) (a n k : Nat) (h : k < n) : (linesFrom f a n)[k]? = some (f (a + k)) := by
  unfold linesFrom; rw [List.getElem?_map, List.getElem?_range h]; rfl
theorem linesFrom_congr {f g : Nat → ByteArray} {a n : Nat} (h : ∀ k, k < n → f (a + k) = g (a + k)) : linesFrom f a n = linesFrom g a n := by
  unfold linesFrom; exact List.map_congr_left fun k hk => h k (List.mem_range.1 hk)
def betT (v : Vw) (fr fc tr tc : Int) : ByteArray :=
  if betE v fr fc tr tc = 0 then joinN (linesFrom (lineB v fr fc tr tc) fr.toNat (tr + 1 - fr).toNat) else ⟨#[]⟩

/-- The text of a view up to a position. -/
def upTo (v : Vw) (r : Nat) (i : Nat) : ByteArray := linesN (linesFrom (fun y => textB (rowOf v y)) 0 r) ++ textB ((rowOf v r).take i)

theorem posB_of {v : Vw} {r c : Int} (h : posB v r c = true) : 0 ≤ r ∧ r < v.height ∧ 0 ≤ c ∧ c ≤ v.width := by
  unfold posB at h; simp at h; omega
theorem betE_ok {v : Vw} {fr fc tr tc : Int} (h : betE v fr fc tr tc = 0) : v.err = 0 ∧ posB v fr fc = true ∧ posB v tr tc = true ∧ (fr < tr ∨ fr = tr ∧ fc ≤ tc) := by
  unfold betE at h
  by_cases h0 : v.err = 0
  · rw [if_neg (by simp [h0])] at h
    cases h1 : posB v fr fc with
    | false => rw [if_pos h1] at h; omega
    | true =>
      rw [if_neg (by simp [h1])] at h
      cases h2 : posB v tr tc with
      | false => rw [if_pos h2] at h; omega
      | true =>
        rw [if_neg (by simp [h2])] at h
        by_cases h3 : tr < fr
        · rw [if_pos h3] at h; omega
        · rw [if_neg h3] at h
          by_cases h4 : tr = fr ∧ tc < fc
          · rw [if_pos h4] at h; omega
          · exact ⟨h0, rfl, rfl, by omega⟩
  · rw [if_pos h0] at h; exact absurd h h0
theorem betE_of {v : Vw} {fr fc tr tc : Int} (h0 : v.err = 0) (h1 : posB v fr fc = true) (h2 : posB v tr tc = true) (h3 : fr < tr ∨ fr = tr ∧ fc ≤ tc) : betE v fr fc tr tc = 0 := by
  unfold betE
  rw [if_neg (by simp [h0]), if_neg (by simp [h1]), if_neg (by simp [h2]), if_neg (by omega), if_neg (by omega)]

theorem linesFrom_app (f : Nat → ByteArray) (a m n : Nat) : linesFrom f a (m + n) = linesFrom f a m ++ linesFrom f (a + m) n := by
  induction n with
  | zero => simp [linesFrom]
  | succ n ih => rw [← Nat.add_assoc, linesFrom_succ, ih, linesFrom_succ, List.append_assoc, Nat.add_assoc]
theorem upTo_between (v : Vw) (fr fc tr tc : Int) (h : betE v fr fc tr tc = 0) :
    upTo v fr.toNat (cidx (rowOf v fr.toNat) fc) ++ betT v fr fc tr tc = upTo v tr.toNat (cidx (rowOf v tr.toNat) tc) := by
  obtain ⟨-, h1, h2, h3⟩ := betE_ok h
  have p1 := posB_of h1
  have p2 := posB_of h2
  unfold betT
  rw [if_pos h]
  obtain ⟨a, rfl⟩ : ∃ a : Nat, fr = a := ⟨fr.toNat, by omega⟩
  obtain ⟨b, rfl⟩ : ∃ b : Nat, tr = b := ⟨tr.toNat, by omega⟩
  simp only [Int.toNat_natCast]
  by_cases hab : a = b
  · subst hab
    rw [show ((a : Int) + 1 - a).toNat = 0 + 1 by omega, linesFrom_succ, show linesFrom (lineB v a fc a tc) a 0 = [] from rfl, List.nil_append, joinN_one]
    unfold lineB upTo
    rw [Nat.add_zero, if_pos rfl, if_pos rfl, ba_assoc, textB_part _ _ _ (cidx_mono _ p1.2.2.1 (by omega))]
  · obtain ⟨d, rfl⟩ : ∃ d, b = a + 1 + d := ⟨b - (a + 1), by omega⟩
    rw [show (((a + 1 + d : Nat) : Int) + 1 - a).toNat = 1 + d + 1 by omega, linesFrom_succ, joinN_lines, linesFrom_app]
    unfold upTo
    rw [linesFrom_app (fun y => textB (rowOf v y)) 0 (a + 1) d, linesFrom_app (fun y => textB (rowOf v y)) 0 a 1, linesN_app, linesN_app, linesN_app]
    have e1 : linesFrom (lineB v a fc (a + 1 + d : Nat) tc) a 1 = [textB ((rowOf v a).drop (cidx (rowOf v a) fc))] := by
      show [lineB v a fc (a + 1 + d : Nat) tc (a + 0)] = _
      unfold lineB
      rw [Nat.add_zero, if_neg (show ¬ ((a : Nat) : Int) = ((a + 1 + d : Nat) : Int) by omega), if_pos rfl, List.take_length]
    have e2 : linesFrom (fun y => textB (rowOf v y)) (0 + a) 1 = [textB (rowOf v a)] := by
      rw [Nat.zero_add]; rfl
    have e3 : linesFrom (lineB v a fc (a + 1 + d : Nat) tc) (a + 1) d = linesFrom (fun y => textB (rowOf v y)) (0 + (a + 1)) d := by
      rw [Nat.zero_add]
      refine linesFrom_congr fun k hk => ?_
      unfold lineB
      rw [if_neg (by omega), if_neg (by omega), List.take_length, List.drop_zero]
    have e4 : lineB v a fc (a + 1 + d : Nat) tc (a + (1 + d)) = textB ((rowOf v (a + 1 + d)).take (cidx (rowOf v (a + 1 + d)) tc)) := by
      unfold lineB
      rw [← Nat.add_assoc, if_pos rfl, if_neg (by omega), List.drop_zero]
    rw [e1, e2, e3, e4, linesN_cons, linesN_cons]
    have e5 : linesN [] = ⟨#[]⟩ := rfl
    rw [e5, ba_nil, ba_nil]
    have e6 := textB_part (rowOf v a) (cidx (rowOf v a) fc) (rowOf v a).length (cidx_le _ _)
    rw [List.take_length] at e6
    rw [← e6]
    simp only [ba_assoc]

/-- P45.2: text that is copied up to a position and from there on. -/
theorem bet_parts (v : Vw) (ar ac br bc cr cc : Int) (h1 : betE v ar ac br bc = 0) (h2 : betE v br bc cr cc = 0) :
    betE v ar ac cr cc = 0 ∧ betT v ar ac cr cc = betT v ar ac br bc ++ betT v br bc cr cc := by
  obtain ⟨q0, q1, q2, q3⟩ := betE_ok h1
  obtain ⟨-, q4, q5, q6⟩ := betE_ok h2
  have h3 : betE v ar ac cr cc = 0 := betE_of q0 q1 q5 (by omega)
  refine ⟨h3, ?_⟩
  have e1 := upTo_between v ar ac br bc h1
  have e2 := upTo_between v br bc cr cc h2
  have e3 := upTo_between v ar ac cr cc h3
  rw [← e1, ba_assoc, ← e3] at e2
  exact (ba_cancel e2).symm

/-- Whole rows. -/
def linE (v : Vw) (a b : Int) : Int := if v.err ≠ 0 then v.err else if a < 0 then 2 else if b < a then 2 else if v.height < b then 2 else 0
def linT (v : Vw) (a b : Int) : ByteArray := if linE v a b = 0 then joinN (linesFrom (fun y => textB (rowOf v y)) a.toNat (b - a).toNat) else ⟨#[]⟩

/-- P45.2: the text of a whole view is its lines. -/
theorem bet_whole (v : Vw) (h : v.ok = true) : betE v 0 0 (v.height - 1) v.width = 0 ∧ linE v 0 v.height = 0 ∧ betT v 0 0 (v.height - 1) v.width = linT v 0 v.height := by
  have hp := Vw.proper h
  have h1 := hp.h1
  have h2 := hp.w1
  have h0 : v.err = 0 := by unfold Vw.ok at h; simpa using h
  have e1 : betE v 0 0 (v.height - 1) v.width = 0 := betE_of h0 (by unfold posB; simp; omega) (by unfold posB; simp; omega) (by omega)
  have e2 : linE v 0 v.height = 0 := by unfold linE; rw [if_neg (by simp [h0]), if_neg (by omega), if_neg (by omega), if_neg (by omega)]
  refine ⟨e1, e2, ?_⟩
  unfold betT linT
  rw [if_pos e1, if_pos e2]
  congr 1
  rw [show (v.height - 1 + 1 - 0).toNat = (v.height - 0).toNat by omega]
  refine linesFrom_congr fun k hk => ?_
  unfold lineB
  have hw : (widthOf (rowOf v ((0 : Int).toNat + k)) : Int) ≤ v.width := by
    have hk' : k < v.rows.length := by have := hp.len; omega
    have : rowOf v ((0 : Int).toNat + k) = v.rows[k] := by unfold rowOf; simp [List.getElem?_eq_getElem hk']
    rw [this]
    exact rowErr_width (hp.rows _ (List.getElem_mem hk'))
  have ht : (if (((0 : Int).toNat + k : Nat) : Int) = v.height - 1 then cidx (rowOf v ((0 : Int).toNat + k)) v.width else (rowOf v ((0 : Int).toNat + k)).length) = (rowOf v ((0 : Int).toNat + k)).length := by
    split
    · exact cidx_end _ _ hw
    · rfl
  have hd : (if (((0 : Int).toNat + k : Nat) : Int) = 0 then cidx (rowOf v ((0 : Int).toNat + k)) 0 else 0) = 0 := by
    split
    · exact cidx_zero _
    · rfl
  rw [ht, hd, List.take_length, List.drop_zero]

theorem count_join : ∀ (xs : List ByteArray), xs.length ≤ (joinN xs).data.toList.count 10 + 1 := by
  intro xs
  induction xs using snocInd with
  | nil => simp
  | append_singleton xs y ih =>
    by_cases h : xs = []
    · subst h; simp
    · rw [joinN_snoc _ _ h, ba_app, ba_app, List.count_append, List.count_append]
      have : (nl.data.toList.count 10) = 1 := rfl
      simp only [List.length_append, List.length_cons, List.length_nil]; omega

/-- Sizes. -/
theorem linesFrom_size (f : Nat → ByteArray) (M : Nat) : ∀ (n a : Nat), (∀ k, k < n → (f (a + k)).size ≤ M) → (linesN (linesFrom f a n)).size ≤ n * (M + 1)
  | 0, a, _ => by simp [linesFrom, linesN, ByteArray.size]
  | n + 1, a, h => by
    have h1 := linesFrom_size f M n a fun k hk => h k (by omega)
    have h2 := h n (by omega)
    rw [linesFrom_succ, linesN_snoc, ByteArray.size_append, ByteArray.size_append, Nat.add_mul]
    have : nl.size = 1 := rfl
    omega
theorem joinN_size (f : Nat → ByteArray) (M n a : Nat) (h : ∀ k, k < n → (f (a + k)).size ≤ M) : (joinN (linesFrom f a n)).size ≤ n * (M + 1) := by
  cases n with
  | zero => rw [show linesFrom f a 0 = [] from rfl, joinN_nil]; simp [ByteArray.size]
  | succ n =>
    have h1 := linesFrom_size f M n a fun k hk => h k (by omega)
    have h2 := h n (by omega)
    rw [linesFrom_succ, joinN_lines, ByteArray.size_append, Nat.add_mul]
    omega
end Go.Proofs.YtdkppdjonlldhaaGreatDoor
