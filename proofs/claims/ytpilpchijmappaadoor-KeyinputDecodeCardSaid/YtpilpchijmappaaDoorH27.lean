/- keyinput.Decode. -/
import Derived.Test.YtpilpchijmappaaDoorH26
import Derived.Test.YtpilpchijmappaaDoorH12
import Derived.Deep.DeepCutAuto
namespace Go.Proofs.YtpilpchijmappaaDoor
open Go.RowKit

/-- A key stored whole. -/
abbrev setKey (w : World) (b : Nat) (k : Key) : World := ((((w.setCell ⟨b, 0, none⟩ (.string k.name)).setCell ⟨b, 1, none⟩ (.int .i32 k.rune)).setCell ⟨b, 2, none⟩ (.bool k.control)).setCell ⟨b, 3, none⟩ (.bool k.alt)).setCell ⟨b, 4, none⟩ (.bool k.shift)
theorem block_set {w : World} {b i : Nat} {cs : Array Value} {t : TypeId} {fr : Nat × Nat} (h : w.heap[b]? = some (.cells cs t fr)) (u : Value) : (w.setCell ⟨b, i, none⟩ u).heap[b]? = some (.cells (cs.setIfInBounds i u) t fr) := by
  simp [World.setCell, Array.getElem?_modify, h]
theorem KeyBox.set {w : World} {b : Nat} {k0 : Key} (h : KeyBox w b k0) (k : Key) : KeyBox (setKey w b k) b k := by
  unfold KeyBox at *
  have h1 := block_set (i := 4) (block_set (i := 3) (block_set (i := 2) (block_set (i := 1) (block_set (i := 0) h (.string k.name)) (.int .i32 k.rune)) (.bool k.control)) (.bool k.alt)) (.bool k.shift)
  simpa using h1
theorem setKey_far {w : World} {b b' : Nat} {o : Obj} (h : w.heap[b']? = some o) (hb : b' ≠ b) (k : Key) : (setKey w b k).heap[b']? = some o :=
  block_far (block_far (block_far (block_far (block_far h hb _) hb _) hb _) hb _) hb _
theorem setKey_below {B : Nat} {a w : World} {b : Nat} (h : Below B a w) (hb : B ≤ b) (k : Key) : Below B a (setKey w b k) := ((((h.setCell hb _).setCell hb _).setCell hb _).setCell hb _).setCell hb _
theorem setKey_keys {w : World} {g b : Nat} (h : KeysAt w g) (hb : b ≠ g) (k : Key) : KeysAt (setKey w b k) g := ((((h.far hb _).far hb _).far hb _).far hb _).far hb _
theorem setKey_size (w : World) (b : Nat) (k : Key) : (setKey w b k).heap.size = w.heap.size := by simp [setKey, World.setCell]

def begB (l : List UInt8) : Bool := decide (l = []) || incB l
theorem full_beg (l : List UInt8) : (!fullB l) = begB l := by unfold fullB begB; simp
theorem single_nil : singleV [] = (zeroKey, 0) := rfl
theorem singleV_esc (t : List UInt8) : singleV (27 :: t) = (zeroKey, 0) := by unfold singleV; rw [single_esc]; rfl
theorem singleV_ok (s : List UInt8) : (singleV s).2 ≤ s.length ∧ ((singleV s).2 = 0 → singleV s = (zeroKey, 0)) := by
  unfold singleV
  cases h : singleL s with
  | none => exact ⟨Nat.zero_le _, fun _ => rfl⟩
  | some x =>
    obtain ⟨k, n⟩ := x
    obtain ⟨-, -, -, -, h1, h2⟩ := single_ok h
    exact ⟨h2, fun h => absurd h (by show n ≠ 0; omega)⟩
theorem headP_plain {s : List UInt8} (h : ∀ t, s ≠ 27 :: t) : headP s = singleV s := by
  unfold headP
  match s, h with
  | [], _ => rfl
  | b :: t, h =>
    dsimp only
    by_cases hb : b = 27
    · exact absurd (by rw [hb]) (h t)
    · rw [if_neg hb]; rfl
theorem headP_esc (t : List UInt8) : headP (27 :: t) = if 0 < (singleV t).2 then (withAlt (singleV t).1, (singleV t).2 + 1) else (zeroKey, 0) := by
  unfold headP singleV
  dsimp only
  rw [if_pos rfl]
  cases h : singleL t with
  | none => rfl
  | some x =>
    obtain ⟨k, n⟩ := x
    obtain ⟨-, -, -, -, h1, -⟩ := single_ok h
    dsimp only [Option.getD_some]
    rw [if_pos (by omega)]
theorem esc_prefix (s : List UInt8) : ([27] : List UInt8).isPrefixOf s = true ↔ ∃ t, s = 27 :: t := by
  cases s with
  | nil => simp [List.isPrefixOf]
  | cons b t =>
    constructor
    · intro h
      simp [List.isPrefixOf] at h
      exact ⟨t, by rw [h]⟩
    · rintro ⟨t', h⟩
      cases h
      simp [List.isPrefixOf]

def foldTo (app nl : Bool) (l : List UInt8) (i : Nat) : Key × Nat := (namedKeys.take i).foldl (bestStep app nl l) (headP l)
def shTo (app nl : Bool) (l : List UInt8) (i : Nat) : Bool := begB l || (namedKeys.take i).any fun k => l.isPrefixOf (keyEnc app nl k)
theorem foldTo_succ {app nl : Bool} {l : List UInt8} {i : Nat} {k : Key} (h : namedKeys[i]? = some k) : foldTo app nl l (i + 1) = bestStep app nl l (foldTo app nl l i) k := by
  obtain ⟨hl, hx⟩ := List.getElem?_eq_some_iff.1 h
  unfold foldTo
  rw [List.take_succ_eq_append_getElem hl, List.foldl_append, hx]
  rfl
theorem shTo_succ {app nl : Bool} {l : List UInt8} {i : Nat} {k : Key} (h : namedKeys[i]? = some k) : shTo app nl l (i + 1) = (shTo app nl l i || l.isPrefixOf (keyEnc app nl k)) := by
  obtain ⟨hl, hx⟩ := List.getElem?_eq_some_iff.1 h
  unfold shTo
  rw [List.take_succ_eq_append_getElem hl, List.any_append, hx]
  simp [Bool.or_assoc]
theorem foldTo_all (app nl : Bool) (l : List UInt8) : foldTo app nl l namedKeys.length = decP app nl l := by unfold foldTo decP; rw [List.take_length]
theorem shTo_all (app nl : Bool) (l : List UInt8) : shTo app nl l namedKeys.length = shortB app nl l := by unfold shTo shortB begB; rw [List.take_length]
theorem bestStep_le (app nl : Bool) (l : List UInt8) (b : Key × Nat) (k : Key) (hb : b.2 ≤ l.length) : (bestStep app nl l b k).2 ≤ l.length := by
  unfold bestStep
  by_cases h : ((keyEnc app nl k).isPrefixOf l && decide (b.2 < (keyEnc app nl k).length)) = true
  · rw [if_pos h]
    rw [Bool.and_eq_true, List.isPrefixOf_iff_prefix] at h
    exact h.1.length_le
  · rw [if_neg h]; exact hb
theorem headP_le (l : List UInt8) : (headP l).2 ≤ l.length := by
  rcases head_found false false l with h | ⟨-, -, -, h⟩
  · rw [h]; exact Nat.zero_le _
  · exact h
theorem foldTo_le (app nl : Bool) (l : List UInt8) : ∀ i, (foldTo app nl l i).2 ≤ l.length
  | 0 => by unfold foldTo; simpa using headP_le l
  | i + 1 => by
    by_cases h : i < namedKeys.length
    · rw [foldTo_succ (List.getElem?_eq_getElem h)]
      exact bestStep_le _ _ _ _ _ (foldTo_le app nl l i)
    · have : foldTo app nl l (i + 1) = foldTo app nl l i := by unfold foldTo; rw [List.take_of_length_le (by omega), List.take_of_length_le (by omega)]
      rw [this]; exact foldTo_le app nl l i

/-- What Decode returns. -/
def decKey (app nl : Bool) (l : List UInt8) : Key := (decP app nl l).1
def DecRet (app nl : Bool) (l : List UInt8) (e : Ending) : Prop := e = .returned (.tuple #[(decP app nl l).1.val, .int .i64 ((decP app nl l).2 : Int), .int .i64 (decErr app nl l)])
theorem decP_zero {app nl : Bool} {l : List UInt8} (h : (decP app nl l).2 = 0) : decP app nl l = (zeroKey, 0) := by
  rcases (decP_found app nl l).1 with h1 | ⟨-, -, h1, -⟩
  · exact h1
  · omega
end Go.Proofs.YtpilpchijmappaaDoor
