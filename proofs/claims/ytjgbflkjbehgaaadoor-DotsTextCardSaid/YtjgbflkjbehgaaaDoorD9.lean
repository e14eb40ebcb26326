/- Dots: dots.Text. -/
import Derived.Test.YtjgbflkjbehgaaaDoorD4
import Derived.Test.YtjgbflkjbehgaaaDoorBr
namespace Go.Proofs.YtjgbflkjbehgaaaDoor
open Go.RowKit Go.Shelf

def brE (b : UInt8) : List UInt8 := Lib.encodeRune (10240 + (b.toNat : Int))
/-- The text of cells. -/
def textL (l : List UInt8) : List UInt8 := l.flatMap brE
theorem brE_len (b : UInt8) : (brE b).length = 3 := by
  have : ∀ n : Fin 256, (Lib.encodeRune (10240 + ((n.val : Nat) : Int))).length = 3 := by decide +kernel
  exact this ⟨b.toNat, b.toNat_lt⟩
theorem textL_len (l : List UInt8) : (textL l).length = l.length * 3 := by
  unfold textL
  induction l with
  | nil => rfl
  | cons b l ih => rw [List.flatMap_cons, List.length_append, ih, brE_len, List.length_cons]; omega
theorem textL_app (a b : List UInt8) : textL (a ++ b) = textL a ++ textL b := by simp [textL]
theorem textL_snoc (l : List UInt8) (k : Nat) (h : k < l.length) : textL (l.take (k + 1)) = textL (l.take k) ++ brE l[k] := by
  rw [List.take_succ_eq_append_getElem h, textL_app]; simp [textL]
abbrev ByteAt : World → Nat → Nat → UInt8 → Prop := One fun b => .int .u8 b.toNat

set_option maxHeartbeats 1000000 in
theorem textP (w : World) (A : Option Addr) (c : Nat) (l : List UInt8) (h : Sl ByteAt 1 w w.heap.size A l) (hl : l.length ≤ 200) :
    Calls Tryd.prog 19 #[.slice A l.length c] w fun e w' => e = .returned (.string ⟨(textL l).toArray⟩) ∧ Below w.heap.size w w' := by
  have HH := hide h
  clear h
  obtain ⟨n, hn⟩ : ∃ n, l.length = n := ⟨_, rfl⟩
  have Hn := hide hn
  rw [hn] at hl ⊢
  clear hn
  go_enter Tryd.func19, Tryd.ntmps19
  go_wp2
  go_loopw [8] (fun i wr => ∃ k : Nat, k ≤ n ∧ i = .int .i64 k ∧ Lib.IsBuilderF 51 5 w.heap.size w.heap.size (Lib.byteCells (textL (l.take k))) wr ∧ Below w.heap.size w wr) (fun i _ => n - (intOf i).toNat)
  case atStart => exact ⟨0, Nat.zero_le _, rfl, Lib.IsBuilderF.of (Lib.fresh_isBuilder 51 5 w), (Below.refl _ w).alloc (Nat.le_refl _) _⟩
  case round =>
    rename World => wo
    obtain ⟨k, hk, rfl, hI, hb⟩ := hrel
    have hs := hb.size
    have hl3 := textL_len (l.take k)
    rw [List.length_take, Hn.out, Nat.min_eq_left hk] at hl3
    by_cases hlt : k < n
    · obtain ⟨bk, off, rfl, hbb, c0⟩ := (HH.out.below (One.stays _ _) hb).get1 (show k < l.length by rw [Hn.out]; exact hlt)
      have HS := hide (textL_snoc l k (by rw [Hn.out]; exact hlt))
      obtain ⟨x, hx⟩ : ∃ x, l[k]'(by rw [Hn.out]; exact hlt) = x := ⟨_, rfl⟩
      rw [hx] at c0 HS
      have hxl := x.toNat_lt
      have Hl3 := hide hl3
      clear hx hl3
      unfold ByteAt One at c0
      go_wp2_with (first
        | (go_at_call 18; refine (runeP _ x.toNat (by omega)).mono ?_; rintro e w1 ⟨rfl, rfl⟩)
        | (go_at_call 25; refine (Any.Builder_WriteRune_k laysWriteRune writeRuneX w.heap.size w.heap.size _ _ (by omega) (by omega) _ hI (by rw [Lib.byteCells_length, Hl3.out]; omega) hs).mono ?_; rintro e w2 ⟨rfl, h1, b1, k1⟩)
        | fail)
      go_roundw
      case rel =>
        refine ⟨k + 1, by omega, by go_num, ?_, hb.trans b1⟩
        rw [HS.out, Lib.byteCells_append, brE, Lib.byteCells_encodeRune]
        exact Or.inr h1
      case measure => simp [intOf]; omega
    · obtain rfl : k = n := by omega
      clear hl3
      have HT := hide (show l.take k = l by rw [← Hn.out, List.take_length])
      go_wp2_with (go_at_call 26; refine (Any.Builder_String_any_k laysString stringX w.heap.size w.heap.size _ _ hI hs).mono ?_; rintro e w2 ⟨rfl, _, b1, _⟩)
      go_ret
      exact ⟨by rw [HT.out]; rfl, hb.trans b1⟩
end Go.Proofs.YtjgbflkjbehgaaaDoor
