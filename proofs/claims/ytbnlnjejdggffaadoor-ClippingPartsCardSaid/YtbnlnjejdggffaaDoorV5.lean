/- narratorref01.Decode: a chunk's characters. -/
import Derived.Test.YtbnlnjejdggffaaDoorV4
import Derived.Deep.QuietTactic
import Derived.BigQuiet
namespace Go.Proofs.YtbnlnjejdggffaaDoor
open Go.RowKit

/-- What the loop comes to from the bytes that are left, the kept bytes and the characters so far. -/
def decFrom : List UInt8 → List UInt8 → List Int → List Int × List UInt8
  | [], kept, out => (out, kept)
  | b :: rest, [], out => if b.toNat < 0x80 then decFrom rest [] (out ++ [(b.toNat : Int)]) else if 0 < limSize b.toNat then decFrom rest [b] out else decFrom rest [] (out ++ [0xFFFD])
  | b :: rest, k0 :: ks, out =>
    if b.toNat < limLow (ks.length + 1) k0.toNat ∨ limHigh (ks.length + 1) k0.toNat < b.toNat then
      if b.toNat < 0x80 then decFrom rest [] ((out ++ [0xFFFD]) ++ [(b.toNat : Int)]) else if 0 < limSize b.toNat then decFrom rest [b] (out ++ [0xFFFD]) else decFrom rest [] ((out ++ [0xFFFD]) ++ [0xFFFD])
    else if ks.length + 2 = limSize k0.toNat then decFrom rest [] (out ++ [valueL (k0 :: ks ++ [b])]) else decFrom rest (k0 :: ks ++ [b]) out

theorem decFrom_low {b : UInt8} {rest : List UInt8} {out : List Int} (h : b.toNat < 0x80) : decFrom (b :: rest) [] out = decFrom rest [] (out ++ [(b.toNat : Int)]) := by rw [decFrom, if_pos h]
theorem decFrom_lead {b : UInt8} {rest : List UInt8} {out : List Int} (h : ¬ b.toNat < 0x80) (h2 : 0 < limSize b.toNat) : decFrom (b :: rest) [] out = decFrom rest [b] out := by rw [decFrom, if_neg h, if_pos h2]
theorem decFrom_junk {b : UInt8} {rest : List UInt8} {out : List Int} (h : ¬ b.toNat < 0x80) (h2 : ¬ 0 < limSize b.toNat) : decFrom (b :: rest) [] out = decFrom rest [] (out ++ [0xFFFD]) := by rw [decFrom, if_neg h, if_neg h2]
theorem decFrom_bad {b k0 : UInt8} {ks rest : List UInt8} {out : List Int} (h : b.toNat < limLow (ks.length + 1) k0.toNat ∨ limHigh (ks.length + 1) k0.toNat < b.toNat) : decFrom (b :: rest) (k0 :: ks) out = decFrom (b :: rest) [] (out ++ [0xFFFD]) := by
  simp only [decFrom]; rw [if_pos h]
theorem decFrom_full {b k0 : UInt8} {ks rest : List UInt8} {out : List Int} (h : ¬ (b.toNat < limLow (ks.length + 1) k0.toNat ∨ limHigh (ks.length + 1) k0.toNat < b.toNat)) (h2 : ks.length + 2 = limSize k0.toNat) :
    decFrom (b :: rest) (k0 :: ks) out = decFrom rest [] (out ++ [valueL (k0 :: (ks ++ [b]))]) := by rw [decFrom, if_neg h, if_pos h2]; rfl
theorem decFrom_more {b k0 : UInt8} {ks rest : List UInt8} {out : List Int} (h : ¬ (b.toNat < limLow (ks.length + 1) k0.toNat ∨ limHigh (ks.length + 1) k0.toNat < b.toNat)) (h2 : ¬ ks.length + 2 = limSize k0.toNat) :
    decFrom (b :: rest) (k0 :: ks) out = decFrom rest (k0 :: (ks ++ [b])) out := by rw [decFrom, if_neg h, if_neg h2]; rfl

theorem limSize_le (b : Nat) : limSize b ≤ 4 := by unfold limSize; repeat' split
                                                   all_goals omega
theorem limLow_lt (n b : Nat) : limLow n b < 256 := by unfold limLow; repeat' split
                                                       all_goals omega
theorem limHigh_lt (n b : Nat) : limHigh n b < 256 := by unfold limHigh; repeat' split
                                                         all_goals omega
def KeptOK (kept : List UInt8) : Prop := ∀ k0 ks, kept = k0 :: ks → ks.length + 1 < limSize k0.toNat
theorem keptOK_one {b : UInt8} (h : 0 < limSize b.toNat) : KeptOK [b] := fun k0 ks e => by
  cases e
  revert h
  unfold limSize
  simp only [List.length_nil, Nat.zero_add]
  repeat' split
  all_goals omega
theorem drop_cons (l : List UInt8) (k : Nat) (hk : k < l.length) : l.drop k = l[k] :: l.drop (k + 1) := List.drop_eq_getElem_cons hk

def DecPost (s : List UInt8) (w : World) (e : Ending) (w' : World) : Prop :=
  ∃ A c, e = .returned (.tuple #[.slice A (decFrom s [] []).1.length c, .string ⟨(decFrom s [] []).2.toArray⟩]) ∧ RnRow w' w'.heap.size A (decFrom s [] []).1 ∧ Below w.heap.size w w'

theorem decPost_mk {s kept : List UInt8} {out : List Int} {w w' : World} {A : Option Addr} {c : Nat} (h : decFrom s [] [] = (out, kept)) (hs : RnRow w' w'.heap.size A out) (hb : Below w.heap.size w w') :
    DecPost s w (.returned (.tuple #[.slice A out.length c, .string ⟨kept.toArray⟩])) w' := ⟨A, c, by rw [h], by rw [h]; exact hs, hb⟩

end Go.Proofs.YtbnlnjejdggffaaDoor
