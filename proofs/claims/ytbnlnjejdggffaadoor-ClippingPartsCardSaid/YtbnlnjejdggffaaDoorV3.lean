/- narratorref01: the limits of the next byte, the value of a sequence. -/
import Derived.Test.YtbnlnjejdggffaaDoorMem2
namespace Go.Proofs.YtbnlnjejdggffaaDoor
open Go.RowKit

def byteV (b : UInt8) : Value := .int .u8 b.toNat
theorem el_byte : ElemOf Tryd.prog 58 5 (.int .u8 0) 1 1 := ⟨Tryd.underlying58, by kernel_rfl, rfl, by decide, by decide⟩

def limSize (b : Nat) : Nat := if 0xC2 ≤ b ∧ b ≤ 0xDF then 2 else if 0xE0 ≤ b ∧ b ≤ 0xEF then 3 else if 0xF0 ≤ b ∧ b ≤ 0xF4 then 4 else 0
def limLow (n b : Nat) : Nat := if n = 1 then (if b = 0xE0 then 0xA0 else if b = 0xF0 then 0x90 else 0x80) else 0x80
def limHigh (n b : Nat) : Nat := if n = 1 then (if b = 0xED then 0x9F else if b = 0xF4 then 0x8F else 0xBF) else 0xBF

theorem tuple3 {k1 k2 k3 : IntKind} {a a' b b' c c' : Int} (h1 : a = a') (h2 : b = b') (h3 : c = c') : Ending.returned (.tuple #[.int k1 a, .int k2 b, .int k3 c]) = .returned (.tuple #[.int k1 a', .int k2 b', .int k3 c']) := by rw [h1, h2, h3]

def valTail (n : Int) (bs : List UInt8) : Int := bs.foldl (fun n b => n * 64 + (b.toNat : Int) - 0x80) n
theorem valTail_snoc (n : Int) (bs : List UInt8) (b : UInt8) : valTail n (bs ++ [b]) = valTail n bs * 64 + (b.toNat : Int) - 0x80 := by simp [valTail]
def valBase (len b : Nat) : Int := if len = 2 then (b : Int) - 0xC0 else if len = 3 then (b : Int) - 0xE0 else (b : Int) - 0xF0
def valueL : List UInt8 → Int
  | [] => 0
  | b :: bs => valTail (valBase (bs.length + 1) b.toNat) bs

/-- Bytes in cells. -/
abbrev ByRow (w : World) (B : Nat) (A : Option Addr) (l : List UInt8) : Prop := Sl (One byteV) 1 w B A l


theorem val_bounds (n : Int) (bs : List UInt8) (h0 : -240 ≤ n) (h1 : n ≤ 255) (hl : bs.length ≤ 2) : -3000000 ≤ valTail n bs ∧ valTail n bs ≤ 3000000 := by
  match bs, hl with
  | [], _ => simp [valTail]; omega
  | [x], _ => have := x.toNat_lt; simp [valTail]; omega
  | [x, y], _ => have := x.toNat_lt; have := y.toNat_lt; simp [valTail]; omega

end Go.Proofs.YtbnlnjejdggffaaDoor
