/- narratorref01: the limits of the next byte, the value of a sequence. -/
import Derived.Test.YtdkppdjonlldhaaGreatDoorMem2
namespace Go.Proofs.YtdkppdjonlldhaaGreatDoor
open Go.RowKit

def byteV (b : UInt8) : Value := .int .u8 b.toNat
theorem el_byte : ElemOf Tryz.prog 73 5 (.int .u8 0) 1 1 := ⟨Tryz.underlying73, by kernel_rfl, rfl, by decide, by decide⟩

def limSize (b : Nat) : Nat := if 0xC2 ≤ b ∧ b ≤ 0xDF then 2 else if 0xE0 ≤ b ∧ b ≤ 0xEF then 3 else if 0xF0 ≤ b ∧ b ≤ 0xF4 then 4 else 0
def limLow (n b : Nat) : Nat := if n = 1 then (if b = 0xE0 then 0xA0 else if b = 0xF0 then 0x90 else 0x80) else 0x80
def limHigh (n b : Nat) : Nat := if n = 1 then (if b = 0xED then 0x9F else if b = 0xF4 then 0x8F else 0xBF) else 0xBF

theorem tuple3 {k1 k2 k3 : IntKind} {a a' b b' c c' : Int} (h1 : a = a') (h2 : b = b') (h3 : c = c') : Ending.returned (.tuple #[.int k1 a, .int k2 b, .int k3 c]) = .returned (.tuple #[.int k1 a', .int k2 b', .int k3 c']) := by rw [h1, h2, h3]

set_option maxHeartbeats 400000 in
theorem limits01 (w : World) (b off n c b0 : Nat) (hn : 0 < n) (hn2 : n ≤ 8000000) (hb : b0 < 256) (h : w.cell? ⟨b, off, none⟩ = some (.int .u8 b0)) :
    Calls Tryz.prog 96 #[.slice (some ⟨b, off, none⟩) n c] w fun e w' => e = .returned (.tuple #[.int .u8 (limLow n b0), .int .u8 (limHigh n b0), .int .i64 (limSize b0)]) ∧ w = w' := by
  have hz : ((n : Int) == 0) = false := by simp; omega
  go_enter Tryz.func96, Tryz.ntmps96
  go_wp2
  all_goals
    go_ret3
    refine ⟨tuple3 ?_ ?_ ?_, rfl⟩
    all_goals simp only [beq_iff_eq, beq_eq_false_iff_ne, ne_eq] at *
    · unfold limLow; repeat' split
      all_goals first | rfl | (exfalso; omega)
    · unfold limHigh; repeat' split
      all_goals first | rfl | (exfalso; omega)
    · unfold limSize; repeat' split
      all_goals first | rfl | (exfalso; omega)

def valTail (n : Int) (bs : List UInt8) : Int := bs.foldl (fun n b => n * 64 + (b.toNat : Int) - 0x80) n
theorem valTail_snoc (n : Int) (bs : List UInt8) (b : UInt8) : valTail n (bs ++ [b]) = valTail n bs * 64 + (b.toNat : Int) - 0x80 := by simp [valTail]
def valBase (len b : Nat) : Int := if len = 2 then (b : Int) - 0xC0 else if len = 3 then (b : Int) - 0xE0 else (b : Int) - 0xF0
def valueL : List UInt8 → Int
  | [] => 0
  | b :: bs => valTail (valBase (bs.length + 1) b.toNat) bs

/-- Bytes in cells. -/
abbrev ByRow (w : World) (B : Nat) (A : Option Addr) (l : List UInt8) : Prop := Sl (One byteV) 1 w B A l


theorem val_bounds (n : Int) (bs : List UInt8) (h0 : -240 ≤ n) (h1 : n ≤ 255) (hl : bs.length ≤ 2) : -3000000 ≤ valTail n bs ∧ valTail n bs ≤ 3000000 := by
  match bs, hl with
  | [], _ => simp [valTail]; omega
  | [x], _ => have := x.toNat_lt; simp [valTail]; omega
  | [x, y], _ => have := x.toNat_lt; have := y.toNat_lt; simp [valTail]; omega

set_option maxHeartbeats 400000 in
theorem value01 (w : World) (A : Option Addr) (c : Nat) (x : UInt8) (l : List UInt8) (h : ByRow w w.heap.size A (x :: l)) (h2 : 1 ≤ l.length) (h4 : l.length ≤ 3) :
    Calls Tryz.prog 97 #[.slice A (l.length + 1) c] w fun e w' => e = .returned (.int .i32 (valueL (x :: l))) ∧ w = w' := by
  obtain ⟨b, off, rfl, hb, hc⟩ := h (by simp)
  have c0 := hc 0 x rfl
  simp only [One, byteV, Nat.zero_mul, Nat.add_zero] at c0
  have hx := x.toNat_lt
  have tail : ∀ k (hk : k < l.length), w.cell? ⟨b, off + (k + 1), none⟩ = some (.int .u8 l[k].toNat) := fun k hk => by
    have := hc (k + 1) l[k] (by simp [hk])
    simpa [One, byteV] using this
  have HT := hide tail
  clear tail hc h
  obtain ⟨N, hN⟩ : ∃ N, valBase (l.length + 1) x.toNat = N := ⟨_, rfl⟩
  have hbase : ∀ q : Nat, (l.length + 1 = q) → valBase (l.length + 1) x.toNat = (if q = 2 then (x.toNat : Int) - 192 else if q = 3 then (x.toNat : Int) - 224 else (x.toNat : Int) - 240) := fun q hq => by rw [hq]; rfl
  have hN1 : -240 ≤ N := by rw [← hN]; unfold valBase; split <;> (try split) <;> omega
  have hN2 : N ≤ 255 := by rw [← hN]; unfold valBase; split <;> (try split) <;> omega
  have round : ∀ k, k < l.length → -3000000 ≤ valTail N (l.take k) ∧ valTail N (l.take k) ≤ 3000000 := fun k hk => val_bounds _ _ hN1 hN2 (by simp; omega)
  have HR := hide round
  have HN := hide hN
  have HB := hide hbase
  clear round hN hbase
  have go : ∀ q2 q3 q4 : Bool, (q2 = true ∧ l.length = 1 ∨ q2 = false ∧ (q3 = true ∧ l.length = 2 ∨ q3 = false ∧ q4 = true ∧ l.length = 3)) → ((l.length : Int) + 1 == 2) = q2 → ((l.length : Int) + 1 == 3) = q3 → ((l.length : Int) + 1 == 4) = q4 → Calls Tryz.prog 97 #[.slice (some ⟨b, off, none⟩) (l.length + 1) c] w fun e w' => e = .returned (.int .i32 (valueL (x :: l))) ∧ w = w' := by
    intro q2 q3 q4 hq h2 h3 h4'
    rcases hq with ⟨rfl, hl⟩ | ⟨rfl, ⟨rfl, hl⟩ | ⟨rfl, rfl, hl⟩⟩
    all_goals
      have HL := hide hl
      clear hl
      go_enter Tryz.func97, Tryz.ntmps97
      go_wp2
      go_loop [3, 4] (fun n i => ∃ k : Nat, k ≤ l.length ∧ i = .int .i64 (k + 1) ∧ n = .int .i32 (valTail N (l.take k))) (fun _ i => (l.length + 1) - (intOf i).toNat)
      case atStart =>
        refine ⟨0, Nat.zero_le _, rfl, int_eq ?_⟩
        rw [← HN.out, HB.out _ rfl, HL.out]
        simp [valTail]
      case round =>
        obtain ⟨k, hk, rfl, rfl⟩ := hrel
        by_cases hlt : k < l.length
        · obtain ⟨r1, r2⟩ := HR.out k hlt
          have ck := HT.out k hlt
          have hy := l[k].toNat_lt
          go_wp2
          go_round
          case rel => exact ⟨k + 1, by omega, by go_num, by rw [List.take_succ_eq_append_getElem hlt, valTail_snoc]⟩
          case measure => simp [intOf]; omega
        · go_wp2
          go_ret
          refine ⟨ret_int ?_, rfl⟩
          show valTail N (l.take k) = valTail (valBase (l.length + 1) x.toNat) l
          rw [HN.out, List.take_of_length_le (by omega)]
  rcases (show l.length = 1 ∨ l.length = 2 ∨ l.length = 3 by omega) with hl | hl | hl
  · exact go true false false (by simp [hl]) (by rw [hl]; rfl) (by rw [hl]; rfl) (by rw [hl]; rfl)
  · exact go false true false (by simp [hl]) (by rw [hl]; rfl) (by rw [hl]; rfl) (by rw [hl]; rfl)
  · exact go false false true (by simp [hl]) (by rw [hl]; rfl) (by rw [hl]; rfl) (by rw [hl]; rfl)
end Go.Proofs.YtdkppdjonlldhaaGreatDoor
