/- Dots: the walks of the laws DotsRaised and DotsUnion. -/
import Derived.Test.YtjgbflkjbehgaaaDoorD5
namespace Go.Proofs.YtjgbflkjbehgaaaDoor
open Go.RowKit Go.Shelf

def digU (n : Nat) : UInt8 := UInt8.ofNat (48 + n)
/-- Whether a description holds a digit. -/
def hasD (c n : Nat) : Bool := decide (0 ≤ Lib.indexByte (fmtL c) (digU n))
theorem has_all : ∀ c : Nat, c < 256 → ∀ n : Nat, n < 8 → hasD c (n + 1) = bitN c n := by decide +kernel
theorem has_zero : ∀ c : Nat, c < 256 → hasD c 0 = (c == 0) := by decide +kernel
theorem len_all : ∀ c : Nat, c < 256 → (fmtL c).length = if (dotsTo c 8).length = 0 then 1 else 2 * (dotsTo c 8).length - 1 := by decide +kernel
theorem union_all : ∀ n : Nat, n < 8 → ∀ a : Nat, a < 256 → ∀ b : Nat, b < 256 → bitN (a ||| b) n = (bitN a n || bitN b n) := by
  intro n hn a _ b _
  unfold bitN
  have h := Nat.testBit_or a b n
  simp only [Nat.testBit_eq_decide_div_mod_eq] at h
  simpa [BEq.beq] using h
theorem or_u8 (a b : Nat) (ha : a < 256) (hb : b < 256) : bits .or .u8 (a : Int) (b : Int) = ((a ||| b : Nat) : Int) := by
  have hab : a ||| b < 256 := Nat.or_lt_two_pow (n := 8) ha hb
  have h : (BitVec.ofInt IntKind.u8.bits (a : Int) ||| BitVec.ofInt IntKind.u8.bits (b : Int)).toNat = a ||| b := by
    rw [BitVec.toNat_or, BitVec.toNat_ofInt, BitVec.toNat_ofInt]
    simp only [IntKind.bits]
    congr 1 <;> omega
  show IntKind.u8.wrap (((BitVec.ofInt IntKind.u8.bits (a : Int) ||| BitVec.ofInt IntKind.u8.bits (b : Int)).toNat : Nat) : Int) = _
  rw [h]
  generalize a ||| b = z at *
  unfold IntKind.wrap
  simp [IntKind.bits, IntKind.signed]
  omega
theorem u8_lit (k : Nat) (h : k < 256) : ((UInt8.ofNat k).toNat : Int) = (k : Int) := by
  rw [UInt8.toNat_ofNat']; omega
theorem containsP (w : World) (c n : Nat) : Calls Tryd.prog 16 #[.string (fmtB c), .string ⟨#[digU n]⟩] w fun e w' => e = .returned (.bool (hasD c n)) ∧ w = w' :=
  (Any.strings_Contains_one laysContains (fmtB c) (digU n) w).mono fun _ _ ⟨he, hw⟩ => ⟨he, hw.symm⟩
/-- A block of one byte, as a row of the call's own. -/
theorem own_dig (w : World) (n : Nat) (hn : n < 10) : (w.alloc (.cells #[.int .u8 (48 + (n : Int))] 5)).ownsRow w.heap.size 5 1 (.slice (some ⟨w.heap.size, 0, none⟩) 1 1) [digU n].length ([digU n].map fun b => Value.int .u8 b.toNat) := by
  have := own_lit w w.heap.size 5 1 1 #[.int .u8 (48 + (n : Int))] (Nat.le_refl _) (by omega) rfl
  refine own_eq this rfl ?_
  simp only [List.map_cons, List.map_nil]
  unfold digU
  rw [u8_lit _ (by omega), Int.natCast_add]
  rfl

set_option maxRecDepth 100000 in
set_option maxHeartbeats 1000000 in
theorem raisedP (w : World) (hm : Mx w) (c : Nat) (hc : c < 256) : Calls Tryd.prog 7 #[.int .u8 c] w fun e w' => e = .returned (.bool true) ∧ Below w.heap.size w w' := by
  have HF := hide (formatP w c hc)
  have HA := hide (fun w1 (hb1 : Below w.heap.size w w1) => awakeP w1 (hm.below hb1))
  have HC := hide (fun w1 n => containsP w1 c n)
  clear hm
  obtain ⟨f, hf⟩ : ∃ f, fmtB c = f := ⟨_, rfl⟩
  have hfl : f.size = (fmtL c).length := by rw [← hf]; rfl
  rw [hf] at HF
  simp only [hf] at HC
  have Hfl := hide hfl
  clear hf hfl
  go_enter Tryd.func7, Tryd.ntmps7
  go_wp2_with (go_at_call 14; refine HF.out.mono ?_; rintro e w1 ⟨rfl, hb1⟩)
  go_loopw [4, 5] (fun r i wr => ∃ k : Nat, k ≤ 8 ∧ i = .int .i64 (k + 1 : Nat) ∧ r = .int .i64 (dotsTo c k).length ∧ Below w.heap.size w wr) (fun _ i _ => 9 - (intOf i).toNat)
  case atStart => exact ⟨0, by omega, rfl, rfl, hb1⟩
  case round =>
    obtain ⟨k, hk, rfl, rfl, hb⟩ := hrel
    have hcast : ((k + 1 : Nat) : Int) = (k : Int) + 1 := by omega
    rw [hcast]
    have hdl := dotsTo_len c k
    by_cases hlt : k < 8
    · have hand := and_one c k hc hlt
      have hnx : dotsTo c (k + 1) = if bitN c k then dotsTo c k ++ [Fin.ofNat 10 (k + 1)] else dotsTo c k := rfl
      have hC := hide (fun w1 => HC.out w1 (k + 1))
      simp only [has_all c hc k hlt] at hC
      have HO := hide (own_dig wr (k + 1) (by omega))
      have hl0 : Below w.heap.size w (wr.alloc (.cells #[.int .u8 (48 + ((k + 1 : Nat) : Int))] 5)) := hb.alloc hb.size _
      rw [hcast] at HO hl0
      cases hbit : bitN c k with
      | true =>
        rw [hbit] at hand hnx hC
        rw [if_pos rfl] at hnx
        have Hnx := hide hnx
        clear hnx hbit hcast
        go_wp2_with (first
          | (refine wpList_str _ (.tmp 27) 30 9 5 rfl rfl Tryd.underlying30 Tryd.underlying5 Tryd.underlying9 wr.heap.size _ [digU (k + 1)] rfl HO.out ?_)
          | (go_at_call 16; refine (hC.out _).mono ?_; rintro e w2 ⟨rfl, rfl⟩))
        go_roundw
        case rel => exact ⟨k + 1, by omega, by go_num, by rw [Hnx.out]; simp, hl0⟩
        case measure => simp [intOf]; omega
      | false =>
        rw [hbit] at hand hnx hC
        rw [if_neg (by simp)] at hnx
        have Hnx := hide hnx
        clear hnx hbit hcast
        go_wp2_with (first
          | (refine wpList_str _ (.tmp 27) 30 9 5 rfl rfl Tryd.underlying30 Tryd.underlying5 Tryd.underlying9 wr.heap.size _ [digU (k + 1)] rfl HO.out ?_)
          | (go_at_call 16; refine (hC.out _).mono ?_; rintro e w2 ⟨rfl, rfl⟩))
        go_roundw
        case rel => exact ⟨k + 1, by omega, by go_num, by rw [Hnx.out], hl0⟩
        case measure => simp [intOf]; omega
    · obtain rfl : k = 8 := by omega
      have hC := hide (fun w1 => HC.out w1 0)
      simp only [has_zero c hc] at hC
      have hl := len_all c hc
      rw [← Hfl.out] at hl
      obtain ⟨N, hN⟩ : ∃ N, (dotsTo c 8).length = N := ⟨_, rfl⟩
      rw [hN] at hl hdl ⊢
      have Hl := hide hl
      have hz : ((c : Int) == 0) = (c == 0) := by rw [Bool.eq_iff_iff, beq_iff_eq, beq_iff_eq]; omega
      obtain ⟨z, hz2⟩ : ∃ z, (c == 0) = z := ⟨_, rfl⟩
      rw [hz2] at hz hC
      have hmx : Max.max (1 : Int) (2 * (N : Int) - 1) = (f.size : Int) := by rw [hl]; split <;> omega
      clear hN hl hcast hz2
      go_wp2_with (first
          | (go_at_call 16; refine (hC.out _).mono ?_; rintro e w2 ⟨rfl, rfl⟩)
          | (go_at_call 11; refine (HA.out _ hb).mono ?_; rintro e w3 ⟨rfl, hb3⟩))
      go_ret
      exact ⟨rfl, hb.trans (hb3.mono hb.size)⟩

set_option maxRecDepth 100000 in
set_option maxHeartbeats 1000000 in
theorem unionP (w : World) (hm : Mx w) (a b : Nat) (ha : a < 256) (hb : b < 256) : Calls Tryd.prog 8 #[.int .u8 a, .int .u8 b] w fun e w' => e = .returned (.bool true) ∧ Below w.heap.size w w' := by
  have hor := or_u8 a b ha hb
  have hab : a ||| b < 256 := Nat.or_lt_two_pow (n := 8) ha hb
  have HU := hide (fun n (hn : n < 8) => union_all n hn a ha b hb)
  obtain ⟨u, hu⟩ : ∃ u, a ||| b = u := ⟨_, rfl⟩
  rw [hu] at hor hab
  simp only [hu] at HU
  have HF1 := hide (fun w1 => formatP w1 a ha)
  have HF2 := hide (fun w1 => formatP w1 b hb)
  have HF3 := hide (fun w1 => formatP w1 u hab)
  have HA := hide (fun w1 (hb1 : Below w.heap.size w w1) => awakeP w1 (hm.below hb1))
  have HC1 := hide (fun w1 n => containsP w1 a n)
  have HC2 := hide (fun w1 n => containsP w1 b n)
  have HC3 := hide (fun w1 n => containsP w1 u n)
  have HB1 := hide (has_all a ha)
  have HB2 := hide (has_all b hb)
  have HB3 := hide (has_all u hab)
  clear hm hu
  obtain ⟨s, hs⟩ : ∃ s, fmtB a = s := ⟨_, rfl⟩
  obtain ⟨t, ht⟩ : ∃ t, fmtB b = t := ⟨_, rfl⟩
  obtain ⟨f, hf⟩ : ∃ f, fmtB u = f := ⟨_, rfl⟩
  simp only [hs] at HF1 HC1
  simp only [ht] at HF2 HC2
  simp only [hf] at HF3 HC3
  clear hs ht hf
  go_enter Tryd.func8, Tryd.ntmps8
  go_wp2_with fail
  refine (HF1.out _).mono ?_
  rintro e w1 ⟨rfl, hb1⟩
  go_wp2_with fail
  refine (HF2.out _).mono ?_
  rintro e w2 ⟨rfl, hb2⟩
  have hb12 := hb1.trans (hb2.mono hb1.size)
  go_wp2_with fail
  refine (HF3.out _).mono ?_
  rintro e w3 ⟨rfl, hb3⟩
  have hb13 := hb12.trans (hb3.mono hb12.size)
  go_wp2_with fail
  go_loopw [8] (fun i wr => ∃ k : Nat, k ≤ 8 ∧ i = .int .i64 (k + 1 : Nat) ∧ Below w.heap.size w wr) (fun i _ => 9 - (intOf i).toNat)
  case atStart => exact ⟨0, by omega, rfl, hb13⟩
  case round =>
    obtain ⟨k, hk, rfl, hb⟩ := hrel
    have hcast : ((k + 1 : Nat) : Int) = (k : Int) + 1 := by omega
    rw [hcast]
    by_cases hlt : k < 8
    · have hC1 := hide (fun w1 => HC1.out w1 (k + 1))
      have hC2 := hide (fun w1 => HC2.out w1 (k + 1))
      have hC3 := hide (fun w1 => HC3.out w1 (k + 1))
      simp only [HB1.out k hlt] at hC1
      simp only [HB2.out k hlt] at hC2
      simp only [HB3.out k hlt, HU.out k hlt] at hC3
      have HO := hide (own_dig wr (k + 1) (by omega))
      have hl0 : Below w.heap.size w (wr.alloc (.cells #[.int .u8 (48 + ((k + 1 : Nat) : Int))] 5)) := hb.alloc hb.size _
      rw [hcast] at HO hl0
      clear hcast
      obtain ⟨x, hx⟩ : ∃ x, bitN a k = x := ⟨_, rfl⟩
      obtain ⟨y, hy⟩ : ∃ y, bitN b k = y := ⟨_, rfl⟩
      simp only [hx] at hC1
      simp only [hy] at hC2
      simp only [hx, hy] at hC3
      clear hx hy
      cases x <;> cases y
      all_goals
        go_wp2_with (refine wpList_str _ (.tmp 25) 30 9 5 rfl rfl Tryd.underlying30 Tryd.underlying5 Tryd.underlying9 wr.heap.size _ [digU (k + 1)] rfl HO.out ?_)
        refine (hC3.out _).mono ?_
        rintro e w4 ⟨rfl, rfl⟩
        go_wp2_with fail
        refine (hC1.out _).mono ?_
        rintro e w4 ⟨rfl, rfl⟩
        go_wp2_with (go_at_call 16; refine (hC2.out _).mono ?_; rintro e w2 ⟨rfl, rfl⟩)
        go_roundw
        case rel => exact ⟨k + 1, by omega, by go_num, hl0⟩
        case measure => simp [intOf]; omega
    · obtain rfl : k = 8 := by omega
      clear hcast
      go_wp2_with (go_at_call 11; refine (HA.out _ hb).mono ?_; rintro e w3 ⟨rfl, hb3⟩)
      go_ret
      exact ⟨rfl, hb.trans (hb3.mono hb.size)⟩
end Go.Proofs.YtjgbflkjbehgaaaDoor
