/- Dots: the walk of the law DotsPairs. -/
import Derived.Test.YtjgbflkjbehgaaaDoorD5
namespace Go.Proofs.YtjgbflkjbehgaaaDoor
open Go.RowKit Go.Shelf

def pairL (m n : Nat) : List UInt8 := [UInt8.ofNat (48 + m), 45, UInt8.ofNat (48 + n)]
theorem pair_all : ∀ m : Nat, m < 9 → ∀ n : Nat, n < 9 → 1 ≤ m → 1 ≤ n → parseRL (pairL m n) = if m < n then (2 ^ (m - 1) + 2 ^ (n - 1), 0) else (0, 3) := by decide +kernel
theorem pair_or : ∀ m : Nat, m < 9 → ∀ n : Nat, n < 9 → 1 ≤ m → m < n → bits .or .u8 (2 ^ (m - 1) % 256) (2 ^ (n - 1) % 256) = ((2 ^ (m - 1) + 2 ^ (n - 1) : Nat) : Int) := by decide +kernel
theorem u8_lit (k : Nat) (h : k < 256) : ((UInt8.ofNat k).toNat : Int) = (k : Int) := by
  rw [UInt8.toNat_ofNat']; omega

set_option maxRecDepth 100000 in
set_option maxHeartbeats 1000000 in
theorem pairsP (w : World) (hm : Mx w) (a b : Nat) (ha : a < 256) (hb : b < 256) : Calls Tryd.prog 6 #[.int .u8 a, .int .u8 b] w fun e w' => e = .returned (.bool true) ∧ Below w.heap.size w w' := by
  obtain ⟨m, hm1⟩ : ∃ m : Nat, 1 + (a : Int) % 8 = (m : Int) := ⟨1 + a % 8, by omega⟩
  obtain ⟨n, hn1⟩ : ∃ n : Nat, 1 + (b : Int) % 8 = (n : Int) := ⟨1 + b % 8, by omega⟩
  have hml : 1 ≤ m ∧ m < 9 := by omega
  have hnl : 1 ≤ n ∧ n < 9 := by omega
  have hl0 : Below w.heap.size w (w.alloc (.cells #[.int .u8 (48 + (m : Int)), .int .u8 45, .int .u8 (48 + (n : Int))] 5)) := (Below.refl _ _).alloc (Nat.le_refl _) _
  have hown : (w.alloc (.cells #[.int .u8 (48 + (m : Int)), .int .u8 45, .int .u8 (48 + (n : Int))] 5)).ownsRow w.heap.size 5 1 (.slice (some ⟨w.heap.size, 0, none⟩) 3 3) (pairL m n).length ((pairL m n).map fun b => Value.int .u8 b.toNat) := by
    have := own_lit w w.heap.size 5 1 3 #[.int .u8 (48 + (m : Int)), .int .u8 45, .int .u8 (48 + (n : Int))] (Nat.le_refl _) (by omega) rfl
    refine own_eq this rfl ?_
    unfold pairL
    simp only [List.map_cons, List.map_nil]
    rw [u8_lit _ (by omega), u8_lit _ (by omega), Int.natCast_add, Int.natCast_add]
    rfl
  have HP := hide (fun w1 (hb1 : Below w.heap.size w w1) => parseP w1 ⟨(pairL m n).toArray⟩ (by show 3 ≤ 1000; omega) (hm.below hb1))
  simp only [show parseR ⟨(pairL m n).toArray⟩ = if m < n then (2 ^ (m - 1) + 2 ^ (n - 1), 0) else (0, 3) by rw [parseR_list]; exact pair_all m hml.2 n hnl.2 hml.1 hnl.1] at HP
  have HA := hide (fun w1 (hb1 : Below w.heap.size w w1) => awakeP w1 (hm.below hb1))
  have Hown := hide hown
  clear hown hm
  by_cases hmn : m < n
  · simp only [if_pos hmn] at HP
    have hor := pair_or m hml.2 n hnl.2 hml.1 hmn
    go_enter Tryd.func6, Tryd.ntmps6
    go_wp2_with (first
      | (refine wpList_str _ (.tmp 24) 30 9 5 rfl rfl Tryd.underlying30 Tryd.underlying5 Tryd.underlying9 w.heap.size _ (pairL m n) rfl Hown.out ?_)
      | (go_at_call 12; refine (HP.out _ hl0).mono ?_; rintro e w1 ⟨rfl, hb1⟩; have hb := hl0.trans (hb1.mono hl0.size))
      | (go_at_call 11; refine (HA.out _ hb).mono ?_; rintro e w2 ⟨rfl, hb2⟩))
    go_ret
    exact ⟨rfl, hb.trans (hb2.mono hb.size)⟩
  · simp only [if_neg hmn] at HP
    go_enter Tryd.func6, Tryd.ntmps6
    go_wp2_with (first
      | (refine wpList_str _ (.tmp 24) 30 9 5 rfl rfl Tryd.underlying30 Tryd.underlying5 Tryd.underlying9 w.heap.size _ (pairL m n) rfl Hown.out ?_)
      | (go_at_call 12; refine (HP.out _ hl0).mono ?_; rintro e w1 ⟨rfl, hb1⟩; have hb := hl0.trans (hb1.mono hl0.size))
      | (go_at_call 11; refine (HA.out _ hb).mono ?_; rintro e w2 ⟨rfl, hb2⟩))
    go_ret
    exact ⟨rfl, hb.trans (hb2.mono hb.size)⟩
end Go.Proofs.YtjgbflkjbehgaaaDoor
