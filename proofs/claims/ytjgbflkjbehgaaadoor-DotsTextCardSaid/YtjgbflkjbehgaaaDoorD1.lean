/- Dots: the iterator of dots.raised. -/
import Derived.RangeFuncNested
import Derived.RangeFuncBound
import Derived.RangeFuncCalls
import Derived.RangeFuncLeaves
import Derived.RangeFuncFrom
import Derived.RangeFuncBox
import Derived.Shelf.Abstract
import Derived.Shelf.RegionOpen
import Derived.WalkKit
import Derived.OwnWalkIn
import Derived.TacticsInMore
import Derived.LoopNIn
import Derived.LoopIn
import Derived.Outline
import Derived.Test.YtjgbflkjbehgaaaDoorMem2
namespace Go.Proofs.YtjgbflkjbehgaaaDoor
open Go.RowKit Go.Shelf
attribute [local go_sem] Oper.semAt_some

/-- Whether dot n + 1 of a cell is raised. -/
def bitN (c n : Nat) : Bool := c / 2 ^ n % 2 == 1
/-- The raised ones of the first dots of a cell. -/
def dotsTo (c : Nat) : Nat → List (Fin 10)
  | 0 => []
  | k + 1 => if bitN c k then dotsTo c k ++ [Fin.ofNat 10 (k + 1)] else dotsTo c k
theorem dotsTo_len (c : Nat) : ∀ k, (dotsTo c k).length ≤ k
  | 0 => Nat.le_refl _
  | k + 1 => by
    have := dotsTo_len c k
    unfold dotsTo
    split
    · simp; omega
    · omega
theorem dotsTo_prefix (c : Nat) (k : Nat) : ∀ d, dotsTo c k <+: dotsTo c (k + d)
  | 0 => List.prefix_rfl
  | d + 1 => by
    refine (dotsTo_prefix c k d).trans ?_
    show _ <+: (if _ then _ else _)
    split
    · exact List.prefix_append _ _
    · exact List.prefix_rfl
theorem dotsTo_pre (c : Nat) {k m : Nat} (h : k ≤ m) : dotsTo c k <+: dotsTo c m := by
  have := dotsTo_prefix c k (m - k)
  rwa [show k + (m - k) = m by omega] at this

theorem and_all : ∀ c : Nat, c < 256 → ∀ k : Nat, k < 8 → (bits .and .u8 ((c : Int) / 2 ^ k) 1 == 1) = bitN c k := by decide +kernel
theorem and_one (c k : Nat) (hc : c < 256) (hk : k < 8) : (bits .and .u8 ((c : Int) / 2 ^ k) 1 == 1) = bitN c k := and_all c hc k hk

/-- The cells that an iterator reads are kept. -/
def KpG (g W : Nat) (A B : World) : Prop := ∀ c, c < W → B.cell? ⟨g, c, none⟩ = A.cell? ⟨g, c, none⟩
theorem KpG.t {g W : Nat} {A B C : World} (h : KpG g W A B) (h' : KpG g W B C) : KpG g W A C := fun c hc => (h' c hc).trans (h c hc)
theorem KpG.of_below {g W n₀ : Nat} {A B : World} (h : Below n₀ A B) (hg : g < n₀) : KpG g W A B := fun c _ => h.cell (p := ⟨g, c, none⟩) hg
theorem KpG.b {g W n : Nat} (hg : g < n) (A : World) (l : Nat) (o o' : Obj) (hl : n ≤ l) (h : A.heap[l]? = some o) (ho : o.isCells = false) (ho2 : o.isWalk = false) : KpG g W A (A.putObj l o') :=
  KpG.of_below (n₀ := g + 1) (belowK_b (w := { A with heap := A.heap.extract 0 n }) (n₀ := g + 1) (by
    have := (Array.getElem?_eq_some_iff.1 h).1
    simp; omega) A l o o' (by simp; omega) h ho ho2) (Nat.lt_succ_self _)

def encI (p : Fin 10) : Array Value := #[.int .i64 (p.val : Nat)]

set_option maxRecDepth 100000 in
set_option maxHeartbeats 4000000 in
theorem raised1_in (F : Fence) (n : Nat) (hF : F.fn 28) (hro : F.round = none) (hn : 1 ≤ n) (l B c : Nat) (hc : c < 256) (J Jx : List (Fin 10) → World → Prop)
    (hY : ∀ pre x W1, J pre W1 → pre.length < 9 → YieldAt F (n - 1) Tryd.prog l (encI x) W1 fun e W' =>
      (e = .returned (.bool true) ∧ J (pre ++ [x]) W' ∧ KpG B 1 W1 W') ∨ (e = .returned (.bool false) ∧ Jx (pre ++ [x]) W'))
    (W0 : World) (hB : W0.cell? ⟨B, 0, none⟩ = some (.int .u8 c)) (h0 : J [] W0) :
    CallsIn F n Tryd.prog 28 #[.func (.yield l) #[] #[], .pointer (some ⟨B, 0, none⟩)] W0 fun e W' => (∃ v, e = .returned v) ∧
      (J (dotsTo c 8) W' ∨ (∃ pre, pre <+: dotsTo c 8 ∧ Jx pre W')) := by
  refine callsIn_of_wp Tryd.func28 rfl hF ?_ hro
  simp only [Tryd.ntmps28, List.size_toArray, List.length_cons, List.length_nil, Nat.reduceAdd, Nat.reduceSub, Array.replicate_succ, Array.replicate_zero, List.push_toArray, List.append_toArray, List.nil_append, List.cons_append]
  gi_wp2
  gi_loopw [4] (fun i wr => ∃ k : Nat, k ≤ 8 ∧ i = .int .i64 k ∧ J (dotsTo c k) wr ∧ KpG B 1 W0 wr) (fun i _ => 8 - (intOf i).toNat)
  case atStart => exact ⟨0, Nat.zero_le _, rfl, h0, fun _ _ => rfl⟩
  case round =>
    obtain ⟨k, hk, rfl, hJ, hb⟩ := hrel
    have e0 := (hb 0 (Nat.zero_lt_one)).trans hB
    by_cases hlt : k < 8
    · have hand := and_one c k hc hlt
      have hnx : dotsTo c (k + 1) = if bitN c k then dotsTo c k ++ [Fin.ofNat 10 (k + 1)] else dotsTo c k := rfl
      have hlen := dotsTo_len c k
      cases hbit : bitN c k with
      | true =>
        rw [hbit] at hand hnx
        rw [if_pos rfl] at hnx
        have Hnx := hide hnx
        clear hnx hbit
        have hYx := hY (dotsTo c k) (Fin.ofNat 10 (k + 1)) wr hJ (by omega)
        unfold encI at hYx
        rw [show (((Fin.ofNat 10 (k + 1)).val : Nat) : Int) = (k : Int) + 1 by have : (Fin.ofNat 10 (k + 1)).val = k + 1 := Nat.mod_eq_of_lt (by omega); rw [this]; omega] at hYx
        obtain ⟨fn, tmps, assign, body, hy, hR⟩ := hYx
        gi_wp2
        refine hR.mono ?_
        rintro e W3 (⟨rfl, hJ3, hk3⟩ | ⟨rfl, hJx3⟩)
        · gi_wp2
          go_roundw
          case rel => exact ⟨k + 1, by omega, by go_num, by rw [Hnx.out]; exact hJ3, hb.t hk3⟩
          case measure => simp [intOf]; omega
        · gi_wp2
          refine bodyPost_ret (results_none rfl _ _ _) rfl ?_
          exact ⟨⟨_, rfl⟩, .inr ⟨_, by rw [← Hnx.out]; exact dotsTo_pre c (by omega), hJx3⟩⟩
      | false =>
        rw [hbit] at hand hnx
        rw [if_neg (by simp)] at hnx
        have Hnx := hide hnx
        clear hnx hbit
        gi_wp2
        refine ⟨(fun _ h => by cases h), ?_⟩
        rename_i hk1 _ _ _ _
        refine hk1 _ _ ?_
        gi_wp2
        go_roundw
        case rel => exact ⟨k + 1, by omega, by go_num, by rw [Hnx.out]; exact hJ, hb⟩
        case measure => simp [intOf]; omega
    · obtain rfl : k = 8 := by omega
      gi_wp2
      go_end0
      exact ⟨⟨_, rfl⟩, .inl hJ⟩

theorem raised_in (F : Fence) (n : Nat) (hF : F.fn 21) (hro : F.round = none) (c : Int) (w : World) :
    CallsIn F n Tryd.prog 21 #[.int .u8 c] w fun e w' => e = .returned (.func (.func 28) #[] #[.pointer (some ⟨w.heap.size, 0, none⟩)]) ∧ w' = w.alloc (.cells #[.int .u8 c] 5) := by
  refine callsIn_of_wp Tryd.func21 rfl hF ?_ hro
  simp only [Tryd.ntmps21, List.size_toArray, List.length_cons, List.length_nil, Nat.reduceAdd, Nat.reduceSub, Array.replicate_succ, Array.replicate_zero, List.push_toArray, List.append_toArray, List.nil_append, List.cons_append]
  gi_wp2
  go_ret
  exact ⟨rfl, rfl⟩

theorem raised_stops (F : Fence) (n : Nat) (hF : F.fn 28) (hro : F.round = none) (hn : 1 ≤ n) (B c : Nat) (hc : c < 256) (w : World) (hBs : B < w.heap.size) (hb : w.cell? ⟨B, 0, none⟩ = some (.int .u8 c)) :
    SeqStopsK F n Tryd.prog 28 #[.pointer (some ⟨B, 0, none⟩)] encI (KpG B 1) (fun ys => ys = dotsTo c 8) (fun pre => pre <+: dotsTo c 8) 9 w := fun l J Jx W1 hW1 _ _ hY h0 => by
  have hb' := (hW1.cell (p := ⟨B, 0, none⟩) hBs).trans hb
  refine (raised1_in F n hF hro hn l B c hc J Jx hY W1 hb' h0).mono ?_
  rintro e W' ⟨he, hj | ⟨pre, hp, hj⟩⟩
  · exact ⟨he, .inl ⟨_, rfl, hj⟩⟩
  · exact ⟨he, .inr ⟨_, hp, hj⟩⟩
end Go.Proofs.YtjgbflkjbehgaaaDoor
