/- Tables: the iterator of tables.parts. -/
import Derived.RangeFuncNested
import Derived.RangeFuncBound
import Derived.RangeFuncCalls
import Derived.RangeFuncLeaves
import Derived.RangeFuncFrom
import Derived.RangeFuncBox
import Derived.Shelf.Abstract
import Derived.Shelf.RegionOpen
import Derived.WalkKit
import Derived.OwnWalkIn
import Derived.TacticsInMore
import Derived.LoopNIn
import Derived.LoopIn
import Derived.Test.YtmgepckhdgoemaaDoorT6
namespace Go.Proofs.YtmgepckhdgoemaaDoor
open Go.RowKit Go.Shelf
attribute [local go_sem] Oper.semAt_some

theorem partsTo_prefix (f : Nat → Bool) (c : Nat) (ps : List (Nat × Nat)) (x : Nat × Nat) (h : partsTo f c = ps ++ [x]) : ∀ d, ∃ y ys, partsTo f (c + d) = ps ++ y :: ys
  | 0 => ⟨x, [], h⟩
  | d + 1 => by
    obtain ⟨y, ys, hy⟩ := partsTo_prefix f c ps x h d
    show ∃ y ys, partStep (partsTo f (c + d)) (c + d) (f (c + d)) = _
    cases f (c + d) with
    | true => exact ⟨y, ys, by rw [partStep_free, hy]⟩
    | false =>
      rcases snoc_cases (y :: ys) with h0 | ⟨zs, ⟨a, e⟩, hz⟩
      · cases h0
      · rw [hy, hz, ← List.append_assoc]
        by_cases hn : c + d < e + 2
        · rw [partStep_near hn]
          cases zs with
          | nil => exact ⟨(a, c + d + 1), [], by simp⟩
          | cons z zs => exact ⟨z, zs ++ [(a, c + d + 1)], by simp⟩
        · rw [partStep_far hn]
          cases zs with
          | nil => exact ⟨(a, e), [(c + d, c + d + 1)], by simp⟩
          | cons z zs => exact ⟨z, zs ++ [(a, e)] ++ [(c + d, c + d + 1)], by simp⟩
theorem partsTo_pre (f : Nat → Bool) {c W : Nat} (hc : c ≤ W) {ps : List (Nat × Nat)} {x : Nat × Nat} (h : partsTo f c = ps ++ [x]) : ps <+: partsTo f W := by
  obtain ⟨y, ys, hy⟩ := partsTo_prefix f c ps x h (W - c)
  rw [show c + (W - c) = W by omega] at hy
  exact ⟨y :: ys, hy.symm⟩

/-- What the iterator holds behind c columns. -/
def PartSt (ps pre : List (Nat × Nat)) (fr la : Value) : Prop :=
  (ps = [] ∧ pre = [] ∧ fr = .int .i64 (-1) ∧ la = .int .i64 (-1)) ∨ ∃ a l : Nat, ps = pre ++ [(a, l + 1)] ∧ fr = .int .i64 a ∧ la = .int .i64 l

/-- The cells that the iterator reads are kept. -/
def KpG (g W : Nat) (A B : World) : Prop := ∀ c, c < W → B.cell? ⟨g, c, none⟩ = A.cell? ⟨g, c, none⟩
theorem KpG.t {g W : Nat} {A B C : World} (h : KpG g W A B) (h' : KpG g W B C) : KpG g W A C := fun c hc => (h' c hc).trans (h c hc)
theorem KpG.of_below {g W n₀ : Nat} {A B : World} (h : Below n₀ A B) (hg : g < n₀) : KpG g W A B := fun c _ => h.cell (p := ⟨g, c, none⟩) hg
theorem KpG.b {g W n : Nat} (hg : g < n) (A : World) (l : Nat) (o o' : Obj) (hl : n ≤ l) (h : A.heap[l]? = some o) (ho : o.isCells = false) (ho2 : o.isWalk = false) : KpG g W A (A.putObj l o') :=
  KpG.of_below (n₀ := g + 1) (belowK_b (w := { A with heap := A.heap.extract 0 n }) (n₀ := g + 1) (by
    have := (Array.getElem?_eq_some_iff.1 h).1
    simp; omega) A l o o' (by simp; omega) h ho ho2) (Nat.lt_succ_self _)

def encP (p : Nat × Nat) : Array Value := #[.int .i64 p.1, .int .i64 p.2]

set_option maxRecDepth 100000 in
set_option maxHeartbeats 4000000 in
theorem parts1_in (F : Fence) (n : Nat) (hF : F.fn 68) (hro : F.round = none) (hn : 1 ≤ n) (l Bs g W cap : Nat) (f : Nat → Bool) (hW : W ≤ 1000) (J Jx : List (Nat × Nat) → World → Prop)
    (hY : ∀ pre x W1, J pre W1 → pre.length < W + 1 → YieldAt F (n - 1) Tryd.prog l (encP x) W1 fun e W' =>
      (e = .returned (.bool true) ∧ J (pre ++ [x]) W' ∧ KpG g W W1 W') ∨ (e = .returned (.bool false) ∧ Jx (pre ++ [x]) W'))
    (W0 : World) (hBs : W0.cell? ⟨Bs, 0, none⟩ = some (.slice (some ⟨g, 0, none⟩) W cap)) (hc : ∀ c, c < W → W0.cell? ⟨g, c, none⟩ = some (.bool (f c))) (h0 : J [] W0) :
    CallsIn F n Tryd.prog 68 #[.func (.yield l) #[] #[], .pointer (some ⟨Bs, 0, none⟩)] W0 fun e W' => (∃ v, e = .returned v) ∧
      (J (partsTo f W) W' ∨ (∃ pre, pre <+: partsTo f W ∧ Jx pre W')) := by
  have HC := hide hc
  clear hc
  refine callsIn_of_wp Tryd.func68 rfl hF ?_ hro
  simp only [Tryd.ntmps68, List.size_toArray, List.length_cons, List.length_nil, Nat.reduceAdd, Nat.reduceSub, Array.replicate_succ, Array.replicate_zero, List.push_toArray, List.append_toArray, List.nil_append, List.cons_append]
  gi_wp2
  gi_loopw [3, 4, 9] (fun fr la i wr => ∃ (c : Nat) (pre : List (Nat × Nat)), c ≤ W ∧ i = .int .i64 c ∧ PartSt (partsTo f c) pre fr la ∧ J pre wr ∧ KpG g W W0 wr) (fun _ _ i _ => W - (intOf i).toNat)
  case atStart => exact ⟨0, [], Nat.zero_le _, rfl, .inl ⟨rfl, rfl, rfl, rfl⟩, h0, fun _ _ => rfl⟩
  case round =>
    obtain ⟨c, pre, hcW, rfl, hst, hJ, hb⟩ := hrel
    obtain ⟨hlen, hbd⟩ := partsTo_bd f c
    have hnx : partsTo f (c + 1) = partStep (partsTo f c) c (f c) := rfl
    by_cases hlt : c < W
    · have e0 := (hb c hlt).trans (HC.out c hlt)
      cases hf : f c with
      | true =>
        rw [hf] at e0 hnx
        have Hnx := hide hnx
        clear hnx
        gi_wp2
        go_roundw
        case rel => exact ⟨c + 1, pre, by omega, by go_num, by rw [Hnx.out, partStep_free]; exact hst, hJ, hb⟩
        case measure => simp [intOf]; omega
      | false =>
        rw [hf] at e0 hnx
        rcases hst with ⟨hps, rfl, rfl, rfl⟩ | ⟨a, la, hps, rfl, rfl⟩
        · rw [hps, partStep_nil] at hnx
          have Hnx := hide hnx
          clear hnx hps hlen hbd
          gi_wp2
          go_roundw
          case rel => exact ⟨c + 1, [], by omega, by go_num, .inr ⟨c, c, by rw [Hnx.out]; rfl, rfl, rfl⟩, hJ, hb⟩
          case measure => simp [intOf]; omega
        · have hbe := hbd (a, la + 1) (by rw [hps]; simp)
          dsimp only at hbe
          have hlen2 : pre.length < W + 1 := by rw [hps] at hlen; simp at hlen; omega
          rw [hps] at hnx
          have Hps := hide hps
          clear hps hlen hbd
          cases hd : decide ((2 : Int) < (c : Int) - (la : Int)) with
          | true =>
            have hd2 := of_decide_eq_true hd
            rw [partStep_far (by omega)] at hnx
            have Hnx := hide hnx
            clear hnx
            have hpre := hide (partsTo_pre f (c := c + 1) (W := W) (by omega) Hnx.out)
            have hYx := hY pre (a, la + 1) wr hJ hlen2
            unfold encP at hYx
            dsimp only at hYx
            rw [show ((la + 1 : Nat) : Int) = (la : Int) + 1 by omega] at hYx
            obtain ⟨fn, tmps, assign, body, hy, hR⟩ := hYx
            gi_wp2
            refine hR.mono ?_
            rintro e W3 (⟨rfl, hJ3, hk3⟩ | ⟨rfl, hJx3⟩)
            · gi_wp2
              go_roundw
              case rel => exact ⟨c + 1, pre ++ [(a, la + 1)], by omega, by go_num, .inr ⟨c, c, Hnx.out, rfl, rfl⟩, hJ3, hb.t hk3⟩
              case measure => simp [intOf]; omega
            · gi_wp2
              refine bodyPost_ret (results_none rfl _ _ _) rfl ?_
              exact ⟨⟨_, rfl⟩, .inr ⟨_, hpre.out, hJx3⟩⟩
          | false =>
            have hd2 := of_decide_eq_false hd
            rw [partStep_near (by omega)] at hnx
            have Hnx := hide hnx
            clear hnx
            gi_wp2
            go_roundw
            case rel => exact ⟨c + 1, pre, by omega, by go_num, .inr ⟨a, c, Hnx.out, rfl, rfl⟩, hJ, hb⟩
            case measure => simp [intOf]; omega
    · obtain rfl : c = W := by omega
      rcases hst with ⟨hps, rfl, rfl, rfl⟩ | ⟨a, la, hps, rfl, rfl⟩
      · have Hps := hide hps
        clear hps hnx hlen hbd
        gi_wp2
        go_end0
        exact ⟨⟨_, rfl⟩, .inl (by rw [Hps.out]; exact hJ)⟩
      · have hbe := hbd (a, la + 1) (by rw [hps]; simp)
        dsimp only at hbe
        have hlen2 : pre.length < c + 1 := by rw [hps] at hlen; simp at hlen; omega
        have Hps := hide hps
        clear hps hnx hlen hbd
        have hYx := hY pre (a, la + 1) wr hJ hlen2
        unfold encP at hYx
        dsimp only at hYx
        rw [show ((la + 1 : Nat) : Int) = (la : Int) + 1 by omega] at hYx
        obtain ⟨fn, tmps, assign, body, hy, hR⟩ := hYx
        gi_wp2
        refine hR.mono ?_
        rintro e W3 (⟨rfl, hJ3, hk3⟩ | ⟨rfl, hJx3⟩)
        · gi_wp2
          go_end0
          exact ⟨⟨_, rfl⟩, .inl (by rw [Hps.out]; exact hJ3)⟩
        · gi_wp2
          go_end0
          exact ⟨⟨_, rfl⟩, .inr ⟨_, by rw [Hps.out]; exact List.prefix_rfl, hJx3⟩⟩
end Go.Proofs.YtmgepckhdgoemaaDoor
