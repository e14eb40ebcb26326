/- Chapter 45: segment.spans. -/
import Derived.RangeFuncNested
import Derived.RangeFuncBound
import Derived.RangeFuncCalls
import Derived.RangeFuncLeaves
import Derived.RangeFuncFrom
import Derived.RangeFuncBox
import Derived.Shelf.Abstract
import Derived.Shelf.RegionOpen
import Derived.WalkKit
import Derived.OwnWalkIn
import Derived.TacticsInMore
import Derived.LoopNIn
import Derived.LoopIn
import Derived.Test.YtdmnnjpbndngeaaDoorK13
namespace Go.Proofs.YtdmnnjpbndngeaaDoor
open Go.RowKit Go.Shelf
attribute [local go_sem] Oper.semAt_some

/-- The cells below n0, but for those of block bo, are kept. -/
def KpO (n0 bo : Nat) (A B : World) : Prop := ∀ (p : Addr) (v : Value), p.block < n0 → p.block ≠ bo → A.cell? p = some v → B.cell? p = some v
theorem KpO.r (n0 bo : Nat) (A : World) : KpO n0 bo A A := fun _ _ _ _ h => h
theorem KpO.t {n0 bo : Nat} {A B C : World} (h : KpO n0 bo A B) (h' : KpO n0 bo B C) : KpO n0 bo A C := fun p v h1 h2 h3 => h' p v h1 h2 (h p v h1 h2 h3)
theorem KpO.of_below {n0 bo : Nat} {A B : World} (h : Below A.heap.size A B) : KpO n0 bo A B := fun p _ _ _ h3 => (h.cell (World.block_lt_of_cell? A p h3)).trans h3
theorem KpO.b {n0 bo : Nat} (A : World) (l : Nat) (o o' : Obj) (h : A.heap[l]? = some o) (ho : o.isCells = false) : KpO n0 bo A (A.putObj l o') := fun p _ _ _ h3 => by
  have hlt := World.block_lt_of_cell? A p h3
  have hne : p.block ≠ l := fun e => by
    rw [World.cell?, e, h] at h3
    cases o <;> simp_all [Obj.isCells]
  exact (World.cell?_of_block ((grownBy_putObj' A l o').block p.block hlt (by simpa using hne))).trans h3

def encS (p : Nat × Nat) : Array Value := #[.agg #[.int .i64 p.1, .int .i64 p.2]]
theorem grown_below {W W' : World} (h : Below W.heap.size W W') : W.grownBy W' none := ⟨h.os, h.tape, h.output, h.size, fun k hk _ => h.block k hk⟩

set_option maxRecDepth 100000 in
set_option maxHeartbeats 2000000 in
theorem spans1_in (n : Nat) (hn : 1 ≤ n) (l bl bt b1 b off N c n0 bo : Nat) (A : Option Addr) (hA : 0 < N → A = some ⟨b, off, none⟩) (L : List Gl) (hN : L.length = N) (hN1 : N ≤ 1000) (J Jx : List (Nat × Nat) → World → Prop) (W0 : World) (hJ : AbidesFrom W0.heap.size J)
    (hY : ∀ pre x W1, J pre W1 → pre.length < N + 1 → x.1 < N → YieldAt Fence.wide (n - 1) Tryd.prog l (encS x) W1 fun e W' =>
      (e = .returned (.bool true) ∧ J (pre ++ [x]) W' ∧ KpO n0 bo W1 W') ∨ (e = .returned (.bool false) ∧ Jx (pre ++ [x]) W'))
    (hl : bl < n0 ∧ bl ≠ bo) (ht : bt < n0 ∧ bt ≠ bo) (h1 : b1 < n0 ∧ b1 ≠ bo) (hb : b < n0 ∧ b ≠ bo)
    (hcl : W0.cell? ⟨bl, 0, none⟩ = some (.slice A N c)) (hct : W0.cell? ⟨bt, 0, none⟩ = some (.func (.func 49) #[] #[.pointer (some ⟨b1, 0, none⟩)])) (hc1 : W0.cell? ⟨b1, 0, none⟩ = some (.slice A N c))
    (hg : ∀ (k : Nat) g, L[k]? = some g → GlAt W0 b (off + k * 3) g) (h0 : J [] W0) :
    CallsIn Fence.wide n Tryd.prog 61 #[.func (.yield l) #[] #[], .pointer (some ⟨bl, 0, none⟩), .pointer (some ⟨bt, 0, none⟩)] W0 fun e W' => (∃ v, e = .returned v) ∧
      ((J (spansTo (kindAt L) N) W') ∨ (∃ pre, Jx pre W')) := by
  have HK := hide (fun W (hk : KpO n0 bo W0 W) => And.intro (hk _ _ hl.1 hl.2 hcl) (And.intro (hk _ _ ht.1 ht.2 hct) (And.intro (hk _ _ h1.1 h1.2 hc1) (fun (k : Nat) g (h : L[k]? = some g) => (show GlAt W b (off + k * 3) g from ⟨hk _ _ hb.1 hb.2 (hg k g h).1, hk _ _ hb.1 hb.2 (hg k g h).2.1, hk _ _ hb.1 hb.2 (hg k g h).2.2⟩)))))
  have HL := hide (spans_len (kindAt L))
  have HNx := hide (spans_next (kindAt L))
  have HW := hide (fun W (hk : KpO n0 bo W0 W) j (hj : j + 1 < N) => words1P W b1 b off N c L j hN hj hN1 ((HK.out W hk).2.2.1.trans (by rw [hA (by omega)])) (HK.out W hk).2.2.2)
  have HJ := hide hJ
  clear hJ hg hcl hct hc1 hN
  refine callsIn_of_wp Tryd.func61 rfl trivial ?_ rfl
  simp only [Tryd.ntmps61, List.size_toArray, List.length_cons, List.length_nil, Nat.reduceAdd, Nat.reduceSub, Array.replicate_succ, Array.replicate_zero, List.push_toArray, List.append_toArray, List.nil_append, List.cons_append]
  gi_wp2
  gi_loopw [4] (fun f wr => ∃ a : Nat, a ≤ N ∧ f = .int .i64 a ∧ (a < N → a = 0 ∨ kindAt L (a - 1) ≠ kindAt L a) ∧ J (spansTo (kindAt L) a) wr ∧ KpO n0 bo W0 wr) (fun f _ => N - (intOf f).toNat)
  case atStart => exact ⟨0, Nat.zero_le _, rfl, fun _ => .inl rfl, h0, KpO.r _ _ _⟩
  case round =>
    rename World => wo
    obtain ⟨a, haN, rfl, hbd, hj0, hk0⟩ := hrel
    obtain ⟨z0, z1, z2, -⟩ := HK.out wo hk0
    have hlen := (HL.out a).1
    by_cases hlt : a < N
    · have Hbd := hide (hbd hlt)
      clear hbd
      gi_wp2
      gi_loopw [5] (fun t wi => ∃ d : Nat, a + d + 1 ≤ N ∧ t = .int .i64 ((a : Int) + d + 1) ∧ (∀ j, a < j → j ≤ a + d → kindAt L j = kindAt L (j - 1)) ∧ J (spansTo (kindAt L) a) wi ∧ KpO n0 bo W0 wi) (fun t _ => N - (intOf t).toNat)
      case atStart => exact ⟨0, by omega, int_eq (by omega), fun j h1 h2 => by omega, hj0, hk0⟩
      case round =>
        clear z0 z1 z2 hj0 hk0
        rename World => wi
        obtain ⟨d, hd, rfl, hall, hj1, hk1⟩ := hrel
        have Hall := hide hall
        clear hall
        obtain ⟨z0, z1, z2, -⟩ := HK.out wi hk1
        have hYx := hide (fun W1 hj => hY (spansTo (kindAt L) a) (a, a + d + 1) W1 hj (by omega) hlt)
        unfold encS at hYx
        dsimp only at hYx
        rw [show ((a + d + 1 : Nat) : Int) = (a : Int) + d + 1 by omega] at hYx
        by_cases hdl : a + d + 1 < N
        · have hW := hide (HW.out wi hk1 (a + d) hdl)
          rw [show (((a + d : Nat) : Int) + 1) = (a : Int) + d + 1 by omega] at hW
          cases hkk : (kindAt L (a + d + 1) == kindAt L (a + d)) with
          | true =>
            rw [hkk] at hW
            have Hkk := hide hkk
            clear hkk
            gi_wp2_with (refine ⟨trivial, ?_⟩; gi_at_call 49; refine (callsIn_wide.2 hW.out).mono ?_; rintro e w2 ⟨rfl, hb2⟩)
            go_roundw
            case rel =>
              refine ⟨d + 1, by omega, int_eq (by omega), fun j h1 h2 => ?_, HJ.out _ _ _ none hj1 (grown_below hb2) (fun r e => by cases e), hk1.t (KpO.of_below hb2)⟩
              by_cases he : j = a + d + 1
              · subst he
                have := Hkk.out
                rw [beq_iff_eq] at this
                rw [Nat.add_sub_cancel]; exact this
              · exact Hall.out j h1 (by omega)
            case measure => simp [intOf]; omega
          | false =>
            rw [hkk] at hW
            have Hkk := hide hkk
            clear hkk
            gi_wp2_with (refine ⟨trivial, ?_⟩; gi_at_call 49; refine (callsIn_wide.2 hW.out).mono ?_; rintro e w2 ⟨rfl, hb2⟩; obtain ⟨fn, tmps, assign, body, hy, hR⟩ := hYx.out w2 (HJ.out _ _ _ none hj1 (grown_below hb2) (fun r e => by cases e)))
            refine hR.mono ?_
            rintro e W3 (⟨rfl, hj3, hk3⟩ | ⟨rfl, hjx⟩)
            · gi_wp2
              go_roundw
              case rel => exact ⟨a + d + 1, by omega, by go_num, fun _ => .inr (by have := Hkk.out; rw [beq_eq_false_iff_ne] at this; rw [Nat.add_sub_cancel]; exact fun e => this e.symm), by rw [HNx.out a Hbd.out d Hall.out]; exact hj3, (hk1.t (KpO.of_below hb2)).t hk3⟩
              case measure => simp [intOf]; omega
            · gi_wp2
              refine bodyPost_ret (results_none rfl _ _ _) rfl ?_
              exact ⟨⟨_, rfl⟩, .inr ⟨_, hjx⟩⟩
        · obtain ⟨fn, tmps, assign, body, hy, hR⟩ := hYx.out wi hj1
          gi_wp2
          refine ⟨(fun _ h => by cases h), ?_⟩
          gi_wp2
          refine hR.mono ?_
          rintro e W3 (⟨rfl, hj3, hk3⟩ | ⟨rfl, hjx⟩)
          · gi_wp2
            go_roundw
            case rel => exact ⟨a + d + 1, by omega, by go_num, fun h => absurd h hdl, by rw [HNx.out a Hbd.out d Hall.out]; exact hj3, hk1.t hk3⟩
            case measure => simp [intOf]; omega
          · gi_wp2
            refine bodyPost_ret (results_none rfl _ _ _) rfl ?_
            exact ⟨⟨_, rfl⟩, .inr ⟨_, hjx⟩⟩
    · obtain rfl : a = N := by omega
      gi_wp2
      go_end0
      exact ⟨⟨_, rfl⟩, .inl hj0⟩
end Go.Proofs.YtdmnnjpbndngeaaDoor
