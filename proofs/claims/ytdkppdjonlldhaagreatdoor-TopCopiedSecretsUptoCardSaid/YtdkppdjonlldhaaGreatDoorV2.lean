/- charwidth.Width and narratorref02.Width return cw. -/
import Derived.Test.YtdkppdjonlldhaaGreatDoorV1
namespace Go.Proofs.YtdkppdjonlldhaaGreatDoor
open Go.RowKit

theorem cw_ctl {r : Int} (h : r < 0x20 ∨ 0x7F ≤ r ∧ r ≤ 0x9F) : cw r = -1 := by simp [cw, h]
theorem cw_mark {r : Int} (h : ¬ (r < 0x20 ∨ 0x7F ≤ r ∧ r ≤ 0x9F)) (hm : isMark r = true) : cw r = 0 := by unfold cw; rw [if_neg h, if_pos hm]
theorem cw_wide {r : Int} (h : ¬ (r < 0x20 ∨ 0x7F ≤ r ∧ r ≤ 0x9F)) (hm : isMark r = false) (hw : isWide r = true) : cw r = 2 := by unfold cw; rw [if_neg h, if_neg (by simp [hm]), if_pos hw]
theorem cw_one {r : Int} (h : ¬ (r < 0x20 ∨ 0x7F ≤ r ∧ r ≤ 0x9F)) (hm : isMark r = false) (hw : isWide r = false) : cw r = 1 := by unfold cw; rw [if_neg h, if_neg (by simp [hm]), if_neg (by simp [hw])]
theorem cw_cases (r : Int) : cw r = -1 ∨ cw r = 0 ∨ cw r = 1 ∨ cw r = 2 := by
  unfold cw
  by_cases h1 : r < 0x20 ∨ 0x7F ≤ r ∧ r ≤ 0x9F
  · simp [h1]
  · by_cases h2 : isMark r = true <;> by_cases h3 : isWide r = true <;> simp [h1, h2, h3]

set_option maxHeartbeats 400000 in
theorem width02 (w : World) (r : Int) : Calls Tryz.prog 45 #[.int .i32 r] w fun e w' => e = .returned (.int .i64 (cw r)) ∧ Below w.heap.size w w' := by
  go_enter Tryz.func45, Tryz.ntmps45
  go_wp2_with (first
    | (go_at_call 44; refine (mark02 _ _).mono ?_; rintro e w1 ⟨rfl, hb⟩)
    | (go_at_call 69; refine (wide02 _).mono ?_; rintro e w2 ⟨A, c, rfl, hs, hb2⟩; have hb3 := hb.trans (hb2.mono hb.size))
    | (go_at_call 67; refine (in02 _ _ _ _ _ hs (by decide)).mono ?_; rintro e w3 ⟨rfl, rfl⟩))
  all_goals
    go_ret
    first
      | exact ⟨ret_int (cw_ctl (by omega)).symm, Below.refl _ _⟩
      | exact ⟨ret_int (cw_mark (by omega) (by assumption)).symm, hb⟩
      | exact ⟨ret_int (cw_wide (by omega) (by assumption) (by assumption)).symm, hb3⟩
      | exact ⟨ret_int (cw_one (by omega) (by assumption) (by assumption)).symm, hb3⟩

def Rising (l : List (Int × Int)) : Prop := l.Pairwise fun p q => p.2 < q.1

theorem tab_in {l : List (Int × Int)} {r : Int} {a : Nat} (ha : a < l.length) (hhi : ∀ i p, a ≤ i → l[i]? = some p → r ≤ p.2) (h : l[a].1 ≤ r) : l.any (inPair r) = true :=
  List.any_eq_true.2 ⟨_, List.getElem_mem ha, by simp [inPair, h, hhi a _ (Nat.le_refl _) (List.getElem?_eq_getElem ha)]⟩
theorem tab_out {l : List (Int × Int)} {r : Int} {a : Nat} (hr : Rising l) (ha : a < l.length) (hlo : ∀ i p, i < a → l[i]? = some p → p.2 < r) (hhi : ∀ i p, a ≤ i → l[i]? = some p → r ≤ p.2) (h : r < l[a].1) : l.any (inPair r) = false := by
  rw [List.any_eq_false]
  intro p hp
  obtain ⟨i, hi, rfl⟩ := List.getElem_of_mem hp
  rcases Nat.lt_trichotomy i a with hia | rfl | hia
  · have := hlo i _ hia (List.getElem?_eq_getElem hi); simp [inPair]; omega
  · simp [inPair]; omega
  · have h1 := List.pairwise_iff_getElem.1 hr a i ha hi hia
    have h2 := hhi a _ (Nat.le_refl _) (List.getElem?_eq_getElem ha)
    simp [inPair]; omega
theorem tab_past {l : List (Int × Int)} {r : Int} {a : Nat} (ha : l.length ≤ a) (hlo : ∀ i p, i < a → l[i]? = some p → p.2 < r) : l.any (inPair r) = false := by
  rw [List.any_eq_false]
  intro p hp
  obtain ⟨i, hi, rfl⟩ := List.getElem_of_mem hp
  have := hlo i _ (by omega) (List.getElem?_eq_getElem hi); simp [inPair]; omega
theorem lo_step {l : List (Int × Int)} {r : Int} {m : Nat} (hr : Rising l) (hs : ∀ p ∈ l, p.1 ≤ p.2) (hm : m < l.length) (h : l[m].2 < r) : ∀ i p, i < m + 1 → l[i]? = some p → p.2 < r := by
  intro i p hi hp
  obtain ⟨hil, rfl⟩ := List.getElem?_eq_some_iff.1 hp
  rcases Nat.lt_or_ge i m with h1 | h1
  · have := List.pairwise_iff_getElem.1 hr i m hil hm h1
    have := hs _ (List.getElem_mem hm)
    omega
  · obtain rfl : i = m := by omega
    exact h
theorem hi_step {l : List (Int × Int)} {r : Int} {m : Nat} (hr : Rising l) (hs : ∀ p ∈ l, p.1 ≤ p.2) (hm : m < l.length) (h : r ≤ l[m].2) : ∀ i p, m ≤ i → l[i]? = some p → r ≤ p.2 := by
  intro i p hi hp
  obtain ⟨hil, rfl⟩ := List.getElem?_eq_some_iff.1 hp
  rcases Nat.lt_or_ge m i with h1 | h1
  · have := List.pairwise_iff_getElem.1 hr m i hm hil h1
    have := hs _ (List.getElem_mem hil)
    omega
  · obtain rfl : i = m := by omega
    exact h

set_option maxHeartbeats 400000 in
theorem finder1 (w : World) (r : Int) (bx : Nat) (A : Option Addr) (c : Nat) (l : List (Int × Int)) (h : Sl PairAt 2 w w.heap.size A l) (hl : l.length ≤ 1000) (hr : Rising l) (hs : ∀ p ∈ l, p.1 ≤ p.2)
  (hbx : w.cell? ⟨bx, 0, none⟩ = some (.slice A l.length c)) :
    Calls Tryz.prog 100 #[.int .i32 r, .pointer (some ⟨bx, 0, none⟩)] w fun e w' => e = .returned (.bool (l.any (inPair r))) ∧ Below w.heap.size w w' := by
  have HR := hide hr
  have HS := hide hs
  clear hr hs
  go_enter Tryz.func100, Tryz.ntmps100
  go_wp2
  go_quiet (fail)
  go_wp2
  go_loop [4, 5] (fun lo hi => ∃ a b : Nat, a ≤ b ∧ b ≤ l.length ∧ lo = .int .i64 a ∧ hi = .int .i64 b ∧ (∀ i p, i < a → l[i]? = some p → p.2 < r) ∧ (∀ i p, b ≤ i → l[i]? = some p → r ≤ p.2)) (fun lo hi => (intOf hi - intOf lo).toNat)
  case atStart => exact ⟨0, l.length, Nat.zero_le _, Nat.le_refl _, rfl, rfl, fun i p hi => absurd hi (by omega), fun i p hi hp => by simp [List.getElem?_eq_none hi] at hp⟩
  case round =>
    obtain ⟨a, b, hab, hbl, rfl, rfl, hlo, hhi⟩ := hrel
    have HL := hide hlo
    have HH := hide hhi
    clear hlo hhi
    by_cases hlt : a < b
    · obtain ⟨m, hm⟩ : ∃ m : Nat, m = (a + b) / 2 := ⟨_, rfl⟩
      have hm1 : a ≤ m := by omega
      have hm2 : m < b := by omega
      have hml : m < l.length := by omega
      have hm' : ((a : Int) + (b : Int)) / 2 = (m : Int) := by omega
      have HM := hide hm
      clear hm
      obtain ⟨b0, off, rfl, hb0, hc⟩ := h.get hml
      obtain ⟨c0, c1⟩ := hc
      go_wp2
      · have ht : l[m].2 < r := by assumption
        go_round
        case rel => exact ⟨m + 1, b, by omega, hbl, by go_num, rfl, lo_step HR.out HS.out hml ht, HH.out⟩
        case measure => simp [intOf]; omega
      · have ht : r ≤ l[m].2 := by assumption
        have hm := HM.out
        go_round
        case rel => exact ⟨a, m, hm1, by omega, rfl, int_eq hm', HL.out, hi_step HR.out HS.out hml ht⟩
        case measure => simp [intOf]; omega
    · have hab' : a = b := by omega
      subst hab'
      have fin : ∀ {n : Nat}, Below w.heap.size w (w.drewN n) := ⟨rfl, rfl, rfl, Nat.le_refl _, fun _ _ => rfl⟩
      by_cases hal : a < l.length
      · obtain ⟨b0, off, rfl, hb0, hc⟩ := h.get hal
        obtain ⟨c0, c1⟩ := hc
        by_cases h1 : l[a].1 ≤ r
        · have E := hide (tab_in hal HH.out h1)
          go_wp2
          go_ret
          exact ⟨ret_bool (by simp [E.out]), fin⟩
        · have E := hide (tab_out HR.out hal HL.out HH.out (by omega))
          go_wp2
          go_ret
          exact ⟨ret_bool (by simp [E.out]), fin⟩
      · have E := hide (tab_past (by omega) HL.out)
        go_wp2
        go_ret
        exact ⟨ret_bool (by simp [E.out]), fin⟩

theorem marks_rising : Rising marksTab := by unfold Rising marksTab; decide
theorem marks_span : ∀ p ∈ marksTab, p.1 ≤ p.2 := by unfold marksTab; decide
theorem wide_rising : Rising wideTab := by unfold Rising wideTab; decide
theorem wide_span : ∀ p ∈ wideTab, p.1 ≤ p.2 := by unfold wideTab; decide

theorem Sl.alloc {α : Type} {R : World → Nat → Nat → α → Prop} {sz : Nat} {w : World} {B : Nat} {A : Option Addr} {l : List α} (h : Sl R sz w B A l) (hR : Stays R B) (hB : B ≤ w.heap.size) (o : Obj) : Sl R sz (w.alloc o) B A l :=
  h.below hR ((Below.refl B w).alloc hB o)

/-- What 'finder(table)' needs of its table, once the box that holds it is made. -/
theorem finderTab {l : List (Int × Int)} {w : World} {A : Option Addr} {c : Nat} (hs : Sl PairAt 2 w w.heap.size A l) (t : TypeId) : Sl PairAt 2 (w.alloc (.cells #[.slice A l.length c] t)) (w.alloc (.cells #[.slice A l.length c] t)).heap.size A l :=
  (hs.alloc (PairAt.stays _) (Nat.le_refl _) _).more (by simp)
theorem finderBox {l : List (Int × Int)} {w : World} {A : Option Addr} {c : Nat} (t : TypeId) : (w.alloc (.cells #[.slice A l.length c] t)).cell? ⟨w.heap.size, 0, none⟩ = some (.slice A l.length c) :=
  cell_block (block_new _ _) 0

theorem markP (w : World) (r : Int) : Calls Tryz.prog 71 #[.int .i32 r] w fun e w' => e = .returned (.bool (isMark r)) ∧ Below w.heap.size w w' := by
  go_enter Tryz.func71, Tryz.ntmps71
  go_wp2_with (first
    | (go_at_call 99; refine (marksP _).mono ?_; rintro e w1 ⟨A, c, rfl, hs, hb⟩)
    | (go_at_call 72; go_in)
    | (go_at_call 100; refine (finder1 _ _ _ _ _ _ (finderTab hs _) (by decide) marks_rising marks_span (finderBox _)).mono ?_; rintro e w2 ⟨rfl, hb2⟩))
  go_ret
  exact ⟨rfl, (hb.alloc hb.size _).trans (hb2.mono (by have := hb.size; simp; omega))⟩

set_option maxHeartbeats 400000 in
theorem widthP (w : World) (r : Int) : Calls Tryz.prog 47 #[.int .i32 r] w fun e w' => e = .returned (.int .i64 (cw r)) ∧ Below w.heap.size w w' := by
  go_enter Tryz.func47, Tryz.ntmps47
  go_wp2_with (first
    | (go_at_call 71; refine (markP _ _).mono ?_; rintro e w1 ⟨rfl, hb⟩)
    | (go_at_call 73; refine (wideP _).mono ?_; rintro e w2 ⟨A, c, rfl, hs, hb2⟩; have hb3 := hb.trans (hb2.mono hb.size))
    | (go_at_call 72; go_in)
    | (go_at_call 100; refine (finder1 _ _ _ _ _ _ (finderTab hs _) (by decide) wide_rising wide_span (finderBox _)).mono ?_; rintro e w4 ⟨rfl, hb4⟩; have hb5 := (hb3.alloc hb3.size _).trans (hb4.mono (by have := hb3.size; simp; omega))))
  all_goals
    go_ret
    first
      | exact ⟨ret_int (cw_ctl (by omega)).symm, Below.refl _ _⟩
      | exact ⟨ret_int (cw_mark (by omega) (by assumption)).symm, hb⟩
      | exact ⟨ret_int (cw_wide (by omega) (by assumption) (by assumption)).symm, hb5⟩
      | exact ⟨ret_int (cw_one (by omega) (by assumption) (by assumption)).symm, hb5⟩
end Go.Proofs.YtdkppdjonlldhaaGreatDoor
