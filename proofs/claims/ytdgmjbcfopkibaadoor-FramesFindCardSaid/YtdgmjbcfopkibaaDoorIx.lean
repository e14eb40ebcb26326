/- view.Index. -/
import Derived.Test.YtdgmjbcfopkibaaDoorV13
namespace Go.Proofs.YtdgmjbcfopkibaaDoor
open Go.RowKit

set_option maxHeartbeats 2000000 in
theorem indexVP (w : World) (A : Option Addr) (c : Nat) (l : List Gl) (col : Int) (h : GlRow w w.heap.size A l) (hl : l.length ≤ 1000) (h0 : -100000 ≤ col) (h1 : col ≤ 100000) :
    Calls Tryd.prog 35 #[.slice A l.length c, .int .i64 col] w fun e w' => e = .returned (.int .i64 (index15 l col)) ∧ Below w.heap.size w w' := by
  have HH := hide h
  clear h
  obtain ⟨n, hn⟩ : ∃ n, l.length = n := ⟨_, rfl⟩
  have Hn := hide hn
  have HW := hide (fun k => widthOf_take_le l k)
  rw [hn] at hl HW ⊢
  cases hneg : decide (col < 0) with
  | true =>
    clear hn
    go_enter Tryd.func35, Tryd.ntmps35
    go_wp2
    go_ret
    exact ⟨ret_int (by unfold index15; rw [if_pos (of_decide_eq_true hneg)]), Below.refl _ _⟩
  | false =>
    have hidx := hide (show index15 l col = idx l col by unfold index15; rw [if_neg (of_decide_eq_false hneg)])
    have hcol : 0 ≤ col := by have := of_decide_eq_false hneg; omega
    clear hn
    go_enter Tryd.func35, Tryd.ntmps35
    go_wp2
    go_loopw [5, 12] (fun a i wr => ∃ k : Nat, k ≤ n ∧ i = .int .i64 k ∧ a = .int .i64 (widthOf (l.take k)) ∧ (widthOf (l.take k) : Int) ≤ col ∧ idx l col = k + idx (l.drop k) (col - widthOf (l.take k)) ∧ Below w.heap.size w wr) (fun _ i _ => n - (intOf i).toNat)
    case atStart => exact ⟨0, Nat.zero_le _, rfl, rfl, by simpa [widthOf] using hcol, by simp [widthOf], Below.refl _ _⟩
    case round =>
      rename World => wo
      obtain ⟨k, hk, rfl, rfl, hle, hix, hb⟩ := hrel
      have Hix := hide hix
      clear hix
      have hw2 := HW.out k
      have hw3 := HW.out (k + 1)
      by_cases hlt : k < n
      · have hkl : k < l.length := by rw [Hn.out]; exact hlt
        obtain ⟨bk, off, rfl, hbb, c0, c1, c2⟩ := (HH.out.below (GlAt.stays _) hb).get hkl
        have HS := hide (widthOf_snoc l k hkl)
        have Hst := hide (idx_step l k hkl col)
        have hb2 := hb.alloc hb.size (.cells #[.string l[k].text, .bool l[k].wide, .int .i64 l[k].style] 57)
        obtain ⟨⟨t, wd, st⟩, hx⟩ : ∃ x, l[k] = x := ⟨_, rfl⟩
        rw [hx] at c0 c1 c2 HS hb2
        clear hx
        dsimp only at c0 c1 c2 hb2
        have Hb2 := hide hb2
        obtain ⟨N, hN⟩ : ∃ N, widthOf (l.take (k + 1)) = N := ⟨_, rfl⟩
        obtain ⟨M, hM⟩ : ∃ M, widthOf (l.take k) = M := ⟨_, rfl⟩
        have HN := hide hN
        have HM := hide hM
        rw [hN, hM] at HS Hst
        rw [hM] at hle Hix hw2 ⊢
        rw [hN] at hw3
        unfold glW at HS
        clear hN hM hb2
        cases wd <;> cases hm : decide (col < (N : Int))
        all_goals
          first
            | (have hNM : N = M + 1 := HS.out
               subst hNM
               first
                 | (have hm2 : col < (M : Int) + 1 := by have := of_decide_eq_true hm; omega)
                 | (have hm2 : ¬ col < (M : Int) + 1 := by have := of_decide_eq_false hm; omega))
            | (have hNM : N = M + 1 + 1 := HS.out
               subst hNM
               first
                 | (have hm2 : col < (M : Int) + 1 + 1 := by have := of_decide_eq_true hm; omega)
                 | (have hm2 : ¬ col < (M : Int) + 1 + 1 := by have := of_decide_eq_false hm; omega))
          clear HS
          go_wp2
          first
            | (go_roundw
               case rel => exact ⟨k + 1, by omega, by go_num, by rw [HN.out]; go_num, by rw [HN.out]; have := of_decide_eq_false hm; omega, by rw [HN.out, Hix.out, Hst.out, if_neg (of_decide_eq_false hm)]; omega, Hb2.out⟩
               case measure => simp [intOf]; omega)
            | (go_ret
               exact ⟨ret_int (by rw [hidx.out, Hix.out, Hst.out, if_pos (of_decide_eq_true hm)]; omega), Hb2.out⟩)
      · obtain rfl : k = n := by omega
        go_wp2
        go_ret
        refine ⟨ret_int ?_, hb⟩
        have h2 := Hix.out
        rw [List.drop_of_length_le (by rw [Hn.out]; omega)] at h2
        rw [hidx.out, h2]
        show _ = (k : Int) + (col - _)
        omega
end Go.Proofs.YtdgmjbcfopkibaaDoor
