/- The reference's Jump, Check, Decode. -/
import Derived.Test.YtonnjokjbknngaaDoorZ13
namespace Go.Proofs.YtonnjokjbknngaaDoor
open Go.RowKit Go.Lib Go.Shelf

def jumpB (op : Int) : Bool := decide (op = 17 ∨ op = 18)
set_option maxHeartbeats 400000 in
theorem jumpP (w : World) (op : Int) : Calls Tryd.prog 35 #[.int .i64 op] w fun e w' => e = .returned (.bool (jumpB op)) ∧ w = w' := by
  by_cases h2 : op = 17
  · subst h2
    go_enter Tryd.func35, Tryd.ntmps35
    go_wp2
    go_ret
    exact ⟨rfl, rfl⟩
  have q2 : (op == 17) = false := by rw [beq_eq_false_iff_ne]; exact h2
  by_cases h3 : op = 18
  · subst h3
    go_enter Tryd.func35, Tryd.ntmps35
    go_wp2
    go_ret
    exact ⟨rfl, rfl⟩
  have q3 : (op == 18) = false := by rw [beq_eq_false_iff_ne]; exact h3
  have HJ := hide (show jumpB op = false from decide_eq_false (by omega))
  clear h2 h3
  go_enter Tryd.func35, Tryd.ntmps35
  go_wp2
  go_ret
  exact ⟨by rw [HJ.out]; rfl, rfl⟩

set_option maxRecDepth 100000 in
set_option maxHeartbeats 2000000 in
theorem checkR (w : World) (A : Option Addr) (c : Nat) (l : List Ins) (h : InsRow w w.heap.size A l) :
    Calls Tryd.prog 29 #[.slice A l.length c] w fun e w' => e = .returned (.int .i64 (codeErr l)) ∧ Below w.heap.size w w' := by
  have hrf := Below.refl w.heap.size w
  obtain ⟨n, hn⟩ : ∃ n, l.length = n := ⟨_, rfl⟩
  rw [hn]
  by_cases h5 : 500 < n
  · have HR := hide (show codeErr l = 5 by unfold codeErr; rw [hn, if_pos h5])
    have h5I : (500 : Int) < (n : Int) := by omega
    clear h hn h5
    go_enter Tryd.func29, Tryd.ntmps29
    go_wp2
    go_ret
    exact ⟨ret_int HR.out.symm, hrf⟩
  · have HR := hide (show codeErr l = errFrom n 0 l by unfold codeErr; rw [hn, if_neg h5])
    have h5n : n ≤ 500 := by omega
    have Hn := hide hn
    have Hh := hide h
    clear h hn h5
    go_enter Tryd.func29, Tryd.ntmps29
    go_wp2
    go_loopw [3] (fun i wr => ∃ k : Nat, k ≤ n ∧ i = .int .i64 k ∧ errFrom n 0 l = errFrom n k (l.drop k) ∧ Below w.heap.size w wr) (fun i _ => n - (intOf i).toNat)
    case atStart => exact ⟨0, Nat.zero_le _, rfl, rfl, hrf⟩
    case round =>
      obtain ⟨k, hk, rfl, he, hbr⟩ := hrel
      rename World => wo
      have He := hide he
      have HB := hide hbr
      clear he
      by_cases hlt : k < n
      · have hltI : (k : Int) < (n : Int) := by omega
        have hkl : k < l.length := by rw [Hn.out]; exact hlt
        obtain ⟨b, off, rfl, hb, hc0, hc1⟩ := Hh.out.get hkl
        have hdr := List.drop_eq_getElem_cons hkl
        obtain ⟨x, hx⟩ : ∃ x, l[k]'hkl = x := ⟨_, rfl⟩
        rw [hx] at hc0 hc1 hdr
        rw [hdr, errFrom_cons] at He
        obtain ⟨op, arg⟩ := x
        dsimp only at hc0 hc1
        have e0 : wo.cell? ⟨b, off + k * 2, none⟩ = some (.int .i64 op) := (hbr.cell (p := ⟨b, _, none⟩) hb).trans hc0
        have e1 : wo.cell? ⟨b, off + k * 2 + 1, none⟩ = some (.int .i64 arg) := (hbr.cell (p := ⟨b, _, none⟩) hb).trans hc1
        have hwo : w.heap.size ≤ wo.heap.size := HB.out.size
        clear hc0 hc1 hdr hx hbr hkl hb
        by_cases hop : op < 0 ∨ 20 < op
        · have HR2 := hide (show (9 : Int) = codeErr l by
            rw [HR.out, He.out]
            have : insErr n k ⟨op, arg⟩ = 9 := by unfold insErr; rw [if_pos hop]
            rw [this, if_neg (by decide)])
          have hq : decide (op < 0) = true ∨ (decide (op < 0) = false ∧ decide (20 < op) = true) := by
            by_cases h : op < 0
            · exact .inl (decide_eq_true h)
            · exact .inr ⟨decide_eq_false h, decide_eq_true (by omega)⟩
          clear He HR hop
          rcases hq with hq | ⟨hq, hq2⟩
          all_goals
            go_wp2
            go_ret
            exact ⟨ret_int HR2.out, HB.out.alloc hwo _⟩
        · have hq : decide (op < 0) = false := decide_eq_false (by omega)
          have hq2 : decide (20 < op) = false := decide_eq_false (by omega)
          obtain ⟨L, hL⟩ : ∃ x, loA op k = x := ⟨_, rfl⟩
          obtain ⟨H, hH⟩ : ∃ x, hiA op n = x := ⟨_, rfl⟩
          have hins : insErr n k ⟨op, arg⟩ = if arg < L ∨ H < arg then 2 else 0 := by
            rw [← hL, ← hH]
            unfold insErr
            rw [if_neg (by dsimp only; omega)]
          rw [hins] at He
          have HJ := hide (fun W => jumpP W op)
          obtain ⟨JB, hJ⟩ : ∃ x, jumpB op = x := ⟨_, rfl⟩
          simp only [hJ] at HJ
          have hcase : ((op == 1) = true ∧ JB = false ∧ L = -999999999 ∧ H = 999999999) ∨ ((op == 1) = false ∧ JB = true ∧ L = (k : Int) + 1 ∧ H = n) ∨ ((op == 1) = false ∧ JB = false ∧ L = 0 ∧ H = 0) := by
            rw [← hL, ← hH, ← hJ]
            unfold loA hiA jumpB
            by_cases h1 : op = 1
            · left; subst h1; exact ⟨rfl, rfl, rfl, rfl⟩
            · rw [if_neg h1, if_neg h1]
              have : (op == 1) = false := by rw [beq_eq_false_iff_ne]; exact h1
              by_cases h2 : op = 17 ∨ op = 18
              · right; left; rw [if_pos h2, if_pos h2]; exact ⟨this, decide_eq_true h2, rfl, rfl⟩
              · right; right; rw [if_neg h2, if_neg h2]; exact ⟨this, decide_eq_false h2, rfl, rfl⟩
          clear hins hL hH hop hJ
          by_cases hr : arg < L ∨ H < arg
          · have HR2 := hide (show (2 : Int) = codeErr l by
              rw [HR.out, He.out, if_pos hr, if_neg (by decide)])
            have hqr : decide (arg < L) = true ∨ (decide (arg < L) = false ∧ decide (H < arg) = true) := by
              by_cases h : arg < L
              · exact .inl (decide_eq_true h)
              · exact .inr ⟨decide_eq_false h, decide_eq_true (hr.resolve_left h)⟩
            clear He HR hr
            rcases hcase with ⟨c1, rfl, rfl, rfl⟩ | ⟨c1, rfl, rfl, rfl⟩ | ⟨c1, rfl, rfl, rfl⟩
            all_goals
              rcases hqr with hqr | ⟨hqr, hqr2⟩
              all_goals
                go_wp2_with (go_at_call 35; refine (HJ.out _).mono ?_; rintro e w3 ⟨rfl, rfl⟩)
                go_ret
                exact ⟨ret_int HR2.out, HB.out.alloc hwo _⟩
          · have HE2 := hide (show errFrom n 0 l = errFrom n (k + 1) (l.drop (k + 1)) by rw [He.out, if_neg hr, if_pos rfl])
            have hqr : decide (arg < L) = false := decide_eq_false (fun h => hr (.inl h))
            have hqr2 : decide (H < arg) = false := decide_eq_false (fun h => hr (.inr h))
            clear He hr
            rcases hcase with ⟨c1, rfl, rfl, rfl⟩ | ⟨c1, rfl, rfl, rfl⟩ | ⟨c1, rfl, rfl, rfl⟩
            all_goals
              go_wp2_with (go_at_call 35; refine (HJ.out _).mono ?_; rintro e w3 ⟨rfl, rfl⟩)
              go_roundw
              case rel => exact ⟨k + 1, by omega, by go_num, HE2.out, HB.out.alloc hwo _⟩
              case measure => simp [intOf]; omega
      · obtain rfl : k = n := by omega
        have HR2 := hide (show (0 : Int) = codeErr l by rw [HR.out, He.out, List.drop_of_length_le (by rw [Hn.out]; exact Nat.le_refl _)]; rfl)
        clear hbr HR He
        go_wp2
        go_ret
        exact ⟨ret_int HR2.out, HB.out⟩
end Go.Proofs.YtonnjokjbknngaaDoor
