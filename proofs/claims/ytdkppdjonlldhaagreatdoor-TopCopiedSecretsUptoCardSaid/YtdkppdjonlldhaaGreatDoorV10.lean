/- Great views. -/
import Derived.Test.YtdkppdjonlldhaaGreatDoorV9
namespace Go.Proofs.YtdkppdjonlldhaaGreatDoor
open Go.RowKit

def rowGreat (l : List Gl) : Bool := decide (140 < l.length) || l.any fun g => decide (40 < g.text.size)
def Vw.great (v : Vw) : Bool := (decide (12 < v.rows.length) || (decide (40 < v.width) && decide (2 < v.rows.length))) || v.rows.any rowGreat

theorem any_at {α : Type} (p : α → Bool) (l : List α) (k : Nat) (hk : k < l.length) (h : p l[k] = true) : l.any p = true :=
  List.any_eq_true.2 ⟨_, List.getElem_mem hk, h⟩

set_option maxHeartbeats 400000 in
theorem greatRowP (w : World) (A : Option Addr) (c : Nat) (l : List Gl) (h : GlRow w w.heap.size A l) :
    Calls Tryz.prog 15 #[.slice A l.length c] w fun e w' => e = .returned (.bool (rowGreat l)) ∧ w = w' := by
  have HH := hide h
  clear h
  cases h0 : decide ((140 : Int) < l.length) with
  | true =>
    go_enter Tryz.func15, Tryz.ntmps15
    go_wp2
    go_ret
    exact ⟨ret_bool (by have := of_decide_eq_true h0; unfold rowGreat; rw [decide_eq_true (by omega)]; rfl), rfl⟩
  | false =>
    go_enter Tryz.func15, Tryz.ntmps15
    go_wp2
    have hl : l.length ≤ 140 := by have := of_decide_eq_false h0; omega
    go_loop [3] (fun i => ∃ k : Nat, k ≤ l.length ∧ i = .int .i64 k ∧ (l.take k).any (fun g => decide (40 < g.text.size)) = false) (fun i => l.length - (intOf i).toNat)
    case atStart => exact ⟨0, Nat.zero_le _, rfl, by simp⟩
    case round =>
      obtain ⟨k, hk, rfl, ha⟩ := hrel
      have Ha := hide ha
      clear ha
      by_cases hlt : k < l.length
      · obtain ⟨b, off, rfl, hbb, c0, c1, c2⟩ := HH.out.get hlt
        cases hm : decide ((40 : Int) < l[k].text.size) with
        | true =>
          go_wp2
          go_ret
          refine ⟨ret_bool ?_, rfl⟩
          unfold rowGreat
          have := of_decide_eq_true hm
          rw [any_at _ l k hlt (by simp; omega)]; simp
        | false =>
          go_wp2
          go_round
          case rel => exact ⟨k + 1, by omega, by go_num, by have := of_decide_eq_false hm; rw [any_take_succ _ _ _ hlt, Ha.out, Bool.false_or]; simp; omega⟩
          case measure => simp [intOf]; omega
      · go_wp2
        go_ret
        refine ⟨ret_bool ?_, rfl⟩
        have h := Ha.out
        rw [List.take_of_length_le (by omega)] at h
        unfold rowGreat
        rw [h, decide_eq_false (by omega)]; rfl

set_option maxHeartbeats 400000 in
theorem greatP (w : World) (A : Option Addr) (c : Nat) (v : Vw) (h : Rows2 w w.heap.size A v.rows) :
    Calls Tryz.prog 5 #[v.val A c] w fun e w' => e = .returned (.bool v.great) ∧ Below w.heap.size w w' := by
  have HH := hide h
  clear h
  obtain ⟨width, height, rows, row, col, vis⟩ := v
  unfold Vw.val
  dsimp only at HH ⊢
  cases h0 : decide ((12 : Int) < rows.length) with
  | true =>
    go_enter Tryz.func5, Tryz.ntmps5
    go_wp2
    go_ret
    exact ⟨ret_bool (by have := of_decide_eq_true h0; unfold Vw.great; rw [decide_eq_true (by dsimp only; omega)]; rfl), (Below.refl _ _).alloc (Nat.le_refl _) _⟩
  | false =>
    have hl : rows.length ≤ 12 := by have := of_decide_eq_false h0; omega
    have key : ∀ h1 : (decide ((40 : Int) < width) && decide (2 < rows.length)) = false, Vw.great ⟨width, height, rows, row, col, vis⟩ = rows.any rowGreat := by
      intro h1; unfold Vw.great; dsimp only; rw [h1, decide_eq_false (by omega)]; rfl
    have ways : (decide ((40 : Int) < width) = true ∧ decide ((2 : Int) < rows.length) = true) ∨ (decide ((40 : Int) < width) = true ∧ decide ((2 : Int) < rows.length) = false) ∨ decide ((40 : Int) < width) = false := by
      cases decide ((40 : Int) < width) <;> cases decide ((2 : Int) < rows.length) <;> simp
    have hkey : (decide ((40 : Int) < width) = true → decide ((2 : Int) < rows.length) = false) → Vw.great ⟨width, height, rows, row, col, vis⟩ = rows.any rowGreat := by
      intro hx
      refine key ?_
      cases h1 : decide ((40 : Int) < width)
      · rfl
      · have := of_decide_eq_false (hx h1); rw [Bool.true_and]; exact decide_eq_false (by omega)
    clear key
    rcases ways with ⟨h1, h2⟩ | ⟨h1, h2⟩ | h1
    · go_enter Tryz.func5, Tryz.ntmps5
      go_wp2
      go_ret
      refine ⟨ret_bool ?_, (Below.refl _ _).alloc (Nat.le_refl _) _⟩
      have := of_decide_eq_true h2
      unfold Vw.great; dsimp only
      rw [h1, decide_eq_true (p := 2 < rows.length) (by omega)]; simp
    all_goals
      replace hkey := hide (hkey (by first | (intro _; exact h2) | (intro hx; rw [h1] at hx; cases hx)))
      go_enter Tryz.func5, Tryz.ntmps5
      go_wp2
      have hbox := (Below.refl w.heap.size w).alloc (Nat.le_refl _) (.cells #[.int .i64 width, .int .i64 height, .slice A rows.length c, .int .i64 row, .int .i64 col, .bool vis] 24)
      go_loop [3] (fun i => ∃ k : Nat, k ≤ rows.length ∧ i = .int .i64 k ∧ (rows.take k).any rowGreat = false) (fun i => rows.length - (intOf i).toNat)
      case atStart => exact ⟨0, Nat.zero_le _, rfl, by simp⟩
      case round =>
        obtain ⟨k, hk, rfl, ha⟩ := hrel
        have Ha := hide ha
        clear ha
        by_cases hlt : k < rows.length
        · obtain ⟨b, off, rfl, hbb, A1, c1, d0, d1, d2⟩ := (HH.out.below hbox).get1 hlt
          have hrow := hide (d2.more hbox.size)
          clear d2
          cases hm : rowGreat rows[k] with
          | true =>
            go_wp2_with (go_at_call 15; refine (greatRowP _ _ _ _ hrow.out).mono ?_; rintro e w1 ⟨rfl, rfl⟩)
            go_ret
            exact ⟨ret_bool (by rw [hkey.out, any_at _ _ k hlt hm]), hbox⟩
          | false =>
            go_wp2_with (go_at_call 15; refine (greatRowP _ _ _ _ hrow.out).mono ?_; rintro e w1 ⟨rfl, rfl⟩)
            go_round
            case rel => exact ⟨k + 1, by omega, by go_num, by rw [any_take_succ _ _ _ hlt, Ha.out, hm]; rfl⟩
            case measure => simp [intOf]; omega
        · go_wp2
          go_ret
          exact ⟨ret_bool (by have h := Ha.out; rw [List.take_of_length_le (by omega)] at h; rw [hkey.out, h]), hbox⟩
end Go.Proofs.YtdkppdjonlldhaaGreatDoor
