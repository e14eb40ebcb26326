/- Chapter 45: view.Text, view.Index, clipping.position, index, collect. -/
import Derived.Test.YtdkppdjonlldhaaGreatDoorK2
import Derived.Test.YtdkppdjonlldhaaGreatDoorK4
import Derived.Test.YtdkppdjonlldhaaGreatDoorV13
import Derived.Shelf.Abstract
namespace Go.Proofs.YtdkppdjonlldhaaGreatDoor
open Go.RowKit Go.Shelf

theorem el_string : ElemOf Tryz.prog 51 9 (.string ⟨#[]⟩) 1 16 := ⟨Tryz.underlying51, by kernel_rfl, rfl, by omega, by omega⟩
theorem ba_size (a : ByteArray) : a.data.toList.length = a.size := by simp

set_option maxRecDepth 100000 in
set_option maxHeartbeats 2000000 in
theorem textVP (w : World) (A : Option Addr) (c : Nat) (l : List Gl) (h : GlRow w w.heap.size A l) (hl : l.length ≤ 1000) (ht : ∀ g ∈ l, g.text.size ≤ 500) :
    Calls Tryz.prog 21 #[.slice A l.length c] w fun e w' => e = .returned (.string (textB l)) ∧ Below w.heap.size w w' := by
  have HH := hide h
  have HZ := hide (textB_size l ht)
  have HT := hide ht
  clear h ht
  obtain ⟨n, hn⟩ : ∃ n, l.length = n := ⟨_, rfl⟩
  have Hn := hide hn
  rw [hn] at hl ⊢
  clear hn
  go_enter Tryz.func21, Tryz.ntmps21
  go_wp2
  go_loopw [8] (fun i wr => ∃ k : Nat, k ≤ n ∧ i = .int .i64 k ∧ Lib.IsBuilderF 75 5 w.heap.size w.heap.size (Lib.byteCells (textB (l.take k)).data.toList) wr ∧ Below w.heap.size w wr) (fun i _ => n - (intOf i).toNat)
  case atStart => exact ⟨0, Nat.zero_le _, rfl, Lib.IsBuilderF.of (Lib.fresh_isBuilder 75 5 w), (Below.refl _ w).alloc (Nat.le_refl _) _⟩
  case round =>
    rename World => wo
    obtain ⟨k, hk, rfl, hI, hb⟩ := hrel
    have hs := hb.size
    by_cases hlt : k < n
    · have hkl : k < l.length := by rw [Hn.out]; exact hlt
      have hz := HZ.out k (by omega)
      have hg := HT.out _ (List.getElem_mem hkl)
      obtain ⟨bk, off, rfl, hbb, c0, c1, c2⟩ := (HH.out.below (GlAt.stays _) hb).get hkl
      have HS := hide (textB_snoc l k hkl)
      have hI2 := hI.alloc (.cells #[.string l[k].text, .bool l[k].wide, .int .i64 l[k].style] 42)
      have hb2 := hb.alloc hs (.cells #[.string l[k].text, .bool l[k].wide, .int .i64 l[k].style] 42)
      have hs2 := hb2.size
      obtain ⟨⟨t, wd, st⟩, hx⟩ : ∃ x, l[k] = x := ⟨_, rfl⟩
      rw [hx] at c0 c1 c2 HS hI2 hb2 hs2 hg
      clear hx hI
      dsimp only at c0 c1 c2 hI2 hb2 hs2 hg HS
      have Hb2 := hide hb2
      have Hlen := hide (show (Lib.byteCells (textB (l.take k)).data.toList).length + t.size ≤ 140737488355328 by rw [Lib.byteCells_length, ba_size]; omega)
      go_wp2_with (first
        | (go_at_call 38; refine (Any.Builder_WriteString_k laysWriteString writeStringX w.heap.size w.heap.size _ t _ hI2 Hlen.out hs2).mono ?_; rintro e w2 ⟨rfl, hh1, b1, k1⟩)
        | fail)
      go_roundw
      case rel => exact ⟨k + 1, by omega, by go_num, by rw [HS.out, ba_app, Lib.byteCells_append]; exact Or.inr hh1, Hb2.out.trans b1⟩
      case measure => simp [intOf]; omega
    · obtain rfl : k = n := by omega
      have HT := hide (show l.take k = l by rw [← Hn.out, List.take_length])
      go_wp2_with (go_at_call 39; refine (Any.Builder_String_any_k laysString stringX w.heap.size w.heap.size _ _ hI hs).mono ?_; rintro e w2 ⟨rfl, _, b1, _⟩)
      go_ret
      exact ⟨by rw [HT.out]; first | rfl | simp, hb.trans b1⟩

set_option maxHeartbeats 2000000 in
theorem indexVP (w : World) (A : Option Addr) (c : Nat) (l : List Gl) (col : Int) (h : GlRow w w.heap.size A l) (hl : l.length ≤ 1000) (h0 : -100000 ≤ col) (h1 : col ≤ 100000) :
    Calls Tryz.prog 41 #[.slice A l.length c, .int .i64 col] w fun e w' => e = .returned (.int .i64 (index15 l col)) ∧ Below w.heap.size w w' := by
  have HH := hide h
  clear h
  obtain ⟨n, hn⟩ : ∃ n, l.length = n := ⟨_, rfl⟩
  have Hn := hide hn
  have HW := hide (fun k => widthOf_take_le l k)
  rw [hn] at hl HW ⊢
  cases hneg : decide (col < 0) with
  | true =>
    clear hn
    go_enter Tryz.func41, Tryz.ntmps41
    go_wp2
    go_ret
    exact ⟨ret_int (by unfold index15; rw [if_pos (of_decide_eq_true hneg)]), Below.refl _ _⟩
  | false =>
    have hidx := hide (show index15 l col = idx l col by unfold index15; rw [if_neg (of_decide_eq_false hneg)])
    have hcol : 0 ≤ col := by have := of_decide_eq_false hneg; omega
    clear hn
    go_enter Tryz.func41, Tryz.ntmps41
    go_wp2
    go_loopw [5, 12] (fun a i wr => ∃ k : Nat, k ≤ n ∧ i = .int .i64 k ∧ a = .int .i64 (widthOf (l.take k)) ∧ (widthOf (l.take k) : Int) ≤ col ∧ idx l col = k + idx (l.drop k) (col - widthOf (l.take k)) ∧ Below w.heap.size w wr) (fun _ i _ => n - (intOf i).toNat)
    case atStart => exact ⟨0, Nat.zero_le _, rfl, rfl, by simpa [widthOf] using hcol, by simp [widthOf], Below.refl _ _⟩
    case round =>
      rename World => wo
      obtain ⟨k, hk, rfl, rfl, hle, hix, hb⟩ := hrel
      have Hix := hide hix
      clear hix
      have hw2 := HW.out k
      have hw3 := HW.out (k + 1)
      by_cases hlt : k < n
      · have hkl : k < l.length := by rw [Hn.out]; exact hlt
        obtain ⟨bk, off, rfl, hbb, c0, c1, c2⟩ := (HH.out.below (GlAt.stays _) hb).get hkl
        have HS := hide (widthOf_snoc l k hkl)
        have Hst := hide (idx_step l k hkl col)
        have hb2 := hb.alloc hb.size (.cells #[.string l[k].text, .bool l[k].wide, .int .i64 l[k].style] 42)
        obtain ⟨⟨t, wd, st⟩, hx⟩ : ∃ x, l[k] = x := ⟨_, rfl⟩
        rw [hx] at c0 c1 c2 HS hb2
        clear hx
        dsimp only at c0 c1 c2 hb2
        have Hb2 := hide hb2
        obtain ⟨N, hN⟩ : ∃ N, widthOf (l.take (k + 1)) = N := ⟨_, rfl⟩
        obtain ⟨M, hM⟩ : ∃ M, widthOf (l.take k) = M := ⟨_, rfl⟩
        have HN := hide hN
        have HM := hide hM
        rw [hN, hM] at HS Hst
        rw [hM] at hle Hix hw2 ⊢
        rw [hN] at hw3
        unfold glW at HS
        clear hN hM hb2
        cases wd <;> cases hm : decide (col < (N : Int))
        all_goals
          first
            | (have hNM : N = M + 1 := HS.out
               subst hNM
               first
                 | (have hm2 : col < (M : Int) + 1 := by have := of_decide_eq_true hm; omega)
                 | (have hm2 : ¬ col < (M : Int) + 1 := by have := of_decide_eq_false hm; omega))
            | (have hNM : N = M + 1 + 1 := HS.out
               subst hNM
               first
                 | (have hm2 : col < (M : Int) + 1 + 1 := by have := of_decide_eq_true hm; omega)
                 | (have hm2 : ¬ col < (M : Int) + 1 + 1 := by have := of_decide_eq_false hm; omega))
          clear HS
          go_wp2
          first
            | (go_roundw
               case rel => exact ⟨k + 1, by omega, by go_num, by rw [HN.out]; go_num, by rw [HN.out]; have := of_decide_eq_false hm; omega, by rw [HN.out, Hix.out, Hst.out, if_neg (of_decide_eq_false hm)]; omega, Hb2.out⟩
               case measure => simp [intOf]; omega)
            | (go_ret
               exact ⟨ret_int (by rw [hidx.out, Hix.out, Hst.out, if_pos (of_decide_eq_true hm)]; omega), Hb2.out⟩)
      · obtain rfl : k = n := by omega
        go_wp2
        go_ret
        refine ⟨ret_int ?_, hb⟩
        have h2 := Hix.out
        rw [List.drop_of_length_le (by rw [Hn.out]; omega)] at h2
        rw [hidx.out, h2]
        show _ = (k : Int) + (col - _)
        omega

set_option maxHeartbeats 800000 in
theorem positionP (w : World) (A : Option Addr) (c : Nat) (v : Vw) (r k : Int) : Calls Tryz.prog 24 #[v.val A c, .int .i64 r, .int .i64 k] w fun e w' => e = .returned (.bool (posB v r k)) ∧ Below w.heap.size w w' := by
  unfold posB Vw.val
  by_cases h1 : 0 ≤ r <;> by_cases h2 : r < v.height <;> by_cases h3 : 0 ≤ k <;> by_cases h4 : k ≤ v.width
  all_goals
    go_enter Tryz.func24, Tryz.ntmps24
    go_wp2
    go_ret
    exact ⟨ret_bool (by simp [h1, h2, h3, h4]), (Below.refl _ _).alloc (Nat.le_refl _) _⟩
theorem idx_index {l : List Gl} {col : Int} (h0 : 0 ≤ col) : index15 l col = idx l col := by unfold index15; rw [if_neg (by omega)]
set_option maxHeartbeats 800000 in
theorem indexCP (w : World) (A : Option Addr) (c : Nat) (l : List Gl) (col : Int) (h : GlRow w w.heap.size A l) (hl : l.length ≤ 1000) (h0 : 0 ≤ col) (h1 : col ≤ 100000) :
    Calls Tryz.prog 26 #[.slice A l.length c, .int .i64 col] w fun e w' => e = .returned (.int .i64 (cidx l col)) ∧ Below w.heap.size w w' := by
  have HP := hide (indexVP w A c l col h hl (by omega) h1)
  have Hc := hide (show cidx l col = min (idx l col).toNat l.length from rfl)
  have hi0 := idx_nonneg l col h0
  rw [idx_index h0] at HP
  obtain ⟨I, hI⟩ : ∃ I : Nat, idx l col = I := ⟨(idx l col).toNat, by omega⟩
  rw [hI] at HP Hc
  obtain ⟨n, hn⟩ : ∃ n, l.length = n := ⟨_, rfl⟩
  rw [hn] at HP Hc ⊢
  clear h hi0 hI hn hl
  rcases (show decide ((I : Int) ≤ (n : Int)) = true ∨ decide ((I : Int) ≤ (n : Int)) = false by cases decide ((I : Int) ≤ (n : Int)) <;> simp) with hd | hd
  all_goals
    go_enter Tryz.func26, Tryz.ntmps26
    go_wp2_with (go_at_call 41; refine HP.out.mono ?_; rintro e w1 ⟨rfl, hb1⟩)
    go_ret
    exact ⟨ret_int (by rw [Hc.out]; simp at hd ⊢; omega), hb1⟩
end Go.Proofs.YtdkppdjonlldhaaGreatDoor
