/- narratorref23.has. -/
import Derived.Test.YtdgmjbcfopkibaaDoorF14
import Derived.Test.YtdgmjbcfopkibaaDoorF13
namespace Go.Proofs.YtdgmjbcfopkibaaDoor
open Go.RowKit

theorem idx_out : ∀ (l : List Gl) (c : Nat), widthOf l ≤ c → (l.length : Int) ≤ idx l c
  | [], c, _ => by unfold idx; simp
  | g :: l, c, h => by
    have hw : widthOf (g :: l) = glW g + widthOf l := by simp [widthOf]
    rw [hw] at h
    unfold idx
    rw [if_neg (by omega), show (c : Int) - (glW g : Int) = ((c - glW g : Nat) : Int) by omega]
    have := idx_out l (c - glW g) (by omega)
    simp only [List.length_cons]; omega

set_option maxRecDepth 100000 in
set_option maxHeartbeats 2000000 in
theorem has23 (w : World) (A : Option Addr) (c : Nat) (v : Vw) (t k nn : Nat) (n : Int) (h : Rows2 w w.heap.size A v.rows) (htame : v.Tame) (ht : t < v.rows.length) (hk : k ≤ 1000) (hn : (nn : Int) = n) (h16 : nn < 16) (h0 : nn ≠ 0) :
    Calls Tryd.prog 43 #[v.val A c, .int .i64 (t : Int), .int .i64 (k : Int), .int .i64 n] w fun e w' => e = .returned (.bool (hasA (v.pic t k) nn)) ∧ Below w.heap.size w w' := by
  subst hn
  have hbox := (Below.refl w.heap.size w).alloc (Nat.le_refl _) (.cells #[.int .i64 v.width, .int .i64 v.height, .slice A v.rows.length c, .int .i64 v.row, .int .i64 v.col, .bool v.visible] 24)
  obtain ⟨ba, off, rfl, hba, A1, c1, d0, d1, d2⟩ := h.get1 ht
  obtain ⟨hl140, hg40⟩ := htame.2 _ (List.getElem_mem ht)
  have hget : v.pic t k = picR (v.rows[t]'ht) k := by unfold Vw.pic; rw [List.getD_eq_getElem?_getD, List.getElem?_eq_getElem ht]; rfl
  rw [hget]
  obtain ⟨row, hrow⟩ : ∃ row, v.rows[t]'ht = row := ⟨_, rfl⟩
  rw [hrow] at d0 d1 d2 hl140 hg40 ⊢
  have HI := hide (fun (w1 : World) (hb : Below w.heap.size w w1) => (index15P w1 A1 c1 row (k : Int) ((d2.below (GlAt.stays _) hb).more hb.size) (by omega) d1 (by omega) (by omega)).mono fun e w' h => (show e = .returned (.int .i64 (idx row k)) ∧ w1 = w' from ⟨by rw [h.1]; unfold index15; rw [if_neg (by omega)], h.2⟩))
  have HGl := hide (fun (w1 : World) (hb : Below w.heap.size w w1) => d2.below (GlAt.stays _) hb)
  obtain ⟨m, hm⟩ : ∃ m, row.length = m := ⟨_, rfl⟩
  rw [hm] at d0 HI
  have Hm := hide hm
  have e0 : (w.alloc (.cells #[.int .i64 v.width, .int .i64 v.height, .slice (some ⟨ba, off, none⟩) v.rows.length c, .int .i64 v.row, .int .i64 v.col, .bool v.visible] 24)).cell? ⟨ba, off + t, none⟩ = some (.slice A1 m c1) := (hbox.cell (p := ⟨ba, off + t, none⟩) hba).trans d0
  have htI : (t : Int) < (v.rows.length : Int) := by omega
  have hcase : (∃ x : Int, idx row k = x ∧ (m : Int) ≤ x ∧ hasA (picR row k) nn = false) ∨ ∃ (i : Nat) (hi : i < row.length), idx row k = (i : Int) ∧ picR row k = if row[i].wide = true ∨ row[i].style = 3 then 0 else armT row[i].text.data.toList := by
    by_cases hw : k < widthOf row
    · obtain ⟨i, hi, h1, h2⟩ := picR_idx row k hw
      exact .inr ⟨i, hi, h1, h2⟩
    · exact .inl ⟨_, rfl, by rw [← hm]; exact idx_out row k (by omega), by rw [picR_out row k (by omega)]; exact hasA_zero h0⟩
  unfold Vw.val
  rcases hcase with ⟨x, hx, hmx, hz⟩ | ⟨i, hi, hix, hpi⟩
  · rw [hx] at HI
    rw [hz]
    have q1 : decide ((m : Int) ≤ x) = true := decide_eq_true hmx
    clear h ht hget hrow d0 d1 d2 hm hx hmx hz hl140 hg40
    go_enter Tryd.func43, Tryd.ntmps43
    go_wp2_with (go_at_call 70; refine (HI.out _ hbox).mono ?_; rintro e w1 ⟨rfl, rfl⟩)
    go_ret
    exact ⟨rfl, hbox⟩
  · rw [hix] at HI
    rw [hpi]
    have hx40 := hg40 _ (List.getElem_mem hi)
    obtain ⟨bG, oG, rfl, hbG, c0, c1', c2⟩ := (HGl.out _ hbox).get hi
    obtain ⟨⟨tx, wd, st⟩, hx⟩ : ∃ x, row[i]'hi = x := ⟨_, rfl⟩
    rw [hx] at c0 c1' c2 hx40 ⊢
    dsimp only at c0 c1' c2 hx40 ⊢
    have him : (i : Int) < (m : Int) := by rw [← hm]; omega
    have q1 : decide ((m : Int) ≤ (i : Int)) = false := decide_eq_false (by omega)
    have q1' : decide (m ≤ i) = false := decide_eq_false (by omega)
    clear h ht hget hrow d0 d1 d2 hm hix hpi hl140 hg40 hx hi
    cases wd with
    | true =>
      rw [if_pos (.inl rfl), hasA_zero h0]
      go_enter Tryd.func43, Tryd.ntmps43
      go_wp2_with (go_at_call 70; refine (HI.out _ hbox).mono ?_; rintro e w1 ⟨rfl, rfl⟩)
      go_ret
      exact ⟨rfl, hbox⟩
    | false =>
      by_cases h3 : st = 3
      · have q3 : (st == 3) = true := beq_iff_eq.2 h3
        rw [if_pos (.inr h3), hasA_zero h0]
        clear h3
        go_enter Tryd.func43, Tryd.ntmps43
        go_wp2_with (go_at_call 70; refine (HI.out _ hbox).mono ?_; rintro e w1 ⟨rfl, rfl⟩)
        go_ret
        exact ⟨rfl, hbox⟩
      · have q3 : (st == 3) = false := beq_eq_false_iff_ne.2 h3
        rw [if_neg (by rintro (h | h); (· cases h); exact h3 h)]
        have HAr := hide (fun W => arms23P W tx (by omega))
        have ha := armT_lt tx.data.toList
        obtain ⟨a, hA⟩ : ∃ a, armT tx.data.toList = a := ⟨_, rfl⟩
        rw [hA] at HAr ha ⊢
        have hand := and_arms ha h16
        obtain ⟨y, hy⟩ : ∃ y, a &&& nn = y := ⟨_, rfl⟩
        have hq := hasA_eq a nn
        rw [hy] at hand hq
        obtain ⟨q, hQ⟩ : ∃ q, hasA a nn = q := ⟨_, rfl⟩
        rw [hQ] at hq ⊢
        clear hA ha hy hQ h16 h0 h3
        go_enter Tryd.func43, Tryd.ntmps43
        go_wp2_with (first
          | (go_at_call 70; refine (HI.out _ hbox).mono ?_; rintro e w1 ⟨rfl, rfl⟩)
          | (go_at_call 13; refine (HAr.out _).mono ?_; rintro e w2 ⟨rfl, hb2⟩)
          | fail)
        go_ret
        exact ⟨rfl, hbox.trans (hb2.mono (by simp))⟩
end Go.Proofs.YtdgmjbcfopkibaaDoor
