/- frames.Closed, frames.Title. -/
import Derived.Test.YtdgmjbcfopkibaaDoorF8
import Derived.Deep.RegionHeld3
namespace Go.Proofs.YtdgmjbcfopkibaaDoor
open Go.RowKit Go.Shelf

/-- Whether a rectangle lies in a view. -/
def rectB (v : Vw) (t l b r : Int) : Bool := decide (0 ≤ t) && decide (0 ≤ l) && decide (2 ≤ b) && decide (2 ≤ r) && decide (b ≤ v.height) && decide (r ≤ v.width) && decide (t ≤ b - 2) && decide (l ≤ r - 2)
/-- What Closed returns. -/
def closedT (v : Vw) (t l b r : Int) : Bool := v.ok && rectB v t l b r && closedB v.pic t.toNat l.toNat b.toNat r.toNat
theorem rectB_iff (v : Vw) (t l b r : Int) : rectB v t l b r = true ↔ 0 ≤ t ∧ 0 ≤ l ∧ 2 ≤ b ∧ 2 ≤ r ∧ b ≤ v.height ∧ r ≤ v.width ∧ t ≤ b - 2 ∧ l ≤ r - 2 := by
  unfold rectB
  simp only [Bool.and_eq_true, decide_eq_true_eq, and_assoc]
theorem rectB_not {v : Vw} {t l b r : Int} (h : ¬ (0 ≤ t ∧ 0 ≤ l ∧ 2 ≤ b ∧ 2 ≤ r ∧ b ≤ v.height ∧ r ≤ v.width ∧ t ≤ b - 2 ∧ l ≤ r - 2)) : rectB v t l b r = false := by
  rw [← Bool.not_eq_true, rectB_iff]; exact h

set_option maxRecDepth 100000 in
set_option maxHeartbeats 4000000 in
theorem closedP (w : World) (A : Option Addr) (c : Nat) (v : Vw) (t l b r : Int) (h : Rows2 w w.heap.size A v.rows) (ht : v.Tame) (hT : Tabs w) :
    Calls Tryd.prog 14 #[v.val A c, .int .i64 t, .int .i64 l, .int .i64 b, .int .i64 r] w fun e w' => e = .returned (.bool (closedT v t l b r)) ∧ Below w.heap.size w w' := by
  have hbox := (Below.refl w.heap.size w).alloc (Nat.le_refl _) (.cells #[.int .i64 v.width, .int .i64 v.height, .slice A v.rows.length c, .int .i64 v.row, .int .i64 v.col, .bool v.visible] 24)
  have hvb : VwBox _ w.heap.size v A c := block_new w (.cells #[.int .i64 v.width, .int .i64 v.height, .slice A v.rows.length c, .int .i64 v.row, .int .i64 v.col, .bool v.visible] 24)
  have HC := hide (checkV _ A c v ((h.below hbox).more hbox.size) ht (hT.below hbox))
  cases hok : v.ok with
  | false =>
    have HR := hide (show closedT v t l b r = false by unfold closedT; rw [hok]; rfl)
    obtain ⟨V, hV⟩ : ∃ V, v.err = V := ⟨_, rfl⟩
    have h0 : (V != 0) = true := by unfold Vw.ok at hok; rw [hV] at hok; simpa using hok
    rw [hV] at HC
    clear h ht hT hok hV hvb
    unfold Vw.val at HC ⊢
    go_enter Tryd.func14, Tryd.ntmps14
    go_wp2_with (go_at_call 18; refine HC.out.mono ?_; rintro e w1 ⟨rfl, hb1⟩)
    go_ret
    exact ⟨by rw [HR.out]; rfl, hbox.trans (hb1.mono (by simp))⟩
  | true =>
    have h0 : v.err = 0 := by unfold Vw.ok at hok; simpa using hok
    rw [h0] at HC
    have hni := Vw.nice ht hok
    obtain ⟨W, hW⟩ : ∃ W : Nat, v.width = W := ⟨_, hni.width⟩
    have hWn : v.width.toNat = W := by rw [hW]; rfl
    rw [hWn] at hni
    obtain ⟨n, hn⟩ : ∃ n, v.rows.length = n := ⟨_, rfl⟩
    have hht : v.height = n := by rw [← hn]; exact hni.height
    have hW2 := hni.w2
    have hn12 := ht.1
    rw [hn] at hn12
    have hnr := fun h => show closedT v t l b r = false by unfold closedT; rw [hok, rectB_not h]; rfl
    rw [hW, hht] at hnr
    have HNr := hide hnr
    have HD := hide (fun (w1 : World) (hb1 : Below w.heap.size w w1) => drawP w1 A c v W ((h.below hb1).more hb1.size) hni)
    rw [hn] at HD
    have Hyes := hide (fun (h : 0 ≤ t ∧ 0 ≤ l ∧ 2 ≤ b ∧ 2 ≤ r ∧ b ≤ (n : Int) ∧ r ≤ (W : Int) ∧ t ≤ b - 2 ∧ l ≤ r - 2) => show closedT v t l b r = closedB v.pic t.toNat l.toNat b.toNat r.toNat by
      unfold closedT; rw [hok, (rectB_iff v t l b r).2 (by rw [hW, hht]; exact h)]; rfl)
    obtain ⟨CT, hCT⟩ : ∃ CT, closedT v t l b r = CT := ⟨_, rfl⟩
    rw [hCT] at HNr Hyes ⊢
    obtain ⟨k0, k1, k2, k3, k4, k5⟩ := hvb.cells
    have Hvb := hide hvb
    rw [hn] at HC hbox k2
    unfold Vw.val at HC HD ⊢
    rw [hn] at HC HD ⊢
    rw [hW, hht] at HC HD hbox k0 k1 ⊢
    have Hvb2 := hide (show (w.alloc (.cells #[.int .i64 (W : Int), .int .i64 (n : Int), .slice A n c, .int .i64 v.row, .int .i64 v.col, .bool v.visible] 24)).heap[w.heap.size]? = some (.cells #[.int .i64 (W : Int), .int .i64 (n : Int), .slice A n c, .int .i64 v.row, .int .i64 v.col, .bool v.visible] 24) from block_new w _)
    obtain ⟨P, hP⟩ : ∃ P, v.pic = P := ⟨_, rfl⟩
    rw [hP] at HD Hyes
    obtain ⟨vr, hvr⟩ : ∃ x, v.row = x := ⟨_, rfl⟩
    obtain ⟨vc, hvc⟩ : ∃ x, v.col = x := ⟨_, rfl⟩
    obtain ⟨vv, hvv⟩ : ∃ x, v.visible = x := ⟨_, rfl⟩
    rw [hvr, hvc, hvv] at HC HD hbox Hvb2 ⊢
    clear h ht hT hok h0 hni hWn hn hvb hnr hCT hP Hvb k0 k1 k2 k3 k4 k5 hW hht hvr hvc hvv
    by_cases c0 : t < 0
    · have d0 : decide (t < 0) = true := decide_eq_true c0
      have HR := hide (show CT = false from HNr.out (by omega))
      clear c0 HNr Hyes HD
      go_enter Tryd.func14, Tryd.ntmps14
      go_wp2_with (go_at_call 18; refine HC.out.mono ?_; rintro e w1 ⟨rfl, hb1⟩; have hvb1 := block_below Hvb2.out hb1 (by simp); obtain ⟨z0, z1, z2, z3, z4, z5⟩ := vbF_cells hvb1)
      go_ret
      exact ⟨by rw [HR.out]; rfl, hbox.trans (hb1.mono (by simp))⟩
    have d0 : decide (t < 0) = false := decide_eq_false c0
    by_cases c1 : l < 0
    · have d1 : decide (l < 0) = true := decide_eq_true c1
      have HR := hide (show CT = false from HNr.out (by omega))
      clear c1 HNr Hyes HD
      go_enter Tryd.func14, Tryd.ntmps14
      go_wp2_with (go_at_call 18; refine HC.out.mono ?_; rintro e w1 ⟨rfl, hb1⟩; have hvb1 := block_below Hvb2.out hb1 (by simp); obtain ⟨z0, z1, z2, z3, z4, z5⟩ := vbF_cells hvb1)
      go_ret
      exact ⟨by rw [HR.out]; rfl, hbox.trans (hb1.mono (by simp))⟩
    have d1 : decide (l < 0) = false := decide_eq_false c1
    by_cases c2 : b < 2
    · have d2 : decide (b < 2) = true := decide_eq_true c2
      have HR := hide (show CT = false from HNr.out (by omega))
      clear c2 HNr Hyes HD
      go_enter Tryd.func14, Tryd.ntmps14
      go_wp2_with (go_at_call 18; refine HC.out.mono ?_; rintro e w1 ⟨rfl, hb1⟩; have hvb1 := block_below Hvb2.out hb1 (by simp); obtain ⟨z0, z1, z2, z3, z4, z5⟩ := vbF_cells hvb1)
      go_ret
      exact ⟨by rw [HR.out]; rfl, hbox.trans (hb1.mono (by simp))⟩
    have d2 : decide (b < 2) = false := decide_eq_false c2
    by_cases c3 : r < 2
    · have d3 : decide (r < 2) = true := decide_eq_true c3
      have HR := hide (show CT = false from HNr.out (by omega))
      clear c3 HNr Hyes HD
      go_enter Tryd.func14, Tryd.ntmps14
      go_wp2_with (go_at_call 18; refine HC.out.mono ?_; rintro e w1 ⟨rfl, hb1⟩; have hvb1 := block_below Hvb2.out hb1 (by simp); obtain ⟨z0, z1, z2, z3, z4, z5⟩ := vbF_cells hvb1)
      go_ret
      exact ⟨by rw [HR.out]; rfl, hbox.trans (hb1.mono (by simp))⟩
    have d3 : decide (r < 2) = false := decide_eq_false c3
    by_cases c4 : (n : Int) < b
    · have d4 : decide ((n : Int) < b) = true := decide_eq_true c4
      have HR := hide (show CT = false from HNr.out (by omega))
      clear c4 HNr Hyes HD
      go_enter Tryd.func14, Tryd.ntmps14
      go_wp2_with (go_at_call 18; refine HC.out.mono ?_; rintro e w1 ⟨rfl, hb1⟩; have hvb1 := block_below Hvb2.out hb1 (by simp); obtain ⟨z0, z1, z2, z3, z4, z5⟩ := vbF_cells hvb1)
      go_ret
      exact ⟨by rw [HR.out]; rfl, hbox.trans (hb1.mono (by simp))⟩
    have d4 : decide ((n : Int) < b) = false := decide_eq_false c4
    by_cases c5 : (W : Int) < r
    · have d5 : decide ((W : Int) < r) = true := decide_eq_true c5
      have HR := hide (show CT = false from HNr.out (by omega))
      clear c5 HNr Hyes HD
      go_enter Tryd.func14, Tryd.ntmps14
      go_wp2_with (go_at_call 18; refine HC.out.mono ?_; rintro e w1 ⟨rfl, hb1⟩; have hvb1 := block_below Hvb2.out hb1 (by simp); obtain ⟨z0, z1, z2, z3, z4, z5⟩ := vbF_cells hvb1)
      go_ret
      exact ⟨by rw [HR.out]; rfl, hbox.trans (hb1.mono (by simp))⟩
    have d5 : decide ((W : Int) < r) = false := decide_eq_false c5
    by_cases c6 : b - 2 < t
    · have d6 : decide (b - 2 < t) = true := decide_eq_true c6
      have HR := hide (show CT = false from HNr.out (by omega))
      clear c6 HNr Hyes HD
      go_enter Tryd.func14, Tryd.ntmps14
      go_wp2_with (go_at_call 18; refine HC.out.mono ?_; rintro e w1 ⟨rfl, hb1⟩; have hvb1 := block_below Hvb2.out hb1 (by simp); obtain ⟨z0, z1, z2, z3, z4, z5⟩ := vbF_cells hvb1)
      go_ret
      exact ⟨by rw [HR.out]; rfl, hbox.trans (hb1.mono (by simp))⟩
    have d6 : decide (b - 2 < t) = false := decide_eq_false c6
    by_cases c7 : r - 2 < l
    · have d7 : decide (r - 2 < l) = true := decide_eq_true c7
      have HR := hide (show CT = false from HNr.out (by omega))
      clear c7 HNr Hyes HD
      go_enter Tryd.func14, Tryd.ntmps14
      go_wp2_with (go_at_call 18; refine HC.out.mono ?_; rintro e w1 ⟨rfl, hb1⟩; have hvb1 := block_below Hvb2.out hb1 (by simp); obtain ⟨z0, z1, z2, z3, z4, z5⟩ := vbF_cells hvb1)
      go_ret
      exact ⟨by rw [HR.out]; rfl, hbox.trans (hb1.mono (by simp))⟩
    have d7 : decide (r - 2 < l) = false := decide_eq_false c7
    have HR := hide (Hyes.out (by omega))
    obtain ⟨t', rfl⟩ : ∃ x : Nat, t = (x : Int) := ⟨t.toNat, by omega⟩
    obtain ⟨l', rfl⟩ : ∃ x : Nat, l = (x : Int) := ⟨l.toNat, by omega⟩
    obtain ⟨b', rfl⟩ : ∃ x : Nat, b = (x : Int) := ⟨b.toNat, by omega⟩
    obtain ⟨r', rfl⟩ : ∃ x : Nat, r = (x : Int) := ⟨r.toNat, by omega⟩
    simp only [Int.toNat_natCast] at HR
    have HCl := hide (fun (w3 : World) (bp : Nat) (hP : PicAt w3 bp n W P) => closedPicP w3 bp n W t' l' b' r' P hP (by omega) (by omega) (by omega) (by omega) (by omega) (by omega))
    have d4' : decide (n < b') = false := decide_eq_false (by omega)
    have d5' : decide (W < r') = false := decide_eq_false (by omega)
    have hb2 : 2 ≤ b' ∧ b' ≤ 12 := by omega
    have hr2 : 2 ≤ r' ∧ r' ≤ 200 := by omega
    obtain ⟨hb2a, hb2b⟩ := hb2
    obtain ⟨hr2a, hr2b⟩ := hr2
    clear c0 c1 c2 c3 c4 c5 c6 c7 HNr Hyes
    go_enter Tryd.func14, Tryd.ntmps14
    go_wp2_with (first
      | (go_at_call 18; refine HC.out.mono ?_; rintro e w1 ⟨rfl, hb1⟩; have hvb1 := block_below Hvb2.out hb1 (by simp); obtain ⟨z0, z1, z2, z3, z4, z5⟩ := vbF_cells hvb1)
      | (go_at_call 19; refine (HD.out w1 (hbox.trans (hb1.mono (by simp)))).mono ?_; rintro e w3 ⟨bp, rfl, -, hP3, hb3⟩)
      | (go_at_call 27; refine (HCl.out w3 bp hP3).mono ?_; rintro e w4 ⟨rfl, hb4⟩)
      | fail)
    go_ret
    have hb1w := hbox.trans (hb1.mono (by simp))
    have hb3w := hb1w.trans (hb3.mono hb1w.size)
    exact ⟨by rw [HR.out]; rfl, hb3w.trans (hb4.mono hb3w.size)⟩
end Go.Proofs.YtdgmjbcfopkibaaDoor
