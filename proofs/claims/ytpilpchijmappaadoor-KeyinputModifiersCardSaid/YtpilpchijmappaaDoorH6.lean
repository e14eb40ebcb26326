/- narratorref14.Check. -/
import Derived.Test.YtpilpchijmappaaDoorH5
namespace Go.Proofs.YtpilpchijmappaaDoor
open Go.RowKit

set_option maxRecDepth 100000 in
set_option maxHeartbeats 3000000 in
theorem check14 (w : World) (k : Key) : Calls Tryd.prog 15 #[k.val] w fun e w' => e = .returned (.int .i64 (keyErr k)) ∧ Below w.heap.size w w' := by
  obtain ⟨W0, hW0, hbox, hs0, hk⟩ := boxK w k
  have HK := hide (fun w1 (hb : Below W0.heap.size W0 w1) => (hk.below hb (by omega)).cells)
  obtain ⟨k0, k1, k2, k3, k4⟩ := HK.out W0 (Below.refl _ _)
  have Hbox := hide hbox
  obtain ⟨nm, r, c, a, s⟩ := k
  obtain ⟨E, hE⟩ : ∃ E, keyErr ⟨nm, r, c, a, s⟩ = E := ⟨_, rfl⟩
  have HE := hide hE
  rw [hE]
  clear hbox hk hE hs0
  subst hW0
  unfold Key.val
  dsimp only at HK k0 k1 k2 k3 k4 ⊢
  by_cases g0 : nm.data.toList = []
  · obtain rfl := ba_of g0
    have Hd := HE.out.symm.trans (keyErr_char rfl)
    unfold charB at Hd
    dsimp only at Hd
    have HP := hide (fun W => printable14 W r)
    obtain ⟨P, hP⟩ : ∃ P, printB r = P := ⟨_, rfl⟩
    rw [hP] at HP Hd
    have HD := hide Hd
    clear hP HE g0 Hd
    cases c with
    | true =>
      cases s with
      | true =>
        go_enter Tryd.func15, Tryd.ntmps15
        go_wp2
        go_ret
        exact ⟨ret_int HD.out.symm, Hbox.out⟩
      | false =>
        rcases (show r < 97 ∨ 122 < r ∨ r = 105 ∨ r = 109 ∨ (97 ≤ r ∧ r ≤ 122 ∧ (r != 105) = true ∧ (r != 109) = true) by
          by_cases h5 : r = 105 <;> by_cases h9 : r = 109 <;> simp [h5, h9] <;> omega) with h | h | rfl | rfl | ⟨h1, h2, h3, h4⟩
        all_goals
          have HD2 := hide HD.out
          go_enter Tryd.func15, Tryd.ntmps15
          go_wp2
          go_ret
          refine ⟨ret_int ?_, Hbox.out⟩
          rw [HD2.out]
          first
            | rfl
            | (rw [if_neg]; simp; omega)
            | (rw [if_pos]; simp at *; omega)
    | false =>
      cases s with
      | true =>
        go_enter Tryd.func15, Tryd.ntmps15
        go_wp2
        go_ret
        exact ⟨ret_int HD.out.symm, Hbox.out⟩
      | false =>
        cases P
        all_goals
          go_enter Tryd.func15, Tryd.ntmps15
          go_wp2_with (go_at_call 28; refine (HP.out _).mono ?_; rintro e w1 ⟨rfl, hb1⟩)
          go_ret
          exact ⟨ret_int HD.out.symm, Hbox.out.trans (hb1.mono Hbox.out.size)⟩
  have t0 := str_no g0
  have HKn := hide (fun W => known14 W nm)
  by_cases hin : nm.data.toList ∈ keyNames
  · rw [decide_eq_true hin] at HKn
    have Hd := HE.out.symm.trans (keyErr_named g0 hin)
    dsimp only [Key.nm] at Hd
    clear HE hin
    by_cases hr : r = 0
    · subst hr
      rw [show decide ((0 : Int) = 0) = true from rfl, Bool.true_and] at Hd
      have g1 : (∃ n, nm.data.toList = n ∧ ((n = nTab ∧ modB n c a s = (!c && !(s && a))) ∨ ((n = nEnter ∨ n = nEscape ∨ n = nBack) ∧ modB n c a s = (!c && !s)))) ∨ (nm.data.toList ≠ nTab ∧ nm.data.toList ≠ nEnter ∧ nm.data.toList ≠ nEscape ∧ nm.data.toList ≠ nBack) := by
        by_cases h1 : nm.data.toList = nTab
        · exact .inl ⟨_, h1, .inl ⟨rfl, rfl⟩⟩
        by_cases h2 : nm.data.toList = nEnter
        · exact .inl ⟨_, h2, .inr ⟨.inl rfl, rfl⟩⟩
        by_cases h3 : nm.data.toList = nEscape
        · exact .inl ⟨_, h3, .inr ⟨.inr (.inl rfl), rfl⟩⟩
        by_cases h4 : nm.data.toList = nBack
        · exact .inl ⟨_, h4, .inr ⟨.inr (.inr rfl), rfl⟩⟩
        exact .inr ⟨h1, h2, h3, h4⟩
      rcases g1 with ⟨n, hn, ⟨rfl, hm⟩ | ⟨rfl | rfl | rfl, hm⟩⟩ | ⟨g1, g2, g3, g4⟩
      iterate 4
        · obtain rfl := ba_of hn
          rw [hm] at Hd
          clear g0 hm hn t0
          have HD := hide Hd
          clear Hd
          rcases (show c = true ∨ (c = false ∧ s = false) ∨ (c = false ∧ s = true ∧ a = false) ∨ (c = false ∧ s = true ∧ a = true) by cases c <;> cases s <;> cases a <;> simp) with rfl | ⟨rfl, rfl⟩ | ⟨rfl, rfl, rfl⟩ | ⟨rfl, rfl, rfl⟩
          all_goals
            go_enter Tryd.func15, Tryd.ntmps15
            go_wp2_with (go_at_call 29; refine (HKn.out _).mono ?_; rintro e w1 ⟨rfl, hb1⟩; obtain ⟨x0, x1, x2, x3, x4⟩ := HK.out w1 hb1)
            go_ret
            exact ⟨ret_int HD.out.symm, Hbox.out.trans (hb1.mono Hbox.out.size)⟩
      · have t1 := str_no g1
        have t2 := str_no g2
        have t3 := str_no g3
        have t4 := str_no g4
        have HD := hide (Hd.trans (show _ = (0 : Int) by unfold modB; rw [if_neg g1, if_neg (show ¬ (nm.data.toList = nEnter ∨ nm.data.toList = nEscape ∨ nm.data.toList = nBack) by simp [g2, g3, g4])]; rfl))
        unfold nTab at t1
        unfold nEnter at t2
        unfold nEscape at t3
        unfold nBack at t4
        clear g0 g1 g2 g3 g4 Hd
        go_enter Tryd.func15, Tryd.ntmps15
        go_wp2_with (go_at_call 29; refine (HKn.out _).mono ?_; rintro e w1 ⟨rfl, hb1⟩; obtain ⟨x0, x1, x2, x3, x4⟩ := HK.out w1 hb1)
        go_ret
        exact ⟨ret_int HD.out.symm, Hbox.out.trans (hb1.mono Hbox.out.size)⟩
    · have hr0 : (r != 0) = true := by simpa using hr
      have HD := hide (Hd.trans (show _ = (1 : Int) by rw [decide_eq_false hr]; rfl))
      clear Hd g0 hr
      go_enter Tryd.func15, Tryd.ntmps15
      go_wp2_with (go_at_call 29; refine (HKn.out _).mono ?_; rintro e w1 ⟨rfl, hb1⟩; obtain ⟨x0, x1, x2, x3, x4⟩ := HK.out w1 hb1)
      go_ret
      exact ⟨ret_int HD.out.symm, Hbox.out.trans (hb1.mono Hbox.out.size)⟩
  · rw [decide_eq_false hin] at HKn
    have Hd := hide (HE.out.symm.trans (keyErr_no g0 hin))
    clear HE hin g0
    go_enter Tryd.func15, Tryd.ntmps15
    go_wp2_with (go_at_call 29; refine (HKn.out _).mono ?_; rintro e w1 ⟨rfl, hb1⟩; obtain ⟨x0, x1, x2, x3, x4⟩ := HK.out w1 hb1)
    go_ret
    exact ⟨ret_int Hd.out.symm, Hbox.out.trans (hb1.mono Hbox.out.size)⟩
end Go.Proofs.YtpilpchijmappaaDoor
