/- The walks of the laws ProgressTexts and ProgressFirst. -/
import Derived.Test.YtalmbcelkllpjaaDoorW11
namespace Go.Proofs.YtalmbcelkllpjaaDoor
open Go.RowKit

set_option maxRecDepth 100000 in
set_option maxHeartbeats 2000000 in
theorem textsLawP (w : World) (s : ByteArray) (hs : s.size ≤ 9223372036854775807) (hT : Tabs27 w) :
    Calls Tryd.prog 3 #[.string s] w fun e w' => e = .returned (.bool true) ∧ Below w.heap.size w w' := by
  have HA := hide (awakeP w hT)
  by_cases h : 200 < s.size
  · clear hT
    go_enter Tryd.func3, Tryd.ntmps3
    go_wp2_with (go_at_call 11; refine HA.out.mono ?_; rintro e w1 ⟨rfl, hb1⟩)
    go_ret
    exact ⟨rfl, hb1⟩
  · have H1 := hide (PercentP w s (by omega))
    have H2 := hide (Percent27 w s (by omega))
    have H3 := hide (BarP w s (by omega))
    have H4 := hide (Bar27 w s (by omega))
    obtain ⟨⟨n, x⟩, hp⟩ : ∃ p, percV s = p := ⟨_, rfl⟩
    obtain ⟨⟨a, b, y⟩, hb⟩ : ∃ p, barsV s = p := ⟨_, rfl⟩
    rw [hp] at H1 H2
    rw [hb] at H3 H4
    dsimp only at H1 H2 H3 H4
    clear hp hb hT
    go_enter Tryd.func3, Tryd.ntmps3
    go_wp2_with (first
      | (go_at_call 12; refine H1.out.mono ?_; rintro e w1 ⟨rfl, rfl⟩)
      | (go_at_call 13; refine H2.out.mono ?_; rintro e w1 ⟨rfl, rfl⟩)
      | (go_at_call 14; refine H3.out.mono ?_; rintro e w1 ⟨rfl, rfl⟩)
      | (go_at_call 15; refine H4.out.mono ?_; rintro e w1 ⟨rfl, rfl⟩)
      | (go_at_call 11; refine HA.out.mono ?_; rintro e w1 ⟨rfl, hb1⟩)
      | fail)
    go_ret
    exact ⟨rfl, hb1⟩

theorem app_list (a b : ByteArray) : (a ++ b).data.toList = a.data.toList ++ b.data.toList := by simp
theorem first_perc (a b : ByteArray) : (percV a).2 = false ∨ percV (a ++ b) = percV a := by
  unfold percV
  rw [app_list]
  cases h : percF a.data.toList with
  | none => exact .inl rfl
  | some r => right; rw [percF_more _ _ h]
theorem first_bar (a b : ByteArray) : (barsV a).2.2 = false ∨ barsV (a ++ b) = barsV a := by
  unfold barsV
  rw [app_list]
  cases h : barF a.data.toList with
  | none => exact .inl rfl
  | some r => right; rw [barF_more _ _ h]

set_option maxRecDepth 100000 in
set_option maxHeartbeats 4000000 in
theorem firstLawP (w : World) (s t : ByteArray) (hs : s.size ≤ 9223372036854775807) (ht : t.size ≤ 9223372036854775807) (hT : Tabs27 w) :
    Calls Tryd.prog 6 #[.string s, .string t] w fun e w' => e = .returned (.bool true) ∧ Below w.heap.size w w' := by
  have HA := hide (awakeP w hT)
  clear hT
  by_cases h : 100 < s.size
  · go_enter Tryd.func6, Tryd.ntmps6
    go_wp2_with (go_at_call 11; refine HA.out.mono ?_; rintro e w1 ⟨rfl, hb1⟩)
    go_ret
    exact ⟨rfl, hb1⟩
  · by_cases h2 : 100 < t.size
    · go_enter Tryd.func6, Tryd.ntmps6
      go_wp2_with (go_at_call 11; refine HA.out.mono ?_; rintro e w1 ⟨rfl, hb1⟩)
      go_ret
      exact ⟨rfl, hb1⟩
    · have hsz : (s ++ t).size = s.size + t.size := ByteArray.size_append
      have H1 := hide (PercentP w s (by omega))
      have H2 := hide (PercentP w (s ++ t) (by omega))
      have H3 := hide (BarP w s (by omega))
      have H4 := hide (BarP w (s ++ t) (by omega))
      have hcat : s.size + t.size ≤ 9223372036854775807 := by omega
      have f1 := first_perc s t
      have f2 := first_bar s t
      obtain ⟨⟨n, x⟩, hp⟩ : ∃ p, percV s = p := ⟨_, rfl⟩
      obtain ⟨⟨a, b, y⟩, hb⟩ : ∃ p, barsV s = p := ⟨_, rfl⟩
      obtain ⟨⟨n', x'⟩, hp'⟩ : ∃ p, percV (s ++ t) = p := ⟨_, rfl⟩
      obtain ⟨⟨a', b', y'⟩, hb'⟩ : ∃ p, barsV (s ++ t) = p := ⟨_, rfl⟩
      rw [hp] at H1 f1
      rw [hp'] at H2 f1
      rw [hb] at H3 f2
      rw [hb'] at H4 f2
      dsimp only at H1 H2 H3 H4 f1 f2
      simp only [Prod.mk.injEq] at f1 f2
      clear hp hb hp' hb' hsz
      have tok : True := trivial
      have tok2 : True := trivial
      rcases f1 with rfl | ⟨rfl, rfl⟩ <;> rcases f2 with rfl | ⟨rfl, rfl, rfl⟩
      all_goals
        go_enter Tryd.func6, Tryd.ntmps6
        go_wp2_with (first
          | (go_at_call 12; have _t := tok; refine H1.out.mono ?_; rintro e w1 ⟨rfl, rfl⟩; clear _t tok)
          | (go_at_call 12; refine H2.out.mono ?_; rintro e w1 ⟨rfl, rfl⟩)
          | (go_at_call 14; have _t := tok2; refine H3.out.mono ?_; rintro e w1 ⟨rfl, rfl⟩; clear _t tok2)
          | (go_at_call 14; refine H4.out.mono ?_; rintro e w1 ⟨rfl, rfl⟩)
          | (go_at_call 11; refine HA.out.mono ?_; rintro e w1 ⟨rfl, hb1⟩)
          | fail)
        all_goals
          go_ret
          exact ⟨rfl, hb1⟩
end Go.Proofs.YtalmbcelkllpjaaDoor
