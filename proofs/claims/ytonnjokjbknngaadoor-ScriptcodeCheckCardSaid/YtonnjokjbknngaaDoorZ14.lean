/- The walk of the law ScriptcodeCanonical. -/
import Derived.Test.YtonnjokjbknngaaDoorZ12
import Derived.Test.YtonnjokjbknngaaDoorZ13
namespace Go.Proofs.YtonnjokjbknngaaDoor
open Go.RowKit Go.Lib Go.Shelf

theorem u16_wf {n : Int} (h : (Lit.int .u16 n).wf = true) : ∃ c : Nat, n = (c : Int) ∧ c ≤ 65535 := by
  have : 0 ≤ n ∧ n ≤ 65535 := by simpa [Lit.wf, IntKind.min, IntKind.max, IntKind.signed, IntKind.bits] using h
  exact ⟨n.toNat, by omega, by omega⟩
theorem decC_prefix {s : List UInt8} {l m : List Ins} {k : Nat} (hk : k < s.length) (h : decC s = (0, l)) (h2 : decC (s.take k) = (0, m)) : m.length < l.length := by
  unfold decC at h h2
  have h3 := h
  rw [← List.take_append_drop k s] at h3
  exact prefix_fewer _ _ _ _ _ _ _ h3 (by intro h0; have := congrArg List.length h0; rw [List.length_drop] at this; simp at this; omega) h2

set_option maxRecDepth 100000 in
set_option maxHeartbeats 1000000 in
theorem canonicalLawP (w : World) (s : ByteArray) (c : Nat) (hc : c ≤ 65535) (hm : Mx w) : Calls Tryd.prog 5 #[.string s, .int .u16 c] w fun e w' => e = .returned (.bool true) ∧ Below w.heap.size w w' := by
  have HA := hide (fun (W : World) (hb : Below w.heap.size w W) => awakeP W (hm.below hb))
  have hrf := Below.refl w.heap.size w
  by_cases hz : 1000 < s.size
  · have hzI : (1000 : Int) < (s.size : Int) := by omega
    have HA0 := hide (HA.out w hrf)
    clear HA hm hz hc
    go_enter Tryd.func5, Tryd.ntmps5
    go_wp2_with (go_at_call 11; refine HA0.out.mono ?_; rintro e w1 ⟨rfl, hb1⟩)
    go_ret
    exact ⟨rfl, hb1⟩
  have hz2 : s.size ≤ 1000 := by omega
  have hD := decP w s (by omega)
  obtain ⟨E, l, hEl⟩ : ∃ E l, decC s.data.toList = (E, l) := ⟨_, _, rfl⟩
  unfold DecRet at hD
  rw [hEl] at hD
  dsimp only at hD
  by_cases he : E = 0
  · subst he
    obtain ⟨hce, henc⟩ := dec_canon hEl
    have HD := hide hD
    have HE := hide (fun (W : World) (A : Option Addr) (c : Nat) (h : InsRow W W.heap.size A l) => encodeP W A c l h)
    rw [hce, henc, if_pos rfl, show (⟨s.data.toList.toArray⟩ : ByteArray) = s by obtain ⟨⟨x⟩⟩ := s; rfl] at HE
    obtain ⟨n, hn⟩ : ∃ n, l.length = n := ⟨_, rfl⟩
    have Hn := hide hn
    rw [hn] at HE
    by_cases h0 : s.size = 0
    · have hs0 : s = ⟨#[]⟩ := ba_of (List.eq_nil_of_length_eq_zero h0)
      subst hs0
      clear hm hz hz2 hc hD hEl hce henc h0 hn
      go_enter Tryd.func5, Tryd.ntmps5
      go_wp2_with (first
        | (go_at_call 15; (with_reducible refine HD.out.mono ?_); rintro e w1 ⟨v, rfl, hown, hb1⟩; obtain ⟨A1, c1, rfl, -, hr1⟩ := InsRow.of_own hown; rw [Hn.out]; have Hr1 := hide hr1; have Hb1 := hide hb1; clear hown hr1 hb1)
        | (go_at_call 17; (with_reducible refine (HE.out w1 A1 c1 Hr1.out).mono ?_); rintro e w2 ⟨rfl, hb2⟩; have Hb2 := hide (Hb1.out.trans (hb2.mono Hb1.out.size)); clear hb2)
        | (go_at_call 11; refine (HA.out _ Hb2.out).mono ?_; rintro e w3 ⟨rfl, hb3⟩)
        | fail)
      go_ret
      exact ⟨rfl, Hb2.out.trans (hb3.mono Hb2.out.size)⟩
    · have hsp : (0 : Int) < (s.size : Int) := by omega
      have hsne : (s.toList == []) = false := by rw [ByteArray.toList_eq, beq_eq_false_iff_ne]; intro h; apply h0; show s.data.toList.length = 0; rw [h]; rfl
      obtain ⟨k, hk⟩ : ∃ k, c % s.size = k := ⟨_, rfl⟩
      have hkl : k < s.size := by rw [← hk]; exact Nat.mod_lt _ (by omega)
      have hkI : (c : Int) % (s.size : Int) = (k : Int) := by rw [← hk]; simp
      have hkI2 : (k : Int) < (s.size : Int) := by omega
      obtain ⟨P0, hP0⟩ : ∃ p, s.extract 0 k = p := ⟨_, rfl⟩
      have hsl : ∀ W : World, (Instr.slice 9 (.string s) none (some (.int .i64 (k : Int))) none).run Tryd.prog W = .ok (.string P0) W := fun W => by
        rw [run_slice_string_to_if (P := Tryd.prog) (w := W) 9 s .i64 (k : Int) Tryd.underlying9, if_pos ⟨by omega, by omega⟩, show ((k : Int)).toNat = k by omega, hP0]
      have hP0l : P0.data.toList = s.data.toList.take k := by rw [← hP0, Lib.extract_data]; simp
      have hP0z : P0.size ≤ 100000 := by
        have : P0.size = (s.data.toList.take k).length := by rw [← hP0l]; rfl
        rw [this, List.length_take]; omega
      have hD2 := fun W => decP W P0 hP0z
      obtain ⟨E2, m, hE2⟩ : ∃ E l, decC P0.data.toList = (E, l) := ⟨_, _, rfl⟩
      unfold DecRet at hD2
      simp only [hE2] at hD2
      have HD2 := hide hD2
      have hfew : E2 = 0 → m.length < n := fun h => by
        subst h
        rw [hP0l] at hE2
        rw [← hn]
        exact decC_prefix (k := k) (by show k < s.size; exact hkl) hEl hE2
      obtain ⟨nm, hnm⟩ : ∃ n, m.length = n := ⟨_, rfl⟩
      rw [hnm] at hfew
      have Hnm := hide hnm
      have hwayq : (E2 != 0) = true ∨ ((E2 != 0) = false ∧ decide ((nm : Int) < (n : Int)) = true ∧ decide (nm < n) = true) := by
        by_cases h : E2 = 0
        · right; exact ⟨by simp [h], decide_eq_true (by have := hfew h; omega), decide_eq_true (hfew h)⟩
        · left; simpa using h
      clear hm hz hD hEl hce henc h0 hn hk hP0 hP0l hP0z hD2 hE2 hfew hnm
      go_enter Tryd.func5, Tryd.ntmps5
      rcases hwayq with hq | ⟨hq, hq2, hq3⟩
      all_goals
        go_wp2_with (first
          | (go_at_call 15; (with_reducible refine (HD2.out w2).mono ?_); rintro e w4 ⟨v4, rfl, hown4, hb4⟩; obtain ⟨A4, c4, rfl⟩ := own_form hown4; rw [Hnm.out]; have Hb4 := hide (Hb2.out.trans (hb4.mono Hb2.out.size)); clear hown4 hb4)
          | (go_at_call 15; (with_reducible refine HD.out.mono ?_); rintro e w1 ⟨v, rfl, hown, hb1⟩; obtain ⟨A1, c1, rfl, -, hr1⟩ := InsRow.of_own hown; rw [Hn.out]; have Hr1 := hide hr1; have Hb1 := hide hb1; clear hown hr1 hb1)
          | (go_at_call 17; (with_reducible refine (HE.out w1 A1 c1 Hr1.out).mono ?_); rintro e w2 ⟨rfl, hb2⟩; have Hb2 := hide (Hb1.out.trans (hb2.mono Hb1.out.size)); clear hb2)
          | (go_at_call 11; refine (HA.out _ Hb4.out).mono ?_; rintro e w3 ⟨rfl, hb3⟩)
          | fail)
        go_ret
        exact ⟨rfl, Hb4.out.trans (hb3.mono Hb4.out.size)⟩
  · have hl0 : l = [] := by
      have := decC_err s.data.toList
      rw [hEl] at this
      exact this he
    subst hl0
    have hq : (E != 0) = true := by simpa using he
    have HD := hide hD
    clear hm hz hc hD hEl he
    go_enter Tryd.func5, Tryd.ntmps5
    go_wp2_with (first
      | (go_at_call 15; (with_reducible refine HD.out.mono ?_); rintro e w1 ⟨v, rfl, hown, hb1⟩; obtain ⟨A1, c1, rfl⟩ := own_form hown; have Hb1 := hide hb1; clear hown hb1)
      | (go_at_call 11; refine (HA.out _ Hb1.out).mono ?_; rintro e w3 ⟨rfl, hb3⟩)
      | fail)
    go_ret
    exact ⟨rfl, Hb1.out.trans (hb3.mono Hb1.out.size)⟩
end Go.Proofs.YtonnjokjbknngaaDoor
