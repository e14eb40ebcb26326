/- narratorref27.bar. -/
import Derived.Test.YtalmbcelkllpjaaDoorW3
namespace Go.Proofs.YtalmbcelkllpjaaDoor
open Go.RowKit

/-- In the first state the byte at hand is none that goes on filling. -/
def BarGate (s : ByteArray) (st p : Nat) : Prop := ∀ h : p < s.size, st = 0 → s[p] ≠ 35 ∧ s[p] ≠ 61 ∧ s[p] ≠ 62

set_option maxRecDepth 100000 in
set_option maxHeartbeats 16000000 in
theorem bar27 (w : World) (s : ByteArray) (hs : s.size ≤ 1000) : Calls Tryd.prog 29 #[.string s] w fun e w' => e = barE (barF s.data.toList) ∧ w = w' := by
  obtain ⟨R, hR⟩ : ∃ R, barE (barF s.data.toList) = R := ⟨_, rfl⟩
  rw [hR]
  have HF := hide (fun i (h1 : i < s.size) (h2 : ∀ j, j < i → barAt s.data.toList j = none) r (hr : barAt s.data.toList i = some r) => (show barE (some r) = R by rw [← hR]; unfold barF; rw [firstAt _ s.data.toList.length i h1 h2 hr]))
  have HN := hide (fun (h2 : ∀ j, j < s.size → barAt s.data.toList j = none) => (show barE none = R by rw [← hR]; unfold barF; rw [firstNo _ s.data.toList.length h2]))
  clear hR
  go_enter Tryd.func29, Tryd.ntmps29
  go_wp2
  go_loopg [6] s.size (fun g i wx => ∃ k : Nat, k + g = s.size ∧ i = .int .i64 k ∧ wx = w ∧ ∀ j, j < k → barAt s.data.toList j = none)
  case atStart => exact ⟨0, by omega, rfl, rfl, fun j hj => by omega⟩
  case round =>
    obtain ⟨k, hk, rfl, rfl, hno⟩ := hrel
    have Hno := hide hno
    clear hno
    by_cases hlt : k < s.size
    · obtain ⟨g, rfl⟩ : ∃ g, gk = g + 1 := ⟨gk - 1, by omega⟩
      by_cases h91 : s[k] = 91
      · have q91 : ((s[k].toNat : Int) == 91) = true := by rw [h91]; rfl
        have HY := hide (fun r hr => barAt_yes s k hlt h91 (r := r) hr)
        clear h91
        go_wp2
        go_loopg [7] s.size (fun g b wx => ∃ m : Nat, k + 1 ≤ m ∧ m + g = s.size + (k + 1) ∧ m ≤ s.size ∧ b = .int .i64 m ∧ wx = wr ∧ barGo (s.data.toList.drop (k + 1)) 0 0 0 = barGo (s.data.toList.drop m) 0 (m - (k + 1)) (m - (k + 1)))
        case atStart => exact ⟨k + 1, by omega, by omega, by omega, by go_num, rfl, by rw [Nat.sub_self]⟩
        case round =>
          obtain ⟨m, hm1, hm0, hm2, rfl, rfl, hgo⟩ := hrel
          have Hgo := hide hgo
          clear hgo
          by_cases hml : m < s.size
          · obtain ⟨h, rfl⟩ : ∃ h, gk = h + 1 := ⟨gk - 1, by omega⟩
            have Hd := hide (sdrop s m hml)
            rcases barWays s[m] with hc | hc | hc | hc | hc | hc | hc | ⟨n93, n35, n61, n62, n32, n46, n45⟩
            · have HP : Hid (BarGate s 0 m) := hide (fun _ _ => by rw [hc]; decide)
              have q35 : ((s[m].toNat : Int) == 35) = false := by rw [hc]; rfl
              have q61 : ((s[m].toNat : Int) == 61) = false := by rw [hc]; rfl
              have q62 : ((s[m].toNat : Int) == 62) = false := by rw [hc]; rfl
              clear hc
              clear Hd
              go_wp2
              go_loopg [7] s.size (fun g b wx => ∃ st p : Nat, m ≤ p ∧ p + g = s.size + (m) ∧ p ≤ s.size ∧ b = .int .i64 p ∧ wx = wr ∧ BarGate s st p ∧ barGo (s.data.toList.drop (k + 1)) 0 0 0 = barGo (s.data.toList.drop p) st (m - (k + 1)) (p - (k + 1)))
              case atStart => exact ⟨_, m, Nat.le_refl _, by omega, by omega, by first | rfl | go_num, rfl, HP.out, Hgo.out⟩
              case round =>
                clear Hgo HP
                obtain ⟨st, p, hp1, hp0, hp2, rfl, rfl, hgate, hgo⟩ := hrel
                have Hgo := hide hgo
                have HP := hide hgate
                clear hgo hgate
                by_cases hpl : p < s.size
                · obtain ⟨h, rfl⟩ : ∃ h, gk = h + 1 := ⟨gk - 1, by omega⟩
                  have Hd := hide (sdrop s p hpl)
                  have HP2 := hide (HP.out hpl)
                  rcases barWays s[p] with hc | hc | hc | hc | hc | hc | hc | ⟨n93, n35, n61, n62, n32, n46, n45⟩
                  · have q32 : ((s[p].toNat : Int) == 32) = false := by rw [hc]; rfl
                    have q46 : ((s[p].toNat : Int) == 46) = false := by rw [hc]; rfl
                    have q45 : ((s[p].toNat : Int) == 45) = false := by rw [hc]; rfl
                    have q93 : ((s[p].toNat : Int) == 93) = true := by rw [hc]; rfl
                    rcases Nat.lt_or_ge (p - (k + 1)) 3 with h3 | h3
                    · have Hn := hide (HY.out none (by rw [Hgo.out, Hd.out, go_93 _ _ _ _ _ hc, if_neg (by omega)]))
                      have h3i : ¬ (3 : Int) ≤ (p : Int) - (k : Int) - 1 := by omega
                      clear hc
                      go_wp2
                      go_roundg g
                      case rel => exact ⟨k + 1, by omega, by go_num, rfl, fun i hi => by rcases Nat.lt_succ_iff_lt_or_eq.1 hi with hi | rfl; exact Hno.out i hi; exact Hn.out⟩
                      case measure => omega
                    · have Hy := hide (HY.out _ (by rw [Hgo.out, Hd.out, go_93 _ _ _ _ _ hc, if_pos h3]))
                      have h3i : (3 : Int) ≤ (p : Int) - (k : Int) - 1 := by omega
                      clear hc
                      go_wp2
                      (try simp only [Exit.inBlock, Exit.then]); refine bodyPost_ret (results_tmp4 rfl _ _ _) rfl ?_
                      refine ⟨?_, rfl⟩
                      rw [← HF.out k hlt Hno.out _ Hy.out]
                      simp [barE]
                      omega
                  · have h0 : st ≠ 0 := fun h => (HP2.out h).1 hc
                    have Hn := hide (HY.out none (by rw [Hgo.out, Hd.out, go_fullno _ _ _ _ _ (.inl hc) h0]))
                    have q32 : ((s[p].toNat : Int) == 32) = false := by rw [hc]; rfl
                    have q46 : ((s[p].toNat : Int) == 46) = false := by rw [hc]; rfl
                    have q45 : ((s[p].toNat : Int) == 45) = false := by rw [hc]; rfl
                    have q93 : ((s[p].toNat : Int) == 93) = false := by rw [hc]; rfl
                    clear hc h0
                    go_wp2
                    go_roundg g
                    case rel => exact ⟨k + 1, by omega, by go_num, rfl, fun i hi => by rcases Nat.lt_succ_iff_lt_or_eq.1 hi with hi | rfl; exact Hno.out i hi; exact Hn.out⟩
                    case measure => omega
                  · have h0 : st ≠ 0 := fun h => (HP2.out h).2.1 hc
                    have Hn := hide (HY.out none (by rw [Hgo.out, Hd.out, go_fullno _ _ _ _ _ (.inr hc) h0]))
                    have q32 : ((s[p].toNat : Int) == 32) = false := by rw [hc]; rfl
                    have q46 : ((s[p].toNat : Int) == 46) = false := by rw [hc]; rfl
                    have q45 : ((s[p].toNat : Int) == 45) = false := by rw [hc]; rfl
                    have q93 : ((s[p].toNat : Int) == 93) = false := by rw [hc]; rfl
                    clear hc h0
                    go_wp2
                    go_roundg g
                    case rel => exact ⟨k + 1, by omega, by go_num, rfl, fun i hi => by rcases Nat.lt_succ_iff_lt_or_eq.1 hi with hi | rfl; exact Hno.out i hi; exact Hn.out⟩
                    case measure => omega
                  · have h0 : st ≠ 0 := fun h => (HP2.out h).2.2 hc
                    have Hn := hide (HY.out none (by rw [Hgo.out, Hd.out, go_62no _ _ _ _ _ hc h0]))
                    have q32 : ((s[p].toNat : Int) == 32) = false := by rw [hc]; rfl
                    have q46 : ((s[p].toNat : Int) == 46) = false := by rw [hc]; rfl
                    have q45 : ((s[p].toNat : Int) == 45) = false := by rw [hc]; rfl
                    have q93 : ((s[p].toNat : Int) == 93) = false := by rw [hc]; rfl
                    clear hc h0
                    go_wp2
                    go_roundg g
                    case rel => exact ⟨k + 1, by omega, by go_num, rfl, fun i hi => by rcases Nat.lt_succ_iff_lt_or_eq.1 hi with hi | rfl; exact Hno.out i hi; exact Hn.out⟩
                    case measure => omega
                  · have Hc := hide (go_free s[p] (s.data.toList.drop (p + 1)) st (m - (k + 1)) (p - (k + 1)) (.inl hc))
                    have q32 : ((s[p].toNat : Int) == 32) = true := by rw [hc]; rfl
                    have q46 : ((s[p].toNat : Int) == 46) = false := by rw [hc]; rfl
                    have q45 : ((s[p].toNat : Int) == 45) = false := by rw [hc]; rfl
                    clear hc
                    go_wp2
                    go_roundg h
                    case rel => exact ⟨2, p + 1, by omega, by omega, by omega, by go_num, rfl, fun _ h0 => absurd h0 (by decide), by rw [Hgo.out, Hd.out, Hc.out, show p + 1 - (k + 1) = p - (k + 1) + 1 by omega]⟩
                    case measure => omega
                  · have Hc := hide (go_free s[p] (s.data.toList.drop (p + 1)) st (m - (k + 1)) (p - (k + 1)) (.inr (.inl hc)))
                    have q32 : ((s[p].toNat : Int) == 32) = false := by rw [hc]; rfl
                    have q46 : ((s[p].toNat : Int) == 46) = true := by rw [hc]; rfl
                    have q45 : ((s[p].toNat : Int) == 45) = false := by rw [hc]; rfl
                    clear hc
                    go_wp2
                    go_roundg h
                    case rel => exact ⟨2, p + 1, by omega, by omega, by omega, by go_num, rfl, fun _ h0 => absurd h0 (by decide), by rw [Hgo.out, Hd.out, Hc.out, show p + 1 - (k + 1) = p - (k + 1) + 1 by omega]⟩
                    case measure => omega
                  · have Hc := hide (go_free s[p] (s.data.toList.drop (p + 1)) st (m - (k + 1)) (p - (k + 1)) (.inr (.inr hc)))
                    have q32 : ((s[p].toNat : Int) == 32) = false := by rw [hc]; rfl
                    have q46 : ((s[p].toNat : Int) == 46) = false := by rw [hc]; rfl
                    have q45 : ((s[p].toNat : Int) == 45) = true := by rw [hc]; rfl
                    clear hc
                    go_wp2
                    go_roundg h
                    case rel => exact ⟨2, p + 1, by omega, by omega, by omega, by go_num, rfl, fun _ h0 => absurd h0 (by decide), by rw [Hgo.out, Hd.out, Hc.out, show p + 1 - (k + 1) = p - (k + 1) + 1 by omega]⟩
                    case measure => omega
                  · have Hn := hide (HY.out none (by rw [Hgo.out, Hd.out, go_other _ _ _ _ _ ⟨n93, n35, n61, n62, n32, n46, n45⟩]))
                    have q32 : ((s[p].toNat : Int) == 32) = false := ne_int (n := 32) n32
                    have q46 : ((s[p].toNat : Int) == 46) = false := ne_int (n := 46) n46
                    have q45 : ((s[p].toNat : Int) == 45) = false := ne_int (n := 45) n45
                    have q93 : ((s[p].toNat : Int) == 93) = false := ne_int (n := 93) n93
                    clear n93 n35 n61 n62 n32 n46 n45
                    go_wp2
                    go_roundg g
                    case rel => exact ⟨k + 1, by omega, by go_num, rfl, fun i hi => by rcases Nat.lt_succ_iff_lt_or_eq.1 hi with hi | rfl; exact Hno.out i hi; exact Hn.out⟩
                    case measure => omega
                · have Hn := hide (HY.out none (by rw [Hgo.out, go_end _ _ _ _ (List.drop_of_length_le (by rw [slen]; omega))]))
                  go_wp2
                  go_roundg g
                  case rel => exact ⟨k + 1, by omega, by go_num, rfl, fun i hi => by rcases Nat.lt_succ_iff_lt_or_eq.1 hi with hi | rfl; exact Hno.out i hi; exact Hn.out⟩
                  case measure => omega
            · have q35 : ((s[m].toNat : Int) == 35) = true := by rw [hc]; rfl
              have q61 : ((s[m].toNat : Int) == 61) = false := by rw [hc]; rfl
              have Hc := hide (go_full s[m] (s.data.toList.drop (m + 1)) 0 (m - (k + 1)) (m - (k + 1)) (.inl hc) rfl)
              clear hc
              go_wp2
              go_roundg h
              case rel => exact ⟨m + 1, by omega, by omega, by omega, by go_num, rfl, by rw [Hgo.out, Hd.out, Hc.out, show m + 1 - (k + 1) = m - (k + 1) + 1 by omega]⟩
              case measure => omega
            · have q35 : ((s[m].toNat : Int) == 35) = false := by rw [hc]; rfl
              have q61 : ((s[m].toNat : Int) == 61) = true := by rw [hc]; rfl
              have Hc := hide (go_full s[m] (s.data.toList.drop (m + 1)) 0 (m - (k + 1)) (m - (k + 1)) (.inr hc) rfl)
              clear hc
              go_wp2
              go_roundg h
              case rel => exact ⟨m + 1, by omega, by omega, by omega, by go_num, rfl, by rw [Hgo.out, Hd.out, Hc.out, show m + 1 - (k + 1) = m - (k + 1) + 1 by omega]⟩
              case measure => omega
            · have q35 : ((s[m].toNat : Int) == 35) = false := by rw [hc]; rfl
              have q61 : ((s[m].toNat : Int) == 61) = false := by rw [hc]; rfl
              have q62 : ((s[m].toNat : Int) == 62) = true := by rw [hc]; rfl
              have Hc := hide (go_62 s[m] (s.data.toList.drop (m + 1)) 0 (m - (k + 1)) (m - (k + 1)) hc rfl)
              have HP : Hid (BarGate s 1 (m + 1)) := hide (fun _ h0 => absurd h0 (by decide))
              replace Hgo := hide (Hgo.out.trans ((congrArg (fun l => barGo l 0 (m - (k + 1)) (m - (k + 1))) Hd.out).trans (Hc.out.trans (show _ = barGo (s.data.toList.drop (m + 1)) 1 (m + 1 - (k + 1)) (m + 1 - (k + 1)) by rw [show m + 1 - (k + 1) = m - (k + 1) + 1 by omega]))))
              clear hc Hd Hc
              go_wp2
              go_loopg [7] s.size (fun g b wx => ∃ st p : Nat, m + 1 ≤ p ∧ p + g = s.size + (m + 1) ∧ p ≤ s.size ∧ b = .int .i64 p ∧ wx = wr ∧ BarGate s st p ∧ barGo (s.data.toList.drop (k + 1)) 0 0 0 = barGo (s.data.toList.drop p) st (m + 1 - (k + 1)) (p - (k + 1)))
              case atStart => exact ⟨_, m + 1, Nat.le_refl _, by omega, by omega, by first | rfl | go_num, rfl, HP.out, Hgo.out⟩
              case round =>
                clear Hgo HP
                obtain ⟨st, p, hp1, hp0, hp2, rfl, rfl, hgate, hgo⟩ := hrel
                have Hgo := hide hgo
                have HP := hide hgate
                clear hgo hgate
                by_cases hpl : p < s.size
                · obtain ⟨h, rfl⟩ : ∃ h, gk = h + 1 := ⟨gk - 1, by omega⟩
                  have Hd := hide (sdrop s p hpl)
                  have HP2 := hide (HP.out hpl)
                  rcases barWays s[p] with hc | hc | hc | hc | hc | hc | hc | ⟨n93, n35, n61, n62, n32, n46, n45⟩
                  · have q32 : ((s[p].toNat : Int) == 32) = false := by rw [hc]; rfl
                    have q46 : ((s[p].toNat : Int) == 46) = false := by rw [hc]; rfl
                    have q45 : ((s[p].toNat : Int) == 45) = false := by rw [hc]; rfl
                    have q93 : ((s[p].toNat : Int) == 93) = true := by rw [hc]; rfl
                    rcases Nat.lt_or_ge (p - (k + 1)) 3 with h3 | h3
                    · have Hn := hide (HY.out none (by rw [Hgo.out, Hd.out, go_93 _ _ _ _ _ hc, if_neg (by omega)]))
                      have h3i : ¬ (3 : Int) ≤ (p : Int) - (k : Int) - 1 := by omega
                      clear hc
                      go_wp2
                      go_roundg g
                      case rel => exact ⟨k + 1, by omega, by go_num, rfl, fun i hi => by rcases Nat.lt_succ_iff_lt_or_eq.1 hi with hi | rfl; exact Hno.out i hi; exact Hn.out⟩
                      case measure => omega
                    · have Hy := hide (HY.out _ (by rw [Hgo.out, Hd.out, go_93 _ _ _ _ _ hc, if_pos h3]))
                      have h3i : (3 : Int) ≤ (p : Int) - (k : Int) - 1 := by omega
                      clear hc
                      go_wp2
                      (try simp only [Exit.inBlock, Exit.then]); refine bodyPost_ret (results_tmp4 rfl _ _ _) rfl ?_
                      refine ⟨?_, rfl⟩
                      rw [← HF.out k hlt Hno.out _ Hy.out]
                      simp [barE]
                      omega
                  · have h0 : st ≠ 0 := fun h => (HP2.out h).1 hc
                    have Hn := hide (HY.out none (by rw [Hgo.out, Hd.out, go_fullno _ _ _ _ _ (.inl hc) h0]))
                    have q32 : ((s[p].toNat : Int) == 32) = false := by rw [hc]; rfl
                    have q46 : ((s[p].toNat : Int) == 46) = false := by rw [hc]; rfl
                    have q45 : ((s[p].toNat : Int) == 45) = false := by rw [hc]; rfl
                    have q93 : ((s[p].toNat : Int) == 93) = false := by rw [hc]; rfl
                    clear hc h0
                    go_wp2
                    go_roundg g
                    case rel => exact ⟨k + 1, by omega, by go_num, rfl, fun i hi => by rcases Nat.lt_succ_iff_lt_or_eq.1 hi with hi | rfl; exact Hno.out i hi; exact Hn.out⟩
                    case measure => omega
                  · have h0 : st ≠ 0 := fun h => (HP2.out h).2.1 hc
                    have Hn := hide (HY.out none (by rw [Hgo.out, Hd.out, go_fullno _ _ _ _ _ (.inr hc) h0]))
                    have q32 : ((s[p].toNat : Int) == 32) = false := by rw [hc]; rfl
                    have q46 : ((s[p].toNat : Int) == 46) = false := by rw [hc]; rfl
                    have q45 : ((s[p].toNat : Int) == 45) = false := by rw [hc]; rfl
                    have q93 : ((s[p].toNat : Int) == 93) = false := by rw [hc]; rfl
                    clear hc h0
                    go_wp2
                    go_roundg g
                    case rel => exact ⟨k + 1, by omega, by go_num, rfl, fun i hi => by rcases Nat.lt_succ_iff_lt_or_eq.1 hi with hi | rfl; exact Hno.out i hi; exact Hn.out⟩
                    case measure => omega
                  · have h0 : st ≠ 0 := fun h => (HP2.out h).2.2 hc
                    have Hn := hide (HY.out none (by rw [Hgo.out, Hd.out, go_62no _ _ _ _ _ hc h0]))
                    have q32 : ((s[p].toNat : Int) == 32) = false := by rw [hc]; rfl
                    have q46 : ((s[p].toNat : Int) == 46) = false := by rw [hc]; rfl
                    have q45 : ((s[p].toNat : Int) == 45) = false := by rw [hc]; rfl
                    have q93 : ((s[p].toNat : Int) == 93) = false := by rw [hc]; rfl
                    clear hc h0
                    go_wp2
                    go_roundg g
                    case rel => exact ⟨k + 1, by omega, by go_num, rfl, fun i hi => by rcases Nat.lt_succ_iff_lt_or_eq.1 hi with hi | rfl; exact Hno.out i hi; exact Hn.out⟩
                    case measure => omega
                  · have Hc := hide (go_free s[p] (s.data.toList.drop (p + 1)) st (m + 1 - (k + 1)) (p - (k + 1)) (.inl hc))
                    have q32 : ((s[p].toNat : Int) == 32) = true := by rw [hc]; rfl
                    have q46 : ((s[p].toNat : Int) == 46) = false := by rw [hc]; rfl
                    have q45 : ((s[p].toNat : Int) == 45) = false := by rw [hc]; rfl
                    clear hc
                    go_wp2
                    go_roundg h
                    case rel => exact ⟨2, p + 1, by omega, by omega, by omega, by go_num, rfl, fun _ h0 => absurd h0 (by decide), by rw [Hgo.out, Hd.out, Hc.out, show p + 1 - (k + 1) = p - (k + 1) + 1 by omega]⟩
                    case measure => omega
                  · have Hc := hide (go_free s[p] (s.data.toList.drop (p + 1)) st (m + 1 - (k + 1)) (p - (k + 1)) (.inr (.inl hc)))
                    have q32 : ((s[p].toNat : Int) == 32) = false := by rw [hc]; rfl
                    have q46 : ((s[p].toNat : Int) == 46) = true := by rw [hc]; rfl
                    have q45 : ((s[p].toNat : Int) == 45) = false := by rw [hc]; rfl
                    clear hc
                    go_wp2
                    go_roundg h
                    case rel => exact ⟨2, p + 1, by omega, by omega, by omega, by go_num, rfl, fun _ h0 => absurd h0 (by decide), by rw [Hgo.out, Hd.out, Hc.out, show p + 1 - (k + 1) = p - (k + 1) + 1 by omega]⟩
                    case measure => omega
                  · have Hc := hide (go_free s[p] (s.data.toList.drop (p + 1)) st (m + 1 - (k + 1)) (p - (k + 1)) (.inr (.inr hc)))
                    have q32 : ((s[p].toNat : Int) == 32) = false := by rw [hc]; rfl
                    have q46 : ((s[p].toNat : Int) == 46) = false := by rw [hc]; rfl
                    have q45 : ((s[p].toNat : Int) == 45) = true := by rw [hc]; rfl
                    clear hc
                    go_wp2
                    go_roundg h
                    case rel => exact ⟨2, p + 1, by omega, by omega, by omega, by go_num, rfl, fun _ h0 => absurd h0 (by decide), by rw [Hgo.out, Hd.out, Hc.out, show p + 1 - (k + 1) = p - (k + 1) + 1 by omega]⟩
                    case measure => omega
                  · have Hn := hide (HY.out none (by rw [Hgo.out, Hd.out, go_other _ _ _ _ _ ⟨n93, n35, n61, n62, n32, n46, n45⟩]))
                    have q32 : ((s[p].toNat : Int) == 32) = false := ne_int (n := 32) n32
                    have q46 : ((s[p].toNat : Int) == 46) = false := ne_int (n := 46) n46
                    have q45 : ((s[p].toNat : Int) == 45) = false := ne_int (n := 45) n45
                    have q93 : ((s[p].toNat : Int) == 93) = false := ne_int (n := 93) n93
                    clear n93 n35 n61 n62 n32 n46 n45
                    go_wp2
                    go_roundg g
                    case rel => exact ⟨k + 1, by omega, by go_num, rfl, fun i hi => by rcases Nat.lt_succ_iff_lt_or_eq.1 hi with hi | rfl; exact Hno.out i hi; exact Hn.out⟩
                    case measure => omega
                · have Hn := hide (HY.out none (by rw [Hgo.out, go_end _ _ _ _ (List.drop_of_length_le (by rw [slen]; omega))]))
                  go_wp2
                  go_roundg g
                  case rel => exact ⟨k + 1, by omega, by go_num, rfl, fun i hi => by rcases Nat.lt_succ_iff_lt_or_eq.1 hi with hi | rfl; exact Hno.out i hi; exact Hn.out⟩
                  case measure => omega
            · have HP : Hid (BarGate s 0 m) := hide (fun _ _ => by rw [hc]; decide)
              have q35 : ((s[m].toNat : Int) == 35) = false := by rw [hc]; rfl
              have q61 : ((s[m].toNat : Int) == 61) = false := by rw [hc]; rfl
              have q62 : ((s[m].toNat : Int) == 62) = false := by rw [hc]; rfl
              clear hc
              clear Hd
              go_wp2
              go_loopg [7] s.size (fun g b wx => ∃ st p : Nat, m ≤ p ∧ p + g = s.size + (m) ∧ p ≤ s.size ∧ b = .int .i64 p ∧ wx = wr ∧ BarGate s st p ∧ barGo (s.data.toList.drop (k + 1)) 0 0 0 = barGo (s.data.toList.drop p) st (m - (k + 1)) (p - (k + 1)))
              case atStart => exact ⟨_, m, Nat.le_refl _, by omega, by omega, by first | rfl | go_num, rfl, HP.out, Hgo.out⟩
              case round =>
                clear Hgo HP
                obtain ⟨st, p, hp1, hp0, hp2, rfl, rfl, hgate, hgo⟩ := hrel
                have Hgo := hide hgo
                have HP := hide hgate
                clear hgo hgate
                by_cases hpl : p < s.size
                · obtain ⟨h, rfl⟩ : ∃ h, gk = h + 1 := ⟨gk - 1, by omega⟩
                  have Hd := hide (sdrop s p hpl)
                  have HP2 := hide (HP.out hpl)
                  rcases barWays s[p] with hc | hc | hc | hc | hc | hc | hc | ⟨n93, n35, n61, n62, n32, n46, n45⟩
                  · have q32 : ((s[p].toNat : Int) == 32) = false := by rw [hc]; rfl
                    have q46 : ((s[p].toNat : Int) == 46) = false := by rw [hc]; rfl
                    have q45 : ((s[p].toNat : Int) == 45) = false := by rw [hc]; rfl
                    have q93 : ((s[p].toNat : Int) == 93) = true := by rw [hc]; rfl
                    rcases Nat.lt_or_ge (p - (k + 1)) 3 with h3 | h3
                    · have Hn := hide (HY.out none (by rw [Hgo.out, Hd.out, go_93 _ _ _ _ _ hc, if_neg (by omega)]))
                      have h3i : ¬ (3 : Int) ≤ (p : Int) - (k : Int) - 1 := by omega
                      clear hc
                      go_wp2
                      go_roundg g
                      case rel => exact ⟨k + 1, by omega, by go_num, rfl, fun i hi => by rcases Nat.lt_succ_iff_lt_or_eq.1 hi with hi | rfl; exact Hno.out i hi; exact Hn.out⟩
                      case measure => omega
                    · have Hy := hide (HY.out _ (by rw [Hgo.out, Hd.out, go_93 _ _ _ _ _ hc, if_pos h3]))
                      have h3i : (3 : Int) ≤ (p : Int) - (k : Int) - 1 := by omega
                      clear hc
                      go_wp2
                      (try simp only [Exit.inBlock, Exit.then]); refine bodyPost_ret (results_tmp4 rfl _ _ _) rfl ?_
                      refine ⟨?_, rfl⟩
                      rw [← HF.out k hlt Hno.out _ Hy.out]
                      simp [barE]
                      omega
                  · have h0 : st ≠ 0 := fun h => (HP2.out h).1 hc
                    have Hn := hide (HY.out none (by rw [Hgo.out, Hd.out, go_fullno _ _ _ _ _ (.inl hc) h0]))
                    have q32 : ((s[p].toNat : Int) == 32) = false := by rw [hc]; rfl
                    have q46 : ((s[p].toNat : Int) == 46) = false := by rw [hc]; rfl
                    have q45 : ((s[p].toNat : Int) == 45) = false := by rw [hc]; rfl
                    have q93 : ((s[p].toNat : Int) == 93) = false := by rw [hc]; rfl
                    clear hc h0
                    go_wp2
                    go_roundg g
                    case rel => exact ⟨k + 1, by omega, by go_num, rfl, fun i hi => by rcases Nat.lt_succ_iff_lt_or_eq.1 hi with hi | rfl; exact Hno.out i hi; exact Hn.out⟩
                    case measure => omega
                  · have h0 : st ≠ 0 := fun h => (HP2.out h).2.1 hc
                    have Hn := hide (HY.out none (by rw [Hgo.out, Hd.out, go_fullno _ _ _ _ _ (.inr hc) h0]))
                    have q32 : ((s[p].toNat : Int) == 32) = false := by rw [hc]; rfl
                    have q46 : ((s[p].toNat : Int) == 46) = false := by rw [hc]; rfl
                    have q45 : ((s[p].toNat : Int) == 45) = false := by rw [hc]; rfl
                    have q93 : ((s[p].toNat : Int) == 93) = false := by rw [hc]; rfl
                    clear hc h0
                    go_wp2
                    go_roundg g
                    case rel => exact ⟨k + 1, by omega, by go_num, rfl, fun i hi => by rcases Nat.lt_succ_iff_lt_or_eq.1 hi with hi | rfl; exact Hno.out i hi; exact Hn.out⟩
                    case measure => omega
                  · have h0 : st ≠ 0 := fun h => (HP2.out h).2.2 hc
                    have Hn := hide (HY.out none (by rw [Hgo.out, Hd.out, go_62no _ _ _ _ _ hc h0]))
                    have q32 : ((s[p].toNat : Int) == 32) = false := by rw [hc]; rfl
                    have q46 : ((s[p].toNat : Int) == 46) = false := by rw [hc]; rfl
                    have q45 : ((s[p].toNat : Int) == 45) = false := by rw [hc]; rfl
                    have q93 : ((s[p].toNat : Int) == 93) = false := by rw [hc]; rfl
                    clear hc h0
                    go_wp2
                    go_roundg g
                    case rel => exact ⟨k + 1, by omega, by go_num, rfl, fun i hi => by rcases Nat.lt_succ_iff_lt_or_eq.1 hi with hi | rfl; exact Hno.out i hi; exact Hn.out⟩
                    case measure => omega
                  · have Hc := hide (go_free s[p] (s.data.toList.drop (p + 1)) st (m - (k + 1)) (p - (k + 1)) (.inl hc))
                    have q32 : ((s[p].toNat : Int) == 32) = true := by rw [hc]; rfl
                    have q46 : ((s[p].toNat : Int) == 46) = false := by rw [hc]; rfl
                    have q45 : ((s[p].toNat : Int) == 45) = false := by rw [hc]; rfl
                    clear hc
                    go_wp2
                    go_roundg h
                    case rel => exact ⟨2, p + 1, by omega, by omega, by omega, by go_num, rfl, fun _ h0 => absurd h0 (by decide), by rw [Hgo.out, Hd.out, Hc.out, show p + 1 - (k + 1) = p - (k + 1) + 1 by omega]⟩
                    case measure => omega
                  · have Hc := hide (go_free s[p] (s.data.toList.drop (p + 1)) st (m - (k + 1)) (p - (k + 1)) (.inr (.inl hc)))
                    have q32 : ((s[p].toNat : Int) == 32) = false := by rw [hc]; rfl
                    have q46 : ((s[p].toNat : Int) == 46) = true := by rw [hc]; rfl
                    have q45 : ((s[p].toNat : Int) == 45) = false := by rw [hc]; rfl
                    clear hc
                    go_wp2
                    go_roundg h
                    case rel => exact ⟨2, p + 1, by omega, by omega, by omega, by go_num, rfl, fun _ h0 => absurd h0 (by decide), by rw [Hgo.out, Hd.out, Hc.out, show p + 1 - (k + 1) = p - (k + 1) + 1 by omega]⟩
                    case measure => omega
                  · have Hc := hide (go_free s[p] (s.data.toList.drop (p + 1)) st (m - (k + 1)) (p - (k + 1)) (.inr (.inr hc)))
                    have q32 : ((s[p].toNat : Int) == 32) = false := by rw [hc]; rfl
                    have q46 : ((s[p].toNat : Int) == 46) = false := by rw [hc]; rfl
                    have q45 : ((s[p].toNat : Int) == 45) = true := by rw [hc]; rfl
                    clear hc
                    go_wp2
                    go_roundg h
                    case rel => exact ⟨2, p + 1, by omega, by omega, by omega, by go_num, rfl, fun _ h0 => absurd h0 (by decide), by rw [Hgo.out, Hd.out, Hc.out, show p + 1 - (k + 1) = p - (k + 1) + 1 by omega]⟩
                    case measure => omega
                  · have Hn := hide (HY.out none (by rw [Hgo.out, Hd.out, go_other _ _ _ _ _ ⟨n93, n35, n61, n62, n32, n46, n45⟩]))
                    have q32 : ((s[p].toNat : Int) == 32) = false := ne_int (n := 32) n32
                    have q46 : ((s[p].toNat : Int) == 46) = false := ne_int (n := 46) n46
                    have q45 : ((s[p].toNat : Int) == 45) = false := ne_int (n := 45) n45
                    have q93 : ((s[p].toNat : Int) == 93) = false := ne_int (n := 93) n93
                    clear n93 n35 n61 n62 n32 n46 n45
                    go_wp2
                    go_roundg g
                    case rel => exact ⟨k + 1, by omega, by go_num, rfl, fun i hi => by rcases Nat.lt_succ_iff_lt_or_eq.1 hi with hi | rfl; exact Hno.out i hi; exact Hn.out⟩
                    case measure => omega
                · have Hn := hide (HY.out none (by rw [Hgo.out, go_end _ _ _ _ (List.drop_of_length_le (by rw [slen]; omega))]))
                  go_wp2
                  go_roundg g
                  case rel => exact ⟨k + 1, by omega, by go_num, rfl, fun i hi => by rcases Nat.lt_succ_iff_lt_or_eq.1 hi with hi | rfl; exact Hno.out i hi; exact Hn.out⟩
                  case measure => omega
            · have HP : Hid (BarGate s 0 m) := hide (fun _ _ => by rw [hc]; decide)
              have q35 : ((s[m].toNat : Int) == 35) = false := by rw [hc]; rfl
              have q61 : ((s[m].toNat : Int) == 61) = false := by rw [hc]; rfl
              have q62 : ((s[m].toNat : Int) == 62) = false := by rw [hc]; rfl
              clear hc
              clear Hd
              go_wp2
              go_loopg [7] s.size (fun g b wx => ∃ st p : Nat, m ≤ p ∧ p + g = s.size + (m) ∧ p ≤ s.size ∧ b = .int .i64 p ∧ wx = wr ∧ BarGate s st p ∧ barGo (s.data.toList.drop (k + 1)) 0 0 0 = barGo (s.data.toList.drop p) st (m - (k + 1)) (p - (k + 1)))
              case atStart => exact ⟨_, m, Nat.le_refl _, by omega, by omega, by first | rfl | go_num, rfl, HP.out, Hgo.out⟩
              case round =>
                clear Hgo HP
                obtain ⟨st, p, hp1, hp0, hp2, rfl, rfl, hgate, hgo⟩ := hrel
                have Hgo := hide hgo
                have HP := hide hgate
                clear hgo hgate
                by_cases hpl : p < s.size
                · obtain ⟨h, rfl⟩ : ∃ h, gk = h + 1 := ⟨gk - 1, by omega⟩
                  have Hd := hide (sdrop s p hpl)
                  have HP2 := hide (HP.out hpl)
                  rcases barWays s[p] with hc | hc | hc | hc | hc | hc | hc | ⟨n93, n35, n61, n62, n32, n46, n45⟩
                  · have q32 : ((s[p].toNat : Int) == 32) = false := by rw [hc]; rfl
                    have q46 : ((s[p].toNat : Int) == 46) = false := by rw [hc]; rfl
                    have q45 : ((s[p].toNat : Int) == 45) = false := by rw [hc]; rfl
                    have q93 : ((s[p].toNat : Int) == 93) = true := by rw [hc]; rfl
                    rcases Nat.lt_or_ge (p - (k + 1)) 3 with h3 | h3
                    · have Hn := hide (HY.out none (by rw [Hgo.out, Hd.out, go_93 _ _ _ _ _ hc, if_neg (by omega)]))
                      have h3i : ¬ (3 : Int) ≤ (p : Int) - (k : Int) - 1 := by omega
                      clear hc
                      go_wp2
                      go_roundg g
                      case rel => exact ⟨k + 1, by omega, by go_num, rfl, fun i hi => by rcases Nat.lt_succ_iff_lt_or_eq.1 hi with hi | rfl; exact Hno.out i hi; exact Hn.out⟩
                      case measure => omega
                    · have Hy := hide (HY.out _ (by rw [Hgo.out, Hd.out, go_93 _ _ _ _ _ hc, if_pos h3]))
                      have h3i : (3 : Int) ≤ (p : Int) - (k : Int) - 1 := by omega
                      clear hc
                      go_wp2
                      (try simp only [Exit.inBlock, Exit.then]); refine bodyPost_ret (results_tmp4 rfl _ _ _) rfl ?_
                      refine ⟨?_, rfl⟩
                      rw [← HF.out k hlt Hno.out _ Hy.out]
                      simp [barE]
                      omega
                  · have h0 : st ≠ 0 := fun h => (HP2.out h).1 hc
                    have Hn := hide (HY.out none (by rw [Hgo.out, Hd.out, go_fullno _ _ _ _ _ (.inl hc) h0]))
                    have q32 : ((s[p].toNat : Int) == 32) = false := by rw [hc]; rfl
                    have q46 : ((s[p].toNat : Int) == 46) = false := by rw [hc]; rfl
                    have q45 : ((s[p].toNat : Int) == 45) = false := by rw [hc]; rfl
                    have q93 : ((s[p].toNat : Int) == 93) = false := by rw [hc]; rfl
                    clear hc h0
                    go_wp2
                    go_roundg g
                    case rel => exact ⟨k + 1, by omega, by go_num, rfl, fun i hi => by rcases Nat.lt_succ_iff_lt_or_eq.1 hi with hi | rfl; exact Hno.out i hi; exact Hn.out⟩
                    case measure => omega
                  · have h0 : st ≠ 0 := fun h => (HP2.out h).2.1 hc
                    have Hn := hide (HY.out none (by rw [Hgo.out, Hd.out, go_fullno _ _ _ _ _ (.inr hc) h0]))
                    have q32 : ((s[p].toNat : Int) == 32) = false := by rw [hc]; rfl
                    have q46 : ((s[p].toNat : Int) == 46) = false := by rw [hc]; rfl
                    have q45 : ((s[p].toNat : Int) == 45) = false := by rw [hc]; rfl
                    have q93 : ((s[p].toNat : Int) == 93) = false := by rw [hc]; rfl
                    clear hc h0
                    go_wp2
                    go_roundg g
                    case rel => exact ⟨k + 1, by omega, by go_num, rfl, fun i hi => by rcases Nat.lt_succ_iff_lt_or_eq.1 hi with hi | rfl; exact Hno.out i hi; exact Hn.out⟩
                    case measure => omega
                  · have h0 : st ≠ 0 := fun h => (HP2.out h).2.2 hc
                    have Hn := hide (HY.out none (by rw [Hgo.out, Hd.out, go_62no _ _ _ _ _ hc h0]))
                    have q32 : ((s[p].toNat : Int) == 32) = false := by rw [hc]; rfl
                    have q46 : ((s[p].toNat : Int) == 46) = false := by rw [hc]; rfl
                    have q45 : ((s[p].toNat : Int) == 45) = false := by rw [hc]; rfl
                    have q93 : ((s[p].toNat : Int) == 93) = false := by rw [hc]; rfl
                    clear hc h0
                    go_wp2
                    go_roundg g
                    case rel => exact ⟨k + 1, by omega, by go_num, rfl, fun i hi => by rcases Nat.lt_succ_iff_lt_or_eq.1 hi with hi | rfl; exact Hno.out i hi; exact Hn.out⟩
                    case measure => omega
                  · have Hc := hide (go_free s[p] (s.data.toList.drop (p + 1)) st (m - (k + 1)) (p - (k + 1)) (.inl hc))
                    have q32 : ((s[p].toNat : Int) == 32) = true := by rw [hc]; rfl
                    have q46 : ((s[p].toNat : Int) == 46) = false := by rw [hc]; rfl
                    have q45 : ((s[p].toNat : Int) == 45) = false := by rw [hc]; rfl
                    clear hc
                    go_wp2
                    go_roundg h
                    case rel => exact ⟨2, p + 1, by omega, by omega, by omega, by go_num, rfl, fun _ h0 => absurd h0 (by decide), by rw [Hgo.out, Hd.out, Hc.out, show p + 1 - (k + 1) = p - (k + 1) + 1 by omega]⟩
                    case measure => omega
                  · have Hc := hide (go_free s[p] (s.data.toList.drop (p + 1)) st (m - (k + 1)) (p - (k + 1)) (.inr (.inl hc)))
                    have q32 : ((s[p].toNat : Int) == 32) = false := by rw [hc]; rfl
                    have q46 : ((s[p].toNat : Int) == 46) = true := by rw [hc]; rfl
                    have q45 : ((s[p].toNat : Int) == 45) = false := by rw [hc]; rfl
                    clear hc
                    go_wp2
                    go_roundg h
                    case rel => exact ⟨2, p + 1, by omega, by omega, by omega, by go_num, rfl, fun _ h0 => absurd h0 (by decide), by rw [Hgo.out, Hd.out, Hc.out, show p + 1 - (k + 1) = p - (k + 1) + 1 by omega]⟩
                    case measure => omega
                  · have Hc := hide (go_free s[p] (s.data.toList.drop (p + 1)) st (m - (k + 1)) (p - (k + 1)) (.inr (.inr hc)))
                    have q32 : ((s[p].toNat : Int) == 32) = false := by rw [hc]; rfl
                    have q46 : ((s[p].toNat : Int) == 46) = false := by rw [hc]; rfl
                    have q45 : ((s[p].toNat : Int) == 45) = true := by rw [hc]; rfl
                    clear hc
                    go_wp2
                    go_roundg h
                    case rel => exact ⟨2, p + 1, by omega, by omega, by omega, by go_num, rfl, fun _ h0 => absurd h0 (by decide), by rw [Hgo.out, Hd.out, Hc.out, show p + 1 - (k + 1) = p - (k + 1) + 1 by omega]⟩
                    case measure => omega
                  · have Hn := hide (HY.out none (by rw [Hgo.out, Hd.out, go_other _ _ _ _ _ ⟨n93, n35, n61, n62, n32, n46, n45⟩]))
                    have q32 : ((s[p].toNat : Int) == 32) = false := ne_int (n := 32) n32
                    have q46 : ((s[p].toNat : Int) == 46) = false := ne_int (n := 46) n46
                    have q45 : ((s[p].toNat : Int) == 45) = false := ne_int (n := 45) n45
                    have q93 : ((s[p].toNat : Int) == 93) = false := ne_int (n := 93) n93
                    clear n93 n35 n61 n62 n32 n46 n45
                    go_wp2
                    go_roundg g
                    case rel => exact ⟨k + 1, by omega, by go_num, rfl, fun i hi => by rcases Nat.lt_succ_iff_lt_or_eq.1 hi with hi | rfl; exact Hno.out i hi; exact Hn.out⟩
                    case measure => omega
                · have Hn := hide (HY.out none (by rw [Hgo.out, go_end _ _ _ _ (List.drop_of_length_le (by rw [slen]; omega))]))
                  go_wp2
                  go_roundg g
                  case rel => exact ⟨k + 1, by omega, by go_num, rfl, fun i hi => by rcases Nat.lt_succ_iff_lt_or_eq.1 hi with hi | rfl; exact Hno.out i hi; exact Hn.out⟩
                  case measure => omega
            · have HP : Hid (BarGate s 0 m) := hide (fun _ _ => by rw [hc]; decide)
              have q35 : ((s[m].toNat : Int) == 35) = false := by rw [hc]; rfl
              have q61 : ((s[m].toNat : Int) == 61) = false := by rw [hc]; rfl
              have q62 : ((s[m].toNat : Int) == 62) = false := by rw [hc]; rfl
              clear hc
              clear Hd
              go_wp2
              go_loopg [7] s.size (fun g b wx => ∃ st p : Nat, m ≤ p ∧ p + g = s.size + (m) ∧ p ≤ s.size ∧ b = .int .i64 p ∧ wx = wr ∧ BarGate s st p ∧ barGo (s.data.toList.drop (k + 1)) 0 0 0 = barGo (s.data.toList.drop p) st (m - (k + 1)) (p - (k + 1)))
              case atStart => exact ⟨_, m, Nat.le_refl _, by omega, by omega, by first | rfl | go_num, rfl, HP.out, Hgo.out⟩
              case round =>
                clear Hgo HP
                obtain ⟨st, p, hp1, hp0, hp2, rfl, rfl, hgate, hgo⟩ := hrel
                have Hgo := hide hgo
                have HP := hide hgate
                clear hgo hgate
                by_cases hpl : p < s.size
                · obtain ⟨h, rfl⟩ : ∃ h, gk = h + 1 := ⟨gk - 1, by omega⟩
                  have Hd := hide (sdrop s p hpl)
                  have HP2 := hide (HP.out hpl)
                  rcases barWays s[p] with hc | hc | hc | hc | hc | hc | hc | ⟨n93, n35, n61, n62, n32, n46, n45⟩
                  · have q32 : ((s[p].toNat : Int) == 32) = false := by rw [hc]; rfl
                    have q46 : ((s[p].toNat : Int) == 46) = false := by rw [hc]; rfl
                    have q45 : ((s[p].toNat : Int) == 45) = false := by rw [hc]; rfl
                    have q93 : ((s[p].toNat : Int) == 93) = true := by rw [hc]; rfl
                    rcases Nat.lt_or_ge (p - (k + 1)) 3 with h3 | h3
                    · have Hn := hide (HY.out none (by rw [Hgo.out, Hd.out, go_93 _ _ _ _ _ hc, if_neg (by omega)]))
                      have h3i : ¬ (3 : Int) ≤ (p : Int) - (k : Int) - 1 := by omega
                      clear hc
                      go_wp2
                      go_roundg g
                      case rel => exact ⟨k + 1, by omega, by go_num, rfl, fun i hi => by rcases Nat.lt_succ_iff_lt_or_eq.1 hi with hi | rfl; exact Hno.out i hi; exact Hn.out⟩
                      case measure => omega
                    · have Hy := hide (HY.out _ (by rw [Hgo.out, Hd.out, go_93 _ _ _ _ _ hc, if_pos h3]))
                      have h3i : (3 : Int) ≤ (p : Int) - (k : Int) - 1 := by omega
                      clear hc
                      go_wp2
                      (try simp only [Exit.inBlock, Exit.then]); refine bodyPost_ret (results_tmp4 rfl _ _ _) rfl ?_
                      refine ⟨?_, rfl⟩
                      rw [← HF.out k hlt Hno.out _ Hy.out]
                      simp [barE]
                      omega
                  · have h0 : st ≠ 0 := fun h => (HP2.out h).1 hc
                    have Hn := hide (HY.out none (by rw [Hgo.out, Hd.out, go_fullno _ _ _ _ _ (.inl hc) h0]))
                    have q32 : ((s[p].toNat : Int) == 32) = false := by rw [hc]; rfl
                    have q46 : ((s[p].toNat : Int) == 46) = false := by rw [hc]; rfl
                    have q45 : ((s[p].toNat : Int) == 45) = false := by rw [hc]; rfl
                    have q93 : ((s[p].toNat : Int) == 93) = false := by rw [hc]; rfl
                    clear hc h0
                    go_wp2
                    go_roundg g
                    case rel => exact ⟨k + 1, by omega, by go_num, rfl, fun i hi => by rcases Nat.lt_succ_iff_lt_or_eq.1 hi with hi | rfl; exact Hno.out i hi; exact Hn.out⟩
                    case measure => omega
                  · have h0 : st ≠ 0 := fun h => (HP2.out h).2.1 hc
                    have Hn := hide (HY.out none (by rw [Hgo.out, Hd.out, go_fullno _ _ _ _ _ (.inr hc) h0]))
                    have q32 : ((s[p].toNat : Int) == 32) = false := by rw [hc]; rfl
                    have q46 : ((s[p].toNat : Int) == 46) = false := by rw [hc]; rfl
                    have q45 : ((s[p].toNat : Int) == 45) = false := by rw [hc]; rfl
                    have q93 : ((s[p].toNat : Int) == 93) = false := by rw [hc]; rfl
                    clear hc h0
                    go_wp2
                    go_roundg g
                    case rel => exact ⟨k + 1, by omega, by go_num, rfl, fun i hi => by rcases Nat.lt_succ_iff_lt_or_eq.1 hi with hi | rfl; exact Hno.out i hi; exact Hn.out⟩
                    case measure => omega
                  · have h0 : st ≠ 0 := fun h => (HP2.out h).2.2 hc
                    have Hn := hide (HY.out none (by rw [Hgo.out, Hd.out, go_62no _ _ _ _ _ hc h0]))
                    have q32 : ((s[p].toNat : Int) == 32) = false := by rw [hc]; rfl
                    have q46 : ((s[p].toNat : Int) == 46) = false := by rw [hc]; rfl
                    have q45 : ((s[p].toNat : Int) == 45) = false := by rw [hc]; rfl
                    have q93 : ((s[p].toNat : Int) == 93) = false := by rw [hc]; rfl
                    clear hc h0
                    go_wp2
                    go_roundg g
                    case rel => exact ⟨k + 1, by omega, by go_num, rfl, fun i hi => by rcases Nat.lt_succ_iff_lt_or_eq.1 hi with hi | rfl; exact Hno.out i hi; exact Hn.out⟩
                    case measure => omega
                  · have Hc := hide (go_free s[p] (s.data.toList.drop (p + 1)) st (m - (k + 1)) (p - (k + 1)) (.inl hc))
                    have q32 : ((s[p].toNat : Int) == 32) = true := by rw [hc]; rfl
                    have q46 : ((s[p].toNat : Int) == 46) = false := by rw [hc]; rfl
                    have q45 : ((s[p].toNat : Int) == 45) = false := by rw [hc]; rfl
                    clear hc
                    go_wp2
                    go_roundg h
                    case rel => exact ⟨2, p + 1, by omega, by omega, by omega, by go_num, rfl, fun _ h0 => absurd h0 (by decide), by rw [Hgo.out, Hd.out, Hc.out, show p + 1 - (k + 1) = p - (k + 1) + 1 by omega]⟩
                    case measure => omega
                  · have Hc := hide (go_free s[p] (s.data.toList.drop (p + 1)) st (m - (k + 1)) (p - (k + 1)) (.inr (.inl hc)))
                    have q32 : ((s[p].toNat : Int) == 32) = false := by rw [hc]; rfl
                    have q46 : ((s[p].toNat : Int) == 46) = true := by rw [hc]; rfl
                    have q45 : ((s[p].toNat : Int) == 45) = false := by rw [hc]; rfl
                    clear hc
                    go_wp2
                    go_roundg h
                    case rel => exact ⟨2, p + 1, by omega, by omega, by omega, by go_num, rfl, fun _ h0 => absurd h0 (by decide), by rw [Hgo.out, Hd.out, Hc.out, show p + 1 - (k + 1) = p - (k + 1) + 1 by omega]⟩
                    case measure => omega
                  · have Hc := hide (go_free s[p] (s.data.toList.drop (p + 1)) st (m - (k + 1)) (p - (k + 1)) (.inr (.inr hc)))
                    have q32 : ((s[p].toNat : Int) == 32) = false := by rw [hc]; rfl
                    have q46 : ((s[p].toNat : Int) == 46) = false := by rw [hc]; rfl
                    have q45 : ((s[p].toNat : Int) == 45) = true := by rw [hc]; rfl
                    clear hc
                    go_wp2
                    go_roundg h
                    case rel => exact ⟨2, p + 1, by omega, by omega, by omega, by go_num, rfl, fun _ h0 => absurd h0 (by decide), by rw [Hgo.out, Hd.out, Hc.out, show p + 1 - (k + 1) = p - (k + 1) + 1 by omega]⟩
                    case measure => omega
                  · have Hn := hide (HY.out none (by rw [Hgo.out, Hd.out, go_other _ _ _ _ _ ⟨n93, n35, n61, n62, n32, n46, n45⟩]))
                    have q32 : ((s[p].toNat : Int) == 32) = false := ne_int (n := 32) n32
                    have q46 : ((s[p].toNat : Int) == 46) = false := ne_int (n := 46) n46
                    have q45 : ((s[p].toNat : Int) == 45) = false := ne_int (n := 45) n45
                    have q93 : ((s[p].toNat : Int) == 93) = false := ne_int (n := 93) n93
                    clear n93 n35 n61 n62 n32 n46 n45
                    go_wp2
                    go_roundg g
                    case rel => exact ⟨k + 1, by omega, by go_num, rfl, fun i hi => by rcases Nat.lt_succ_iff_lt_or_eq.1 hi with hi | rfl; exact Hno.out i hi; exact Hn.out⟩
                    case measure => omega
                · have Hn := hide (HY.out none (by rw [Hgo.out, go_end _ _ _ _ (List.drop_of_length_le (by rw [slen]; omega))]))
                  go_wp2
                  go_roundg g
                  case rel => exact ⟨k + 1, by omega, by go_num, rfl, fun i hi => by rcases Nat.lt_succ_iff_lt_or_eq.1 hi with hi | rfl; exact Hno.out i hi; exact Hn.out⟩
                  case measure => omega
            · have HP : Hid (BarGate s 0 m) := hide (fun _ _ => ⟨n35, n61, n62⟩)
              have q35 : ((s[m].toNat : Int) == 35) = false := ne_int (n := 35) n35
              have q61 : ((s[m].toNat : Int) == 61) = false := ne_int (n := 61) n61
              have q62 : ((s[m].toNat : Int) == 62) = false := ne_int (n := 62) n62
              clear n93 n35 n61 n62 n32 n46 n45
              clear Hd
              go_wp2
              go_loopg [7] s.size (fun g b wx => ∃ st p : Nat, m ≤ p ∧ p + g = s.size + (m) ∧ p ≤ s.size ∧ b = .int .i64 p ∧ wx = wr ∧ BarGate s st p ∧ barGo (s.data.toList.drop (k + 1)) 0 0 0 = barGo (s.data.toList.drop p) st (m - (k + 1)) (p - (k + 1)))
              case atStart => exact ⟨_, m, Nat.le_refl _, by omega, by omega, by first | rfl | go_num, rfl, HP.out, Hgo.out⟩
              case round =>
                clear Hgo HP
                obtain ⟨st, p, hp1, hp0, hp2, rfl, rfl, hgate, hgo⟩ := hrel
                have Hgo := hide hgo
                have HP := hide hgate
                clear hgo hgate
                by_cases hpl : p < s.size
                · obtain ⟨h, rfl⟩ : ∃ h, gk = h + 1 := ⟨gk - 1, by omega⟩
                  have Hd := hide (sdrop s p hpl)
                  have HP2 := hide (HP.out hpl)
                  rcases barWays s[p] with hc | hc | hc | hc | hc | hc | hc | ⟨n93, n35, n61, n62, n32, n46, n45⟩
                  · have q32 : ((s[p].toNat : Int) == 32) = false := by rw [hc]; rfl
                    have q46 : ((s[p].toNat : Int) == 46) = false := by rw [hc]; rfl
                    have q45 : ((s[p].toNat : Int) == 45) = false := by rw [hc]; rfl
                    have q93 : ((s[p].toNat : Int) == 93) = true := by rw [hc]; rfl
                    rcases Nat.lt_or_ge (p - (k + 1)) 3 with h3 | h3
                    · have Hn := hide (HY.out none (by rw [Hgo.out, Hd.out, go_93 _ _ _ _ _ hc, if_neg (by omega)]))
                      have h3i : ¬ (3 : Int) ≤ (p : Int) - (k : Int) - 1 := by omega
                      clear hc
                      go_wp2
                      go_roundg g
                      case rel => exact ⟨k + 1, by omega, by go_num, rfl, fun i hi => by rcases Nat.lt_succ_iff_lt_or_eq.1 hi with hi | rfl; exact Hno.out i hi; exact Hn.out⟩
                      case measure => omega
                    · have Hy := hide (HY.out _ (by rw [Hgo.out, Hd.out, go_93 _ _ _ _ _ hc, if_pos h3]))
                      have h3i : (3 : Int) ≤ (p : Int) - (k : Int) - 1 := by omega
                      clear hc
                      go_wp2
                      (try simp only [Exit.inBlock, Exit.then]); refine bodyPost_ret (results_tmp4 rfl _ _ _) rfl ?_
                      refine ⟨?_, rfl⟩
                      rw [← HF.out k hlt Hno.out _ Hy.out]
                      simp [barE]
                      omega
                  · have h0 : st ≠ 0 := fun h => (HP2.out h).1 hc
                    have Hn := hide (HY.out none (by rw [Hgo.out, Hd.out, go_fullno _ _ _ _ _ (.inl hc) h0]))
                    have q32 : ((s[p].toNat : Int) == 32) = false := by rw [hc]; rfl
                    have q46 : ((s[p].toNat : Int) == 46) = false := by rw [hc]; rfl
                    have q45 : ((s[p].toNat : Int) == 45) = false := by rw [hc]; rfl
                    have q93 : ((s[p].toNat : Int) == 93) = false := by rw [hc]; rfl
                    clear hc h0
                    go_wp2
                    go_roundg g
                    case rel => exact ⟨k + 1, by omega, by go_num, rfl, fun i hi => by rcases Nat.lt_succ_iff_lt_or_eq.1 hi with hi | rfl; exact Hno.out i hi; exact Hn.out⟩
                    case measure => omega
                  · have h0 : st ≠ 0 := fun h => (HP2.out h).2.1 hc
                    have Hn := hide (HY.out none (by rw [Hgo.out, Hd.out, go_fullno _ _ _ _ _ (.inr hc) h0]))
                    have q32 : ((s[p].toNat : Int) == 32) = false := by rw [hc]; rfl
                    have q46 : ((s[p].toNat : Int) == 46) = false := by rw [hc]; rfl
                    have q45 : ((s[p].toNat : Int) == 45) = false := by rw [hc]; rfl
                    have q93 : ((s[p].toNat : Int) == 93) = false := by rw [hc]; rfl
                    clear hc h0
                    go_wp2
                    go_roundg g
                    case rel => exact ⟨k + 1, by omega, by go_num, rfl, fun i hi => by rcases Nat.lt_succ_iff_lt_or_eq.1 hi with hi | rfl; exact Hno.out i hi; exact Hn.out⟩
                    case measure => omega
                  · have h0 : st ≠ 0 := fun h => (HP2.out h).2.2 hc
                    have Hn := hide (HY.out none (by rw [Hgo.out, Hd.out, go_62no _ _ _ _ _ hc h0]))
                    have q32 : ((s[p].toNat : Int) == 32) = false := by rw [hc]; rfl
                    have q46 : ((s[p].toNat : Int) == 46) = false := by rw [hc]; rfl
                    have q45 : ((s[p].toNat : Int) == 45) = false := by rw [hc]; rfl
                    have q93 : ((s[p].toNat : Int) == 93) = false := by rw [hc]; rfl
                    clear hc h0
                    go_wp2
                    go_roundg g
                    case rel => exact ⟨k + 1, by omega, by go_num, rfl, fun i hi => by rcases Nat.lt_succ_iff_lt_or_eq.1 hi with hi | rfl; exact Hno.out i hi; exact Hn.out⟩
                    case measure => omega
                  · have Hc := hide (go_free s[p] (s.data.toList.drop (p + 1)) st (m - (k + 1)) (p - (k + 1)) (.inl hc))
                    have q32 : ((s[p].toNat : Int) == 32) = true := by rw [hc]; rfl
                    have q46 : ((s[p].toNat : Int) == 46) = false := by rw [hc]; rfl
                    have q45 : ((s[p].toNat : Int) == 45) = false := by rw [hc]; rfl
                    clear hc
                    go_wp2
                    go_roundg h
                    case rel => exact ⟨2, p + 1, by omega, by omega, by omega, by go_num, rfl, fun _ h0 => absurd h0 (by decide), by rw [Hgo.out, Hd.out, Hc.out, show p + 1 - (k + 1) = p - (k + 1) + 1 by omega]⟩
                    case measure => omega
                  · have Hc := hide (go_free s[p] (s.data.toList.drop (p + 1)) st (m - (k + 1)) (p - (k + 1)) (.inr (.inl hc)))
                    have q32 : ((s[p].toNat : Int) == 32) = false := by rw [hc]; rfl
                    have q46 : ((s[p].toNat : Int) == 46) = true := by rw [hc]; rfl
                    have q45 : ((s[p].toNat : Int) == 45) = false := by rw [hc]; rfl
                    clear hc
                    go_wp2
                    go_roundg h
                    case rel => exact ⟨2, p + 1, by omega, by omega, by omega, by go_num, rfl, fun _ h0 => absurd h0 (by decide), by rw [Hgo.out, Hd.out, Hc.out, show p + 1 - (k + 1) = p - (k + 1) + 1 by omega]⟩
                    case measure => omega
                  · have Hc := hide (go_free s[p] (s.data.toList.drop (p + 1)) st (m - (k + 1)) (p - (k + 1)) (.inr (.inr hc)))
                    have q32 : ((s[p].toNat : Int) == 32) = false := by rw [hc]; rfl
                    have q46 : ((s[p].toNat : Int) == 46) = false := by rw [hc]; rfl
                    have q45 : ((s[p].toNat : Int) == 45) = true := by rw [hc]; rfl
                    clear hc
                    go_wp2
                    go_roundg h
                    case rel => exact ⟨2, p + 1, by omega, by omega, by omega, by go_num, rfl, fun _ h0 => absurd h0 (by decide), by rw [Hgo.out, Hd.out, Hc.out, show p + 1 - (k + 1) = p - (k + 1) + 1 by omega]⟩
                    case measure => omega
                  · have Hn := hide (HY.out none (by rw [Hgo.out, Hd.out, go_other _ _ _ _ _ ⟨n93, n35, n61, n62, n32, n46, n45⟩]))
                    have q32 : ((s[p].toNat : Int) == 32) = false := ne_int (n := 32) n32
                    have q46 : ((s[p].toNat : Int) == 46) = false := ne_int (n := 46) n46
                    have q45 : ((s[p].toNat : Int) == 45) = false := ne_int (n := 45) n45
                    have q93 : ((s[p].toNat : Int) == 93) = false := ne_int (n := 93) n93
                    clear n93 n35 n61 n62 n32 n46 n45
                    go_wp2
                    go_roundg g
                    case rel => exact ⟨k + 1, by omega, by go_num, rfl, fun i hi => by rcases Nat.lt_succ_iff_lt_or_eq.1 hi with hi | rfl; exact Hno.out i hi; exact Hn.out⟩
                    case measure => omega
                · have Hn := hide (HY.out none (by rw [Hgo.out, go_end _ _ _ _ (List.drop_of_length_le (by rw [slen]; omega))]))
                  go_wp2
                  go_roundg g
                  case rel => exact ⟨k + 1, by omega, by go_num, rfl, fun i hi => by rcases Nat.lt_succ_iff_lt_or_eq.1 hi with hi | rfl; exact Hno.out i hi; exact Hn.out⟩
                  case measure => omega
          · have Hn := hide (HY.out none (by rw [Hgo.out, go_end _ _ _ _ (List.drop_of_length_le (by rw [slen]; omega))]))
            clear Hgo
            go_wp2
            go_loopg [7] s.size (fun g b wx => b = .int .i64 m ∧ wx = wr)
            case atStart => exact ⟨rfl, rfl⟩
            case round =>
              obtain ⟨rfl, rfl⟩ := hrel
              go_wp2
              go_roundg g
              case rel => exact ⟨k + 1, by omega, by go_num, rfl, fun i hi => by rcases Nat.lt_succ_iff_lt_or_eq.1 hi with hi | rfl; exact Hno.out i hi; exact Hn.out⟩
              case measure => omega
      · have Hn := hide (barAt_no s k hlt h91)
        have q91 : ((s[k].toNat : Int) == 91) = false := ne_int (n := 91) h91
        clear h91
        go_wp2
        go_roundg g
        case rel => exact ⟨k + 1, by omega, by go_num, rfl, fun i hi => by rcases Nat.lt_succ_iff_lt_or_eq.1 hi with hi | rfl; exact Hno.out i hi; exact Hn.out⟩
        case measure => omega
    · go_wp2
      (try simp only [Exit.inBlock, Exit.then]); refine bodyPost_ret (results_tmp4 rfl _ _ _) rfl ?_
      exact ⟨HN.out fun j hj => Hno.out j (by omega), rfl⟩
end Go.Proofs.YtalmbcelkllpjaaDoor
