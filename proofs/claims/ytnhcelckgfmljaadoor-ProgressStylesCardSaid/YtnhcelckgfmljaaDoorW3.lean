/- progress.bar. -/
import Derived.Test.YtnhcelckgfmljaaDoorW1
import Derived.Deep.LoopGhost
namespace Go.Proofs.YtnhcelckgfmljaaDoor
open Go.RowKit

theorem results_tmp4 {fn : Func} {t u v x : Tmp} (h : fn.results = #[.tmp t, .tmp u, .tmp v, .tmp x]) (tmps : Array Value) (P : Program) (w : World) :
    (results fn tmps).run P w = .ok (.tuple #[tmps.getD t undef, tmps.getD u undef, tmps.getD v undef, tmps.getD x undef]) w := by
  simp [results, h]
/-- What bar returns. -/
def barE (r : Option (Nat × Nat × Nat × Nat)) : Ending :=
  match r with
  | none => .returned (.tuple #[.int .i64 (-1), .int .i64 (-1), .int .i64 0, .int .i64 0])
  | some (a, b, f, n) => .returned (.tuple #[.int .i64 a, .int .i64 b, .int .i64 f, .int .i64 n])
theorem ne_int {c n : UInt8} (h : c ≠ n) : ((c.toNat : Int) == (n.toNat : Int)) = false := by
  rw [beq_eq_false_iff_ne]; intro hc; exact h (UInt8.toNat_inj.1 (by omega))
/-- A byte that no bar holds. -/
structure BarOther (c : UInt8) : Prop where
  n93 : c ≠ 93
  n35 : c ≠ 35
  n61 : c ≠ 61
  n62 : c ≠ 62
  n32 : c ≠ 32
  n46 : c ≠ 46
  n45 : c ≠ 45
theorem barWays (c : UInt8) : c = 93 ∨ c = 35 ∨ c = 61 ∨ c = 62 ∨ c = 32 ∨ c = 46 ∨ c = 45 ∨ BarOther c := by
  by_cases h93 : c = 93
  · exact .inl h93
  by_cases h35 : c = 35
  · exact .inr (.inl h35)
  by_cases h61 : c = 61
  · exact .inr (.inr (.inl h61))
  by_cases h62 : c = 62
  · exact .inr (.inr (.inr (.inl h62)))
  by_cases h32 : c = 32
  · exact .inr (.inr (.inr (.inr (.inl h32))))
  by_cases h46 : c = 46
  · exact .inr (.inr (.inr (.inr (.inr (.inl h46)))))
  by_cases h45 : c = 45
  · exact .inr (.inr (.inr (.inr (.inr (.inr (.inl h45))))))
  exact .inr (.inr (.inr (.inr (.inr (.inr (.inr (⟨h93, h35, h61, h62, h32, h46, h45⟩)))))))
theorem sdrop (s : ByteArray) (m : Nat) (h : m < s.size) : s.data.toList.drop m = s[m] :: s.data.toList.drop (m + 1) := by
  rw [List.drop_eq_getElem_cons (by simpa using h)]; rfl
theorem barAt_no (s : ByteArray) (k : Nat) (h : k < s.size) (hc : s[k] ≠ 91) : barAt s.data.toList k = none := by
  unfold barAt; rw [sget s k h, if_neg (fun e => hc (Option.some.inj e))]
theorem barAt_yes (s : ByteArray) (k : Nat) (h : k < s.size) (hc : s[k] = 91) {r : Option (Nat × Nat)} (hr : barGo (s.data.toList.drop (k + 1)) 0 0 0 = r) : barAt s.data.toList k = r.map fun x => (k, k + x.2 + 2, x.1, x.2) := by
  unfold barAt; rw [sget s k h, hc, if_pos rfl, hr]
theorem go_end (st f n : Nat) (l : List UInt8) (h : l = []) : barGo l st f n = none := by subst h; rfl
theorem go_93 (c : UInt8) (r : List UInt8) (st f n : Nat) (hc : c = 93) : barGo (c :: r) st f n = if 3 ≤ n then some (f, n) else none := by rw [barGo, if_pos hc]
theorem go_full (c : UInt8) (r : List UInt8) (st f n : Nat) (hc : c = 35 ∨ c = 61) (h0 : st = 0) : barGo (c :: r) st f n = barGo r 0 (f + 1) (n + 1) := by
  rw [barGo, if_neg (by rcases hc with rfl | rfl <;> decide), if_pos ⟨hc, h0⟩]
theorem go_fullno (c : UInt8) (r : List UInt8) (st f n : Nat) (hc : c = 35 ∨ c = 61) (h0 : st ≠ 0) : barGo (c :: r) st f n = none := by
  rw [barGo, if_neg (by rcases hc with rfl | rfl <;> decide), if_neg (fun h => h0 h.2), if_neg (fun h => h0 h.2), if_neg (by rcases hc with rfl | rfl <;> decide)]
theorem go_62 (c : UInt8) (r : List UInt8) (st f n : Nat) (hc : c = 62) (h0 : st = 0) : barGo (c :: r) st f n = barGo r 1 (f + 1) (n + 1) := by
  subst hc; rw [barGo, if_neg (by decide), if_neg (fun h => absurd h.1 (by decide)), if_pos ⟨rfl, h0⟩]
theorem go_62no (c : UInt8) (r : List UInt8) (st f n : Nat) (hc : c = 62) (h0 : st ≠ 0) : barGo (c :: r) st f n = none := by
  subst hc; rw [barGo, if_neg (by decide), if_neg (fun h => h0 h.2), if_neg (fun h => h0 h.2), if_neg (by decide)]
theorem go_free (c : UInt8) (r : List UInt8) (st f n : Nat) (hc : c = 32 ∨ c = 46 ∨ c = 45) : barGo (c :: r) st f n = barGo r 2 f (n + 1) := by
  rw [barGo, if_neg (by rcases hc with rfl | rfl | rfl <;> decide), if_neg (fun h => by rcases hc with rfl | rfl | rfl <;> exact absurd h.1 (by decide)), if_neg (fun h => by rcases hc with rfl | rfl | rfl <;> exact absurd h.1 (by decide)), if_pos hc]
theorem go_other (c : UInt8) (r : List UInt8) (st f n : Nat) (h : BarOther c) : barGo (c :: r) st f n = none := by
  rw [barGo, if_neg h.n93, if_neg (fun e => e.1.elim h.n35 h.n61), if_neg (fun e => h.n62 e.1), if_neg (fun e => e.elim h.n32 fun e => e.elim h.n46 h.n45)]

set_option maxRecDepth 100000 in
set_option maxHeartbeats 8000000 in
theorem barP (w : World) (s : ByteArray) (hs : s.size ≤ 1000) : Calls Tryd.prog 22 #[.string s] w fun e w' => e = barE (barF s.data.toList) ∧ w = w' := by
  obtain ⟨R, hR⟩ : ∃ R, barE (barF s.data.toList) = R := ⟨_, rfl⟩
  rw [hR]
  have HF := hide (fun i (h1 : i < s.size) (h2 : ∀ j, j < i → barAt s.data.toList j = none) r (hr : barAt s.data.toList i = some r) => (show barE (some r) = R by rw [← hR]; unfold barF; rw [firstAt _ s.data.toList.length i h1 h2 hr]))
  have HN := hide (fun (h2 : ∀ j, j < s.size → barAt s.data.toList j = none) => (show barE none = R by rw [← hR]; unfold barF; rw [firstNo _ s.data.toList.length h2]))
  clear hR
  go_enter Tryd.func22, Tryd.ntmps22
  go_wp2
  go_step3
  go_wp2
  go_step3
  go_wp2
  go_loopg [14] s.size (fun g i wx => ∃ k : Nat, k + g = s.size ∧ i = .int .i64 k ∧ wx = w ∧ ∀ j, j < k → barAt s.data.toList j = none)
  case atStart => exact ⟨0, by omega, rfl, rfl, fun j hj => by omega⟩
  case round =>
    obtain ⟨k, hk, rfl, rfl, hno⟩ := hrel
    have Hno := hide hno
    clear hno
    by_cases hlt : k < s.size
    · obtain ⟨g, rfl⟩ : ∃ g, gk = g + 1 := ⟨gk - 1, by omega⟩
      by_cases h91 : s[k] = 91
      · have q91 : ((s[k].toNat : Int) == 91) = true := by rw [h91]; rfl
        have HY := hide (fun r hr => barAt_yes s k hlt h91 (r := r) hr)
        clear h91
        go_wp2
        go_loopg [7, 8, 9] s.size (fun g a b c wx => ∃ st full m : Nat, k + 1 ≤ m ∧ m + g = s.size + (k + 1) ∧ m ≤ s.size ∧ full ≤ m ∧ a = .int .i64 st ∧ b = .int .i64 full ∧ c = .int .i64 m ∧ wx = wr ∧ barGo (s.data.toList.drop (k + 1)) 0 0 0 = barGo (s.data.toList.drop m) st full (m - (k + 1)))
        case atStart => exact ⟨0, 0, k + 1, by omega, by omega, by omega, by omega, rfl, rfl, by go_num, rfl, by rw [Nat.sub_self]⟩
        case round =>
          obtain ⟨st, full, m, hm1, hm0, hm2, hfm, rfl, rfl, rfl, rfl, hgo⟩ := hrel
          have Hgo := hide hgo
          clear hgo
          by_cases hml : m < s.size
          · obtain ⟨h, rfl⟩ : ∃ h, gk = h + 1 := ⟨gk - 1, by omega⟩
            have Hd := hide (sdrop s m hml)
            rcases barWays s[m] with hc | hc | hc | hc | hc | hc | hc | hx
            · have q93 : ((s[m].toNat : Int) == 93) = true := by rw [hc]; rfl
              have q35 : ((s[m].toNat : Int) == 35) = false := by rw [hc]; rfl
              have q61 : ((s[m].toNat : Int) == 61) = false := by rw [hc]; rfl
              have q62 : ((s[m].toNat : Int) == 62) = false := by rw [hc]; rfl
              have q32 : ((s[m].toNat : Int) == 32) = false := by rw [hc]; rfl
              have q46 : ((s[m].toNat : Int) == 46) = false := by rw [hc]; rfl
              have q45 : ((s[m].toNat : Int) == 45) = false := by rw [hc]; rfl
              rcases Nat.lt_or_ge (m - (k + 1)) 3 with h3 | h3
              · have Hn := hide (HY.out none (by rw [Hgo.out, Hd.out, go_93 _ _ _ _ _ hc, if_neg (by omega)]))
                have h3i : ¬ (3 : Int) ≤ (m : Int) - (k : Int) - 1 := by omega
                clear hc
                go_wp2
                go_roundg g
                case rel => exact ⟨k + 1, by omega, by go_num, rfl, fun i hi => by rcases Nat.lt_succ_iff_lt_or_eq.1 hi with hi | rfl; exact Hno.out i hi; exact Hn.out⟩
                case measure => omega
              · have Hy := hide (HY.out _ (by rw [Hgo.out, Hd.out, go_93 _ _ _ _ _ hc, if_pos h3]))
                have h3i : (3 : Int) ≤ (m : Int) - (k : Int) - 1 := by omega
                clear hc
                go_wp2
                (try rw [Exit.noGoto_ret]); (try simp only [Exit.inBlock, Exit.then]); refine bodyPost_ret (results_tmp4 rfl _ _ _) rfl ?_
                refine ⟨?_, rfl⟩
                rw [← HF.out k hlt Hno.out _ Hy.out]
                simp [barE]
                omega
            · have q93 : ((s[m].toNat : Int) == 93) = false := by rw [hc]; rfl
              have q35 : ((s[m].toNat : Int) == 35) = true := by rw [hc]; rfl
              have q61 : ((s[m].toNat : Int) == 61) = false := by rw [hc]; rfl
              have q62 : ((s[m].toNat : Int) == 62) = false := by rw [hc]; rfl
              have q32 : ((s[m].toNat : Int) == 32) = false := by rw [hc]; rfl
              have q46 : ((s[m].toNat : Int) == 46) = false := by rw [hc]; rfl
              have q45 : ((s[m].toNat : Int) == 45) = false := by rw [hc]; rfl
              rcases Nat.eq_zero_or_pos st with h0 | h0
              · have z0 : ((st : Int) == 0) = true := by rw [h0]; rfl
                have h0h := hide h0
                have Hc := hide (go_full s[m] (s.data.toList.drop (m + 1)) st full (m - (k + 1)) (.inl hc) h0)
                clear hc h0
                go_wp2
                go_roundg h
                case rel => exact ⟨0, full + 1, m + 1, by omega, by omega, by omega, by omega, int_eq (by rw [h0h.out]), by go_num, by go_num, rfl, by rw [Hgo.out, Hd.out, Hc.out, show m + 1 - (k + 1) = m - (k + 1) + 1 by omega]⟩
                case measure => omega
              · have z0 : ((st : Int) == 0) = false := by rw [beq_eq_false_iff_ne]; omega
                have Hc := hide (go_fullno s[m] (s.data.toList.drop (m + 1)) st full (m - (k + 1)) (.inl hc) (by omega))
                clear hc
                have Hn := hide (HY.out none (by rw [Hgo.out, Hd.out, Hc.out]))
                go_wp2
                go_roundg g
                case rel => exact ⟨k + 1, by omega, by go_num, rfl, fun i hi => by rcases Nat.lt_succ_iff_lt_or_eq.1 hi with hi | rfl; exact Hno.out i hi; exact Hn.out⟩
                case measure => omega
            · have q93 : ((s[m].toNat : Int) == 93) = false := by rw [hc]; rfl
              have q35 : ((s[m].toNat : Int) == 35) = false := by rw [hc]; rfl
              have q61 : ((s[m].toNat : Int) == 61) = true := by rw [hc]; rfl
              have q62 : ((s[m].toNat : Int) == 62) = false := by rw [hc]; rfl
              have q32 : ((s[m].toNat : Int) == 32) = false := by rw [hc]; rfl
              have q46 : ((s[m].toNat : Int) == 46) = false := by rw [hc]; rfl
              have q45 : ((s[m].toNat : Int) == 45) = false := by rw [hc]; rfl
              rcases Nat.eq_zero_or_pos st with h0 | h0
              · have z0 : ((st : Int) == 0) = true := by rw [h0]; rfl
                have h0h := hide h0
                have Hc := hide (go_full s[m] (s.data.toList.drop (m + 1)) st full (m - (k + 1)) (.inr hc) h0)
                clear hc h0
                go_wp2
                go_roundg h
                case rel => exact ⟨0, full + 1, m + 1, by omega, by omega, by omega, by omega, int_eq (by rw [h0h.out]), by go_num, by go_num, rfl, by rw [Hgo.out, Hd.out, Hc.out, show m + 1 - (k + 1) = m - (k + 1) + 1 by omega]⟩
                case measure => omega
              · have z0 : ((st : Int) == 0) = false := by rw [beq_eq_false_iff_ne]; omega
                have Hc := hide (go_fullno s[m] (s.data.toList.drop (m + 1)) st full (m - (k + 1)) (.inr hc) (by omega))
                clear hc
                have Hn := hide (HY.out none (by rw [Hgo.out, Hd.out, Hc.out]))
                go_wp2
                go_roundg g
                case rel => exact ⟨k + 1, by omega, by go_num, rfl, fun i hi => by rcases Nat.lt_succ_iff_lt_or_eq.1 hi with hi | rfl; exact Hno.out i hi; exact Hn.out⟩
                case measure => omega
            · have q93 : ((s[m].toNat : Int) == 93) = false := by rw [hc]; rfl
              have q35 : ((s[m].toNat : Int) == 35) = false := by rw [hc]; rfl
              have q61 : ((s[m].toNat : Int) == 61) = false := by rw [hc]; rfl
              have q62 : ((s[m].toNat : Int) == 62) = true := by rw [hc]; rfl
              have q32 : ((s[m].toNat : Int) == 32) = false := by rw [hc]; rfl
              have q46 : ((s[m].toNat : Int) == 46) = false := by rw [hc]; rfl
              have q45 : ((s[m].toNat : Int) == 45) = false := by rw [hc]; rfl
              rcases Nat.eq_zero_or_pos st with h0 | h0
              · have z0 : ((st : Int) == 0) = true := by rw [h0]; rfl
                have Hc := hide (go_62 s[m] (s.data.toList.drop (m + 1)) st full (m - (k + 1)) hc h0)
                clear hc h0
                go_wp2
                go_roundg h
                case rel => exact ⟨1, full + 1, m + 1, by omega, by omega, by omega, by omega, rfl, by go_num, by go_num, rfl, by rw [Hgo.out, Hd.out, Hc.out, show m + 1 - (k + 1) = m - (k + 1) + 1 by omega]⟩
                case measure => omega
              · have z0 : ((st : Int) == 0) = false := by rw [beq_eq_false_iff_ne]; omega
                have Hc := hide (go_62no s[m] (s.data.toList.drop (m + 1)) st full (m - (k + 1)) hc (by omega))
                clear hc
                have Hn := hide (HY.out none (by rw [Hgo.out, Hd.out, Hc.out]))
                go_wp2
                go_roundg g
                case rel => exact ⟨k + 1, by omega, by go_num, rfl, fun i hi => by rcases Nat.lt_succ_iff_lt_or_eq.1 hi with hi | rfl; exact Hno.out i hi; exact Hn.out⟩
                case measure => omega
            · have q93 : ((s[m].toNat : Int) == 93) = false := by rw [hc]; rfl
              have q35 : ((s[m].toNat : Int) == 35) = false := by rw [hc]; rfl
              have q61 : ((s[m].toNat : Int) == 61) = false := by rw [hc]; rfl
              have q62 : ((s[m].toNat : Int) == 62) = false := by rw [hc]; rfl
              have q32 : ((s[m].toNat : Int) == 32) = true := by rw [hc]; rfl
              have q46 : ((s[m].toNat : Int) == 46) = false := by rw [hc]; rfl
              have q45 : ((s[m].toNat : Int) == 45) = false := by rw [hc]; rfl
              have Hc := hide (go_free s[m] (s.data.toList.drop (m + 1)) st full (m - (k + 1)) (.inl hc))
              clear hc
              go_wp2
              go_roundg h
              case rel => exact ⟨2, full, m + 1, by omega, by omega, by omega, by omega, rfl, rfl, by go_num, rfl, by rw [Hgo.out, Hd.out, Hc.out, show m + 1 - (k + 1) = m - (k + 1) + 1 by omega]⟩
              case measure => omega
            · have q93 : ((s[m].toNat : Int) == 93) = false := by rw [hc]; rfl
              have q35 : ((s[m].toNat : Int) == 35) = false := by rw [hc]; rfl
              have q61 : ((s[m].toNat : Int) == 61) = false := by rw [hc]; rfl
              have q62 : ((s[m].toNat : Int) == 62) = false := by rw [hc]; rfl
              have q32 : ((s[m].toNat : Int) == 32) = false := by rw [hc]; rfl
              have q46 : ((s[m].toNat : Int) == 46) = true := by rw [hc]; rfl
              have q45 : ((s[m].toNat : Int) == 45) = false := by rw [hc]; rfl
              have Hc := hide (go_free s[m] (s.data.toList.drop (m + 1)) st full (m - (k + 1)) (.inr (.inl hc)))
              clear hc
              go_wp2
              go_roundg h
              case rel => exact ⟨2, full, m + 1, by omega, by omega, by omega, by omega, rfl, rfl, by go_num, rfl, by rw [Hgo.out, Hd.out, Hc.out, show m + 1 - (k + 1) = m - (k + 1) + 1 by omega]⟩
              case measure => omega
            · have q93 : ((s[m].toNat : Int) == 93) = false := by rw [hc]; rfl
              have q35 : ((s[m].toNat : Int) == 35) = false := by rw [hc]; rfl
              have q61 : ((s[m].toNat : Int) == 61) = false := by rw [hc]; rfl
              have q62 : ((s[m].toNat : Int) == 62) = false := by rw [hc]; rfl
              have q32 : ((s[m].toNat : Int) == 32) = false := by rw [hc]; rfl
              have q46 : ((s[m].toNat : Int) == 46) = false := by rw [hc]; rfl
              have q45 : ((s[m].toNat : Int) == 45) = true := by rw [hc]; rfl
              have Hc := hide (go_free s[m] (s.data.toList.drop (m + 1)) st full (m - (k + 1)) (.inr (.inr hc)))
              clear hc
              go_wp2
              go_roundg h
              case rel => exact ⟨2, full, m + 1, by omega, by omega, by omega, by omega, rfl, rfl, by go_num, rfl, by rw [Hgo.out, Hd.out, Hc.out, show m + 1 - (k + 1) = m - (k + 1) + 1 by omega]⟩
              case measure => omega
            · have q93 : ((s[m].toNat : Int) == 93) = false := ne_int (n := 93) hx.n93
              have q35 : ((s[m].toNat : Int) == 35) = false := ne_int (n := 35) hx.n35
              have q61 : ((s[m].toNat : Int) == 61) = false := ne_int (n := 61) hx.n61
              have q62 : ((s[m].toNat : Int) == 62) = false := ne_int (n := 62) hx.n62
              have q32 : ((s[m].toNat : Int) == 32) = false := ne_int (n := 32) hx.n32
              have q46 : ((s[m].toNat : Int) == 46) = false := ne_int (n := 46) hx.n46
              have q45 : ((s[m].toNat : Int) == 45) = false := ne_int (n := 45) hx.n45
              have Hc := hide (go_other s[m] (s.data.toList.drop (m + 1)) st full (m - (k + 1)) hx)
              clear hx
              have Hn := hide (HY.out none (by rw [Hgo.out, Hd.out, Hc.out]))
              go_wp2
              go_roundg g
              case rel => exact ⟨k + 1, by omega, by go_num, rfl, fun i hi => by rcases Nat.lt_succ_iff_lt_or_eq.1 hi with hi | rfl; exact Hno.out i hi; exact Hn.out⟩
              case measure => omega
          · have Hn := hide (HY.out none (by rw [Hgo.out, go_end _ _ _ _ (List.drop_of_length_le (by rw [slen]; omega))]))
            go_wp2
            go_roundg g
            case rel => exact ⟨k + 1, by omega, by go_num, rfl, fun i hi => by rcases Nat.lt_succ_iff_lt_or_eq.1 hi with hi | rfl; exact Hno.out i hi; exact Hn.out⟩
            case measure => omega
      · have Hn := hide (barAt_no s k hlt h91)
        have q91 : ((s[k].toNat : Int) == 91) = false := ne_int (n := 91) h91
        clear h91
        go_wp2
        go_roundg g
        case rel => exact ⟨k + 1, by omega, by go_num, rfl, fun i hi => by rcases Nat.lt_succ_iff_lt_or_eq.1 hi with hi | rfl; exact Hno.out i hi; exact Hn.out⟩
        case measure => omega
    · go_wp2
      (try rw [Exit.noGoto_ret]); (try simp only [Exit.inBlock, Exit.then]); refine bodyPost_ret (results_tmp4 rfl _ _ _) rfl ?_
      exact ⟨HN.out fun j hj => Hno.out j (by omega), rfl⟩
end Go.Proofs.YtnhcelckgfmljaaDoor
