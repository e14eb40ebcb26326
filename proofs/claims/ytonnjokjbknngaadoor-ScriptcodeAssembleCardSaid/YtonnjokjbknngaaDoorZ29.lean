/- The reference's bytes and Decimal. -/
import Derived.Test.YtonnjokjbknngaaDoorZ17
import Derived.Test.YtonnjokjbknngaaDoorZ24
import Derived.Test.YtonnjokjbknngaaDoorZ11
namespace Go.Proofs.YtonnjokjbknngaaDoor
open Go.RowKit Go.Lib Go.Shelf

theorem ba_cat2 (a b : ByteArray) : (a ++ b).data.toList = a.data.toList ++ b.data.toList := by simp
set_option maxRecDepth 100000 in
set_option maxHeartbeats 1000000 in
theorem bytesR (w : World) (N k : Nat) (hN : N ≤ 4294967296) (hk : k ≤ 4) : Calls Tryd.prog 50 #[.int .i64 N, .int .i64 k] w fun e w' => e = .returned (.string ⟨(beB k N).toArray⟩) ∧ Below w.heap.size w w' := by
  have hrf := Below.refl w.heap.size w
  go_enter Tryd.func50, Tryd.ntmps50
  go_wp2
  go_loopw [0, 5, 6] (fun n s i wr => ∃ j : Nat, j ≤ k ∧ i = .int .i64 j ∧ n = .int .i64 (N / 256 ^ j : Nat) ∧ s = .string ⟨(beB j N).toArray⟩ ∧ Below w.heap.size w wr) (fun _ _ i _ => k - (intOf i).toNat)
  case atStart => exact ⟨0, Nat.zero_le _, rfl, by simp, rfl, hrf⟩
  case round =>
    obtain ⟨j, hj, rfl, rfl, rfl, hbr⟩ := hrel
    rename World => wo
    have HB := hide hbr
    clear hbr hrf
    by_cases hlt : j < k
    · have hltI : (j : Int) < (k : Int) := by omega
      have hq : N / 256 ^ j ≤ 4294967296 := Nat.le_trans (Nat.div_le_self _ _) hN
      have Hb := hide (beB_step j N)
      have Hd := hide (show N / 256 ^ (j + 1) = N / 256 ^ j / 256 by rw [Nat.pow_succ, Nat.div_div_eq_div_mul])
      obtain ⟨V, hV⟩ : ∃ v, N / 256 ^ j = v := ⟨_, rfl⟩
      rw [hV] at hq Hb Hd ⊢
      obtain ⟨S, hS⟩ : ∃ s : ByteArray, (⟨(beB j N).toArray⟩ : ByteArray) = s := ⟨_, rfl⟩
      have hSl : S.data.toList = beB j N := by rw [← hS]
      have hSz : S.size ≤ 4 := by
        have h1 : S.size = (beB j N).length := by rw [← hSl]; rfl
        rw [h1, beB_len]; omega
      have HSl := hide hSl
      rw [hS]
      clear hV hS hSl
      have hVm : V % 256 < 256 := Nat.mod_lt _ (by omega)
      have hown := own_eq (own_lit wo wo.heap.size 5 1 1 #[.int .u8 ((V : Int) % 256)] (Nat.le_refl _) (by omega) rfl) (n' := [(V % 256).toUInt8].length) (xs' := [(V % 256).toUInt8].map fun b => Value.int .u8 b.toNat) rfl (by
        have h2 : (V % 256).toUInt8.toNat = V % 256 := by simp [Nat.toUInt8]
        simp only [List.map_cons, List.map_nil, h2]; simp)
      go_wp2_with (refine wpList_str _ (.tmp 15) 64 9 5 rfl (by rfl) Tryd.underlying64 Tryd.underlying5 Tryd.underlying9 wo.heap.size _ _ (by rfl) hown ?_)
      go_roundw
      case rel =>
        refine ⟨j + 1, by omega, by go_num, by rw [Hd.out]; go_num, ?_, HB.out.alloc HB.out.size _⟩
        congr 1
        apply ba_of
        rw [Hb.out, ba_cat2, HSl.out]; rfl
      case measure => simp [intOf]; omega
    · obtain rfl : j = k := by omega
      go_wp2
      go_ret
      exact ⟨rfl, HB.out⟩

theorem dig_one (u : Nat) (h : u < 10) : ((⟨#[48, 49, 50, 51, 52, 53, 54, 55, 56, 57]⟩ : ByteArray).extract u (u + 1)) = ⟨(decDigits u).toArray⟩ := by
  rw [decDigits, dif_pos h]
  have : ∀ u, u < 10 → ((⟨#[48, 49, 50, 51, 52, 53, 54, 55, 56, 57]⟩ : ByteArray).extract u (u + 1)) = ⟨[UInt8.ofNat (48 + u)].toArray⟩ := by decide
  exact this u h
set_option maxRecDepth 100000 in
set_option maxHeartbeats 1000000 in
theorem decimalN (u : Nat) : u ≤ 1000000000 → ∀ w : World, Calls Tryd.prog 51 #[.int .i64 (u : Int)] w fun e w' => e = .returned (.string ⟨(decDigits u).toArray⟩) ∧ w = w' := by
  induction u using Nat.strongRecOn with
  | _ u ih =>
    intro hu w
    by_cases h : u < 10
    · have hI : (u : Int) < 10 := by omega
      have hsl : ∀ W : World, (Instr.slice 9 (.string ⟨#[48, 49, 50, 51, 52, 53, 54, 55, 56, 57]⟩) (some (.int .i64 (u : Int))) (some (.int .i64 ((u : Int) + 1))) none).run Tryd.prog W = .ok (.string ⟨(decDigits u).toArray⟩) W := fun W => by
        rw [run_slice_string (P := Tryd.prog) (w := W) 9 ⟨#[48, 49, 50, 51, 52, 53, 54, 55, 56, 57]⟩ .i64 .i64 (u : Int) ((u : Int) + 1) Tryd.underlying9 (by omega) (by omega) (by show (u : Int) + 1 ≤ 10; omega), ← dig_one u h]
        rw [show ((u : Int) + 1).toNat = u + 1 by omega]; rfl
      clear ih h
      go_enter Tryd.func51, Tryd.ntmps51
      go_wp2
      go_ret
      exact ⟨rfl, rfl⟩
    · have hI : (10 : Int) ≤ (u : Int) := by omega
      have h1 := ih (u / 10) (by omega) (by omega)
      have h2 := ih (u % 10) (by omega) (by omega)
      have hd : decDigits u = decDigits (u / 10) ++ decDigits (u % 10) := by
        rw [decDigits, dif_neg h]
        congr 1
        rw [decDigits, dif_pos (by omega)]
      have z1 := dec_len 9 (u / 10) (by simp; omega)
      have z2 := dec_len 9 (u % 10) (by simp; omega)
      rw [show ((u / 10 : Nat) : Int) = (u : Int) / 10 by omega] at h1
      rw [show ((u % 10 : Nat) : Int) = (u : Int) % 10 by omega] at h2
      have HE := hide hd
      obtain ⟨S1, hS1⟩ : ∃ s : ByteArray, (⟨(decDigits (u / 10)).toArray⟩ : ByteArray) = s := ⟨_, rfl⟩
      obtain ⟨S2, hS2⟩ : ∃ s : ByteArray, (⟨(decDigits (u % 10)).toArray⟩ : ByteArray) = s := ⟨_, rfl⟩
      have hl1 : S1.data.toList = decDigits (u / 10) := by rw [← hS1]
      have hl2 : S2.data.toList = decDigits (u % 10) := by rw [← hS2]
      have y1 : S1.size ≤ 10 := by
        have h1 : S1.size = (decDigits (u / 10)).length := by rw [← hl1]; rfl
        omega
      have y2 : S2.size ≤ 10 := by
        have h1 : S2.size = (decDigits (u % 10)).length := by rw [← hl2]; rfl
        omega
      rw [hS1] at h1
      rw [hS2] at h2
      have H1 := hide h1
      have H2 := hide h2
      have HL := hide (show (⟨(decDigits u).toArray⟩ : ByteArray) = S1 ++ S2 by
        symm; apply ba_of; rw [ba_cat2, hl1, hl2, hd])
      clear ih h h1 h2 hd z1 z2 hS1 hS2 hl1 hl2 HE
      go_enter Tryd.func51, Tryd.ntmps51
      go_wp2_with (first
        | (go_at_call 51; (with_reducible refine (H1.out _).mono ?_); rintro e w1 ⟨rfl, rfl⟩)
        | (go_at_call 51; (with_reducible refine (H2.out _).mono ?_); rintro e w1 ⟨rfl, rfl⟩)
        | fail)
      go_ret
      exact ⟨by rw [HL.out]; rfl, rfl⟩
set_option maxRecDepth 100000 in
theorem decimalR (w : World) (z : Int) (h1 : -999999999 ≤ z) (h2 : z ≤ 999999999) : Calls Tryd.prog 51 #[.int .i64 z] w fun e w' => e = .returned (.string ⟨(itoa z).toArray⟩) ∧ w = w' := by
  by_cases hz : z < 0
  · obtain ⟨u, hu⟩ : ∃ u : Nat, z = -(u : Int) := ⟨z.natAbs, by omega⟩
    have hn : z.natAbs = u := by omega
    have hi : itoa z = 45 :: decDigits u := by unfold itoa; rw [if_pos hz, hn]
    have H := hide (decimalN u (by omega) w)
    have z1 := dec_len 9 u (by simp; omega)
    obtain ⟨S1, hS1⟩ : ∃ s : ByteArray, (⟨(decDigits u).toArray⟩ : ByteArray) = s := ⟨_, rfl⟩
    have hl1 : S1.data.toList = decDigits u := by rw [← hS1]
    have y1 : S1.size ≤ 10 := by
      have h1 : S1.size = (decDigits u).length := by rw [← hl1]; rfl
      omega
    have HL := hide (show (⟨(itoa z).toArray⟩ : ByteArray) = ({ data := #[45] } : ByteArray) ++ S1 by
      symm; apply ba_of; rw [ba_cat2, hl1, hi]; rfl)
    rw [hS1] at H
    have hu1 : 0 < u := by omega
    have hu2 : u ≤ 999999999 := by omega
    rw [HL.out, hu]
    have hq : decide (-(u : Int) < 0) = true := decide_eq_true (by omega)
    have e1 : IntKind.i64.wrap (-(-(u : Int))) = u := by rw [Int.neg_neg]; exact IntWalk.i64_in _ (by omega)
    clear hn hi hu hz h1 h2 hS1 hl1 z1
    go_enter Tryd.func51, Tryd.ntmps51
    go_wp2_with (first
      | (go_at_call 51; (with_reducible refine H.out.mono ?_); rintro e w1 ⟨rfl, rfl⟩)
      | fail)
    go_ret
    exact ⟨rfl, rfl⟩
  · obtain ⟨u, rfl⟩ : ∃ u : Nat, z = (u : Int) := ⟨z.toNat, by omega⟩
    have hi : itoa (u : Int) = decDigits u := by unfold itoa; rw [if_neg hz, Int.toNat_natCast]
    rw [hi]
    exact decimalN u (by omega) w
end Go.Proofs.YtonnjokjbknngaaDoor
