/- The walk of the law ProgressBars. -/
import Derived.Test.YtalmbcelkllpjaaDoorW13
namespace Go.Proofs.YtalmbcelkllpjaaDoor
open Go.RowKit

/-- The first i signs of a bar that are done, and that are not. -/
def fillC (i : Nat) : UInt8 := if i % 2 = 0 then 35 else 61
def freeC (i : Nat) : UInt8 := if i % 3 = 0 then 46 else if i % 3 = 1 then 45 else 32
def fillL (k : Nat) : List UInt8 := (List.range k).map fillC
def freeL (k : Nat) : List UInt8 := (List.range k).map freeC
theorem fillL_succ (k : Nat) : fillL (k + 1) = fillL k ++ [fillC k] := by simp [fillL, List.range_succ]
theorem freeL_succ (k : Nat) : freeL (k + 1) = freeL k ++ [freeC k] := by simp [freeL, List.range_succ]
theorem fillL_len (k : Nat) : (fillL k).length = k := by simp [fillL]
theorem freeL_len (k : Nat) : (freeL k).length = k := by simp [freeL]
theorem fillL_mem (k : Nat) : ∀ c ∈ fillL k, c = 35 ∨ c = 61 := by
  intro c hc
  simp only [fillL, List.mem_map] at hc
  obtain ⟨i, -, rfl⟩ := hc
  unfold fillC; split
  · exact .inl rfl
  · exact .inr rfl
theorem freeL_mem (k : Nat) : ∀ c ∈ freeL k, c = 32 ∨ c = 46 ∨ c = 45 := by
  intro c hc
  simp only [freeL, List.mem_map] at hc
  obtain ⟨i, -, rfl⟩ := hc
  unfold freeC; split
  · exact .inr (.inl rfl)
  · split
    · exact .inr (.inr rfl)
    · exact .inl rfl
theorem fill_cut (i : Nat) (w : World) : (Instr.slice 9 (.string ⟨#[35, 61]⟩) (some (.int .i64 ((i : Int) % 2))) (some (.int .i64 ((i : Int) % 2 + 1))) none).run Tryd.prog w = .ok (.string ⟨#[fillC i]⟩) w := by
  unfold fillC
  rcases (show i % 2 = 0 ∨ i % 2 = 1 by omega) with h | h
  · rw [show (i : Int) % 2 = 0 by omega, h]; kernel_rfl
  · rw [show (i : Int) % 2 = 1 by omega, h]; kernel_rfl
theorem free_cut (i : Nat) (w : World) : (Instr.slice 9 (.string ⟨#[46, 45, 32]⟩) (some (.int .i64 ((i : Int) % 3))) (some (.int .i64 ((i : Int) % 3 + 1))) none).run Tryd.prog w = .ok (.string ⟨#[freeC i]⟩) w := by
  unfold freeC
  rcases (show i % 3 = 0 ∨ i % 3 = 1 ∨ i % 3 = 2 by omega) with h | h | h
  · rw [show (i : Int) % 3 = 0 by omega, h]; kernel_rfl
  · rw [show (i : Int) % 3 = 1 by omega, h]; kernel_rfl
  · rw [show (i : Int) % 3 = 2 by omega, h]; kernel_rfl

/-- The text so far. -/
def barText (a : List UInt8) (k : Nat) (arrow : Bool) (m : Nat) : List UInt8 := a ++ 91 :: (fillL k ++ ((if arrow then [62] else []) ++ freeL m))
theorem barText_len (a : List UInt8) (k : Nat) (arrow : Bool) (m : Nat) : (barText a k arrow m).length = a.length + 1 + k + (if arrow then 1 else 0) + m := by
  unfold barText; cases arrow <;> simp [fillL_len, freeL_len] <;> omega
theorem barText_fill (a : List UInt8) (k : Nat) : barText a (k + 1) false 0 = barText a k false 0 ++ [fillC k] := by
  unfold barText; rw [fillL_succ]; simp [freeL]
theorem barText_free (a : List UInt8) (k : Nat) (arrow : Bool) (m : Nat) : barText a k arrow (m + 1) = barText a k arrow m ++ [freeC m] := by
  unfold barText; rw [freeL_succ]; simp
theorem barText_arrow (a : List UInt8) (k : Nat) : barText a k true 0 = barText a k false 0 ++ [62] := by
  unfold barText; simp [freeL]
theorem bars_says (S : ByteArray) (a : List UInt8) (k : Nat) (arrow : Bool) (m : Nat) (h : S.data.toList = barText a k arrow m) (ha : ∀ c ∈ a, c ≠ 91) (F : Nat) (hF : F = k + (if arrow then 1 else 0)) :
    barsV (S ++ ⟨#[93]⟩) = if 3 ≤ F + m then ((F : Int), ((F + m : Nat) : Int), true) else (0, 0, false) := by
  have hl := barF_bar a (fillL k) (freeL m) arrow ha (fillL_mem k) (freeL_mem m)
  rw [fillL_len, freeL_len] at hl
  have e : (S ++ ⟨#[93]⟩).data.toList = a ++ 91 :: (fillL k ++ ((if arrow then [62] else []) ++ (freeL m ++ [93]))) := by
    rw [app_list, h]; unfold barText; simp
  unfold barsV
  rw [e, hl]
  rw [← hF]
  by_cases h3 : 3 ≤ F + m
  · rw [if_pos h3, if_pos h3]; rfl
  · rw [if_neg h3, if_neg h3]; rfl
theorem str_list (S : ByteArray) (c : UInt8) (l : List UInt8) (h : S.data.toList = l) : (S ++ ⟨#[c]⟩).data.toList = l ++ [c] := by rw [app_list, h]
theorem str_size (S : ByteArray) (l : List UInt8) (h : S.data.toList = l) : S.size = l.length := by rw [← h]; rfl

set_option maxRecDepth 100000 in
set_option maxHeartbeats 8000000 in
theorem barsLawP (w : World) (s : ByteArray) (k m : Nat) (ar : Bool) (hk : k < 256) (hm : m < 256) (hs : s.size ≤ 9223372036854775807) (hT : Tabs27 w) :
    Calls Tryd.prog 5 #[.string s, .int .u8 k, .int .u8 m, .bool ar] w fun e w' => e = .returned (.bool true) ∧ Below w.heap.size w w' := by
  have HA := hide (fun w1 (hb : Below w.heap.size w w1) => awakeP w1 (hT.below hb))
  clear hT
  have HA0 := hide (HA.out w (Below.refl _ _))
  by_cases h : 60 < s.size
  · clear HA
    go_enter Tryd.func5, Tryd.ntmps5
    go_wp2_with (go_at_call 11; refine HA0.out.mono ?_; rintro e w1 ⟨rfl, hb1⟩)
    go_ret
    exact ⟨rfl, hb1⟩
  · clear HA0
    go_enter Tryd.func5, Tryd.ntmps5
    obtain ⟨M, hM⟩ : ∃ M, s.size = M := ⟨_, rfl⟩
    have HM := hide hM
    have hMb : M ≤ 60 := by omega
    have hMi : ¬ (60 : Int) < (s.size : Int) := by omega
    clear hM
    go_wp2_with (refine wpList_bytes _ (.tmp 22) 9 28 5 rfl (by rfl) Tryd.underlying9 Tryd.underlying28 Tryd.underlying5 s (by rfl) M HM.out ?_; intro w1 bb cc hb1 hbb hcells hcc)
    have Hcells := hide hcells
    clear hcells
    go_loopw [25] (fun i wr => ∃ k : Nat, k ≤ M ∧ i = .int .i64 k ∧ (∀ j (h : j < s.size), j < k → s[j] ≠ 91) ∧ Below w1.heap.size w1 wr) (fun i _ => M - (intOf i).toNat)
    case atStart => exact ⟨0, Nat.zero_le _, rfl, fun j _ hj => by omega, Below.refl _ _⟩
    case round =>
      rename World => wo
      obtain ⟨i, hi, rfl, hdig, hbo⟩ := hrel
      have Hdig := hide hdig
      clear hdig
      have hbwo := hb1.trans (hbo.mono hb1.size)
      by_cases hlt : i < M
      · have hlS : i < s.size := by rw [HM.out]; exact hlt
        have c0 := (hbo.cell (p := ⟨bb, i, none⟩) hbb).trans (Hcells.out i hlS)
        have hltn : (i : Int) < (M : Int) := by omega
        by_cases c91 : s[i] = 91
        · have q1 : ((s[i].toNat : Int) == 91) = true := by rw [c91]; rfl
          clear c91
          go_wp2_with (go_at_call 11; refine (HA.out _ hbwo).mono ?_; rintro e w2 ⟨rfl, hb2⟩)
          go_ret
          exact ⟨rfl, hbwo.trans (hb2.mono hbwo.size)⟩
        · have q1 : ((s[i].toNat : Int) == 91) = false := ne_int (n := 91) c91
          have Hq := hide c91
          by_cases c93 : s[i] = 93
          · have q2 : ((s[i].toNat : Int) == 93) = true := by rw [c93]; rfl
            clear c91 c93
            go_wp2_with (go_at_call 11; refine (HA.out _ hbwo).mono ?_; rintro e w2 ⟨rfl, hb2⟩)
            go_ret
            exact ⟨rfl, hbwo.trans (hb2.mono hbwo.size)⟩
          · have q2 : ((s[i].toNat : Int) == 93) = false := ne_int (n := 93) c93
            clear c91 c93
            go_wp2
            go_roundw
            case rel => exact ⟨i + 1, by omega, by go_num, fun j hj h => by rcases Nat.lt_succ_iff_lt_or_eq.1 h with h | rfl; exact Hdig.out j hj h; exact Hq.out, hbo⟩
            case measure => simp [intOf]; omega
      · have hall : ∀ c ∈ s.data.toList, c ≠ 91 := fun c hc => by
          obtain ⟨j, hj, rfl⟩ := List.mem_iff_getElem.1 hc
          exact Hdig.out j (by simpa using hj) (by have h5 : j < s.size := by simpa using hj
                                                   rw [HM.out] at h5; omega)
        have Hall := hide hall
        clear hall
        obtain ⟨K, hK⟩ : ∃ K, k % 40 = K := ⟨_, rfl⟩
        have hK1 : ((k : Int) % 40) = (K : Int) := by omega
        have hKb : K ≤ 39 := by omega
        have HK := hide hK1
        clear hK hK1
        obtain ⟨E, hE⟩ : ∃ E, m % 40 = E := ⟨_, rfl⟩
        have hE1 : ((m : Int) % 40) = (E : Int) := by omega
        have hEb : E ≤ 39 := by omega
        have HE := hide hE1
        clear hE hE1
        have hc1 : s.size + 1 ≤ 9223372036854775807 := by rw [HM.out]; omega
        go_wp2
        go_loop [11, 12] (fun t i => ∃ (j : Nat) (S : ByteArray), (j : Int) ≤ (k : Int) % 40 ∧ i = .int .i64 j ∧ t = .string S ∧ S.data.toList = barText s.data.toList j false 0) (fun _ i => 39 - (intOf i).toNat)
        case atStart => exact ⟨0, s ++ ⟨#[91]⟩, by omega, rfl, rfl, by rw [app_list]; simp [barText, fillL, freeL]⟩
        case round =>
          obtain ⟨j, S, hj, rfl, rfl, hS⟩ := hrel
          have hj39 : j ≤ 39 := by have := HK.out; omega
          have hSs := str_size S _ hS
          rw [barText_len, slen, HM.out] at hSs
          simp at hSs
          have hSb : S.size + 1 ≤ 9223372036854775807 := by omega
          have HS := hide hS
          have HSs := hide hSs
          clear hS hSs
          by_cases hlt2 : (j : Int) < (k : Int) % 40
          · have hcut := fill_cut j
            go_wp2
            go_round
            case rel => exact ⟨j + 1, _, by omega, by go_num, rfl, by rw [barText_fill]; exact str_list _ _ _ HS.out⟩
            case measure => have := HK.out; simp [intOf]; omega
          · obtain rfl : j = K := by have := HK.out; omega
            have hSb2 : S.size ≤ 110 := by have := HSs.out; omega
            have hbar : ∃ (S2 : ByteArray) (n2 : Nat), S2.data.toList = barText s.data.toList j ar 0 ∧ n2 = j + (if ar then 1 else 0) ∧ S2 = (if ar then S ++ ⟨#[62]⟩ else S) := by
              cases ar with
              | true => exact ⟨_, _, by rw [barText_arrow]; exact str_list _ _ _ HS.out, rfl, rfl⟩
              | false => exact ⟨_, _, HS.out, rfl, rfl⟩
            obtain ⟨S2, n2, hS2, hn2, hS2e⟩ := hbar
            have Hn2 := hide hn2
            have HS2e := hide hS2e
            have HS2 := hide hS2
            clear hn2 hS2e hS2
            rcases (show ar = true ∨ ar = false by cases ar <;> simp) with rfl | rfl
            all_goals
              go_wp2
              go_loop [11, 14] (fun t i => ∃ (e : Nat) (S3 : ByteArray), (e : Int) ≤ (m : Int) % 40 ∧ i = .int .i64 e ∧ t = .string S3 ∧ S3.data.toList = barText s.data.toList j _ e) (fun _ i => 39 - (intOf i).toNat)
              case atStart => exact ⟨0, S2, by omega, rfl, by rw [HS2e.out]; rfl, HS2.out⟩
              case round =>
                obtain ⟨e, S3, he, rfl, rfl, hS3⟩ := hrel
                have he39 : e ≤ 39 := by have := HE.out; omega
                have hSs := str_size S3 _ hS3
                rw [barText_len, slen, HM.out] at hSs
                simp only [if_true, if_false, Bool.false_eq_true] at hSs
                have hSb3 : S3.size + 1 ≤ 9223372036854775807 := by omega
                have hSb4 : S3.size ≤ 200 := by omega
                have HS3 := hide hS3
                clear hS3 hSs
                by_cases hlt3 : (e : Int) < (m : Int) % 40
                · have hcut := free_cut e
                  go_wp2
                  go_round
                  case rel => exact ⟨e + 1, _, by omega, by go_num, rfl, by rw [barText_free]; exact str_list _ _ _ HS3.out⟩
                  case measure => have := HE.out; simp [intOf]; omega
                · obtain rfl : e = E := by have := HE.out; omega
                  have hsz : (S3 ++ ⟨#[93]⟩ : ByteArray).size = S3.size + 1 := by rw [ByteArray.size_append]; rfl
                  have HB := hide (BarP wo (S3 ++ ⟨#[93]⟩) (by omega))
                  rw [bars_says S3 s.data.toList j _ e HS3.out Hall.out n2 Hn2.out] at HB
                  have hn2 := Hn2.out
                  simp at hn2
                  have hk1 := HK.out
                  have hm1 := HE.out
                  first
                    | (have hn2i : (n2 : Int) = (j : Int) + 1 := by omega)
                    | (have hn2i : (n2 : Int) = (j : Int) := by omega)
                  clear hn2
                  clear hsz HK HE Hn2 HS2e HS2 HS3 HS HSs hj he hlt2 hlt3 Hdig Hcells
                  by_cases h3 : 3 ≤ n2 + e
                  · rw [if_pos h3] at HB
                    dsimp only at HB
                    have h3i : ¬ ((n2 : Int) + (e : Int) < 3) := by omega
                    rw [hn2i] at h3i
                    go_wp2_with (first
                      | (go_at_call 14; refine HB.out.mono ?_; rintro e1 w2 ⟨rfl, rfl⟩)
                      | (go_at_call 11; refine (HA.out _ hbwo).mono ?_; rintro e1 w2 ⟨rfl, hb2⟩)
                      | fail)
                    go_ret
                    exact ⟨rfl, hbwo.trans (hb2.mono hbwo.size)⟩
                  · rw [if_neg h3] at HB
                    dsimp only at HB
                    have h3i : ((n2 : Int) + (e : Int) < 3) := by omega
                    rw [hn2i] at h3i
                    go_wp2_with (first
                      | (go_at_call 14; refine HB.out.mono ?_; rintro e1 w2 ⟨rfl, rfl⟩)
                      | (go_at_call 11; refine (HA.out _ hbwo).mono ?_; rintro e1 w2 ⟨rfl, hb2⟩)
                      | fail)
                    go_ret
                    exact ⟨rfl, hbwo.trans (hb2.mono hbwo.size)⟩
end Go.Proofs.YtalmbcelkllpjaaDoor
