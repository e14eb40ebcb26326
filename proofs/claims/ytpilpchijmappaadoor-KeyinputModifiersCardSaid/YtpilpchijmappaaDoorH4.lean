/- The names of the keys: keyinput.Names, narratorref14.Names, known; slices.Contains. -/
import Derived.Test.YtpilpchijmappaaDoorH0
import Derived.Test.YtpilpchijmappaaDoorH1
namespace Go.Proofs.YtpilpchijmappaaDoor
open Go.RowKit

/-- A row of the call's own that is not empty lies in a block. -/
theorem own_form1 {w : World} {base : Nat} {e : TypeId} {size : Nat} {v : Value} {n : Nat} {xs : List Value} (h : w.ownsRow base e size v n xs) (hn : 0 < n) : ∃ g cap, v = .slice (some ⟨g, 0, none⟩) n cap ∧ base ≤ g ∧ g < w.heap.size := by
  rcases h.2 with ⟨rfl, h0⟩ | ⟨g, cap, cur, rfl, hg, hh, _⟩
  · omega
  · exact ⟨g, cap, rfl, hg, block_lt hh⟩

theorem el_str14 : ElemOf Tryd.prog 34 9 (.string ⟨#[]⟩) 1 16 := ⟨Tryd.underlying34, by kernel_rfl, rfl, by decide, by decide⟩
def nameV (n : List UInt8) : Value := .string ⟨n.toArray⟩
def NamesRow (w0 : World) (e : Ending) (w' : World) : Prop := ∃ g c, e = .returned (.slice (some ⟨g, 0, none⟩) 26 c) ∧ w'.ownsRow w0.heap.size 9 1 (.slice (some ⟨g, 0, none⟩) 26 c) 26 (keyNames.map nameV) ∧ Below w0.heap.size w0 w'

set_option maxRecDepth 100000 in
set_option maxHeartbeats 400000 in
theorem names14 (w : World) : Calls Tryd.prog 46 #[] w (NamesRow w) := by
  have hbw := (Below.refl w.heap.size w)
  go_enter Tryd.func46, Tryd.ntmps46
  go_wp2
  go_ret
  exact ⟨_, _, rfl, own_lit w w.heap.size 9 1 26 _ (Nat.le_refl _) (by omega) rfl, hbw.alloc (Nat.le_refl _) _⟩

theorem name_step : ∀ k : Nat, k < 12 → (keyNames.map nameV).take (14 + (k + 1)) = (keyNames.map nameV).take (14 + k) ++ [.string (⟨#[70]⟩ ++ ⟨(Lib.itoa ((k + 1 : Nat) : Int)).toArray⟩)] := by
  intro k hk
  have : ∀ k : Fin 12, keyNames.take (14 + (k.val + 1)) = keyNames.take (14 + k.val) ++ [70 :: Lib.itoa ((k.val + 1 : Nat) : Int)] := by decide +kernel
  have h := this ⟨k, hk⟩
  dsimp only at h
  rw [← List.map_take, h, List.map_append, List.map_take]
  congr 1
theorem itoa_small : ∀ k : Nat, k < 100 → (Lib.itoa (k : Int)).length ≤ 2 := by
  intro k hk
  have : ∀ k : Fin 100, (Lib.itoa (k.val : Int)).length ≤ 2 := by decide +kernel
  exact this ⟨k, hk⟩

set_option maxRecDepth 100000 in
set_option maxHeartbeats 400000 in
theorem namesP (w : World) (hP : Pow w) : Calls Tryd.prog 16 #[] w (NamesRow w) := by
  have HI := hide (fun W (hb : Below w.heap.size w W) n (hn : n ≤ 100) => itoaP W n hn (hP.below hb))
  have hrf := Below.refl w.heap.size w
  clear hP
  go_enter Tryd.func16, Tryd.ntmps16
  go_wp2
  go_loopw [1, 4] (fun l i wr => ∃ k : Nat, k ≤ 12 ∧ i = .int .i64 k ∧ wr.ownsRow w.heap.size 9 1 l (14 + k) ((keyNames.map nameV).take (14 + k)) ∧ Below w.heap.size w wr) (fun _ i _ => 12 - (intOf i).toNat)
  case atStart => exact ⟨0, Nat.zero_le _, rfl, own_lit w w.heap.size 9 1 14 _ (Nat.le_refl _) (by omega) rfl, hrf.alloc (Nat.le_refl _) _⟩
  case round =>
    rename World => wo
    obtain ⟨k, hk, rfl, hown, hbw⟩ := hrel
    have hs := hbw.size
    by_cases hlt : k < 12
    · have hlt2 : (k : Int) < 12 := by omega
      have Hstep := hide (name_step k hlt)
      have hz := itoa_small (k + 1) (by omega)
      have cI := HI.out wo hbw (k + 1) (by omega)
      obtain ⟨D, hD⟩ : ∃ D : ByteArray, (⟨(Lib.itoa ((k + 1 : Nat) : Int)).toArray⟩ : ByteArray) = D := ⟨_, rfl⟩
      have hDz : D.size ≤ 2 := by rw [← hD]; simpa [ByteArray.size] using hz
      rw [hD] at Hstep cI
      have hcat : (⟨#[70]⟩ : ByteArray).size + D.size ≤ 9223372036854775807 := by have : (⟨#[70]⟩ : ByteArray).size = 1 := rfl; omega
      have hcat1 : 1 + D.size ≤ 9223372036854775807 := by omega
      rw [show ((k + 1 : Nat) : Int) = (k : Int) + 1 by omega] at cI
      have HcI := hide cI
      have Hown := hide hown
      clear hD hz cI hown
      go_wp2_with (first
        | (go_at_call 30; refine HcI.out.mono ?_; rintro e w2 ⟨rfl, hb2⟩; have hown2 := own_below Hown.out hb2 (Nat.le_refl _); have hbw2 := hbw.trans (hb2.mono hs); have hs2 := hbw2.size)
        | (at_builtin; refine wpList_app _ (.tmp 7) (.tmp 12) 34 rfl rfl el_str14 w.heap.size _ (14 + k) _ (by rfl) hown2 hs2 _ 1 1 _ _ (by rfl) (by first | rfl | simp) rfl (by simp [Value.oneCell']) (by omega) ?_; intro v6 w6 hown6 hg6; have hb6 := below_own hbw2 hown2 hg6 (Nat.le_refl _) hs2)
        | fail)
      go_roundw
      case rel => exact ⟨k + 1, by omega, by go_num, own_eq hown6 rfl (by rw [Hstep.out]), hb6⟩
      case measure => simp [intOf]; omega
    · obtain rfl : k = 12 := by omega
      obtain ⟨g1, c1, rfl, -, -⟩ := own_form1 hown (by omega)
      go_wp2
      go_ret
      exact ⟨g1, c1, rfl, hown, hbw⟩

set_option maxRecDepth 100000 in
set_option maxHeartbeats 400000 in
theorem known14 (w : World) (s : ByteArray) : Calls Tryd.prog 29 #[.string s] w fun e w' => e = .returned (.bool (decide (s.data.toList ∈ keyNames))) ∧ Below w.heap.size w w' := by
  obtain ⟨R, hR⟩ : ∃ R, decide (s.data.toList ∈ keyNames) = R := ⟨_, rfl⟩
  rw [hR]
  have HY := hide (fun (k : Nat) (hk : k < keyNames.length) (h : s.data.toList = keyNames[k]) => (show true = R by rw [← hR]; exact (decide_eq_true (by rw [h]; exact List.getElem_mem _)).symm))
  have HN := hide (fun (h : ∀ (k : Nat) (hk : k < keyNames.length), s.data.toList ≠ keyNames[k]) => (show false = R by rw [← hR]; exact (decide_eq_false (fun hm => by obtain ⟨k, hk, e⟩ := List.getElem_of_mem hm; exact h k hk e.symm)).symm))
  clear hR
  go_enter Tryd.func29, Tryd.ntmps29
  go_wp2_with (go_at_call 46; refine (names14 _).mono ?_; rintro e w1 ⟨g, c, rfl, hown, hb1⟩)
  go_loop [4] (fun i => ∃ k : Nat, k ≤ 26 ∧ i = .int .i64 k ∧ ∀ (j : Nat) (hj : j < keyNames.length), j < k → s.data.toList ≠ keyNames[j]) (fun i => 26 - (intOf i).toNat)
  case atStart => exact ⟨0, Nat.zero_le _, rfl, fun j _ hj => by omega⟩
  case round =>
    obtain ⟨k, hk, rfl, hno⟩ := hrel
    have Hno := hide hno
    clear hno
    by_cases hlt : k < 26
    · have hkl : k < keyNames.length := hlt
      have hkI : (k : Int) < 26 := by omega
      have hc := (hown.cellAt k (by omega)).trans (show (keyNames.map nameV)[k]? = some (.string ⟨(keyNames[k]'hkl).toArray⟩) by rw [List.getElem?_map, List.getElem?_eq_getElem hkl]; rfl)
      have Hkl := hide hkl
      have HYk := hide (HY.out k hkl)
      obtain ⟨N, hN⟩ : ∃ N, keyNames[k]'hkl = N := ⟨_, rfl⟩
      have HNk := hide hN
      rw [hN] at hc HYk
      clear hN
      by_cases he : s.data.toList = N
      · have hq : (N == s.toList) = true := by rw [ByteArray.toList_eq, he]; simp
        have HH := hide (HYk.out he)
        clear he
        go_wp2
        go_ret
        exact ⟨ret_bool HH.out, hb1⟩
      · have hq : (N == s.toList) = false := by rw [ByteArray.toList_eq]; simp; exact fun h => he h.symm
        have He := hide he
        clear he
        go_wp2
        go_round
        case rel =>
          refine ⟨k + 1, by omega, by go_num, fun j hj hjk => ?_⟩
          rcases Nat.lt_succ_iff_lt_or_eq.1 hjk with h | rfl
          · exact Hno.out j hj h
          · have := HNk.out; rw [this]; exact He.out
        case measure => simp [intOf]; omega
    · obtain rfl : k = 26 := by omega
      have HH := hide (HN.out (fun j hj => Hno.out j hj (by have : keyNames.length = 26 := rfl; omega)))
      go_wp2
      go_ret
      exact ⟨ret_bool HH.out, hb1⟩
set_option maxRecDepth 100000 in
set_option maxHeartbeats 400000 in
theorem indexS (w : World) (base g c : Nat) (hown : w.ownsRow base 9 1 (.slice (some ⟨g, 0, none⟩) 26 c) 26 (keyNames.map nameV)) (s : ByteArray) :
    Calls Tryd.prog 44 #[.slice (some ⟨g, 0, none⟩) 26 c, .string s] w fun e w' => ∃ r : Int, e = .returned (.int .i64 r) ∧ decide (0 ≤ r) = decide (s.data.toList ∈ keyNames) ∧ w = w' := by
  obtain ⟨R, hR⟩ : ∃ R, decide (s.data.toList ∈ keyNames) = R := ⟨_, rfl⟩
  rw [hR]
  have HY := hide (fun (k : Nat) (hk : k < keyNames.length) (h : s.data.toList = keyNames[k]) => (show true = R by rw [← hR]; exact (decide_eq_true (by rw [h]; exact List.getElem_mem _)).symm))
  have HN := hide (fun (h : ∀ (k : Nat) (hk : k < keyNames.length), s.data.toList ≠ keyNames[k]) => (show false = R by rw [← hR]; exact (decide_eq_false (fun hm => by obtain ⟨k, hk, e⟩ := List.getElem_of_mem hm; exact h k hk e.symm)).symm))
  clear hR
  go_enter Tryd.func44, Tryd.ntmps44
  go_wp2
  go_loop [8] (fun i => ∃ k : Nat, k ≤ 26 ∧ i = .int .i64 k ∧ ∀ (j : Nat) (hj : j < keyNames.length), j < k → s.data.toList ≠ keyNames[j]) (fun i => 26 - (intOf i).toNat)
  case atStart => exact ⟨0, Nat.zero_le _, rfl, fun j _ hj => by omega⟩
  case round =>
    obtain ⟨k, hk, rfl, hno⟩ := hrel
    have Hno := hide hno
    clear hno
    by_cases hlt : k < 26
    · have hkl : k < keyNames.length := hlt
      have hkI : (k : Int) < 26 := by omega
      have hc := (hown.cellAt k (by omega)).trans (show (keyNames.map nameV)[k]? = some (.string ⟨(keyNames[k]'hkl).toArray⟩) by rw [List.getElem?_map, List.getElem?_eq_getElem hkl]; rfl)
      have HYk := hide (HY.out k hkl)
      obtain ⟨N, hN⟩ : ∃ N, keyNames[k]'hkl = N := ⟨_, rfl⟩
      have HNk := hide hN
      rw [hN] at hc HYk
      clear hN
      by_cases he : s.data.toList = N
      · have hq : (s.toList == N) = true := by rw [ByteArray.toList_eq, he]; simp
        have HH := hide (HYk.out he)
        clear he
        go_wp2
        go_ret
        exact ⟨_, rfl, by rw [← HH.out]; simp, rfl⟩
      · have hq : (s.toList == N) = false := by rw [ByteArray.toList_eq]; simp; exact he
        have He := hide he
        clear he
        go_wp2
        go_round
        case rel =>
          refine ⟨k + 1, by omega, by go_num, fun j hj hjk => ?_⟩
          rcases Nat.lt_succ_iff_lt_or_eq.1 hjk with h | rfl
          · exact Hno.out j hj h
          · have := HNk.out; rw [this]; exact He.out
        case measure => simp [intOf]; omega
    · obtain rfl : k = 26 := by omega
      have HH := hide (HN.out (fun j hj => Hno.out j hj (by have : keyNames.length = 26 := rfl; omega)))
      go_wp2
      go_ret
      exact ⟨_, rfl, by rw [← HH.out]; simp, rfl⟩
set_option maxRecDepth 100000 in
set_option maxHeartbeats 400000 in
theorem containsS (w : World) (base g c : Nat) (hown : w.ownsRow base 9 1 (.slice (some ⟨g, 0, none⟩) 26 c) 26 (keyNames.map nameV)) (s : ByteArray) :
    Calls Tryd.prog 27 #[.slice (some ⟨g, 0, none⟩) 26 c, .string s] w fun e w' => e = .returned (.bool (decide (s.data.toList ∈ keyNames))) ∧ w = w' := by
  have HI := hide (indexS w base g c hown s)
  clear hown
  go_enter Tryd.func27, Tryd.ntmps27
  go_wp2_with (go_at_call 44; refine HI.out.mono ?_; rintro e w1 ⟨r, rfl, hr, rfl⟩)
  go_ret
  exact ⟨rfl, rfl⟩
end Go.Proofs.YtpilpchijmappaaDoor
