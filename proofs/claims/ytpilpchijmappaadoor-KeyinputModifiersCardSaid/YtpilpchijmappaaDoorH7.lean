/- narratorref14.letter, tilde, digits. -/
import Derived.Test.YtpilpchijmappaaDoorH4
namespace Go.Proofs.YtpilpchijmappaaDoor
open Go.RowKit

theorem lookL_at {α : Type} (n : List UInt8) : ∀ (t : List (List UInt8 × α)) (k : Nat) (hk : k < t.length), (∀ (j : Nat) (hj : j < t.length), j < k → n ≠ t[j].1) → n = t[k].1 → lookL n t = some t[k].2
  | x :: r, 0, _, _, h => by
    have h' : x.1 = n := h.symm
    rw [lookL, if_pos h']; rfl
  | x :: r, k + 1, hk, hno, h => by
    have h0 := hno 0 (by simp) (by omega)
    have h1 : ¬ x.1 = n := fun e => h0 e.symm
    rw [lookL, if_neg h1]
    exact lookL_at n r k (by simpa using hk) (fun j hj hjk => hno (j + 1) (by simpa using hj) (by omega)) h
theorem lookL_none {α : Type} (n : List UInt8) : ∀ (t : List (List UInt8 × α)), (∀ (j : Nat) (hj : j < t.length), n ≠ t[j].1) → lookL n t = none
  | [], _ => rfl
  | x :: r, hno => by
    have h0 := hno 0 (by simp)
    have h1 : ¬ x.1 = n := fun e => h0 e.symm
    rw [lookL, if_neg h1]
    exact lookL_none n r (fun j hj => hno (j + 1) (by simpa using hj))

def letB (n : List UInt8) : ByteArray := match lookL n letterTab with | some p => ⟨#[p.1]⟩ | none => ⟨#[]⟩
def tilTab : List (List UInt8 × Int) := [([73, 110, 115, 101, 114, 116], 2), ([68, 101, 108, 101, 116, 101], 3), ([80, 97, 103, 101, 85, 112], 5), ([80, 97, 103, 101, 68, 111, 119, 110], 6), ([70, 53], 15), ([70, 54], 17), ([70, 55], 18), ([70, 56], 19), ([70, 57], 20), ([70, 49, 48], 21), ([70, 49, 49], 23), ([70, 49, 50], 24)]
def tilN (n : List UInt8) : Int := match lookL n tilTab with | some d => d | none => 0
theorem let_cut (k : Nat) (hk : k < letterTab.length) (w : World) : (Instr.slice 9 (.string ⟨#[65, 66, 67, 68, 70, 72, 80, 81, 82, 83]⟩) (some (.int .i64 (k : Int))) (some (.int .i64 ((k : Int) + 1))) none).run Tryd.prog w = .ok (.string ⟨#[(letterTab[k]'hk).2.1]⟩) w := by
  have h10 : k < 10 := hk
  rcases (show k = 0 ∨ k = 1 ∨ k = 2 ∨ k = 3 ∨ k = 4 ∨ k = 5 ∨ k = 6 ∨ k = 7 ∨ k = 8 ∨ k = 9 by omega) with rfl | rfl | rfl | rfl | rfl | rfl | rfl | rfl | rfl | rfl <;> (show _ = _) <;> kernel_rfl

set_option maxRecDepth 100000 in
set_option maxHeartbeats 400000 in
theorem letter14 (w : World) (s : ByteArray) : Calls Tryd.prog 22 #[.string s] w fun e w' => e = .returned (.string (letB s.data.toList)) ∧ Below w.heap.size w w' := by
  obtain ⟨R, hR⟩ : ∃ R, letB s.data.toList = R := ⟨_, rfl⟩
  rw [hR]
  have HY := hide (fun (k : Nat) (hk : k < letterTab.length) (hno : ∀ (j : Nat) (hj : j < letterTab.length), j < k → s.data.toList ≠ letterTab[j].1) (h : s.data.toList = letterTab[k].1) => (show (⟨#[letterTab[k].2.1]⟩ : ByteArray) = R by rw [← hR]; unfold letB; rw [lookL_at _ _ k hk hno h]))
  have HN := hide (fun (h : ∀ (k : Nat) (hk : k < letterTab.length), s.data.toList ≠ letterTab[k].1) => (show (⟨#[]⟩ : ByteArray) = R by rw [← hR]; unfold letB; rw [lookL_none _ _ h]))
  have hown := own_lit w w.heap.size 9 1 10 ((letterTab.map fun p => nameV p.1).toArray) (Nat.le_refl _) (by omega) rfl
  have hbw := (Below.refl w.heap.size w).alloc (Nat.le_refl _) (.cells ((letterTab.map fun p => nameV p.1).toArray) 9)
  have Hown := hide hown
  have Hbw := hide hbw
  clear hR hown hbw
  go_enter Tryd.func22, Tryd.ntmps22
  go_wp2
  go_loopw [4] (fun i wr => ∃ k : Nat, k ≤ 10 ∧ i = .int .i64 k ∧ (∀ (j : Nat) (hj : j < letterTab.length), j < k → s.data.toList ≠ letterTab[j].1) ∧ wr.ownsRow w.heap.size 9 1 (.slice (some ⟨w.heap.size, 0, none⟩) 10 10) 10 (letterTab.map fun p => nameV p.1) ∧ Below w.heap.size w wr) (fun i _ => 10 - (intOf i).toNat)
  case atStart => exact ⟨0, Nat.zero_le _, rfl, fun j _ hj => by omega, Hown.out, Hbw.out⟩
  case round =>
    obtain ⟨k, hk, rfl, hno, hown, hbw⟩ := hrel
    have Hno := hide hno
    clear hno
    by_cases hlt : k < 10
    · have hkl : k < letterTab.length := hlt
      have hkI : (k : Int) < 10 := by omega
      have hcut := let_cut k hkl
      have hc := (hown.cellAt k (by omega)).trans (show (letterTab.map fun p => nameV p.1)[k]? = some (.string ⟨((letterTab[k]'hkl).1).toArray⟩) by rw [List.getElem?_map, List.getElem?_eq_getElem hkl]; rfl)
      have HYk := hide (HY.out k hkl (fun j hj hjk => Hno.out j hj hjk))
      have Hcur := hide (fun (h : s.data.toList ≠ (letterTab[k]'hkl).1) => (show ∀ (j : Nat) (hj : j < letterTab.length), j < k + 1 → s.data.toList ≠ letterTab[j].1 from fun j hj hjk => by
        rcases Nat.lt_succ_iff_lt_or_eq.1 hjk with h1 | rfl
        · exact Hno.out j hj h1
        · exact h))
      obtain ⟨⟨N, L⟩, hN⟩ : ∃ p, letterTab[k]'hkl = p := ⟨_, rfl⟩
      rw [hN] at hc HYk hcut Hcur
      dsimp only at hc hcut
      clear hN
      by_cases he : s.data.toList = N
      · have hq : (N == s.toList) = true := by rw [ByteArray.toList_eq, he]; simp
        have HH := hide (HYk.out he)
        clear he
        go_wp2
        go_ret
        exact ⟨congrArg (fun x => Ending.returned (Value.string x)) HH.out, hbw⟩
      · have hq : (N == s.toList) = false := by rw [ByteArray.toList_eq]; simp; exact fun h => he h.symm
        have HH := hide (Hcur.out he)
        clear he
        go_wp2
        go_roundw
        case rel => exact ⟨k + 1, by omega, by go_num, HH.out, hown, hbw⟩
        case measure => simp [intOf]; omega
    · obtain rfl : k = 10 := by omega
      have HH := hide (HN.out (fun j hj => Hno.out j hj (by have : letterTab.length = 10 := rfl; omega)))
      go_wp2
      go_ret
      exact ⟨congrArg (fun x => Ending.returned (Value.string x)) HH.out, hbw⟩
set_option maxRecDepth 100000 in
set_option maxHeartbeats 400000 in
theorem tilde14 (w : World) (s : ByteArray) : Calls Tryd.prog 24 #[.string s] w fun e w' => e = .returned (.int .i64 (tilN s.data.toList)) ∧ Below w.heap.size w w' := by
  obtain ⟨R, hR⟩ : ∃ R, tilN s.data.toList = R := ⟨_, rfl⟩
  rw [hR]
  have HY := hide (fun (k : Nat) (hk : k < tilTab.length) (hno : ∀ (j : Nat) (hj : j < tilTab.length), j < k → s.data.toList ≠ tilTab[j].1) (h : s.data.toList = tilTab[k].1) => (show tilTab[k].2 = R by rw [← hR]; unfold tilN; rw [lookL_at _ _ k hk hno h]))
  have HN := hide (fun (h : ∀ (k : Nat) (hk : k < tilTab.length), s.data.toList ≠ tilTab[k].1) => (show 0 = R by rw [← hR]; unfold tilN; rw [lookL_none _ _ h]))
  have hown := (own_lit w w.heap.size 9 1 12 ((tilTab.map fun p => nameV p.1).toArray) (Nat.le_refl _) (by omega) rfl).alloc (.cells ((tilTab.map fun p => Value.int .i64 p.2).toArray) 3)
  have hnum := own_lit (w.alloc (.cells ((tilTab.map fun p => nameV p.1).toArray) 9)) w.heap.size 3 1 12 ((tilTab.map fun p => Value.int .i64 p.2).toArray) (by simp) (by omega) rfl
  rw [World.size_alloc] at hnum
  have hbw := ((Below.refl w.heap.size w).alloc (Nat.le_refl _) (.cells ((tilTab.map fun p => nameV p.1).toArray) 9)).alloc (by simp) (.cells ((tilTab.map fun p => Value.int .i64 p.2).toArray) 3)
  have Hown := hide hown
  have Hnum := hide hnum
  have Hbw := hide hbw
  clear hR hown hbw hnum
  go_enter Tryd.func24, Tryd.ntmps24
  go_wp2
  go_loopw [5] (fun i wr => ∃ k : Nat, k ≤ 12 ∧ i = .int .i64 k ∧ (∀ (j : Nat) (hj : j < tilTab.length), j < k → s.data.toList ≠ tilTab[j].1) ∧ wr.ownsRow w.heap.size 9 1 (.slice (some ⟨w.heap.size, 0, none⟩) 12 12) 12 (tilTab.map fun p => nameV p.1) ∧ wr.ownsRow w.heap.size 3 1 (.slice (some ⟨w.heap.size + 1, 0, none⟩) 12 12) 12 (tilTab.map fun p => Value.int .i64 p.2) ∧ Below w.heap.size w wr) (fun i _ => 12 - (intOf i).toNat)
  case atStart => exact ⟨0, Nat.zero_le _, rfl, fun j _ hj => by omega, Hown.out, Hnum.out, Hbw.out⟩
  case round =>
    obtain ⟨k, hk, rfl, hno, hown, hnum, hbw⟩ := hrel
    have Hno := hide hno
    clear hno
    by_cases hlt : k < 12
    · have hkl : k < tilTab.length := hlt
      have hkI : (k : Int) < 12 := by omega
      have hd := (hnum.cellAt k (by omega)).trans (show (tilTab.map fun p => Value.int .i64 p.2)[k]? = some (.int .i64 (tilTab[k]'hkl).2) by rw [List.getElem?_map, List.getElem?_eq_getElem hkl]; rfl)
      have hc := (hown.cellAt k (by omega)).trans (show (tilTab.map fun p => nameV p.1)[k]? = some (.string ⟨((tilTab[k]'hkl).1).toArray⟩) by rw [List.getElem?_map, List.getElem?_eq_getElem hkl]; rfl)
      have HYk := hide (HY.out k hkl (fun j hj hjk => Hno.out j hj hjk))
      have Hcur := hide (fun (h : s.data.toList ≠ (tilTab[k]'hkl).1) => (show ∀ (j : Nat) (hj : j < tilTab.length), j < k + 1 → s.data.toList ≠ tilTab[j].1 from fun j hj hjk => by
        rcases Nat.lt_succ_iff_lt_or_eq.1 hjk with h1 | rfl
        · exact Hno.out j hj h1
        · exact h))
      obtain ⟨⟨N, L⟩, hN⟩ : ∃ p, tilTab[k]'hkl = p := ⟨_, rfl⟩
      rw [hN] at hc HYk hd Hcur
      dsimp only at hc hd
      clear hN
      by_cases he : s.data.toList = N
      · have hq : (N == s.toList) = true := by rw [ByteArray.toList_eq, he]; simp
        have HH := hide (HYk.out he)
        clear he
        go_wp2
        go_ret
        exact ⟨ret_int HH.out, hbw⟩
      · have hq : (N == s.toList) = false := by rw [ByteArray.toList_eq]; simp; exact fun h => he h.symm
        have HH := hide (Hcur.out he)
        clear he
        go_wp2
        go_roundw
        case rel => exact ⟨k + 1, by omega, by go_num, HH.out, hown, hnum, hbw⟩
        case measure => simp [intOf]; omega
    · obtain rfl : k = 12 := by omega
      have HH := hide (HN.out (fun j hj => Hno.out j hj (by have : tilTab.length = 12 := rfl; omega)))
      go_wp2
      go_ret
      exact ⟨ret_int HH.out, hbw⟩
def dg (n : Nat) : ByteArray := ⟨#[(48 + n).toUInt8]⟩
theorem dg_size (n : Nat) : (dg n).size = 1 := rfl
/-- The digits of a number below 100. -/
def dgs (n : Nat) : ByteArray := if n < 10 then dg n else dg (n / 10) ++ dg (n % 10)
theorem dgs_size (n : Nat) : (dgs n).size ≤ 2 := by
  unfold dgs
  split
  · rw [dg_size]; omega
  · rw [ByteArray.size_append, dg_size, dg_size]; omega
theorem ten_cut (n : Nat) (h : n < 10) (w : World) : (Instr.slice 9 (.string ⟨#[48, 49, 50, 51, 52, 53, 54, 55, 56, 57]⟩) (some (.int .i64 (n : Int))) (some (.int .i64 ((n : Int) + 1))) none).run Tryd.prog w = .ok (.string (dg n)) w := by
  rcases (show n = 0 ∨ n = 1 ∨ n = 2 ∨ n = 3 ∨ n = 4 ∨ n = 5 ∨ n = 6 ∨ n = 7 ∨ n = 8 ∨ n = 9 by omega) with rfl | rfl | rfl | rfl | rfl | rfl | rfl | rfl | rfl | rfl <;> kernel_rfl
set_option maxHeartbeats 400000 in
theorem digit14 (w : World) (n : Nat) (h : n < 10) : Calls Tryd.prog 23 #[.int .i64 n] w fun e w' => e = .returned (.string (dg n)) ∧ w = w' := by
  have hcut := ten_cut n h
  have hlt : (n : Int) < 10 := by omega
  go_enter Tryd.func23, Tryd.ntmps23
  go_wp2
  go_ret
  exact ⟨rfl, rfl⟩
set_option maxHeartbeats 1000000 in
theorem digits14 (w : World) (n : Nat) (h2 : n < 100) : Calls Tryd.prog 23 #[.int .i64 n] w fun e w' => e = .returned (.string (dgs n)) ∧ w = w' := by
  by_cases h : n < 10
  · have := digit14 w n h
    unfold dgs
    rw [if_pos h]
    exact this
  have H1 := hide (fun w1 => digit14 w1 (n / 10) (by omega))
  have H2 := hide (fun w1 => digit14 w1 (n % 10) (by omega))
  have hs1 := dg_size (n / 10)
  have hs2 := dg_size (n % 10)
  have hcat : (dg (n / 10)).size + (dg (n % 10)).size ≤ 9223372036854775807 := by omega
  have HE := hide (show dgs n = dg (n / 10) ++ dg (n % 10) by unfold dgs; rw [if_neg h])
  have hge : ¬ (n : Int) < 10 := by omega
  clear hs1 hs2 h
  go_enter Tryd.func23, Tryd.ntmps23
  have ed : ((n : Int) / 10) = ((n / 10 : Nat) : Int) := by simp
  have em : ((n : Int) % 10) = ((n % 10 : Nat) : Int) := by simp
  have Ed := hide ed
  have Em := hide em
  clear ed em
  go_wp2_with fail
  rw [Ed.out]
  refine (H1.out _).mono ?_
  rintro e w1 ⟨rfl, rfl⟩
  go_wp2_with fail
  rw [Em.out]
  refine (H2.out _).mono ?_
  rintro e w1 ⟨rfl, rfl⟩
  go_wp2_with fail
  go_ret
  exact ⟨by rw [HE.out]; rfl, rfl⟩
end Go.Proofs.YtpilpchijmappaaDoor
