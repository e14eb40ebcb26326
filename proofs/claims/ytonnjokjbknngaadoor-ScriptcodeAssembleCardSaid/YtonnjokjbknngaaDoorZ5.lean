/- scriptcode: label, number, the names of the instructions. -/
import Derived.Test.YtonnjokjbknngaaDoorZ4
namespace Go.Proofs.YtonnjokjbknngaaDoor
open Go.RowKit Go.Lib Go.Shelf

theorem str_beq (a b : ByteArray) : (a.toList == b.toList) = decide (a.data.toList = b.data.toList) := by
  rw [ByteArray.toList_eq, ByteArray.toList_eq, Bool.eq_iff_iff]
  simp
theorem ba_ext {a b : ByteArray} (h : a.data.toList = b.data.toList) : a = b := by
  obtain ⟨⟨x⟩⟩ := a; obtain ⟨⟨y⟩⟩ := b
  simp at h; rw [h]
theorem ba_of {s : ByteArray} {l : List UInt8} (h : s.data.toList = l) : s = ⟨l.toArray⟩ := ba_ext (by simpa using h)
theorem get_at (s : ByteArray) (k : Nat) (h : k < s.size) : s[k]'h = s.data.toList.getD k 0 := by
  obtain ⟨⟨l⟩⟩ := s
  have h' : k < l.length := h
  show l[k] = l.getD k 0
  simp [List.getD, List.getElem?_eq_getElem h']

set_option maxHeartbeats 400000 in
theorem labelCl (w : World) (x : Nat) : Calls Tryd.prog 72 #[.int .i32 x] w fun e w' => e = .returned (.bool (badR x)) ∧ w = w' := by
  rcases (show x < 48 ∨ (48 ≤ x ∧ x ≤ 57) ∨ (57 < x ∧ x < 97) ∨ (97 ≤ x ∧ x ≤ 122) ∨ 122 < x by omega) with h | h | h | h | h
  all_goals
    have HB := hide (show badR x = decide (x < 48 ∨ (57 < x ∧ x < 97) ∨ 122 < x) by unfold badR; rw [Bool.eq_iff_iff]; simp; omega)
    obtain ⟨R, hR⟩ : ∃ b, badR x = b := ⟨_, rfl⟩
    have hRR : R = decide (x < 48 ∨ (57 < x ∧ x < 97) ∨ 122 < x) := by rw [← hR]; exact HB.out
    rw [hR]
    have HRR := hide hRR
    clear HB hR hRR
    go_enter Tryd.func72, Tryd.ntmps72
    go_wp2
    go_ret
    exact ⟨ret_bool (by rw [HRR.out]; first | exact (decide_eq_true (by omega)).symm | exact (decide_eq_false (by omega)).symm | (rw [Bool.eq_iff_iff]; simp; omega)), rfl⟩
theorem ok_rest {c : UInt8} {t : BS} (h : lowB c = true) : ((c :: t).all fun c => lowB c || digB c) = t.all okB := by
  rw [List.all_cons, h]; rfl

set_option maxRecDepth 100000 in
set_option maxHeartbeats 1000000 in
theorem labelP (w : World) (s : ByteArray) (hs : s.size ≤ 3000000) : Calls Tryd.prog 53 #[.string s] w fun e w' => e = .returned (.bool (labB s.data.toList)) ∧ Below w.heap.size w w' := by
  obtain ⟨R, hR⟩ : ∃ b, labB s.data.toList = b := ⟨_, rfl⟩
  rw [hR]
  have hrf := Below.refl w.heap.size w
  have h := Any.strings_ContainsFunc_grows laysConF 72 #[] (enters_of Tryd.func72 (by kernel_rfl) rfl) badR s w
    (fun W x hx hb => (labelCl W x).mono fun e w' ⟨he, hw⟩ => ⟨he, by rw [hw]; exact Below.refl _ _⟩)
  rw [contains_bad] at h
  match hl : s.data.toList with
  | [] =>
    obtain rfl := ba_of hl
    have HR := hide (show R = false by rw [← hR]; rfl)
    clear hR h hl
    go_enter Tryd.func53, Tryd.ntmps53
    go_wp2
    go_ret
    exact ⟨ret_bool HR.out.symm, hrf⟩
  | c :: t =>
    have hlen : s.size = t.length + 1 := by show s.data.toList.length = _; rw [hl]; rfl
    have hp0 : 0 < s.size := by omega
    have hz0 : (0 : Int) < (s.size : Int) := by omega
    have hz1 : ¬ (s.size : Int) < 1 := by omega
    have hs0 : s[0]'hp0 = c := by rw [get_at, hl]; rfl
    have l0 := c.toNat_lt
    rw [hl] at hR h
    by_cases h16 : 16 < s.size
    · have q : (16 : Int) < (s.size : Int) := by omega
      have HR := hide (show R = false by rw [← hR]; unfold labB; dsimp only; rw [decide_eq_false (show ¬ t.length + 1 ≤ 16 by omega)]; rfl)
      clear hR h hl h16
      go_enter Tryd.func53, Tryd.ntmps53
      go_wp2
      go_ret
      exact ⟨ret_bool HR.out.symm, hrf⟩
    have q16 : ¬ (16 : Int) < (s.size : Int) := by omega
    have q16' : decide ((16 : Int) < (s.size : Int)) = false := decide_eq_false q16
    by_cases hlow : lowB c = true
    · have HR := hide (show R = t.all okB by rw [← hR]; unfold labB; dsimp only; rw [decide_eq_true (show t.length + 1 ≤ 16 by omega), hlow, ok_rest hlow]; rfl)
      have hok : okB c = true := by unfold okB; rw [hlow]; rfl
      rw [List.all_cons, hok, Bool.true_and] at h
      obtain ⟨B, hB⟩ : ∃ b, t.all okB = b := ⟨_, rfl⟩
      rw [hB] at h HR
      have HC := hide h
      unfold lowB at hlow
      simp only [Bool.and_eq_true, decide_eq_true_iff] at hlow
      have q1 : ¬ (c.toNat : Int) < 97 := by omega
      have q2 : ¬ (122 : Int) < (c.toNat : Int) := by omega
      have q1' : decide ((c.toNat : Int) < 97) = false := decide_eq_false q1
      have q2' : decide ((122 : Int) < (c.toNat : Int)) = false := decide_eq_false q2
      clear hR h hl hlow hok hB
      go_enter Tryd.func53, Tryd.ntmps53
      go_wp2_with (go_at_call 71; refine HC.out.mono ?_; rintro e w1 ⟨rfl, hb1⟩)
      go_ret
      exact ⟨ret_bool (by rw [HR.out]), hb1⟩
    · have HR := hide (show R = false by rw [← hR]; unfold labB; dsimp only; rw [show lowB c = false by simpa using hlow]; simp)
      have hcase : c.toNat < 97 ∨ (97 ≤ c.toNat ∧ 122 < c.toNat) := by
        unfold lowB at hlow
        simp only [Bool.and_eq_true, decide_eq_true_iff] at hlow
        omega
      clear hR h hl hlow
      rcases hcase with q1 | ⟨q1, q2⟩
      · have q1' : decide ((c.toNat : Int) < 97) = true := decide_eq_true (by omega)
        go_enter Tryd.func53, Tryd.ntmps53
        go_wp2
        go_ret
        exact ⟨ret_bool HR.out.symm, hrf⟩
      · have q1' : decide ((c.toNat : Int) < 97) = false := decide_eq_false (by omega)
        have q2' : decide ((122 : Int) < (c.toNat : Int)) = true := decide_eq_true (by omega)
        go_enter Tryd.func53, Tryd.ntmps53
        go_wp2
        go_ret
        exact ⟨ret_bool HR.out.symm, hrf⟩

/-- The names of the instructions, the call's own. -/
def NamesRow (w0 : World) (e : Ending) (w' : World) : Prop := ∃ g c, e = .returned (.slice (some ⟨g, 0, none⟩) 21 c) ∧ w'.ownsRow w0.heap.size 9 1 (.slice (some ⟨g, 0, none⟩) 21 c) 21 (opNames.map strV) ∧ Below w0.heap.size w0 w'
set_option maxRecDepth 100000 in
set_option maxHeartbeats 400000 in
theorem namesP (w : World) : Calls Tryd.prog 27 #[] w (NamesRow w) := by
  have hbw := (Below.refl w.heap.size w)
  go_enter Tryd.func27, Tryd.ntmps27
  go_wp2
  go_ret
  exact ⟨_, _, rfl, own_lit w w.heap.size 9 1 21 _ (Nat.le_refl _) (by omega) rfl, hbw.alloc (Nat.le_refl _) _⟩
set_option maxRecDepth 100000 in
set_option maxHeartbeats 400000 in
theorem names46 (w : World) : Calls Tryd.prog 28 #[] w (NamesRow w) := by
  have hbw := (Below.refl w.heap.size w)
  go_enter Tryd.func28, Tryd.ntmps28
  go_wp2
  go_ret
  exact ⟨_, _, rfl, own_lit w w.heap.size 9 1 21 _ (Nat.le_refl _) (by omega) rfl, hbw.alloc (Nat.le_refl _) _⟩
theorem idxFrom_drop (w : BS) (k : Nat) (hk : k < opNames.length) : idxFrom w k (opNames.drop k) = if opNames[k] = w then (k : Int) else idxFrom w (k + 1) (opNames.drop (k + 1)) := by
  rw [List.drop_eq_getElem_cons hk, idxFrom]
set_option maxRecDepth 100000 in
set_option maxHeartbeats 400000 in
theorem indexP (w : World) (base g c : Nat) (hown : w.ownsRow base 9 1 (.slice (some ⟨g, 0, none⟩) 21 c) 21 (opNames.map strV)) (s : ByteArray) :
    Calls Tryd.prog 54 #[.slice (some ⟨g, 0, none⟩) 21 c, .string s] w fun e w' => e = .returned (.int .i64 (opOf s.data.toList)) ∧ w = w' := by
  obtain ⟨R, hR⟩ : ∃ R, opOf s.data.toList = R := ⟨_, rfl⟩
  rw [hR]
  have HR := hide (show idxFrom s.data.toList 0 (opNames.drop 0) = R from hR)
  clear hR
  go_enter Tryd.func54, Tryd.ntmps54
  go_wp2
  go_loop [8] (fun i => ∃ k : Nat, k ≤ 21 ∧ i = .int .i64 k ∧ idxFrom s.data.toList k (opNames.drop k) = R) (fun i => 21 - (intOf i).toNat)
  case atStart => exact ⟨0, Nat.zero_le _, rfl, HR.out⟩
  case round =>
    obtain ⟨k, hk, rfl, hno⟩ := hrel
    have Hno := hide hno
    clear hno HR
    by_cases hlt : k < 21
    · have hkl : k < opNames.length := hlt
      have hkI : (k : Int) < 21 := by omega
      have hc := (hown.cellAt k (by omega)).trans (show (opNames.map strV)[k]? = some (.string ⟨(opNames[k]'hkl).toArray⟩) by rw [List.getElem?_map, List.getElem?_eq_getElem hkl]; rfl)
      have HS := hide ((idxFrom_drop s.data.toList k hkl).symm.trans Hno.out)
      obtain ⟨N, hN⟩ : ∃ N, opNames[k]'hkl = N := ⟨_, rfl⟩
      rw [hN] at hc HS
      clear hN Hno
      by_cases he : N = s.data.toList
      · have hq : (s.toList == N) = true := by rw [ByteArray.toList_eq, he]; simp
        have HH := hide ((if_pos he).symm.trans HS.out)
        clear he HS
        go_wp2
        go_ret
        exact ⟨ret_int HH.out, rfl⟩
      · have hq : (s.toList == N) = false := by rw [ByteArray.toList_eq]; simp; exact fun h => he h.symm
        have HH := hide ((if_neg he).symm.trans HS.out)
        clear he HS
        go_wp2
        go_round
        case rel => exact ⟨k + 1, by omega, by go_num, HH.out⟩
        case measure => simp [intOf]; omega
    · obtain rfl : k = 21 := by omega
      have HH := hide (show (-1 : Int) = R from Hno.out)
      clear Hno
      go_wp2
      go_ret
      exact ⟨ret_int HH.out, rfl⟩
end Go.Proofs.YtonnjokjbknngaaDoor
