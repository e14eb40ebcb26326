/- unicode/utf8: the tables; FullRuneInString; DecodeRuneInString. -/
import Derived.Test.YtpilpchijmappaaDoorY3
import Derived.Test.YtpilpchijmappaaDoorRows
import Derived.Lib.LaidU8T
import Derived.Shelf.Unicode.DecodeAny
import Derived.Deep.QuietTactic
import Derived.BigQuiet
namespace Go.Proofs.YtpilpchijmappaaDoor
open Go.RowKit Go.Lib Go.Shelf

/-- unicode/utf8's two tables hold what their initialisers lay. -/
def Tabs (w : World) : Prop := Lib.Utf8Tabs 0 1 w
theorem Tabs.below {w w' : World} (h : Tabs w) (hb : Below w.heap.size w w') : Tabs w' := Utf8Tabs_below h hb

/-- Go's answer, of the bytes. -/
def fullW (n b1 b2 sz lo hi : Nat) : Bool := decide (sz ≤ n) || ((decide (1 < n) && (decide (b1 < lo) || decide (hi < b1))) || (decide (2 < n) && (decide (b2 < 128) || decide (191 < b2))))
def fullB (l : List UInt8) : Bool := !decide (l = []) && !incB l
theorem first_lim {b : Nat} (h : b < 256) : (firstT b < 240 → limSize b = firstT b % 8 ∧ limLow 1 b = accLo (firstT b / 16) ∧ limHigh 1 b = accHi (firstT b / 16)) ∧ (¬ firstT b < 240 → limSize b = 0 ∧ firstT b % 8 ≤ 1) := by
  have : ∀ b : Fin 256, (firstT b.val < 240 → limSize b.val = firstT b.val % 8 ∧ limLow 1 b.val = accLo (firstT b.val / 16) ∧ limHigh 1 b.val = accHi (firstT b.val / 16)) ∧ (¬ firstT b.val < 240 → limSize b.val = 0 ∧ firstT b.val % 8 ≤ 1) := by decide +kernel
  exact this ⟨b, h⟩
theorem fullB_lead {l : List UInt8} (hne : l ≠ []) (h : firstT (l.getD 0 0).toNat < 240) : fullB l = fullW l.length (l.getD 1 0).toNat (l.getD 2 0).toNat (firstT (l.getD 0 0).toNat % 8) (accLo (firstT (l.getD 0 0).toNat / 16)) (accHi (firstT (l.getD 0 0).toNat / 16)) := by
  obtain ⟨h1, h2, h3⟩ := (first_lim (l.getD 0 0).toNat_lt).1 h
  rw [← h1, ← h2, ← h3]
  unfold fullB fullW
  rw [decide_eq_false hne, Bool.not_false, Bool.true_and, Bool.eq_iff_iff]
  have h4 := limSize_le (l.getD 0 0).toNat
  match l, hne with
  | [b], _ => simp [incB] at *
  | [b, c], _ => simp [incB] at *; omega
  | [b, c, d], _ => simp [incB] at *; omega
  | b :: c :: d :: e :: t, _ => simp [incB] at *; omega
theorem fullB_none {l : List UInt8} (hne : l ≠ []) (h : ¬ firstT (l.getD 0 0).toNat < 240) : fullB l = true := by
  obtain ⟨h1, -⟩ := (first_lim (l.getD 0 0).toNat_lt).2 h
  unfold fullB
  rw [decide_eq_false hne, Bool.not_false, Bool.true_and]
  match l, hne with
  | [b], _ => simp [incB] at *; omega
  | [b, c], _ => simp [incB] at *; omega
  | [b, c, d], _ => simp [incB] at *; omega
  | b :: c :: d :: e :: t, _ => rfl
theorem below_dN {B : Nat} {w w1 : World} (h : Below B w w1) (n : Nat) : Below B w (w1.drewN n) := ⟨h.os, h.tape, h.output, h.size, h.block⟩
theorem get_at (s : ByteArray) (k : Nat) (h : k < s.size) : s[k]'h = s.data.toList.getD k 0 := by
  obtain ⟨⟨l⟩⟩ := s
  have h' : k < l.length := h
  show l[k] = l.getD k 0
  simp [List.getD, List.getElem?_eq_getElem h']

set_option maxRecDepth 100000 in
set_option maxHeartbeats 4000000 in
theorem fullRune (w : World) (s : ByteArray) (hT : Tabs w) : Calls Tryd.prog 33 #[.string s] w fun e w' => e = .returned (.bool (fullB s.data.toList)) ∧ Below w.heap.size w w' := by
  have hrf := Below.refl w.heap.size w
  have HA := hide (hrf.alloc (Nat.le_refl _))
  by_cases h0 : s.size = 0
  · have hz : ((s.size : Int) == 0) = true := by rw [h0]; rfl
    have HF := hide (show fullB s.data.toList = false by rw [List.eq_nil_of_length_eq_zero (show s.data.toList.length = 0 from h0)]; rfl)
    clear h0
    go_enter Tryd.func33, Tryd.ntmps33
    go_wp2
    go_ret
    exact ⟨ret_bool HF.out.symm, hrf⟩
  have hz0 : (0 : Int) < (s.size : Int) := by omega
  have hz00 : ((s.size : Int) == 0) = false := by rw [beq_eq_false_iff_ne]; omega
  have hp0 : 0 < s.size := Nat.pos_of_ne_zero h0
  have hne : s.data.toList ≠ [] := fun h => h0 (by show s.data.toList.length = 0; rw [h]; rfl)
  have hlen : s.data.toList.length = s.size := rfl
  obtain ⟨x0, hx0⟩ : ∃ x0, s.data.toList.getD 0 0 = x0 := ⟨_, rfl⟩
  obtain ⟨x1, hx1⟩ : ∃ x1, s.data.toList.getD 1 0 = x1 := ⟨_, rfl⟩
  obtain ⟨x2, hx2⟩ : ∃ x2, s.data.toList.getD 2 0 = x2 := ⟨_, rfl⟩
  have hs0 : s[0]'hp0 = x0 := by rw [← hx0]; exact get_at s 0 _
  have HS1 := hide (fun (h : 1 < s.size) => (get_at s 1 h).trans hx1)
  have HS2 := hide (fun (h : 2 < s.size) => (get_at s 2 h).trans hx2)
  have l0 := x0.toNat_lt
  have l1 := x1.toNat_lt
  have l2 := x2.toNat_lt
  have hc0 := hT.1 x0.toNat (by omega)
  have HL := hide (fun h => fullB_lead hne h)
  have HN := hide (fun h => fullB_none hne h)
  rw [hx0] at HN
  rw [hx0, hx1, hx2, hlen] at HL
  obtain ⟨R, hR⟩ : ∃ R, fullB s.data.toList = R := ⟨_, rfl⟩
  rw [hR] at HL HN ⊢
  clear hx0 hx1 hx2 hne hlen h0 hR
  rcases Lib.firstT_cases x0.toNat with hX | hX | hX | hX | hX | hX | hX | hX | hX
  · have HR := hide (HN.out (by rw [hX]; decide))
    rw [hX] at hc0
    clear HL HN hT hX
    go_enter Tryd.func33, Tryd.ntmps33
    go_wp2
    go_ret
    exact ⟨ret_bool HR.out.symm, hrf⟩
  · have HR := hide (HN.out (by rw [hX]; decide))
    rw [hX] at hc0
    clear HL HN hT hX
    go_enter Tryd.func33, Tryd.ntmps33
    go_wp2
    go_ret
    exact ⟨ret_bool HR.out.symm, hrf⟩
  · have HR := HL.out (by rw [hX]; decide)
    rw [hX] at hc0 HR
    have ha0 := (hT.2 0 (by omega)).1
    have ha1 := (hT.2 0 (by omega)).2
    simp only [accLo, accHi, Nat.reduceMul, Nat.reduceAdd, Nat.reduceEqDiff, if_true, if_false, Nat.reduceMod, Nat.reduceDiv] at ha0 ha1 HR
    have HRR := hide HR
    clear HL HN hT hX HR
    by_cases hn : 2 ≤ s.size
    · have hnz : (2 : Int) ≤ (s.size : Int) := by omega
      go_enter Tryd.func33, Tryd.ntmps33
      go_wp2
      go_ret
      exact ⟨ret_bool (by rw [HRR.out]; unfold fullW; simp [hn]), hrf⟩
    have hnz : (s.size : Int) < 2 := by omega
    have hk1 : s.size = 1 := by omega
    have g1 : decide ((1 : Int) < (s.size : Int)) = false := by rw [hk1]; rfl
    have g1n : decide (1 < s.size) = false := by rw [hk1]; rfl
    have g2 : decide ((2 : Int) < (s.size : Int)) = false := by rw [hk1]; rfl
    have g2n : decide (2 < s.size) = false := by rw [hk1]; rfl
    have HK := hide hk1
    clear hk1
    go_enter Tryd.func33, Tryd.ntmps33
    go_wp2
    go_quiet (fail)
    go_wp2
    go_ret
    exact ⟨ret_bool (by rw [HRR.out, HK.out]; rfl), below_dN (HA.out _) _⟩
  · have HR := HL.out (by rw [hX]; decide)
    rw [hX] at hc0 HR
    have ha0 := (hT.2 1 (by omega)).1
    have ha1 := (hT.2 1 (by omega)).2
    simp only [accLo, accHi, Nat.reduceMul, Nat.reduceAdd, Nat.reduceEqDiff, if_true, if_false, Nat.reduceMod, Nat.reduceDiv] at ha0 ha1 HR
    have HRR := hide HR
    clear HL HN hT hX HR
    by_cases hn : 3 ≤ s.size
    · have hnz : (3 : Int) ≤ (s.size : Int) := by omega
      go_enter Tryd.func33, Tryd.ntmps33
      go_wp2
      go_ret
      exact ⟨ret_bool (by rw [HRR.out]; unfold fullW; simp [hn]), hrf⟩
    have hnz : (s.size : Int) < 3 := by omega
    by_cases hk1 : s.size = 1
    · have g1 : decide ((1 : Int) < (s.size : Int)) = false := by rw [hk1]; rfl
      have g1n : decide (1 < s.size) = false := by rw [hk1]; rfl
      have g2 : decide ((2 : Int) < (s.size : Int)) = false := by rw [hk1]; rfl
      have g2n : decide (2 < s.size) = false := by rw [hk1]; rfl
      have HK := hide hk1
      clear hk1
      go_enter Tryd.func33, Tryd.ntmps33
      go_wp2
      go_quiet (fail)
      go_wp2
      go_ret
      exact ⟨ret_bool (by rw [HRR.out, HK.out]; rfl), below_dN (HA.out _) _⟩
    have hk2 : s.size = 2 := by omega
    have g1 : decide ((1 : Int) < (s.size : Int)) = true := by rw [hk2]; rfl
    have g1n : decide (1 < s.size) = true := by rw [hk2]; rfl
    have g2 : decide ((2 : Int) < (s.size : Int)) = false := by rw [hk2]; rfl
    have g2n : decide (2 < s.size) = false := by rw [hk2]; rfl
    have hz1 : (1 : Int) < (s.size : Int) := by omega
    have hp1 : 1 < s.size := by omega
    have hs1 := HS1.out hp1
    have HK := hide hk2
    clear hk2
    rcases (show x1.toNat < 160 ∨ 191 < x1.toNat ∨ (160 ≤ x1.toNat ∧ x1.toNat ≤ 191) by omega) with hc | hc | hc
    · have qx11 : decide ((x1.toNat : Int) < 160) = true := decide_eq_true (by omega)
      have qx12 : decide ((191 : Int) < (x1.toNat : Int)) = false := decide_eq_false (by omega)
      go_enter Tryd.func33, Tryd.ntmps33
      go_wp2
      go_quiet (fail)
      go_wp2
      go_ret
      exact ⟨ret_bool (by rw [HRR.out, HK.out]; unfold fullW; simp <;> omega), below_dN (HA.out _) _⟩
    · have qx11 : decide ((x1.toNat : Int) < 160) = false := decide_eq_false (by omega)
      have qx12 : decide ((191 : Int) < (x1.toNat : Int)) = true := decide_eq_true (by omega)
      go_enter Tryd.func33, Tryd.ntmps33
      go_wp2
      go_quiet (fail)
      go_wp2
      go_ret
      exact ⟨ret_bool (by rw [HRR.out, HK.out]; unfold fullW; simp <;> omega), below_dN (HA.out _) _⟩
    · have qx11 : decide ((x1.toNat : Int) < 160) = false := decide_eq_false (by omega)
      have qx12 : decide ((191 : Int) < (x1.toNat : Int)) = false := decide_eq_false (by omega)
      go_enter Tryd.func33, Tryd.ntmps33
      go_wp2
      go_quiet (fail)
      go_wp2
      go_ret
      exact ⟨ret_bool (by rw [HRR.out, HK.out]; unfold fullW; simp <;> omega), below_dN (HA.out _) _⟩
  · have HR := HL.out (by rw [hX]; decide)
    rw [hX] at hc0 HR
    have ha0 := (hT.2 0 (by omega)).1
    have ha1 := (hT.2 0 (by omega)).2
    simp only [accLo, accHi, Nat.reduceMul, Nat.reduceAdd, Nat.reduceEqDiff, if_true, if_false, Nat.reduceMod, Nat.reduceDiv] at ha0 ha1 HR
    have HRR := hide HR
    clear HL HN hT hX HR
    by_cases hn : 3 ≤ s.size
    · have hnz : (3 : Int) ≤ (s.size : Int) := by omega
      go_enter Tryd.func33, Tryd.ntmps33
      go_wp2
      go_ret
      exact ⟨ret_bool (by rw [HRR.out]; unfold fullW; simp [hn]), hrf⟩
    have hnz : (s.size : Int) < 3 := by omega
    by_cases hk1 : s.size = 1
    · have g1 : decide ((1 : Int) < (s.size : Int)) = false := by rw [hk1]; rfl
      have g1n : decide (1 < s.size) = false := by rw [hk1]; rfl
      have g2 : decide ((2 : Int) < (s.size : Int)) = false := by rw [hk1]; rfl
      have g2n : decide (2 < s.size) = false := by rw [hk1]; rfl
      have HK := hide hk1
      clear hk1
      go_enter Tryd.func33, Tryd.ntmps33
      go_wp2
      go_quiet (fail)
      go_wp2
      go_ret
      exact ⟨ret_bool (by rw [HRR.out, HK.out]; rfl), below_dN (HA.out _) _⟩
    have hk2 : s.size = 2 := by omega
    have g1 : decide ((1 : Int) < (s.size : Int)) = true := by rw [hk2]; rfl
    have g1n : decide (1 < s.size) = true := by rw [hk2]; rfl
    have g2 : decide ((2 : Int) < (s.size : Int)) = false := by rw [hk2]; rfl
    have g2n : decide (2 < s.size) = false := by rw [hk2]; rfl
    have hz1 : (1 : Int) < (s.size : Int) := by omega
    have hp1 : 1 < s.size := by omega
    have hs1 := HS1.out hp1
    have HK := hide hk2
    clear hk2
    rcases (show x1.toNat < 128 ∨ 191 < x1.toNat ∨ (128 ≤ x1.toNat ∧ x1.toNat ≤ 191) by omega) with hc | hc | hc
    · have qx11 : decide ((x1.toNat : Int) < 128) = true := decide_eq_true (by omega)
      have qx12 : decide ((191 : Int) < (x1.toNat : Int)) = false := decide_eq_false (by omega)
      go_enter Tryd.func33, Tryd.ntmps33
      go_wp2
      go_quiet (fail)
      go_wp2
      go_ret
      exact ⟨ret_bool (by rw [HRR.out, HK.out]; unfold fullW; simp <;> omega), below_dN (HA.out _) _⟩
    · have qx11 : decide ((x1.toNat : Int) < 128) = false := decide_eq_false (by omega)
      have qx12 : decide ((191 : Int) < (x1.toNat : Int)) = true := decide_eq_true (by omega)
      go_enter Tryd.func33, Tryd.ntmps33
      go_wp2
      go_quiet (fail)
      go_wp2
      go_ret
      exact ⟨ret_bool (by rw [HRR.out, HK.out]; unfold fullW; simp <;> omega), below_dN (HA.out _) _⟩
    · have qx11 : decide ((x1.toNat : Int) < 128) = false := decide_eq_false (by omega)
      have qx12 : decide ((191 : Int) < (x1.toNat : Int)) = false := decide_eq_false (by omega)
      go_enter Tryd.func33, Tryd.ntmps33
      go_wp2
      go_quiet (fail)
      go_wp2
      go_ret
      exact ⟨ret_bool (by rw [HRR.out, HK.out]; unfold fullW; simp <;> omega), below_dN (HA.out _) _⟩
  · have HR := HL.out (by rw [hX]; decide)
    rw [hX] at hc0 HR
    have ha0 := (hT.2 2 (by omega)).1
    have ha1 := (hT.2 2 (by omega)).2
    simp only [accLo, accHi, Nat.reduceMul, Nat.reduceAdd, Nat.reduceEqDiff, if_true, if_false, Nat.reduceMod, Nat.reduceDiv] at ha0 ha1 HR
    have HRR := hide HR
    clear HL HN hT hX HR
    by_cases hn : 3 ≤ s.size
    · have hnz : (3 : Int) ≤ (s.size : Int) := by omega
      go_enter Tryd.func33, Tryd.ntmps33
      go_wp2
      go_ret
      exact ⟨ret_bool (by rw [HRR.out]; unfold fullW; simp [hn]), hrf⟩
    have hnz : (s.size : Int) < 3 := by omega
    by_cases hk1 : s.size = 1
    · have g1 : decide ((1 : Int) < (s.size : Int)) = false := by rw [hk1]; rfl
      have g1n : decide (1 < s.size) = false := by rw [hk1]; rfl
      have g2 : decide ((2 : Int) < (s.size : Int)) = false := by rw [hk1]; rfl
      have g2n : decide (2 < s.size) = false := by rw [hk1]; rfl
      have HK := hide hk1
      clear hk1
      go_enter Tryd.func33, Tryd.ntmps33
      go_wp2
      go_quiet (fail)
      go_wp2
      go_ret
      exact ⟨ret_bool (by rw [HRR.out, HK.out]; rfl), below_dN (HA.out _) _⟩
    have hk2 : s.size = 2 := by omega
    have g1 : decide ((1 : Int) < (s.size : Int)) = true := by rw [hk2]; rfl
    have g1n : decide (1 < s.size) = true := by rw [hk2]; rfl
    have g2 : decide ((2 : Int) < (s.size : Int)) = false := by rw [hk2]; rfl
    have g2n : decide (2 < s.size) = false := by rw [hk2]; rfl
    have hz1 : (1 : Int) < (s.size : Int) := by omega
    have hp1 : 1 < s.size := by omega
    have hs1 := HS1.out hp1
    have HK := hide hk2
    clear hk2
    rcases (show x1.toNat < 128 ∨ 159 < x1.toNat ∨ (128 ≤ x1.toNat ∧ x1.toNat ≤ 159) by omega) with hc | hc | hc
    · have qx11 : decide ((x1.toNat : Int) < 128) = true := decide_eq_true (by omega)
      have qx12 : decide ((159 : Int) < (x1.toNat : Int)) = false := decide_eq_false (by omega)
      go_enter Tryd.func33, Tryd.ntmps33
      go_wp2
      go_quiet (fail)
      go_wp2
      go_ret
      exact ⟨ret_bool (by rw [HRR.out, HK.out]; unfold fullW; simp <;> omega), below_dN (HA.out _) _⟩
    · have qx11 : decide ((x1.toNat : Int) < 128) = false := decide_eq_false (by omega)
      have qx12 : decide ((159 : Int) < (x1.toNat : Int)) = true := decide_eq_true (by omega)
      go_enter Tryd.func33, Tryd.ntmps33
      go_wp2
      go_quiet (fail)
      go_wp2
      go_ret
      exact ⟨ret_bool (by rw [HRR.out, HK.out]; unfold fullW; simp <;> omega), below_dN (HA.out _) _⟩
    · have qx11 : decide ((x1.toNat : Int) < 128) = false := decide_eq_false (by omega)
      have qx12 : decide ((159 : Int) < (x1.toNat : Int)) = false := decide_eq_false (by omega)
      go_enter Tryd.func33, Tryd.ntmps33
      go_wp2
      go_quiet (fail)
      go_wp2
      go_ret
      exact ⟨ret_bool (by rw [HRR.out, HK.out]; unfold fullW; simp <;> omega), below_dN (HA.out _) _⟩
  · have HR := HL.out (by rw [hX]; decide)
    rw [hX] at hc0 HR
    have ha0 := (hT.2 3 (by omega)).1
    have ha1 := (hT.2 3 (by omega)).2
    simp only [accLo, accHi, Nat.reduceMul, Nat.reduceAdd, Nat.reduceEqDiff, if_true, if_false, Nat.reduceMod, Nat.reduceDiv] at ha0 ha1 HR
    have HRR := hide HR
    clear HL HN hT hX HR
    by_cases hn : 4 ≤ s.size
    · have hnz : (4 : Int) ≤ (s.size : Int) := by omega
      go_enter Tryd.func33, Tryd.ntmps33
      go_wp2
      go_ret
      exact ⟨ret_bool (by rw [HRR.out]; unfold fullW; simp [hn]), hrf⟩
    have hnz : (s.size : Int) < 4 := by omega
    by_cases hk1 : s.size = 1
    · have g1 : decide ((1 : Int) < (s.size : Int)) = false := by rw [hk1]; rfl
      have g1n : decide (1 < s.size) = false := by rw [hk1]; rfl
      have g2 : decide ((2 : Int) < (s.size : Int)) = false := by rw [hk1]; rfl
      have g2n : decide (2 < s.size) = false := by rw [hk1]; rfl
      have HK := hide hk1
      clear hk1
      go_enter Tryd.func33, Tryd.ntmps33
      go_wp2
      go_quiet (fail)
      go_wp2
      go_ret
      exact ⟨ret_bool (by rw [HRR.out, HK.out]; rfl), below_dN (HA.out _) _⟩
    by_cases hk2 : s.size = 2
    · have g1 : decide ((1 : Int) < (s.size : Int)) = true := by rw [hk2]; rfl
      have g1n : decide (1 < s.size) = true := by rw [hk2]; rfl
      have g2 : decide ((2 : Int) < (s.size : Int)) = false := by rw [hk2]; rfl
      have g2n : decide (2 < s.size) = false := by rw [hk2]; rfl
      have hz1 : (1 : Int) < (s.size : Int) := by omega
      have hp1 : 1 < s.size := by omega
      have hs1 := HS1.out hp1
      have HK := hide hk2
      clear hk2
      rcases (show x1.toNat < 144 ∨ 191 < x1.toNat ∨ (144 ≤ x1.toNat ∧ x1.toNat ≤ 191) by omega) with hc | hc | hc
      · have qx11 : decide ((x1.toNat : Int) < 144) = true := decide_eq_true (by omega)
        have qx12 : decide ((191 : Int) < (x1.toNat : Int)) = false := decide_eq_false (by omega)
        go_enter Tryd.func33, Tryd.ntmps33
        go_wp2
        go_quiet (fail)
        go_wp2
        go_ret
        exact ⟨ret_bool (by rw [HRR.out, HK.out]; unfold fullW; simp <;> omega), below_dN (HA.out _) _⟩
      · have qx11 : decide ((x1.toNat : Int) < 144) = false := decide_eq_false (by omega)
        have qx12 : decide ((191 : Int) < (x1.toNat : Int)) = true := decide_eq_true (by omega)
        go_enter Tryd.func33, Tryd.ntmps33
        go_wp2
        go_quiet (fail)
        go_wp2
        go_ret
        exact ⟨ret_bool (by rw [HRR.out, HK.out]; unfold fullW; simp <;> omega), below_dN (HA.out _) _⟩
      · have qx11 : decide ((x1.toNat : Int) < 144) = false := decide_eq_false (by omega)
        have qx12 : decide ((191 : Int) < (x1.toNat : Int)) = false := decide_eq_false (by omega)
        go_enter Tryd.func33, Tryd.ntmps33
        go_wp2
        go_quiet (fail)
        go_wp2
        go_ret
        exact ⟨ret_bool (by rw [HRR.out, HK.out]; unfold fullW; simp <;> omega), below_dN (HA.out _) _⟩
    have hk3 : s.size = 3 := by omega
    have g1 : decide ((1 : Int) < (s.size : Int)) = true := by rw [hk3]; rfl
    have g1n : decide (1 < s.size) = true := by rw [hk3]; rfl
    have g2 : decide ((2 : Int) < (s.size : Int)) = true := by rw [hk3]; rfl
    have g2n : decide (2 < s.size) = true := by rw [hk3]; rfl
    have hz1 : (1 : Int) < (s.size : Int) := by omega
    have hp1 : 1 < s.size := by omega
    have hs1 := HS1.out hp1
    have hz2 : (2 : Int) < (s.size : Int) := by omega
    have hp2 : 2 < s.size := by omega
    have hs2 := HS2.out hp2
    have HK := hide hk3
    clear hk3
    rcases (show x1.toNat < 144 ∨ 191 < x1.toNat ∨ (144 ≤ x1.toNat ∧ x1.toNat ≤ 191) by omega) with hc | hc | hc
    · have qx11 : decide ((x1.toNat : Int) < 144) = true := decide_eq_true (by omega)
      have qx12 : decide ((191 : Int) < (x1.toNat : Int)) = false := decide_eq_false (by omega)
      go_enter Tryd.func33, Tryd.ntmps33
      go_wp2
      go_quiet (fail)
      go_wp2
      go_ret
      exact ⟨ret_bool (by rw [HRR.out, HK.out]; unfold fullW; simp <;> omega), below_dN (HA.out _) _⟩
    · have qx11 : decide ((x1.toNat : Int) < 144) = false := decide_eq_false (by omega)
      have qx12 : decide ((191 : Int) < (x1.toNat : Int)) = true := decide_eq_true (by omega)
      go_enter Tryd.func33, Tryd.ntmps33
      go_wp2
      go_quiet (fail)
      go_wp2
      go_ret
      exact ⟨ret_bool (by rw [HRR.out, HK.out]; unfold fullW; simp <;> omega), below_dN (HA.out _) _⟩
    · have qx11 : decide ((x1.toNat : Int) < 144) = false := decide_eq_false (by omega)
      have qx12 : decide ((191 : Int) < (x1.toNat : Int)) = false := decide_eq_false (by omega)
      rcases (show x2.toNat < 128 ∨ 191 < x2.toNat ∨ (128 ≤ x2.toNat ∧ x2.toNat ≤ 191) by omega) with hd | hd | hd
      · have qx21 : decide ((x2.toNat : Int) < 128) = true := decide_eq_true (by omega)
        have qx22 : decide ((191 : Int) < (x2.toNat : Int)) = false := decide_eq_false (by omega)
        go_enter Tryd.func33, Tryd.ntmps33
        go_wp2
        go_quiet (fail)
        go_wp2
        go_ret
        exact ⟨ret_bool (by rw [HRR.out, HK.out]; unfold fullW; simp <;> omega), below_dN (HA.out _) _⟩
      · have qx21 : decide ((x2.toNat : Int) < 128) = false := decide_eq_false (by omega)
        have qx22 : decide ((191 : Int) < (x2.toNat : Int)) = true := decide_eq_true (by omega)
        go_enter Tryd.func33, Tryd.ntmps33
        go_wp2
        go_quiet (fail)
        go_wp2
        go_ret
        exact ⟨ret_bool (by rw [HRR.out, HK.out]; unfold fullW; simp <;> omega), below_dN (HA.out _) _⟩
      · have qx21 : decide ((x2.toNat : Int) < 128) = false := decide_eq_false (by omega)
        have qx22 : decide ((191 : Int) < (x2.toNat : Int)) = false := decide_eq_false (by omega)
        go_enter Tryd.func33, Tryd.ntmps33
        go_wp2
        go_quiet (fail)
        go_wp2
        go_ret
        exact ⟨ret_bool (by rw [HRR.out, HK.out]; unfold fullW; simp <;> omega), below_dN (HA.out _) _⟩
  · have HR := HL.out (by rw [hX]; decide)
    rw [hX] at hc0 HR
    have ha0 := (hT.2 0 (by omega)).1
    have ha1 := (hT.2 0 (by omega)).2
    simp only [accLo, accHi, Nat.reduceMul, Nat.reduceAdd, Nat.reduceEqDiff, if_true, if_false, Nat.reduceMod, Nat.reduceDiv] at ha0 ha1 HR
    have HRR := hide HR
    clear HL HN hT hX HR
    by_cases hn : 4 ≤ s.size
    · have hnz : (4 : Int) ≤ (s.size : Int) := by omega
      go_enter Tryd.func33, Tryd.ntmps33
      go_wp2
      go_ret
      exact ⟨ret_bool (by rw [HRR.out]; unfold fullW; simp [hn]), hrf⟩
    have hnz : (s.size : Int) < 4 := by omega
    by_cases hk1 : s.size = 1
    · have g1 : decide ((1 : Int) < (s.size : Int)) = false := by rw [hk1]; rfl
      have g1n : decide (1 < s.size) = false := by rw [hk1]; rfl
      have g2 : decide ((2 : Int) < (s.size : Int)) = false := by rw [hk1]; rfl
      have g2n : decide (2 < s.size) = false := by rw [hk1]; rfl
      have HK := hide hk1
      clear hk1
      go_enter Tryd.func33, Tryd.ntmps33
      go_wp2
      go_quiet (fail)
      go_wp2
      go_ret
      exact ⟨ret_bool (by rw [HRR.out, HK.out]; rfl), below_dN (HA.out _) _⟩
    by_cases hk2 : s.size = 2
    · have g1 : decide ((1 : Int) < (s.size : Int)) = true := by rw [hk2]; rfl
      have g1n : decide (1 < s.size) = true := by rw [hk2]; rfl
      have g2 : decide ((2 : Int) < (s.size : Int)) = false := by rw [hk2]; rfl
      have g2n : decide (2 < s.size) = false := by rw [hk2]; rfl
      have hz1 : (1 : Int) < (s.size : Int) := by omega
      have hp1 : 1 < s.size := by omega
      have hs1 := HS1.out hp1
      have HK := hide hk2
      clear hk2
      rcases (show x1.toNat < 128 ∨ 191 < x1.toNat ∨ (128 ≤ x1.toNat ∧ x1.toNat ≤ 191) by omega) with hc | hc | hc
      · have qx11 : decide ((x1.toNat : Int) < 128) = true := decide_eq_true (by omega)
        have qx12 : decide ((191 : Int) < (x1.toNat : Int)) = false := decide_eq_false (by omega)
        go_enter Tryd.func33, Tryd.ntmps33
        go_wp2
        go_quiet (fail)
        go_wp2
        go_ret
        exact ⟨ret_bool (by rw [HRR.out, HK.out]; unfold fullW; simp <;> omega), below_dN (HA.out _) _⟩
      · have qx11 : decide ((x1.toNat : Int) < 128) = false := decide_eq_false (by omega)
        have qx12 : decide ((191 : Int) < (x1.toNat : Int)) = true := decide_eq_true (by omega)
        go_enter Tryd.func33, Tryd.ntmps33
        go_wp2
        go_quiet (fail)
        go_wp2
        go_ret
        exact ⟨ret_bool (by rw [HRR.out, HK.out]; unfold fullW; simp <;> omega), below_dN (HA.out _) _⟩
      · have qx11 : decide ((x1.toNat : Int) < 128) = false := decide_eq_false (by omega)
        have qx12 : decide ((191 : Int) < (x1.toNat : Int)) = false := decide_eq_false (by omega)
        go_enter Tryd.func33, Tryd.ntmps33
        go_wp2
        go_quiet (fail)
        go_wp2
        go_ret
        exact ⟨ret_bool (by rw [HRR.out, HK.out]; unfold fullW; simp <;> omega), below_dN (HA.out _) _⟩
    have hk3 : s.size = 3 := by omega
    have g1 : decide ((1 : Int) < (s.size : Int)) = true := by rw [hk3]; rfl
    have g1n : decide (1 < s.size) = true := by rw [hk3]; rfl
    have g2 : decide ((2 : Int) < (s.size : Int)) = true := by rw [hk3]; rfl
    have g2n : decide (2 < s.size) = true := by rw [hk3]; rfl
    have hz1 : (1 : Int) < (s.size : Int) := by omega
    have hp1 : 1 < s.size := by omega
    have hs1 := HS1.out hp1
    have hz2 : (2 : Int) < (s.size : Int) := by omega
    have hp2 : 2 < s.size := by omega
    have hs2 := HS2.out hp2
    have HK := hide hk3
    clear hk3
    rcases (show x1.toNat < 128 ∨ 191 < x1.toNat ∨ (128 ≤ x1.toNat ∧ x1.toNat ≤ 191) by omega) with hc | hc | hc
    · have qx11 : decide ((x1.toNat : Int) < 128) = true := decide_eq_true (by omega)
      have qx12 : decide ((191 : Int) < (x1.toNat : Int)) = false := decide_eq_false (by omega)
      go_enter Tryd.func33, Tryd.ntmps33
      go_wp2
      go_quiet (fail)
      go_wp2
      go_ret
      exact ⟨ret_bool (by rw [HRR.out, HK.out]; unfold fullW; simp <;> omega), below_dN (HA.out _) _⟩
    · have qx11 : decide ((x1.toNat : Int) < 128) = false := decide_eq_false (by omega)
      have qx12 : decide ((191 : Int) < (x1.toNat : Int)) = true := decide_eq_true (by omega)
      go_enter Tryd.func33, Tryd.ntmps33
      go_wp2
      go_quiet (fail)
      go_wp2
      go_ret
      exact ⟨ret_bool (by rw [HRR.out, HK.out]; unfold fullW; simp <;> omega), below_dN (HA.out _) _⟩
    · have qx11 : decide ((x1.toNat : Int) < 128) = false := decide_eq_false (by omega)
      have qx12 : decide ((191 : Int) < (x1.toNat : Int)) = false := decide_eq_false (by omega)
      rcases (show x2.toNat < 128 ∨ 191 < x2.toNat ∨ (128 ≤ x2.toNat ∧ x2.toNat ≤ 191) by omega) with hd | hd | hd
      · have qx21 : decide ((x2.toNat : Int) < 128) = true := decide_eq_true (by omega)
        have qx22 : decide ((191 : Int) < (x2.toNat : Int)) = false := decide_eq_false (by omega)
        go_enter Tryd.func33, Tryd.ntmps33
        go_wp2
        go_quiet (fail)
        go_wp2
        go_ret
        exact ⟨ret_bool (by rw [HRR.out, HK.out]; unfold fullW; simp <;> omega), below_dN (HA.out _) _⟩
      · have qx21 : decide ((x2.toNat : Int) < 128) = false := decide_eq_false (by omega)
        have qx22 : decide ((191 : Int) < (x2.toNat : Int)) = true := decide_eq_true (by omega)
        go_enter Tryd.func33, Tryd.ntmps33
        go_wp2
        go_quiet (fail)
        go_wp2
        go_ret
        exact ⟨ret_bool (by rw [HRR.out, HK.out]; unfold fullW; simp <;> omega), below_dN (HA.out _) _⟩
      · have qx21 : decide ((x2.toNat : Int) < 128) = false := decide_eq_false (by omega)
        have qx22 : decide ((191 : Int) < (x2.toNat : Int)) = false := decide_eq_false (by omega)
        go_enter Tryd.func33, Tryd.ntmps33
        go_wp2
        go_quiet (fail)
        go_wp2
        go_ret
        exact ⟨ret_bool (by rw [HRR.out, HK.out]; unfold fullW; simp <;> omega), below_dN (HA.out _) _⟩
  · have HR := HL.out (by rw [hX]; decide)
    rw [hX] at hc0 HR
    have ha0 := (hT.2 4 (by omega)).1
    have ha1 := (hT.2 4 (by omega)).2
    simp only [accLo, accHi, Nat.reduceMul, Nat.reduceAdd, Nat.reduceEqDiff, if_true, if_false, Nat.reduceMod, Nat.reduceDiv] at ha0 ha1 HR
    have HRR := hide HR
    clear HL HN hT hX HR
    by_cases hn : 4 ≤ s.size
    · have hnz : (4 : Int) ≤ (s.size : Int) := by omega
      go_enter Tryd.func33, Tryd.ntmps33
      go_wp2
      go_ret
      exact ⟨ret_bool (by rw [HRR.out]; unfold fullW; simp [hn]), hrf⟩
    have hnz : (s.size : Int) < 4 := by omega
    by_cases hk1 : s.size = 1
    · have g1 : decide ((1 : Int) < (s.size : Int)) = false := by rw [hk1]; rfl
      have g1n : decide (1 < s.size) = false := by rw [hk1]; rfl
      have g2 : decide ((2 : Int) < (s.size : Int)) = false := by rw [hk1]; rfl
      have g2n : decide (2 < s.size) = false := by rw [hk1]; rfl
      have HK := hide hk1
      clear hk1
      go_enter Tryd.func33, Tryd.ntmps33
      go_wp2
      go_quiet (fail)
      go_wp2
      go_ret
      exact ⟨ret_bool (by rw [HRR.out, HK.out]; rfl), below_dN (HA.out _) _⟩
    by_cases hk2 : s.size = 2
    · have g1 : decide ((1 : Int) < (s.size : Int)) = true := by rw [hk2]; rfl
      have g1n : decide (1 < s.size) = true := by rw [hk2]; rfl
      have g2 : decide ((2 : Int) < (s.size : Int)) = false := by rw [hk2]; rfl
      have g2n : decide (2 < s.size) = false := by rw [hk2]; rfl
      have hz1 : (1 : Int) < (s.size : Int) := by omega
      have hp1 : 1 < s.size := by omega
      have hs1 := HS1.out hp1
      have HK := hide hk2
      clear hk2
      rcases (show x1.toNat < 128 ∨ 143 < x1.toNat ∨ (128 ≤ x1.toNat ∧ x1.toNat ≤ 143) by omega) with hc | hc | hc
      · have qx11 : decide ((x1.toNat : Int) < 128) = true := decide_eq_true (by omega)
        have qx12 : decide ((143 : Int) < (x1.toNat : Int)) = false := decide_eq_false (by omega)
        go_enter Tryd.func33, Tryd.ntmps33
        go_wp2
        go_quiet (fail)
        go_wp2
        go_ret
        exact ⟨ret_bool (by rw [HRR.out, HK.out]; unfold fullW; simp <;> omega), below_dN (HA.out _) _⟩
      · have qx11 : decide ((x1.toNat : Int) < 128) = false := decide_eq_false (by omega)
        have qx12 : decide ((143 : Int) < (x1.toNat : Int)) = true := decide_eq_true (by omega)
        go_enter Tryd.func33, Tryd.ntmps33
        go_wp2
        go_quiet (fail)
        go_wp2
        go_ret
        exact ⟨ret_bool (by rw [HRR.out, HK.out]; unfold fullW; simp <;> omega), below_dN (HA.out _) _⟩
      · have qx11 : decide ((x1.toNat : Int) < 128) = false := decide_eq_false (by omega)
        have qx12 : decide ((143 : Int) < (x1.toNat : Int)) = false := decide_eq_false (by omega)
        go_enter Tryd.func33, Tryd.ntmps33
        go_wp2
        go_quiet (fail)
        go_wp2
        go_ret
        exact ⟨ret_bool (by rw [HRR.out, HK.out]; unfold fullW; simp <;> omega), below_dN (HA.out _) _⟩
    have hk3 : s.size = 3 := by omega
    have g1 : decide ((1 : Int) < (s.size : Int)) = true := by rw [hk3]; rfl
    have g1n : decide (1 < s.size) = true := by rw [hk3]; rfl
    have g2 : decide ((2 : Int) < (s.size : Int)) = true := by rw [hk3]; rfl
    have g2n : decide (2 < s.size) = true := by rw [hk3]; rfl
    have hz1 : (1 : Int) < (s.size : Int) := by omega
    have hp1 : 1 < s.size := by omega
    have hs1 := HS1.out hp1
    have hz2 : (2 : Int) < (s.size : Int) := by omega
    have hp2 : 2 < s.size := by omega
    have hs2 := HS2.out hp2
    have HK := hide hk3
    clear hk3
    rcases (show x1.toNat < 128 ∨ 143 < x1.toNat ∨ (128 ≤ x1.toNat ∧ x1.toNat ≤ 143) by omega) with hc | hc | hc
    · have qx11 : decide ((x1.toNat : Int) < 128) = true := decide_eq_true (by omega)
      have qx12 : decide ((143 : Int) < (x1.toNat : Int)) = false := decide_eq_false (by omega)
      go_enter Tryd.func33, Tryd.ntmps33
      go_wp2
      go_quiet (fail)
      go_wp2
      go_ret
      exact ⟨ret_bool (by rw [HRR.out, HK.out]; unfold fullW; simp <;> omega), below_dN (HA.out _) _⟩
    · have qx11 : decide ((x1.toNat : Int) < 128) = false := decide_eq_false (by omega)
      have qx12 : decide ((143 : Int) < (x1.toNat : Int)) = true := decide_eq_true (by omega)
      go_enter Tryd.func33, Tryd.ntmps33
      go_wp2
      go_quiet (fail)
      go_wp2
      go_ret
      exact ⟨ret_bool (by rw [HRR.out, HK.out]; unfold fullW; simp <;> omega), below_dN (HA.out _) _⟩
    · have qx11 : decide ((x1.toNat : Int) < 128) = false := decide_eq_false (by omega)
      have qx12 : decide ((143 : Int) < (x1.toNat : Int)) = false := decide_eq_false (by omega)
      rcases (show x2.toNat < 128 ∨ 191 < x2.toNat ∨ (128 ≤ x2.toNat ∧ x2.toNat ≤ 191) by omega) with hd | hd | hd
      · have qx21 : decide ((x2.toNat : Int) < 128) = true := decide_eq_true (by omega)
        have qx22 : decide ((191 : Int) < (x2.toNat : Int)) = false := decide_eq_false (by omega)
        go_enter Tryd.func33, Tryd.ntmps33
        go_wp2
        go_quiet (fail)
        go_wp2
        go_ret
        exact ⟨ret_bool (by rw [HRR.out, HK.out]; unfold fullW; simp <;> omega), below_dN (HA.out _) _⟩
      · have qx21 : decide ((x2.toNat : Int) < 128) = false := decide_eq_false (by omega)
        have qx22 : decide ((191 : Int) < (x2.toNat : Int)) = true := decide_eq_true (by omega)
        go_enter Tryd.func33, Tryd.ntmps33
        go_wp2
        go_quiet (fail)
        go_wp2
        go_ret
        exact ⟨ret_bool (by rw [HRR.out, HK.out]; unfold fullW; simp <;> omega), below_dN (HA.out _) _⟩
      · have qx21 : decide ((x2.toNat : Int) < 128) = false := decide_eq_false (by omega)
        have qx22 : decide ((191 : Int) < (x2.toNat : Int)) = false := decide_eq_false (by omega)
        go_enter Tryd.func33, Tryd.ntmps33
        go_wp2
        go_quiet (fail)
        go_wp2
        go_ret
        exact ⟨ret_bool (by rw [HRR.out, HK.out]; unfold fullW; simp <;> omega), below_dN (HA.out _) _⟩
end Go.Proofs.YtpilpchijmappaaDoor
