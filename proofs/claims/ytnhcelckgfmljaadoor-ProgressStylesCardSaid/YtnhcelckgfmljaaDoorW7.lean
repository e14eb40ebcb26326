/- progress.indicator, narratorref27.Indicator. -/
import Derived.Test.YtnhcelckgfmljaaDoorW6
import Derived.Deep.QuietTactic
import Derived.BigQuiet
namespace Go.Proofs.YtnhcelckgfmljaaDoor
open Go.RowKit

theorem below_drewN {B : Nat} {w w1 : World} (h : Below B w w1) (n : Nat) : Below B w (w1.drewN n) := h.trans ⟨rfl, rfl, rfl, Nat.le_refl _, fun _ _ => rfl⟩
theorem div_bd (f n : Nat) (hn : 3 ≤ n) (hf : f ≤ n) : 100 * f / n ≤ 100 :=
  Nat.le_trans (Nat.div_le_div_right (Nat.mul_le_mul_left 100 hf)) (by rw [Nat.mul_div_cancel _ (by omega)]; omega)

set_option maxRecDepth 100000 in
set_option maxHeartbeats 2000000 in
theorem indicatorP (w : World) (A : Option Addr) (c : Nat) (l : List Gl) (h : GlRow w w.heap.size A l) (hl : l.length ≤ 200) :
    Calls Tryd.prog 17 #[.slice A l.length c] w fun e w' => e = pcE (indR l) ∧ Below w.heap.size w w' := by
  have HA := hide (asciiP w A c l h (by omega))
  have hsz : (⟨(ascL l).toArray⟩ : ByteArray).size = l.length := ascL_len l
  have HPp := fun w1 => percentP w1 ⟨(ascL l).toArray⟩ (by omega)
  have HBp := fun w1 => barP w1 ⟨(ascL l).toArray⟩ (by omega)
  rw [show (⟨(ascL l).toArray⟩ : ByteArray).data.toList = ascL l by simp] at HPp HBp
  have hll := ascL_len l
  unfold indR indF
  obtain ⟨L, hL⟩ : ∃ L : List UInt8, ascL l = L := ⟨_, rfl⟩
  rw [hL] at HA HPp HBp hll ⊢
  clear hL hsz h
  obtain ⟨S, hS⟩ : ∃ S : ByteArray, (⟨L.toArray⟩ : ByteArray) = S := ⟨_, rfl⟩
  rw [hS] at HA HPp HBp
  clear hS
  have hpb : ∀ a b n, percF L = some (a, b, n) → a < b ∧ b ≤ L.length ∧ n ≤ 100 := fun a b n h => percF_bd h
  have hbb : ∀ a b f n, barF L = some (a, b, f, n) → a < b ∧ b ≤ L.length ∧ 3 ≤ n ∧ f ≤ n ∧ n ≤ L.length := fun a b f n h => barF_bd h
  rw [hll] at hpb hbb
  clear hll
  cases hp : percF L with
  | none =>
    rw [hp] at HPp
    cases hb : barF L with
    | none =>
      rw [hb] at HBp
      have HP := hide HPp
      have HB := hide HBp
      clear HPp HBp hp hb hpb hbb
      unfold pcE at HP
      unfold barE at HB
      go_enter Tryd.func17, Tryd.ntmps17
      go_wp2_with (first
        | (go_at_call 23; refine HA.out.mono ?_; rintro e w1 ⟨rfl, hb1⟩)
        | (go_at_call 21; refine (HP.out _).mono ?_; rintro e w2 ⟨rfl, rfl⟩)
        | (go_at_call 22; refine (HB.out _).mono ?_; rintro e w3 ⟨rfl, rfl⟩))
      go_ret3
      exact ⟨rfl, hb1⟩
    | some y =>
      obtain ⟨y1, y2, y3, y4⟩ := y
      rw [hb] at HBp
      have hby := hbb _ _ _ _ hb
      have HP := hide HPp
      have HB := hide HBp
      clear HPp HBp hp hb hpb hbb
      unfold pcE at HP
      unfold barE at HB
      dsimp only at HB
      have hdv := div_bd y3 y4 (by omega) (by omega)
      go_enter Tryd.func17, Tryd.ntmps17
      go_wp2_with (first
        | (go_at_call 23; refine HA.out.mono ?_; rintro e w1 ⟨rfl, hb1⟩)
        | (go_at_call 21; refine (HP.out _).mono ?_; rintro e w2 ⟨rfl, rfl⟩)
        | (go_at_call 22; refine (HB.out _).mono ?_; rintro e w3 ⟨rfl, rfl⟩))
      have hne : ((y4 : Int) == 0) = false := by rw [beq_eq_false_iff_ne]; omega
      have hm : IntKind.i64.wrap (100 * (y3 : Int)) = 100 * (y3 : Int) := IntWalk.i64_in _ (by omega)
      have he : ((100 * y3 / y4 : Nat) : Int) = 100 * (y3 : Int) / (y4 : Int) := by simp
      have He := hide he
      clear he
      go_quiet (fail)
      go_wp2
      go_ret3
      exact ⟨by unfold pcE; dsimp only; rw [He.out]; rfl, below_drewN hb1 _⟩
  | some x =>
    obtain ⟨x1, x2, x3⟩ := x
    rw [hp] at HPp
    have hpx := hpb _ _ _ hp
    cases hb : barF L with
    | none =>
      rw [hb] at HBp
      have HP := hide HPp
      have HB := hide HBp
      clear HPp HBp hp hb hpb hbb
      unfold pcE at HP
      unfold barE at HB
      dsimp only at HP
      go_enter Tryd.func17, Tryd.ntmps17
      go_wp2_with (first
        | (go_at_call 23; refine HA.out.mono ?_; rintro e w1 ⟨rfl, hb1⟩)
        | (go_at_call 21; refine (HP.out _).mono ?_; rintro e w2 ⟨rfl, rfl⟩)
        | (go_at_call 22; refine (HB.out _).mono ?_; rintro e w3 ⟨rfl, rfl⟩))
      go_ret3
      exact ⟨rfl, hb1⟩
    | some y =>
      obtain ⟨y1, y2, y3, y4⟩ := y
      rw [hb] at HBp
      have hby := hbb _ _ _ _ hb
      have HP := hide HPp
      have HB := hide HBp
      clear HPp HBp hp hb hpb hbb
      unfold pcE at HP
      unfold barE at HB
      dsimp only at HP HB
      have He := hide (show ((min x1 y1 : Nat) : Int) = min (x1 : Int) (y1 : Int) by omega)
      have He2 := hide (show ((max x2 y2 : Nat) : Int) = max (x2 : Int) (y2 : Int) by omega)
      go_enter Tryd.func17, Tryd.ntmps17
      go_wp2_with (first
        | (go_at_call 23; refine HA.out.mono ?_; rintro e w1 ⟨rfl, hb1⟩)
        | (go_at_call 21; refine (HP.out _).mono ?_; rintro e w2 ⟨rfl, rfl⟩)
        | (go_at_call 22; refine (HB.out _).mono ?_; rintro e w3 ⟨rfl, rfl⟩)
        | (go_at_call 24; refine (lastP _ _ x2 y2 (cell_block (block_new _ _) 0) (cell_block (block_new _ _) 1)).mono ?_; rintro e w4 ⟨rfl, rfl⟩))
      go_ret3
      exact ⟨by unfold pcE; dsimp only; rw [He.out, He2.out]; rfl, by first | exact hb1 | exact hb1.alloc hb1.size _⟩
end Go.Proofs.YtnhcelckgfmljaaDoor
