/- Glyphs: view.glyph and narratorref15.Glyph. -/
import Derived.Test.YtdkppdjonlldhaaGreatDoorV7
import Derived.Test.YtdkppdjonlldhaaGreatDoorHeld
namespace Go.Proofs.YtdkppdjonlldhaaGreatDoor
open Go.RowKit

theorem bcell {W w1 : World} (hb : Below W.heap.size W w1) : (∀ b o, b < W.heap.size → w1.cell? ⟨b, o, none⟩ = W.cell? ⟨b, o, none⟩) ∧ (∀ b o, b < W.heap.size → w1.frozen? ⟨b, o, none⟩ = W.frozen? ⟨b, o, none⟩) :=
  ⟨fun b o h => hb.cell (p := ⟨b, o, none⟩) h, fun b o h => hb.frozen (p := ⟨b, o, none⟩) h⟩

/-- Why a glyph is not proper. -/
def glErr (g : Gl) : Int :=
  if clErr g.text.toList ≠ 0 then 3
  else if g.wide ≠ (clW g.text.toList == 2) ∨ g.style < 0 ∨ 3 < g.style ∨ (g.style = 3 ∧ g.text.toList ≠ [42]) then 9 else 0

/-- The ways through the second test. -/
def GlWays (text : ByteArray) (wide : Bool) (style V : Int) : Prop :=
  ((!(wide == (clW text.toList == 2))) = true ∧ V = 9) ∨
  ((!(wide == (clW text.toList == 2))) = false ∧ decide (style < 0) = true ∧ V = 9) ∨
  ((!(wide == (clW text.toList == 2))) = false ∧ decide (style < 0) = false ∧ decide (3 < style) = true ∧ V = 9) ∨
  ((!(wide == (clW text.toList == 2))) = false ∧ decide (style < 0) = false ∧ decide (3 < style) = false ∧ (style == 3) = true ∧ (text.toList == [42]) = false ∧ V = 9) ∨
  ((!(wide == (clW text.toList == 2))) = false ∧ decide (style < 0) = false ∧ decide (3 < style) = false ∧ (style == 3) = true ∧ (text.toList == [42]) = true ∧ V = 0) ∨
  ((!(wide == (clW text.toList == 2))) = false ∧ decide (style < 0) = false ∧ decide (3 < style) = false ∧ (style == 3) = false ∧ V = 0)
theorem glWays {text : ByteArray} {wide : Bool} {style V : Int} (h : glErr ⟨text, wide, style⟩ = V) (h0 : clErr text.toList = 0) : GlWays text wide style V := by
  subst h
  unfold glErr GlWays
  simp only [h0, ne_eq, not_true_eq_false, if_false]
  generalize clW text.toList = c
  by_cases h1 : wide = (c == 2) <;> by_cases h2 : style < 0 <;> by_cases h3 : 3 < style <;> by_cases h4 : style = 3 <;> by_cases h5 : text.toList = [42] <;> simp [h1, h2, h3, h4, h5]

set_option maxHeartbeats 2000000 in
theorem glyphP (w : World) (g : Gl) (hs : g.text.size ≤ 4000000) (hT : Tabs w) : Calls Tryz.prog 17 #[g.val] w fun e w' => e = .returned (.int .i64 (glErr g)) ∧ Below w.heap.size w w' := by
  have HT := hide hT
  clear hT
  obtain ⟨V, hV⟩ : ∃ V, glErr g = V := ⟨_, rfl⟩
  rw [hV]
  obtain ⟨text, wide, style⟩ := g
  have hc := fun w hT => checkCl w text hs hT
  have hw := fun w hT => widthCl w text hs hT
  rw [← ByteArray.toList_eq] at hc hw
  have HW := hide hw
  clear hw
  unfold Gl.val
  dsimp only at hs ⊢
  have HT0 := hide (HT.out.below ((Below.refl _ _).alloc (Nat.le_refl _) (.cells #[.string text, .bool wide, .int .i64 style] 42)))
  by_cases h0 : clErr text.toList = 0
  · have hways := glWays hV h0
    rw [h0] at hc
    have HC := hide hc
    clear hc hV h0
    rcases hways with ⟨h1, rfl⟩ | ⟨h1, h2, rfl⟩ | ⟨h1, h2, h3, rfl⟩ | ⟨h1, h2, h3, h4, h5, rfl⟩ | ⟨h1, h2, h3, h4, h5, rfl⟩ | ⟨h1, h2, h3, h4, rfl⟩
    all_goals
      go_enter Tryz.func17, Tryz.ntmps17
      go_wp2_with (go_at_call 30; refine (HC.out _ HT0.out).mono ?_; rintro e w1 ⟨rfl, hb1⟩)
      have HT1 := hide (HT0.out.below hb1)
      obtain ⟨hc1, hf1⟩ := bcell hb1
      have k0 : w1.cell? ⟨w.heap.size, 0, none⟩ = some (.string text) := by rw [hc1 _ _ (by simp)]; exact cell_block (block_new _ _) 0
      have k1 : w1.cell? ⟨w.heap.size, 1, none⟩ = some (.bool wide) := by rw [hc1 _ _ (by simp)]; exact cell_block (block_new _ _) 1
      have k2 : w1.cell? ⟨w.heap.size, 2, none⟩ = some (.int .i64 style) := by rw [hc1 _ _ (by simp)]; exact cell_block (block_new _ _) 2
      have hlt : w.heap.size < w1.heap.size := by have := hb1.size; simp at this; omega
      have hbw : Below w.heap.size w w1 := ((Below.refl _ _).alloc (Nat.le_refl _) _).trans (hb1.mono (by simp))
      clear hc1 hf1 hb1
      have x0 := Held.cell k0 hlt
      have x1 := Held.cell k1 hlt
      have x2 := Held.cell k2 hlt
      clear k0 k1 k2
      refine wp_region_held_lit (by kernel_rfl) (by kernel_rfl) ?_
      repeat go_big_quiet_step ((go_at_call 31; exact held_call _ fun W hW => HW.out W (HT1.out.below hW)))
      refine wpQuiet_nil ?_
      intro w2 hb2
      clear x0 x1 x2
      go_wp2
      go_ret
      exact ⟨rfl, hbw.trans (hb2.mono hbw.size)⟩
  · have hne : (clErr text.toList != 0) = true := by simp [h0]
    have hv3 : V = 3 := by rw [← hV]; unfold glErr; rw [if_pos h0]
    rw [hv3]
    have HC := hide hc
    clear hc hV h0 hv3
    go_enter Tryz.func17, Tryz.ntmps17
    go_wp2_with (go_at_call 30; refine (HC.out _ HT0.out).mono ?_; rintro e w1 ⟨rfl, hb1⟩)
    go_ret
    exact ⟨rfl, ((Below.refl _ _).alloc (Nat.le_refl _) _).trans (hb1.mono (by simp))⟩

set_option maxHeartbeats 2000000 in
theorem glyph15 (w : World) (g : Gl) (hs : g.text.size ≤ 4000000) : Calls Tryz.prog 13 #[g.val] w fun e w' => e = .returned (.int .i64 (glErr g)) ∧ Below w.heap.size w w' := by
  obtain ⟨V, hV⟩ : ∃ V, glErr g = V := ⟨_, rfl⟩
  rw [hV]
  obtain ⟨text, wide, style⟩ := g
  have hc := fun w => check03 w text hs
  have hw := fun w => width03 w text hs
  rw [← ByteArray.toList_eq] at hc hw
  have HW := hide hw
  clear hw
  unfold Gl.val
  dsimp only at hs ⊢
  by_cases h0 : clErr text.toList = 0
  · have hways := glWays hV h0
    rw [h0] at hc
    have HC := hide hc
    clear hc hV h0
    rcases hways with ⟨h1, rfl⟩ | ⟨h1, h2, rfl⟩ | ⟨h1, h2, h3, rfl⟩ | ⟨h1, h2, h3, h4, h5, rfl⟩ | ⟨h1, h2, h3, h4, h5, rfl⟩ | ⟨h1, h2, h3, h4, rfl⟩
    all_goals
      go_enter Tryz.func13, Tryz.ntmps13
      go_wp2_with (go_at_call 28; refine (HC.out _).mono ?_; rintro e w1 ⟨rfl, hb1⟩)
      obtain ⟨hc1, hf1⟩ := bcell hb1
      have k0 : w1.cell? ⟨w.heap.size, 0, none⟩ = some (.string text) := by rw [hc1 _ _ (by simp)]; exact cell_block (block_new _ _) 0
      have k1 : w1.cell? ⟨w.heap.size, 1, none⟩ = some (.bool wide) := by rw [hc1 _ _ (by simp)]; exact cell_block (block_new _ _) 1
      have k2 : w1.cell? ⟨w.heap.size, 2, none⟩ = some (.int .i64 style) := by rw [hc1 _ _ (by simp)]; exact cell_block (block_new _ _) 2
      have hlt : w.heap.size < w1.heap.size := by have := hb1.size; simp at this; omega
      have hbw : Below w.heap.size w w1 := ((Below.refl _ _).alloc (Nat.le_refl _) _).trans (hb1.mono (by simp))
      clear hc1 hf1 hb1
      have x0 := Held.cell k0 hlt
      have x1 := Held.cell k1 hlt
      have x2 := Held.cell k2 hlt
      clear k0 k1 k2
      refine wp_region_held_lit (by kernel_rfl) (by kernel_rfl) ?_
      repeat go_big_quiet_step ((go_at_call 29; exact held_call _ fun W hW => HW.out W))
      refine wpQuiet_nil ?_
      intro w2 hb2
      clear x0 x1 x2
      go_wp2
      go_ret
      exact ⟨rfl, hbw.trans (hb2.mono hbw.size)⟩
  · have hne : (clErr text.toList != 0) = true := by simp [h0]
    have hv3 : V = 3 := by rw [← hV]; unfold glErr; rw [if_pos h0]
    rw [hv3]
    have HC := hide hc
    clear hc hV h0 hv3
    go_enter Tryz.func13, Tryz.ntmps13
    go_wp2_with (go_at_call 28; refine (HC.out _).mono ?_; rintro e w1 ⟨rfl, hb1⟩)
    go_ret
    exact ⟨rfl, ((Below.refl _ _).alloc (Nat.le_refl _) _).trans (hb1.mono (by simp))⟩
end Go.Proofs.YtdkppdjonlldhaaGreatDoor
