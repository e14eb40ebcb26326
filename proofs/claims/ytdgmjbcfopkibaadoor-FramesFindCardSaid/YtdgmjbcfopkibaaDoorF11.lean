/- slices.Clone of a row of glyphs; view.Trim of a row that does not end with a blank. -/
import Derived.Test.YtdgmjbcfopkibaaDoorGy
import Derived.Test.YtdgmjbcfopkibaaDoorV9
import Derived.Test.YtdgmjbcfopkibaaDoorReg
import Derived.Deep.RegionHeld3
import Derived.Lib.SliceRun
namespace Go.Proofs.YtdgmjbcfopkibaaDoor
open Go.RowKit

set_option maxHeartbeats 1000000 in
theorem cloneGP (w : World) (g off c n : Nat) (l : List Gl) (hn : l.length = n) (h : GlRow w w.heap.size (some ⟨g, off, none⟩) l) (hl : n ≤ 1000) :
    Calls Tryd.prog 57 #[.slice (some ⟨g, off, none⟩) n c] w fun e w' => ∃ v, e = .returned v ∧ w'.ownsRow w.heap.size 57 3 v n (l.flatMap Gl.enc) ∧ Below w.heap.size w w' := by
  have hq : ∀ (w : World) (a : Option Addr) (n c n' c' : Nat), (binOp .eql 54 (.slice a n c) (.slice none n' c')).run Tryd.prog w = .ok (.bool a.isNone) w := fun w a n c n' c' => Lib.run_eql_slice_nil w _ _ a n c n' c' Tryd.underlying54
  have hlit := own_lit w w.heap.size 57 3 0 #[] (Nat.le_refl _) (by omega) rfl
  have hbl := (Below.refl w.heap.size w).alloc (Nat.le_refl _) (.cells #[] 57)
  have hsl : w.heap.size ≤ (w.alloc (.cells #[] 57)).heap.size := by simp
  have Hh := hide h
  have Hn := hide hn
  clear h hn
  go_enter Tryd.func57, Tryd.ntmps57
  go_wp2_with (first
    | (at_builtin; refine wpList_gls (w.alloc (.cells #[] 57)) (.tmp 5) (.tmp 6) 54 rfl (by rfl) el_glyph w.heap.size _ 0 [] (by rfl) hlit hsl (some ⟨g, off, none⟩) c _ l n Hn.out (by rfl) (Hh.out.below (GlAt.stays _) hbl) (by omega) n (Nat.zero_add _) ?_; intro v6 w6 hown6 hg6; have hb6 := below_own hbl hlit hg6 (Nat.le_refl _) hsl)
    | fail)
  go_ret
  exact ⟨_, rfl, hown6, hb6⟩

set_option maxRecDepth 100000 in
set_option maxHeartbeats 2000000 in
theorem trimNoP (w : World) (g c n m : Nat) (l : List Gl) (hn : l.length = n) (hm : n = m + 1) (tx : ByteArray) (hlast : l[m]? = some ⟨tx, false, 0⟩) (htx : (tx.toList == [32]) = false) (h : GlRow w w.heap.size (some ⟨g, 0, none⟩) l) (hl : n ≤ 1000) (hc : n ≤ c) :
    Calls Tryd.prog 29 #[.slice (some ⟨g, 0, none⟩) n c] w fun e w' => ∃ v, e = .returned v ∧ w'.ownsRow w.heap.size 57 3 v n (l.flatMap Gl.enc) ∧ Below w.heap.size w w' := by
  have hml : m < l.length := by omega
  obtain ⟨b0, o0, he, hb0, c0, c1, c2⟩ := h.get hml
  cases he
  simp only [Nat.zero_add] at c0 c1 c2
  have hx : l[m] = ⟨tx, false, 0⟩ := by rw [List.getElem?_eq_getElem hml] at hlast; exact Option.some.inj hlast
  rw [hx] at c0 c1 c2
  dsimp only at c0 c1 c2
  have hIx : (n : Int) - 1 = (m : Int) := by omega
  have hmI : (m : Int) < (n : Int) := by omega
  have hn0 : (0 : Int) < (n : Int) := by omega
  have hn0' : decide ((0 : Int) < (n : Int)) = true := decide_eq_true hn0
  have hn0'' : decide (0 < n) = true := decide_eq_true (by omega)
  have hwr : IntKind.i64.wrap (m : Int) = (m : Int) := IntWalk.i64_in _ (by omega)
  have HCl := hide (fun (W2 : World) (hb : Below w.heap.size w W2) => cloneGP W2 g 0 c n l hn ((h.below (GlAt.stays _) hb).more hb.size) hl)
  have HBk := hide blankV
  clear h hn hlast hml hx hm
  go_enter Tryd.func29, Tryd.ntmps29
  have HG := hide (And.intro c0 (And.intro c1 c2))
  have hcI : (n : Int) ≤ (c : Int) := by omega
  have hrf := Below.refl w.heap.size w
  go_wp2
  go_loopw [3] (fun i wr => i = .int .i64 (n : Int) ∧ Below w.heap.size w wr) (fun _ _ => 0)
  case atStart => exact ⟨rfl, hrf⟩
  case round =>
    obtain ⟨rfl, hbr⟩ := hrel
    rename World => wo
    have Hbr := hide hbr
    have e0 : wo.cell? ⟨g, m * 3, none⟩ = some (.string tx) := (hbr.cell (p := ⟨g, m * 3, none⟩) hb0).trans HG.out.1
    have e1 : wo.cell? ⟨g, m * 3 + 1, none⟩ = some (.bool false) := (hbr.cell (p := ⟨g, m * 3 + 1, none⟩) hb0).trans HG.out.2.1
    have e2 : wo.cell? ⟨g, m * 3 + 2, none⟩ = some (.int .i64 0) := (hbr.cell (p := ⟨g, m * 3 + 2, none⟩) hb0).trans HG.out.2.2
    have hgo : g < wo.heap.size := by have := hbr.size; omega
    have hbd := (Below.refl wo.heap.size wo).drew
    have HE := hide (fun (W2 : World) (hb : Below wo.heap.size wo W2) => And.intro ((hb.cell (p := ⟨g, m * 3, none⟩) hgo).trans e0) (And.intro ((hb.cell (p := ⟨g, m * 3 + 1, none⟩) hgo).trans e1) ((hb.cell (p := ⟨g, m * 3 + 2, none⟩) hgo).trans e2)))
    clear hbr c0 c1 c2
    go_wp2
    go_region_held3 (fun W2 => W2.cell? ⟨g, m * 3, none⟩ = some (.string tx) ∧ W2.cell? ⟨g, m * 3 + 1, none⟩ = some (.bool false) ∧ W2.cell? ⟨g, m * 3 + 2, none⟩ = some (.int .i64 0))
      (first | exact HE.out _ hb5 | exact HE.out _ hbd)
      (first
        | (go_at_call 33; refine (HBk.out _).mono ?_; rintro e w5 ⟨rfl, hbI⟩; have hb5 := hbd.trans (hbI.mono hbd.size))
        | fail)
    have hb5w := Hbr.out.trans (hb5.mono Hbr.out.size)
    go_wp2_with (go_at_call 57; refine (HCl.out _ hb5w).mono ?_; rintro e w6 ⟨v6, rfl, hown6, hb6⟩)
    go_ret
    exact ⟨_, rfl, own_more hown6 hb5w.size, hb5w.trans (hb6.mono hb5w.size)⟩
end Go.Proofs.YtdgmjbcfopkibaaDoor
