/- frames: the frame with a top left corner. -/
import Derived.Test.YtdgmjbcfopkibaaDoorF4
namespace Go.Proofs.YtdgmjbcfopkibaaDoor
open Go.RowKit Go.Shelf

def zeroRg : Rg := ⟨0, 0, 0, 0, 0, 0, 0, ⟨#[]⟩⟩
def fromV (t l : Nat) : Option (Nat × Nat) → Value
  | none => .tuple #[zeroRg.val, .bool false]
  | some x => .tuple #[(⟨2, 0, -1, t, l, x.1, x.2, ⟨#[]⟩⟩ : Rg).val, .bool true]
theorem bottomG_step (P : Nat → Nat → Nat) (t l r b n : Nat) (h : 0 < n) : bottomG P t l r b n = if closedB P t l b r then some b else bottomG P t l r (b + 1) (n - 1) := by
  obtain ⟨m, rfl⟩ : ∃ m, n = m + 1 := ⟨n - 1, by omega⟩
  rfl
theorem rgtG_step (P : Nat → Nat → Nat) (H t l r n : Nat) (h : 0 < n) : rgtG P H t l r n = match bottomG P t l r (t + 2) (H - t - 1) with | some b => some (b, r) | none => rgtG P H t l (r + 1) (n - 1) := by
  obtain ⟨m, rfl⟩ : ∃ m, n = m + 1 := ⟨n - 1, by omega⟩
  rfl
/-- A region's cells written over, one by one. -/
def rgSet (w : World) (b : Nat) (r : Rg) : World :=
  (((((((w.setCell ⟨b, 0, none⟩ (.int .i64 r.kind)).setCell ⟨b, 1, none⟩ (.int .i64 r.id)).setCell ⟨b, 2, none⟩ (.int .i64 r.parent)).setCell ⟨b, 3, none⟩ (.int .i64 r.top)).setCell ⟨b, 4, none⟩ (.int .i64 r.left)).setCell ⟨b, 5, none⟩ (.int .i64 r.bottom)).setCell ⟨b, 6, none⟩ (.int .i64 r.right)).setCell ⟨b, 7, none⟩ (.string r.label)
theorem blk_setF {w : World} {b i : Nat} {cs : Array Value} {t : TypeId} {fr : Nat × Nat} (h : w.heap[b]? = some (.cells cs t fr)) (u : Value) : (w.setCell ⟨b, i, none⟩ u).heap[b]? = some (.cells (cs.setIfInBounds i u) t fr) := by
  simp [World.setCell, Array.getElem?_modify, h]
theorem rgSet_box {w : World} {b : Nat} {r0 r : Rg} (h : RgBox w b r0) : RgBox (rgSet w b r) b r := by
  unfold RgBox at h
  have e := blk_setF (i := 7) (blk_setF (i := 6) (blk_setF (i := 5) (blk_setF (i := 4) (blk_setF (i := 3) (blk_setF (i := 2) (blk_setF (i := 1) (blk_setF (i := 0) h (.int .i64 r.kind)) (.int .i64 r.id)) (.int .i64 r.parent)) (.int .i64 r.top)) (.int .i64 r.left)) (.int .i64 r.bottom)) (.int .i64 r.right)) (.string r.label)
  simp only [List.setIfInBounds_toArray, List.set_cons_zero, List.set_cons_succ] at e
  exact e
theorem rgSet_below {B : Nat} {w0 w : World} {b : Nat} (r : Rg) (h : Below B w0 w) (hB : B ≤ b) : Below B w0 (rgSet w b r) := by
  unfold rgSet
  exact (((((((h.setCell (p := ⟨b, 0, none⟩) hB _).setCell (p := ⟨b, 1, none⟩) hB _).setCell (p := ⟨b, 2, none⟩) hB _).setCell (p := ⟨b, 3, none⟩) hB _).setCell (p := ⟨b, 4, none⟩) hB _).setCell (p := ⟨b, 5, none⟩) hB _).setCell (p := ⟨b, 6, none⟩) hB _).setCell (p := ⟨b, 7, none⟩) hB _

set_option maxRecDepth 100000 in
set_option maxHeartbeats 2000000 in
theorem fromPicP (w : World) (bp H W t l : Nat) (P : Nat → Nat → Nat) (h : PicAt w bp H W P) (ht : t < H) (hl : l < W) (hH : H ≤ 1000) (hW : W ≤ 1000) :
    Calls Tryd.prog 20 #[.slice (some ⟨bp, 0, none⟩) H H, .int .i64 (t : Int), .int .i64 (l : Int)] w fun e w' => e = .returned (fromV t l (fromF P H W t l)) ∧ Below w.heap.size w w' := by
  have hbx := (Below.refl w.heap.size w).alloc (Nat.le_refl _) (.cells #[.int .i64 0, .int .i64 0, .int .i64 0, .int .i64 0, .int .i64 0, .int .i64 0, .int .i64 0, .string ⟨#[]⟩] 36)
  have hrb : RgBox _ w.heap.size zeroRg := block_new w (.cells #[.int .i64 0, .int .i64 0, .int .i64 0, .int .i64 0, .int .i64 0, .int .i64 0, .int .i64 0, .string ⟨#[]⟩] 36)
  obtain ⟨W1, hW1⟩ : ∃ W1, w.alloc (.cells #[.int .i64 0, .int .i64 0, .int .i64 0, .int .i64 0, .int .i64 0, .int .i64 0, .int .i64 0, .string ⟨#[]⟩] 36) = W1 := ⟨_, rfl⟩
  have hs1 : W1.heap.size = w.heap.size + 1 := by rw [← hW1]; simp
  have hW1' := hW1
  rw [hW1] at hbx hrb
  have HH := hide (fun (W2 : World) (hb : Below w.heap.size w W2) => h.below hb)
  have HHas := hide (hasP W1 bp H W t l 6 6 P (h.below hbx) ht hl rfl (by omega))
  obtain ⟨q, hq⟩ : ∃ q, hasA (P t l) 6 = q := ⟨_, rfl⟩
  rw [hq] at HHas
  have Hrb := hide hrb
  have Hbx := hide hbx
  have Hs1 := hide hs1
  cases q with
  | false =>
    have HF := hide (show fromF P H W t l = none by unfold fromF; rw [hq]; rfl)
    have hbe := rgSet_box (r := zeroRg) hrb
    have hbb := rgSet_below (b := w.heap.size) zeroRg hbx (Nat.le_refl _)
    have HXc := hide hbe.cells
    have Hbb := hide hbb
    obtain ⟨z0, z1, z2, z3, z4, z5, z6, z7⟩ := hrb.cells
    have f0 := frozen_block hrb 0
    have f1 := frozen_block hrb 1
    have f2 := frozen_block hrb 2
    have f3 := frozen_block hrb 3
    have f4 := frozen_block hrb 4
    have f5 := frozen_block hrb 5
    have f6 := frozen_block hrb 6
    have f7 := frozen_block hrb 7
    clear h hrb hq hbx hbe hs1 hbb hW1'
    go_enter Tryd.func20, Tryd.ntmps20
    go_wp2_with (go_at_call 34; (with_reducible refine HHas.out.mono ?_); rintro e w0 ⟨rfl, rfl⟩)
    obtain ⟨x0, x1, x2, x3, x4, x5, x6, x7⟩ := HXc.out
    have hbb := Hbb.out
    unfold rgSet zeroRg at x0 x1 x2 x3 x4 x5 x6 x7 hbb
    dsimp only at x0 x1 x2 x3 x4 x5 x6 x7 hbb
    rw [HF.out]
    exact bodyPost_ret (v := .tuple #[zeroRg.val, .bool false]) (by simp [results, Tryd.results20, go_sem, x0, x1, x2, x3, x4, x5, x6, x7, zeroRg, Rg.val]) rfl ⟨rfl, hbb⟩
  | true =>
    obtain ⟨R, hR⟩ : ∃ R, rgtG P H t l (l + 2) (W - l - 1) = R := ⟨_, rfl⟩
    have HF := hide (show fromF P H W t l = R by unfold fromF; rw [hq]; exact hR)
    have HR := hide (show rgtG P H t l (l + 2) (W + 1 - (l + 2)) = R by rw [show W + 1 - (l + 2) = W - l - 1 by omega]; exact hR)
    obtain ⟨bt, hbt, hct, -⟩ := h.row t ht
    have HRow := hide (fun (W2 : World) (hb : Below w.heap.size w W2) => (hb.cell (p := ⟨bp, t, none⟩) h.lt).trans hct)
    have HCl := hide (fun (W2 : World) (hb : Below w.heap.size w W2) (b r : Nat) (h1 : t + 2 ≤ b) (h2 : b ≤ H) (h3 : l + 2 ≤ r) (h4 : r ≤ W) => closedPicP W2 bp H W t l b r P (h.below hb) h1 h2 h3 h4 hH hW)
    have htH : (t : Int) < (H : Int) := by omega
    clear h hrb hq hbx hs1 hR hbt hct hW1' HH
    go_enter Tryd.func20, Tryd.ntmps20
    go_wp2_with (go_at_call 34; (with_reducible refine HHas.out.mono ?_); rintro e w0 ⟨rfl, rfl⟩)
    go_loopw [8] (fun i wr => ∃ r : Nat, l + 2 ≤ r ∧ r ≤ W + 1 ∧ i = .int .i64 (r : Int) ∧ rgtG P H t l r (W + 1 - r) = R ∧ RgBox wr w.heap.size zeroRg ∧ Below w.heap.size w wr) (fun i _ => W + 1 - (intOf i).toNat)
    case atStart => exact ⟨l + 2, Nat.le_refl _, by omega, by go_num, HR.out, Hrb.out, Hbx.out⟩
    case round =>
      clear HR Hrb Hbx
      obtain ⟨r, h0, h1, rfl, hg, hbox, hbr⟩ := hrel
      rename World => wr
      have hrow := HRow.out wr hbr
      by_cases hlt : r ≤ W
      · have hltI : (r : Int) ≤ (W : Int) := by omega
        rw [rgtG_step _ _ _ _ _ _ (by omega)] at hg
        obtain ⟨B, hB⟩ : ∃ B, bottomG P t l r (t + 2) (H - t - 1) = B := ⟨_, rfl⟩
        rw [hB] at hg
        have HB := hide (show bottomG P t l r (t + 2) (H + 1 - (t + 2)) = B by rw [show H + 1 - (t + 2) = H - t - 1 by omega]; exact hB)
        have Hg := hide hg
        have Hbox := hide hbox
        have Hbr := hide hbr
        clear hB hg hbox hbr
        go_wp2
        go_loopw [9] (fun j wi => ∃ b : Nat, t + 2 ≤ b ∧ b ≤ H + 1 ∧ j = .int .i64 (b : Int) ∧ bottomG P t l r b (H + 1 - b) = B ∧ RgBox wi w.heap.size zeroRg ∧ Below w.heap.size w wi) (fun j _ => H + 1 - (intOf j).toNat)
        case atStart => exact ⟨t + 2, Nat.le_refl _, by omega, by go_num, HB.out, Hbox.out, Hbr.out⟩
        case round =>
          clear HB Hbox Hbr hrow
          obtain ⟨b, g0, g1, rfl, hg2, hbox, hbi⟩ := hrel
          rename World => wi
          by_cases hlb : b ≤ H
          · have hlbI : (b : Int) ≤ (H : Int) := by omega
            rw [bottomG_step _ _ _ _ _ _ (by omega)] at hg2
            have HC := hide (HCl.out wi hbi b r g0 hlb h0 hlt)
            obtain ⟨q, hq⟩ : ∃ q, closedB P t l b r = q := ⟨_, rfl⟩
            rw [hq] at HC hg2
            have Hbi := hide hbi
            have Hbox := hide hbox
            clear hq hbi hbox
            cases q with
            | true =>
              have HRv := hide (show R = some (b, r) by have := Hg.out; rw [← hg2] at this; exact this.symm)
              clear hg2 Hg
              go_upto_region 10 with (first
                | (go_at_call 27; (with_reducible refine HC.out.mono ?_); rintro e w6 ⟨rfl, hb6⟩; have Hb6 := hide hb6; clear hb6)
                | fail)
              have hbox : RgBox w6 w.heap.size zeroRg := block_below Hbox.out Hb6.out (block_lt Hbox.out)
              have hb6w := Hbi.out.trans (Hb6.out.mono (Hbi.out.size))
              have HXc := hide (rgSet_box (r := ⟨2, 0, -1, t, l, b, r, ⟨#[]⟩⟩) hbox).cells
              have Hbb := hide (rgSet_below (b := w.heap.size) ⟨2, 0, -1, t, l, b, r, ⟨#[]⟩⟩ hb6w (Nat.le_refl _))
              obtain ⟨z0, z1, z2, z3, z4, z5, z6, z7⟩ := hbox.cells
              have f0 := frozen_block hbox 0
              have f1 := frozen_block hbox 1
              have f2 := frozen_block hbox 2
              have f3 := frozen_block hbox 3
              have f4 := frozen_block hbox 4
              have f5 := frozen_block hbox 5
              have f6 := frozen_block hbox 6
              have f7 := frozen_block hbox 7
              clear hbox hb6w
              go_wp2
              obtain ⟨x0, x1, x2, x3, x4, x5, x6, x7⟩ := HXc.out
              have hbb := Hbb.out
              unfold rgSet at x0 x1 x2 x3 x4 x5 x6 x7 hbb
              dsimp only at x0 x1 x2 x3 x4 x5 x6 x7 hbb
              rw [HF.out, HRv.out]
              exact bodyPost_ret (v := .tuple #[(⟨2, 0, -1, t, l, b, r, ⟨#[]⟩⟩ : Rg).val, .bool true]) (by simp [results, Tryd.results20, go_sem, x0, x1, x2, x3, x4, x5, x6, x7, Rg.val]) rfl ⟨rfl, hbb⟩
            | false =>
              have Hg2 := hide (show bottomG P t l r (b + 1) (H + 1 - b - 1) = B from hg2)
              clear hg2
              go_wp2_with (first
                | (go_at_call 27; (with_reducible refine HC.out.mono ?_); rintro e w6 ⟨rfl, hb6⟩; have Hb6 := hide hb6; clear hb6)
                | fail)
              go_roundw
              case rel => exact ⟨b + 1, by omega, by omega, by go_num, by rw [← Nat.sub_sub]; exact Hg2.out, block_below Hbox.out Hb6.out (block_lt Hbox.out), Hbi.out.trans (Hb6.out.mono Hbi.out.size)⟩
              case measure => simp [intOf]; omega
          · obtain rfl : b = H + 1 := by omega
            rw [Nat.sub_self] at hg2
            have Hg2 := hide (show rgtG P H t l (r + 1) (W + 1 - r - 1) = R by have := Hg.out; rw [← hg2] at this; exact this)
            have hnl : ¬ ((H : Int) + 1) ≤ (H : Int) := by omega
            clear hg2
            go_wp2
            go_roundw
            case rel => exact ⟨r + 1, by omega, by omega, by go_num, by rw [← Nat.sub_sub]; exact Hg2.out, hbox, hbi⟩
            case measure => simp [intOf]; omega
      · obtain rfl : r = W + 1 := by omega
        rw [Nat.sub_self] at hg
        have HRv := hide (show R = none from hg.symm)
        have hnl : ¬ ((W : Int) + 1) ≤ (W : Int) := by omega
        clear hg hlt
        have HXc := hide (rgSet_box (r := zeroRg) hbox).cells
        have Hbb := hide (rgSet_below (b := w.heap.size) zeroRg hbr (Nat.le_refl _))
        obtain ⟨z0, z1, z2, z3, z4, z5, z6, z7⟩ := hbox.cells
        have f0 := frozen_block hbox 0
        have f1 := frozen_block hbox 1
        have f2 := frozen_block hbox 2
        have f3 := frozen_block hbox 3
        have f4 := frozen_block hbox 4
        have f5 := frozen_block hbox 5
        have f6 := frozen_block hbox 6
        have f7 := frozen_block hbox 7
        clear hbox hbr
        go_wp2
        obtain ⟨x0, x1, x2, x3, x4, x5, x6, x7⟩ := HXc.out
        have hbb := Hbb.out
        unfold rgSet zeroRg at x0 x1 x2 x3 x4 x5 x6 x7 hbb
        dsimp only at x0 x1 x2 x3 x4 x5 x6 x7 hbb
        rw [HF.out, HRv.out]
        exact bodyPost_ret (v := .tuple #[zeroRg.val, .bool false]) (by simp [results, Tryd.results20, go_sem, x0, x1, x2, x3, x4, x5, x6, x7, zeroRg, Rg.val]) rfl ⟨rfl, hbb⟩
end Go.Proofs.YtdgmjbcfopkibaaDoor
