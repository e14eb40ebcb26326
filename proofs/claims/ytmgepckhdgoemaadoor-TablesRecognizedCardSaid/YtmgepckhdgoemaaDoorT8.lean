/- Tables: tables.parts, count. -/
import Derived.Test.YtmgepckhdgoemaaDoorT7
namespace Go.Proofs.YtmgepckhdgoemaaDoor
open Go.RowKit Go.Shelf
attribute [local go_sem] Oper.semAt_some

theorem parts_in (F : Fence) (n : Nat) (hF : F.fn 51) (hro : F.round = none) (a : Option Addr) (len cap : Nat) (w : World) :
    CallsIn F n Tryd.prog 51 #[.slice a len cap] w fun e w' => e = .returned (.func (.func 68) #[] #[.pointer (some ⟨w.heap.size, 0, none⟩)]) ∧ w' = w.alloc (.cells #[.slice a len cap] 85) := by
  refine callsIn_of_wp Tryd.func51 rfl hF ?_ hro
  simp only [Tryd.ntmps51, List.size_toArray, List.length_cons, List.length_nil, Nat.reduceAdd, Nat.reduceSub, Array.replicate_succ, Array.replicate_zero, List.push_toArray, List.append_toArray, List.nil_append, List.cons_append]
  gi_wp2
  go_ret
  exact ⟨rfl, rfl⟩

theorem parts_stops (F : Fence) (n : Nat) (hF : F.fn 68) (hro : F.round = none) (hn : 1 ≤ n) (Bs g W cap : Nat) (f : Nat → Bool) (hW : W ≤ 1000) (w : World) (hg : g < w.heap.size) (hBs : Bs < w.heap.size)
    (hb : w.cell? ⟨Bs, 0, none⟩ = some (.slice (some ⟨g, 0, none⟩) W cap)) (hc : ∀ c, c < W → w.cell? ⟨g, c, none⟩ = some (.bool (f c))) :
    SeqStopsK F n Tryd.prog 68 #[.pointer (some ⟨Bs, 0, none⟩)] encP (KpG g W) (fun ys => ys = partsTo f W) (fun pre => pre <+: partsTo f W) (W + 1) w := fun l J Jx W1 hW1 _ _ hY h0 => by
  have hb' := (hW1.cell (p := ⟨Bs, 0, none⟩) hBs).trans hb
  refine (parts1_in F n hF hro hn l Bs g W cap f hW J Jx hY W1 hb' (fun c h => (hW1.cell (p := ⟨g, c, none⟩) hg).trans (hc c h)) h0).mono ?_
  rintro e W' ⟨he, hj | ⟨pre, hp, hj⟩⟩
  · exact ⟨he, .inl ⟨_, rfl, hj⟩⟩
  · exact ⟨he, .inr ⟨_, hp, hj⟩⟩

theorem box_new (w : World) (v : Value) (t : TypeId) : (w.alloc (.cells #[v] t)).cell? ⟨w.heap.size, 0, none⟩ = some v ∧ (w.alloc (.cells #[v] t)).frozen? ⟨w.heap.size, 0, none⟩ = false :=
  ⟨cell_block (block_new _ _) 0, frozen_block (block_new _ _) 0⟩
theorem box_alloc {w : World} {b : Nat} {v : Value} (o : Obj) (h : w.cell? ⟨b, 0, none⟩ = some v ∧ w.frozen? ⟨b, 0, none⟩ = false) : (w.alloc o).cell? ⟨b, 0, none⟩ = some v ∧ (w.alloc o).frozen? ⟨b, 0, none⟩ = false := by
  have hb : b < w.heap.size := World.block_lt_of_cell? w ⟨b, 0, none⟩ h.1
  have := (Below.refl w.heap.size w).alloc (Nat.le_refl _) o
  exact ⟨(this.cell (p := ⟨b, 0, none⟩) hb).trans h.1, (this.frozen (p := ⟨b, 0, none⟩) hb).trans h.2⟩

set_option maxRecDepth 100000 in
set_option maxHeartbeats 2000000 in
theorem countP (w : World) (g W cap : Nat) (f : Nat → Bool) (hW : W ≤ 1000) (hg : g < w.heap.size) (hc : ∀ c, c < W → w.cell? ⟨g, c, none⟩ = some (.bool (f c))) :
    Calls Tryd.prog 49 #[.slice (some ⟨g, 0, none⟩) W cap] w fun e w' => e = .returned (.int .i64 (partsTo f W).length) ∧ Below w.heap.size w w' := by
  refine (callsIn_wide (n := 5)).1 ?_
  refine callsIn_of_wp_marks Tryd.func49 rfl trivial ?_ rfl
  simp only [Tryd.ntmps49, List.size_toArray, List.length_cons, List.length_nil, Nat.reduceAdd, Nat.reduceSub, Array.replicate_succ, Array.replicate_zero, List.push_toArray, List.append_toArray, List.nil_append, List.cons_append]
  gi_wp2_with (refine ⟨trivial, ?_⟩; gi_at_call 51; refine (parts_in Fence.wide _ trivial rfl _ _ _ _).mono ?_; rintro e w' ⟨rfl, rfl⟩)
  have hs := box_new w (.int .i64 0) 3
  have hb := box_new (w.alloc (.cells #[.int .i64 0] 3)) (.slice (some ⟨g, 0, none⟩) W cap) 85
  rw [World.size_alloc] at hb
  have hB0 : Below w.heap.size w ((w.alloc (.cells #[.int .i64 0] 3)).alloc (.cells #[.slice (some ⟨g, 0, none⟩) W cap] 85)) := ((Below.refl _ w).alloc (Nat.le_refl _) _).alloc (by simp) _
  refine wpIn_rangeFunc_ownF rfl (by omega) (gf := 68) (lb := #[.pointer (some ⟨w.heap.size + 1, 0, none⟩)]) rfl trivial (enters_of Tryd.func68 (by kernel_rfl) rfl)
    (parts_stops Fence.wide _ trivial rfl (by omega) (w.heap.size + 1) g W cap f hW _ (by simp; omega) (by simp) hb.1 (fun c h => (hB0.cell (p := ⟨g, c, none⟩) hg).trans (hc c h))) KpG.t (KpG.b (by simp; omega)) (Below.refl _ _) (fun _ => rfl)
    (fun pre W => (W.cell? ⟨w.heap.size, 0, none⟩ = some (.int .i64 pre.length) ∧ W.frozen? ⟨w.heap.size, 0, none⟩ = false) ∧ Below w.heap.size w W)
    (fun _ _ _ => False)
    (OwnFrom.and (Own.from (fun s A B row hs hg hr => ⟨cell_kept hs.1 hg hr, (frozen_kept hs.1 hg hr).trans hs.2⟩) _) (ownFrom_below (Nat.le_refl _) (by simp; omega)))
    (fun _ _ _ _ _ hs _ _ => hs)
    ⟨box_alloc _ hs, hB0⟩
    (fun x => { tmps := #[.slice (some ⟨g, 0, none⟩) W cap, undef, .int .i64 0, .pointer (some ⟨w.heap.size, 0, none⟩), .slice (some ⟨g, 0, none⟩) W cap, .func (.func 68) #[] #[.pointer (some ⟨w.heap.size + 1, 0, none⟩)], .int .i64 x.1, .int .i64 x.2, undef, undef, undef], defers := [] }) ?assign ?body ?done ?stop
  case assign =>
    intro l x W1 K hK
    unfold encP
    gi_wp2
    simpa using hK
  case body =>
    rintro l pre x W1 ⟨⟨hc, hf⟩, hB⟩ hlt
    gi_wp2
    exact ⟨KeepsOthers.setCell _ _ _, KpG.of_below ((Below.refl w.heap.size W1).setCell (p := ⟨w.heap.size, 0, none⟩) (Nat.le_refl _) _) hg, ⟨by rw [List.length_append]; exact World.cell?_setCell_same' _ _ _ (by rw [hc]; rfl), by rw [World.frozen?_setCell]; exact hf⟩, hB.setCell (p := ⟨w.heap.size, 0, none⟩) (Nat.le_refl _) _⟩
  case done =>
    rintro D ys W1 hD rfl ⟨⟨hc, _⟩, hB⟩ hK
    gi_wp2
    refine ⟨by simp, .inl ⟨_, _, rfl, run_takeDeferred hK, ?_⟩⟩
    exact ⟨_, results_tmp rfl _ _ _, rfl, hB.trans (belowK_b (w := w) (Nat.le_refl _) W1 D _ _ (by simp at hD; omega) hK rfl rfl)⟩
  case stop =>
    rintro D c pre W _ _ h _
    exact h.elim
end Go.Proofs.YtmgepckhdgoemaaDoor
