/- Chapter 45: slices.AppendSeq and slices.Collect of the glyphs of cells. -/
import Derived.Test.YtdmnnjpbndngeaaDoorQ9
import Derived.Test.YtdmnnjpbndngeaaDoorK15
namespace Go.Proofs.YtdmnnjpbndngeaaDoor
open Go.RowKit Go.Shelf
attribute [local go_sem] Oper.semAt_some

/-- A glyph in a variable. -/
def GlBox (w : World) (b : Nat) (g : Gl) : Prop := w.heap[b]? = some (.cells #[.string g.text, .bool g.wide, .int .i64 g.style] 73 (0, 0))

theorem glyphs_stops (n : Nat) (hn : 1 ≤ n) (bl b off N c n0 bo : Nat) (A : Option Addr) (hA : 0 < N → A = some ⟨b, off, none⟩) (L : List Ce) (hN : L.length = N) (hN1 : N ≤ 1000) (w : World)
    (hl : bl < n0 ∧ bl ≠ bo) (hb : b < n0 ∧ b ≠ bo) (hcl : w.cell? ⟨bl, 0, none⟩ = some (.slice A N c)) (hg : ∀ (k : Nat) g, L[k]? = some g → CeAt w b (off + k * 5) g) :
    SeqStopsK Fence.wide n Tryd.prog 42 #[.pointer (some ⟨bl, 0, none⟩)] encG (KpO n0 bo) (fun ys => ys = glyCs L) (fun _ => True) N w := fun l J Jx W1 hW1 hJ _ hY h0 => by
  have hk : KpO n0 bo w W1 := KpO.of_below hW1
  refine (glyphs1_in n hn l bl b off N c n0 bo A hA L hN hN1 J Jx W1 hJ hY hb (hk _ _ hl.1 hl.2 hcl) (fun k g h => ⟨hk _ _ hb.1 hb.2 (hg k g h).1, hk _ _ hb.1 hb.2 (hg k g h).2.1, hk _ _ hb.1 hb.2 (hg k g h).2.2.1, hk _ _ hb.1 hb.2 (hg k g h).2.2.2.1, hk _ _ hb.1 hb.2 (hg k g h).2.2.2.2⟩) h0).mono ?_
  rintro e W' ⟨he, hj | ⟨pre, hj⟩⟩
  · exact ⟨he, .inl ⟨_, rfl, hj⟩⟩
  · exact ⟨he, .inr ⟨pre, trivial, hj⟩⟩

set_option maxRecDepth 100000 in
set_option maxHeartbeats 2000000 in
theorem appendSeqP (w : World) (bl b off N c : Nat) (A : Option Addr) (hA : 0 < N → A = some ⟨b, off, none⟩) (L : List Ce) (hN : L.length = N) (hN1 : N ≤ 1000) (hb : b < w.heap.size)
    (hcl : w.cell? ⟨bl, 0, none⟩ = some (.slice A N c)) (hg : ∀ (k : Nat) g, L[k]? = some g → CeAt w b (off + k * 5) g) :
    Calls Tryd.prog 41 #[.slice none 0 0, .func (.func 42) #[] #[.pointer (some ⟨bl, 0, none⟩)]] w fun e w' => ∃ v, e = .returned v ∧ w'.ownsRow w.heap.size 73 3 v (glyCs L).length ((glyCs L).flatMap Gl.enc) ∧ Below w.heap.size w w' := by
  have hbl : bl < w.heap.size := World.block_lt_of_cell? w ⟨bl, 0, none⟩ hcl
  refine (callsIn_wide (n := 9)).1 ?_
  refine callsIn_of_wp_marks Tryd.func41 rfl trivial ?_ rfl
  simp only [Tryd.ntmps41, List.size_toArray, List.length_cons, List.length_nil, Nat.reduceAdd, Nat.reduceSub, Array.replicate_succ, Array.replicate_zero, List.push_toArray, List.append_toArray, List.nil_append, List.cons_append]
  gi_wp2
  obtain ⟨W0, hW0⟩ : ∃ W0, w.alloc (.cells #[.slice none 0 0] 61) = W0 := ⟨_, rfl⟩
  have e1 : Boxed W0 w.heap.size 61 (.slice none 0 0) := by rw [← hW0]; exact Boxed.new w _ _
  have hs1 : W0.heap.size = w.heap.size + 1 := by rw [← hW0]; simp
  have hB1 : Below w.heap.size w W0 := by rw [← hW0]; exact (Below.refl _ w).alloc (Nat.le_refl _) _
  rw [hW0]
  have hc0 := (hB1.cell (p := ⟨bl, 0, none⟩) hbl).trans hcl
  have hg0 : ∀ (k : Nat) g, L[k]? = some g → CeAt W0 b (off + k * 5) g := fun k g hk =>
    ⟨(hB1.cell (p := ⟨b, _, none⟩) hb).trans (hg k g hk).1, (hB1.cell (p := ⟨b, _, none⟩) hb).trans (hg k g hk).2.1, (hB1.cell (p := ⟨b, _, none⟩) hb).trans (hg k g hk).2.2.1, (hB1.cell (p := ⟨b, _, none⟩) hb).trans (hg k g hk).2.2.2.1, (hB1.cell (p := ⟨b, _, none⟩) hb).trans (hg k g hk).2.2.2.2⟩
  have q1 : w.heap.size < W0.heap.size := by omega
  clear hW0 hs1
  refine wpIn_rangeFunc_ownH rfl (by omega) (gf := 42) (lb := #[.pointer (some ⟨bl, 0, none⟩)]) rfl trivial (enters_of Tryd.func42 (by kernel_rfl) rfl)
    (glyphs_stops _ (by omega) bl b off N c W0.heap.size w.heap.size A hA L hN hN1 W0 (by omega) (by omega) hc0 hg0) KpO.t (fun W l o o' _ h2 h3 _ => KpO.b W l o o' h2 h3) (Below.refl _ _) (fun _ => rfl)
    (fun pre W' => (∃ vv, Boxed W' w.heap.size 61 vv ∧ W'.ownsRow W0.heap.size 73 3 vv pre.length (pre.flatMap Gl.enc) ∧ True) ∧ Below w.heap.size W0 W')
    (fun _ _ _ => False)
    (OwnFrom.and (Own.from (holdsRow_own W0.heap.size w.heap.size 61 73 3 (fun (pre : List Gl) => pre.length) (fun pre => pre.flatMap Gl.enc) (fun _ _ => True)) _) (ownFrom_below (by omega) (by omega)))
    (fun _ _ _ _ _ hs _ _ => hs)
    ⟨⟨_, e1, World.ownsRow_nil _ _ _ _, trivial⟩, Below.refl _ _⟩
    (fun x a' W => ∃ Bx, W0.heap.size ≤ Bx ∧ GlBox W Bx x ∧ a' = { tmps := #[.slice none 0 0, .func (.func 42) #[] #[.pointer (some ⟨bl, 0, none⟩)], .pointer (some ⟨w.heap.size, 0, none⟩), undef, .slice none 0 0, .pointer (some ⟨Bx, 0, none⟩), .func (.func 42) #[] #[.pointer (some ⟨bl, 0, none⟩)], .agg #[.string x.text, .bool x.wide, .int .i64 x.style], undef, undef, undef, undef, undef], defers := [] })
    (fun x a' _ W W' row ⟨Bx, h1, h2, h3⟩ hg hr => ⟨Bx, h1, (hg.block Bx (block_lt h2) (fun e => by
      obtain ⟨-, o, ho, hc⟩ := hr Bx e.symm
      rw [h2] at ho; cases ho; cases hc)).trans h2, h3⟩) ?assign ?body ?done ?stop
  case assign =>
    rintro l pre x W K ⟨⟨vv, hbx, hown, -⟩, hB⟩ hK
    unfold encG
    simp only [List.zip_toArray, List.zip_cons_cons, List.zip_nil_right, List.foldl_toArray', List.foldl_cons, List.foldl_nil, List.setIfInBounds_toArray, List.set_cons_zero, List.set_cons_succ]
    gi_wp2
    exact hK _ _ ((KeepsOthers.alloc _ _).from _) (KpO.of_below ((Below.refl _ W).alloc (Nat.le_refl _) _)) ⟨⟨vv, hbx.alloc _, hown.alloc _, trivial⟩, hB.alloc (by have := hB.size; omega) _⟩ ⟨W.heap.size, hB.size, block_new _ _, rfl⟩
  case body =>
    rintro l pre x a' W1 hl2 ⟨r, hr⟩ ⟨⟨vv, hbx, hown, -⟩, hB⟩ ⟨Bx, hBx, bX, rfl⟩ hlt
    obtain ⟨tx, wd, st⟩ := x
    have hms := hB.size
    have c5 := hbx.cell
    have f5 := hbx.frozen
    obtain ⟨s0, s1, s2⟩ := cells3 bX
    dsimp only at s0 s1 s2
    obtain ⟨pl, hpl⟩ : ∃ pl, pre.length = pl := ⟨_, rfl⟩
    have Hpl := hide hpl
    rw [hpl] at hown
    have hpl1 : pl ≤ 1000 := by omega
    clear hpl hr hlt
    gi_wp2_with (first
      | (gi_at_builtin; refine wpListIn_app W1 (.tmp 8) (.tmp 10) 61 rfl rfl el_glyph W0.heap.size vv pl _ (by rfl) hown (by omega) _ 1 1 _ _ (by rfl) rfl rfl (by simp [Value.oneCell']) (by omega) ?_; intro v6 w6 hown6 hg6; obtain ⟨A6, cc6, rfl⟩ := own_form hown6; have hbx6 : Boxed w6 w.heap.size 61 vv := hbx.kept hg6 (hbx.not_row (by decide) hown); have c6 := hbx6.cell; have f6 := hbx6.frozen)
      | fail)
    have hB6 : Below w.heap.size W0 w6 := hB.grown hg6 (by omega) (fun k hk => Nat.le_trans (by omega) (hown.lt k hk).1)
    have hown7 : (w6.setCell ⟨w.heap.size, 0, none⟩ (.slice A6 (pl + 1) cc6)).ownsRow W0.heap.size 73 3 (.slice A6 (pl + 1) cc6) (pre ++ [(⟨tx, wd, st⟩ : Gl)]).length ((pre ++ [(⟨tx, wd, st⟩ : Gl)]).flatMap Gl.enc) :=
      own_eq (ownsRow_setCell_below hown6 (a := ⟨w.heap.size, 0, none⟩) (show w.heap.size < W0.heap.size by omega) _) (by rw [List.length_append, Hpl.out]; rfl) (by rw [List.flatMap_append]; rfl)
    refine ⟨((KeepsOthers.of_grownBy hg6 (own_cells hown)).trans (KeepsOthers.setCell _ _ _)).from _, ?_, (by first | exact ⟨_, hbx6.set _, hown7, trivial⟩ | exact ⟨_, hbx6.set _, hown7⟩), hB6.setCell (p := ⟨w.heap.size, 0, none⟩) (Nat.le_refl _) _⟩
    intro p v h1 h2 h3
    have h5 := (World.cell?_of_block (hg6.block p.block (World.block_lt_of_cell? W1 p h3) (fun e => by have := (hown.lt _ e.symm).1; omega))).trans h3
    have hne : (⟨w.heap.size, 0, none⟩ : Addr) ≠ p := fun e => h2 (by rw [← e])
    exact (World.cell?_setCell_other w6 _ _ _ hne).trans h5
  case done =>
    rintro D ys W1 hD hys ⟨⟨vv, hbx, hown, -⟩, hB⟩ hK
    have c5 := hbx.cell
    gi_wp2
    refine ⟨by simp, .inl ⟨_, _, rfl, run_takeDeferred hK, ?_⟩⟩
    refine ⟨_, results_tmp rfl _ _ _, vv, rfl, ?_, (hB1.trans hB).trans (belowK_b (w := w) (Nat.le_refl _) W1 D _ _ (by omega) hK rfl rfl)⟩
    rw [← hys]
    exact ownsRow_putObj (own_more hown (by omega)) _ hK rfl
  case stop =>
    rintro D c pre W _ _ h _
    exact h.elim

theorem collectGP (w : World) (bl b off N c : Nat) (A : Option Addr) (hA : 0 < N → A = some ⟨b, off, none⟩) (L : List Ce) (hN : L.length = N) (hN1 : N ≤ 1000) (hb : b < w.heap.size)
    (hcl : w.cell? ⟨bl, 0, none⟩ = some (.slice A N c)) (hg : ∀ (k : Nat) g, L[k]? = some g → CeAt w b (off + k * 5) g) :
    Calls Tryd.prog 23 #[.func (.func 42) #[] #[.pointer (some ⟨bl, 0, none⟩)]] w fun e w' => ∃ v, e = .returned v ∧ w'.ownsRow w.heap.size 73 3 v (glyCs L).length ((glyCs L).flatMap Gl.enc) ∧ Below w.heap.size w w' := by
  have HAp := hide (appendSeqP w bl b off N c A hA L hN hN1 hb hcl hg)
  clear hg hcl
  go_enter Tryd.func23, Tryd.ntmps23
  go_wp2_with (go_at_call 41; refine HAp.out.mono ?_; rintro e w1 ⟨v, rfl, hown, hb1⟩)
  go_ret
  exact ⟨_, rfl, hown, hb1⟩
end Go.Proofs.YtdmnnjpbndngeaaDoor
