/- The walk of the law TablesFind. -/
import Derived.Test.YtbbhkibbkecojaaDoorL3
import Derived.Test.YtbbhkibbkecojaaDoorT18
import Derived.Test.YtbbhkibbkecojaaDoorT19
namespace Go.Proofs.YtbbhkibbkecojaaDoor
open Go.RowKit

theorem findF_len (rows : List (List Gl)) (W : Nat) : ∀ f t, (findF rows W f t).length ≤ f
  | 0, _ => by simp [findF]
  | f + 1, t => by
    unfold findF
    have h1 := findF_len rows W f (t + 1)
    have h2 := findF_len rows W f (endTo rows W t rows.length)
    repeat' split
    all_goals simp; try omega
theorem findT_len (v : Vw) : (findT v).length ≤ v.rows.length := by
  unfold findT
  split
  · exact findF_len _ _ _ _
  · simp
theorem gutT_len {v : Vw} {t b : Int} : (gutT v t b).length ≤ 200 := by
  unfold gutT
  split
  · rename_i h
    obtain ⟨-, W, T, B, e1, e2, e3, -⟩ := valid24_facts h
    rw [e1]; simp [bits]; omega
  · simp

set_option maxHeartbeats 1000000 in
theorem gut24P (w : World) (A : Option Addr) (c : Nat) (v : Vw) (t b : Int) (h : Rows2 w w.heap.size A v.rows) (ht : v.Tame) (hc : v.rows.length ≤ c) :
    Calls Tryd.prog 23 #[v.val A c, .int .i64 t, .int .i64 b] w fun e w' => ∃ vv, e = .returned vv ∧ w'.ownsRow w.heap.size 4 1 vv (gutT v t b).length ((gutT v t b).map .bool) ∧ Below w.heap.size w w' := by
  cases hv : valid24 v t b with
  | false =>
    have hg : gutT v t b = [] := by unfold gutT; rw [hv]; rfl
    rw [hg]
    refine (gutters24_no w A c v t b h ht hv).mono ?_
    rintro e w' ⟨rfl, hb⟩
    exact ⟨_, rfl, World.ownsRow_nil _ _ _ _, hb⟩
  | true =>
    obtain ⟨hok, W, T, B, e1, e2, e3, e4, e5, e6, e7, e8⟩ := valid24_facts hv
    have hg : gutT v t b = bits W (gut v.rows T B) := by unfold gutT; rw [hv, if_pos rfl, e1, e4, e5]; simp
    rw [hg]
    subst e4 e5
    refine (gutters24_yes w A c v W T B h ht hv e1 hc).mono ?_
    rintro e w' ⟨g, cap, rfl, hown, hb⟩
    exact ⟨_, rfl, own_eq hown (by simp [bits]) rfl, hb⟩

set_option maxRecDepth 100000 in
set_option maxHeartbeats 4000000 in
theorem findLawP (w : World) (A : Option Addr) (c : Nat) (v : Vw) (t b : Int) (h : Rows2 w w.heap.size A v.rows) (hT : Tabs w) (hc : v.rows.length ≤ c) :
    Calls Tryd.prog 6 #[v.val A c, .int .i64 t, .int .i64 b] w fun e w' => e = .returned (.bool true) ∧ Below w.heap.size w w' := by
  have hbox := (Below.refl w.heap.size w).alloc (Nat.le_refl _) (.cells #[.int .i64 v.width, .int .i64 v.height, .slice A v.rows.length c, .int .i64 v.row, .int .i64 v.col, .bool v.visible] 24)
  have hvb : VwBox _ w.heap.size v A c := block_new w (.cells #[.int .i64 v.width, .int .i64 v.height, .slice A v.rows.length c, .int .i64 v.row, .int .i64 v.col, .bool v.visible] 24)
  have HGr := hide (greatP _ A c v ((h.below hbox).more hbox.size))
  have HA := hide (fun w1 (hb1 : Below w.heap.size w w1) => awakeP w1 (hT.below hb1))
  cases hg : v.great with
  | true =>
    rw [hg] at HGr
    clear h hT hvb hg
    unfold Vw.val at HGr ⊢
    go_enter Tryd.func6, Tryd.ntmps6
    go_wp2_with (first
      | (go_at_call 10; refine HGr.out.mono ?_; rintro e w1 ⟨rfl, hb1⟩; have hbw := hbox.trans (hb1.mono (by simp)))
      | (go_at_call 11; refine (HA.out _ hbw).mono ?_; rintro e w2 ⟨rfl, hb2⟩)
      | fail)
    go_ret
    exact ⟨rfl, hbw.trans (hb2.mono hbw.size)⟩
  | false =>
    have htame := Vw.tame hg
    rw [hg] at HGr
    have HF := hide (fun (w1 : World) (hb1 : Below w.heap.size w w1) => findP w1 A c v ((h.below hb1).more hb1.size) htame (hT.below hb1) hc)
    have HF2 := hide (fun (w1 : World) (hb1 : Below w.heap.size w w1) => find24P w1 A c v ((h.below hb1).more hb1.size) htame hc)
    have HG := hide (fun (w1 : World) (hb1 : Below w.heap.size w w1) => gutP w1 A c v t b ((h.below hb1).more hb1.size) htame (hT.below hb1) hc)
    have HG2 := hide (fun (w1 : World) (hb1 : Below w.heap.size w w1) => gut24P w1 A c v t b ((h.below hb1).more hb1.size) htame hc)
    have hfl := findT_len v
    have hgl := gutT_len (v := v) (t := t) (b := b)
    have hl12 := htame.1
    obtain ⟨fs, hfs⟩ : ∃ fs, findT v = fs := ⟨_, rfl⟩
    obtain ⟨gs, hgs⟩ : ∃ gs, gutT v t b = gs := ⟨_, rfl⟩
    rw [hfs] at hfl
    rw [hgs] at hgl
    simp only [hfs] at HF HF2
    simp only [hgs] at HG HG2
    clear h hT hg htame hfs hgs
    obtain ⟨k0, k1, k2, k3, k4, k5⟩ := hvb.cells
    unfold Vw.val at HGr HF HF2 HG HG2 ⊢
    go_enter Tryd.func6, Tryd.ntmps6
    go_wp2_with (first
      | (go_at_call 10; refine HGr.out.mono ?_; rintro e w1 ⟨rfl, hb1⟩)
      | fail)
    have hvb1 := hvb.below hb1 (by simp)
    have hbw1 := hbox.trans (hb1.mono (by simp))
    have hwl : w.heap.size < w1.heap.size := by have := hb1.size; simp at this; omega
    have hbd := (Below.refl w1.heap.size w1).drew
    have HS := hide (fun (W2 : World) (hb : Below w1.heap.size w1 W2) => (hvb1.below hb hwl).cells)
    have HB := hide (fun (W2 : World) (hb : Below w1.heap.size w1 W2) => hbw1.trans (hb.mono (by omega)))
    obtain ⟨x0, x1, x2, x3, x4, x5⟩ := hvb1.cells
    clear k0 k1 k2 k3 k4 k5 hvb hbox hb1 hvb1
    go_region_held3 (fun W2 => W2.cell? ⟨w.heap.size, 0, none⟩ = some (.int .i64 v.width) ∧ W2.cell? ⟨w.heap.size, 1, none⟩ = some (.int .i64 v.height) ∧ W2.cell? ⟨w.heap.size, 2, none⟩ = some (.slice A v.rows.length c) ∧ W2.cell? ⟨w.heap.size, 3, none⟩ = some (.int .i64 v.row) ∧ W2.cell? ⟨w.heap.size, 4, none⟩ = some (.int .i64 v.col) ∧ W2.cell? ⟨w.heap.size, 5, none⟩ = some (.bool v.visible))
      (first | exact HS.out _ hb8 | exact HS.out _ hb7 | exact HS.out _ hb6 | exact HS.out _ hb5 | exact HS.out _ hb4 | exact HS.out _ hb3 | exact HS.out _ hb2 | exact HS.out _ hbd)
      (first
        | (go_at_call 18; refine (HF.out _ (HB.out _ hbd)).mono ?_; rintro e w2 ⟨vv, rfl, hown2, hbF⟩; have hb2 := hbd.trans (hbF.mono hbd.size))
        | (go_at_call 20; refine (HF2.out _ (HB.out _ hb2)).mono ?_; rintro e w3 ⟨vv2, rfl, hown3, hbG⟩; have hb3 := hb2.trans (hbG.mono hb2.size); have hown2b := own_below hown2 hbG (Nat.le_refl _))
        | (go_at_call 14; refine (same24P w3 _ _ vv vv2 fs hown2b hown3 (by omega)).mono ?_; rintro e w4 ⟨rfl, hbH⟩; have hb4 := hb3.trans (hbH.mono hb3.size))
        | (go_at_call 22; refine (HG.out _ (HB.out _ hb4)).mono ?_; rintro e w5 ⟨vg, rfl, hown5, hbI⟩; have hb5 := hb4.trans (hbI.mono hb4.size))
        | (go_at_call 23; refine (HG2.out _ (HB.out _ hb5)).mono ?_; rintro e w6 ⟨vg2, rfl, hown6, hbJ⟩; have hb6 := hb5.trans (hbJ.mono hb5.size); have hown5b := own_below hown5 hbJ (Nat.le_refl _))
        | (go_at_call 21; refine (sameP w6 _ _ vg vg2 gs hown5b hown6 (by omega)).mono ?_; rintro e w7 ⟨rfl, hbK⟩; have hb7 := hb6.trans (hbK.mono hb6.size))
        | (go_at_call 11; refine (HA.out _ (HB.out _ hb7)).mono ?_; rintro e w8 ⟨rfl, hbL⟩; have hb8 := hb7.trans (hbL.mono hb7.size))
        | fail)
    all_goals
      go_wp2
      go_ret
      exact ⟨rfl, HB.out _ hb8⟩
end Go.Proofs.YtbbhkibbkecojaaDoor
