/- Chapter 45: Lines. -/
import Derived.Test.YtmloijhdibicdaaDoorK8
import Derived.Test.YtmloijhdibicdaaDoorV11
namespace Go.Proofs.YtmloijhdibicdaaDoor
open Go.RowKit Go.Shelf

theorem textB_size0 {l : List Gl} (hl : l.length ≤ 140) (h : ∀ g ∈ l, g.text.size ≤ 40) : (textB l).size ≤ 100000 := by
  have := textB_size l (fun g hg => by have := h g hg; omega) l.length (Nat.le_refl _)
  rw [List.take_length] at this
  omega
theorem lines1P (w : World) (bv : Nat) (v : Vw) (A : Option Addr) (c : Nat) (hv : VwBox w bv v A c) (hrows : Rows2 w w.heap.size A v.rows) (htame : v.Tame) (y : Nat) (hy : y < v.rows.length) :
    Calls Tryd.prog 40 #[.int .i64 y, .pointer (some ⟨bv, 0, none⟩)] w fun e w' => e = .returned (.string (textB (rowOf v y))) ∧ Below w.heap.size w w' := by
  obtain ⟨bR, oR, rfl, hbR, A1, c1, d0, d1, d2⟩ := hrows.get1 hy
  obtain ⟨hl1, hl2⟩ := rowOf_tame htame hy
  rw [rowOf_get hy] at d0 d1 d2
  have HT := hide (textVP w A1 c1 (rowOf v y) d2 (by omega) (fun g hg => by have := hl2 g hg; omega))
  have k2 := hv.cells.2.2.1
  have hyI : (y : Int) < (v.rows.length : Int) := by omega
  have hy12 : y < 12 := by have := htame.1; omega
  obtain ⟨rl, hrl⟩ : ∃ rl, (rowOf v y).length = rl := ⟨_, rfl⟩
  rw [hrl] at HT d0
  clear hrl d1 d2 hl1 hl2 hy hv hrows htame
  go_enter Tryd.func40, Tryd.ntmps40
  go_wp2_with (go_at_call 22; refine HT.out.mono ?_; rintro e w1 ⟨rfl, hb1⟩)
  go_ret
  exact ⟨rfl, hb1⟩

/-- The ways through the tests of Lines. -/
def LinWays (v : Vw) (a b : Int) : Prop :=
  ((v.err != 0) = true ∧ linE v a b = v.err ∧ linT v a b = ⟨#[]⟩) ∨
  (v.err = 0 ∧ a < 0 ∧ linE v a b = 2 ∧ linT v a b = ⟨#[]⟩) ∨
  (v.err = 0 ∧ 0 ≤ a ∧ b < a ∧ linE v a b = 2 ∧ linT v a b = ⟨#[]⟩) ∨
  (v.err = 0 ∧ 0 ≤ a ∧ a ≤ b ∧ v.height < b ∧ linE v a b = 2 ∧ linT v a b = ⟨#[]⟩) ∨
  (v.err = 0 ∧ 0 ≤ a ∧ a ≤ b ∧ b ≤ v.height ∧ linE v a b = 0)
theorem linWays (v : Vw) (a b : Int) : LinWays v a b := by
  have hT : linE v a b ≠ 0 → linT v a b = ⟨#[]⟩ := fun h => by unfold linT; rw [if_neg h]
  have e : linE v a b = linE v a b := rfl
  conv at e => rhs; unfold linE
  unfold LinWays
  by_cases h0 : v.err = 0
  · right
    rw [if_neg (by simp [h0])] at e
    by_cases h1 : a < 0
    · rw [if_pos h1] at e; exact .inl ⟨h0, h1, e, hT (by omega)⟩
    · right
      rw [if_neg h1] at e
      by_cases h2 : b < a
      · rw [if_pos h2] at e; exact .inl ⟨h0, by omega, h2, e, hT (by omega)⟩
      · right
        rw [if_neg h2] at e
        by_cases h3 : v.height < b
        · rw [if_pos h3] at e; exact .inl ⟨h0, by omega, by omega, h3, e, hT (by omega)⟩
        · rw [if_neg h3] at e; exact .inr ⟨h0, by omega, by omega, by omega, e⟩
  · rw [if_pos h0] at e
    exact .inl ⟨by simpa using h0, e, hT (by omega)⟩

set_option maxRecDepth 100000 in
set_option maxHeartbeats 1000000 in
theorem linesP (w : World) (A : Option Addr) (c : Nat) (v : Vw) (a b : Int) (h : Rows2 w w.heap.size A v.rows) (ht : v.Tame) (hT : Tabs w) :
    Calls Tryd.prog 15 #[v.val A c, .int .i64 a, .int .i64 b] w fun e w' => e = .returned (.tuple #[.string (linT v a b), .int .i64 (linE v a b)]) ∧ Below w.heap.size w w' := by
  have hbox := (Below.refl w.heap.size w).alloc (Nat.le_refl _) (.cells #[.int .i64 v.width, .int .i64 v.height, .slice A v.rows.length c, .int .i64 v.row, .int .i64 v.col, .bool v.visible] 24)
  have hvb : VwBox _ w.heap.size v A c := block_new w (.cells #[.int .i64 v.width, .int .i64 v.height, .slice A v.rows.length c, .int .i64 v.row, .int .i64 v.col, .bool v.visible] 24)
  obtain ⟨W0, hW0⟩ : ∃ W0, W0 = w.alloc (.cells #[.int .i64 v.width, .int .i64 v.height, .slice A v.rows.length c, .int .i64 v.row, .int .i64 v.col, .bool v.visible] 24) := ⟨_, rfl⟩
  have hs0 : W0.heap.size = w.heap.size + 1 := by rw [hW0]; simp
  rw [← hW0] at hbox hvb
  have HC := hide (checkV W0 A c v ((h.below hbox).more hbox.size) ht (hT.below hbox))
  have HK := hide (fun w1 (hb1 : Below W0.heap.size W0 w1) => (hvb.below hb1 (by omega)).cells)
  have HL := hide (fun w1 (hb1 : Below W0.heap.size W0 w1) (y : Nat) (hy : y < v.rows.length) => lines1P w1 w.heap.size v A c (hvb.below hb1 (by omega)) ((h.below (hbox.trans (hb1.mono hbox.size))).more (hbox.trans (hb1.mono hbox.size)).size) ht y hy)
  have HSz := hide (fun y (hy : y < v.rows.length) => textB_size0 (rowOf_tame ht hy).1 (rowOf_tame ht hy).2)
  have hways := linWays v a b
  have Hok := hide (fun (h0 : v.err = 0) => (Vw.proper (show v.ok = true by unfold Vw.ok; rw [h0]; rfl)))
  obtain ⟨k0, k1, k2, k3, k4, k5⟩ := HK.out W0 (Below.refl _ _)
  have Hbox := hide hbox
  have Hs0 := hide hs0
  have h12 := ht.1
  clear h ht hT hbox hs0 hvb
  subst hW0
  unfold Vw.val at HC ⊢
  obtain ⟨E, hE⟩ : ∃ E, linE v a b = E := ⟨_, rfl⟩
  obtain ⟨T, hT⟩ : ∃ T, linT v a b = T := ⟨_, rfl⟩
  have Hdef := hide (show E = 0 → T = joinN (linesFrom (fun y => textB (rowOf v y)) a.toNat (b - a).toNat) by rw [← hE, ← hT]; intro h0; unfold linT; rw [if_pos h0])
  unfold LinWays at hways
  rw [hE, hT] at hways ⊢
  clear hE hT
  rcases hways with ⟨he, rfl, rfl⟩ | ⟨he, h1, rfl, rfl⟩ | ⟨he, h1, h2, rfl, rfl⟩ | ⟨he, h1, h2, h3, rfl, rfl⟩ | ⟨he, h1, h2, h3, rfl⟩
  · obtain ⟨V, hV⟩ : ∃ V, v.err = V := ⟨_, rfl⟩
    rw [hV] at he HC ⊢
    clear hV HL HK HSz Hok Hdef
    go_enter Tryd.func15, Tryd.ntmps15
    go_wp2_with (go_at_call 19; refine HC.out.mono ?_; rintro e w1 ⟨rfl, hb1⟩; have hbw := Hbox.out.trans (hb1.mono Hbox.out.size))
    go_ret2
    exact ⟨rfl, hbw⟩
  iterate 3
    · rw [he] at HC
      clear he HL HSz Hok Hdef
      go_enter Tryd.func15, Tryd.ntmps15
      go_wp2_with (go_at_call 19; refine HC.out.mono ?_; rintro e w1 ⟨rfl, hb1⟩; obtain ⟨x0, x1, x2, x3, x4, x5⟩ := HK.out w1 hb1; have hbw := Hbox.out.trans (hb1.mono Hbox.out.size))
      go_ret2
      exact ⟨rfl, hbw⟩
  · have Hpr := hide (Hok.out he)
    rw [he] at HC
    clear he Hok
    have hh2 := Hpr.out.h2
    have hlen := Hpr.out.len
    obtain ⟨a, rfl⟩ : ∃ a' : Nat, a = a' := ⟨a.toNat, by omega⟩
    have hdef := Hdef.out rfl
    rw [Int.toNat_natCast] at hdef
    obtain ⟨n, hn⟩ : ∃ n, (b - (a : Int)).toNat = n := ⟨_, rfl⟩
    rw [hn] at hdef
    have hqn : b = ((a + n : Nat) : Int) := by omega
    have HCol := hide (fun w3 (hb3 : Below _ _ w3) => collectP w3 a n b hqn 40 #[.pointer (some ⟨w.heap.size, 0, none⟩)]
      (enters_of Tryd.func40 (by kernel_rfl) rfl) (fun y => textB (rowOf v y)) (by omega) (fun k hk => by have := HSz.out (a + k) (by omega); omega)
      (fun k W hk hbW => by
        have := HL.out W (hb3.trans (hbW.mono hb3.size)) (a + k) (by omega)
        rw [Int.natCast_add] at this
        exact this))
    rw [← hdef] at HCol
    clear hdef hn Hdef HL HSz Hpr hlen hqn
    go_enter Tryd.func15, Tryd.ntmps15
    go_wp2_with (first
      | (go_at_call 19; refine HC.out.mono ?_; rintro e w1 ⟨rfl, hb1⟩; obtain ⟨x0, x1, x2, x3, x4, x5⟩ := HK.out w1 hb1)
      | (go_at_call 34; refine (HCol.out w1 hb1).mono ?_; rintro e w4 ⟨rfl, hb4⟩; have hb5 := hb1.trans (hb4.mono hb1.size))
      | fail)
    go_ret2
    exact ⟨rfl, Hbox.out.trans (hb5.mono Hbox.out.size)⟩
end Go.Proofs.YtmloijhdibicdaaDoor
