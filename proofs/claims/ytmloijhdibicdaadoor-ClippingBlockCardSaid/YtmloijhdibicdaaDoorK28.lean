/- Chapter 45: clipping.Block. -/
import Derived.Test.YtmloijhdibicdaaDoorK27
namespace Go.Proofs.YtmloijhdibicdaaDoor
open Go.RowKit Go.Shelf

/-- The ways through the tests of Block. -/
def BlkWays (v : Vw) (t l b r : Int) : Prop :=
  ((v.err != 0) = true ∧ blockE v t l b r = v.err ∧ blockT v t l b r = ⟨#[]⟩) ∨
  (v.err = 0 ∧ t < 0 ∧ blockE v t l b r = 2 ∧ blockT v t l b r = ⟨#[]⟩) ∨
  (v.err = 0 ∧ 0 ≤ t ∧ b ≤ t ∧ blockE v t l b r = 2 ∧ blockT v t l b r = ⟨#[]⟩) ∨
  (v.err = 0 ∧ 0 ≤ t ∧ t < b ∧ v.height < b ∧ blockE v t l b r = 2 ∧ blockT v t l b r = ⟨#[]⟩) ∨
  (v.err = 0 ∧ 0 ≤ t ∧ t < b ∧ b ≤ v.height ∧ l < 0 ∧ blockE v t l b r = 2 ∧ blockT v t l b r = ⟨#[]⟩) ∨
  (v.err = 0 ∧ 0 ≤ t ∧ t < b ∧ b ≤ v.height ∧ 0 ≤ l ∧ r ≤ l ∧ blockE v t l b r = 2 ∧ blockT v t l b r = ⟨#[]⟩) ∨
  (v.err = 0 ∧ 0 ≤ t ∧ t < b ∧ b ≤ v.height ∧ 0 ≤ l ∧ l < r ∧ v.width < r ∧ blockE v t l b r = 2 ∧ blockT v t l b r = ⟨#[]⟩) ∨
  (v.err = 0 ∧ 0 ≤ t ∧ t < b ∧ b ≤ v.height ∧ 0 ≤ l ∧ l < r ∧ r ≤ v.width ∧ blockE v t l b r = 0)
theorem blkWays (v : Vw) (t l b r : Int) : BlkWays v t l b r := by
  have hT : blockE v t l b r ≠ 0 → blockT v t l b r = ⟨#[]⟩ := fun h => by unfold blockT; rw [if_neg h]
  unfold BlkWays
  by_cases h0 : v.err = 0
  · right
    have bad : blockBad v t l b r = true → blockE v t l b r = 2 := fun h => by unfold blockE; rw [if_neg (by simp [h0]), if_pos h]
    have bad2 : (t < 0 ∨ b ≤ t ∨ v.height < b ∨ l < 0 ∨ r ≤ l ∨ v.width < r) → blockE v t l b r = 2 ∧ blockT v t l b r = ⟨#[]⟩ := fun h => by
      have e := bad (by unfold blockBad; simp; omega)
      exact ⟨e, hT (by omega)⟩
    by_cases h1 : t < 0
    · exact .inl ⟨h0, h1, bad2 (by omega)⟩
    · right
      by_cases h2 : b ≤ t
      · exact .inl ⟨h0, by omega, h2, bad2 (by omega)⟩
      · right
        by_cases h3 : v.height < b
        · exact .inl ⟨h0, by omega, by omega, h3, bad2 (by omega)⟩
        · right
          by_cases h4 : l < 0
          · exact .inl ⟨h0, by omega, by omega, by omega, h4, bad2 (by omega)⟩
          · right
            by_cases h5 : r ≤ l
            · exact .inl ⟨h0, by omega, by omega, by omega, by omega, h5, bad2 (by omega)⟩
            · right
              by_cases h6 : v.width < r
              · exact .inl ⟨h0, by omega, by omega, by omega, by omega, by omega, h6, bad2 (by omega)⟩
              · right
                exact ⟨h0, by omega, by omega, by omega, by omega, by omega, by omega, by unfold blockE; rw [if_neg (by simp [h0]), if_neg (by unfold blockBad; simp; omega)]⟩
  · have e : blockE v t l b r = v.err := by unfold blockE; rw [if_pos h0]
    exact .inl ⟨by simpa using h0, e, hT (by omega)⟩

theorem cutB_size (left right : Nat) {l : List Gl} (hl : l.length ≤ 140) (hz : ∀ g ∈ l, g.text.size ≤ 40) : (cutB left right l).size ≤ 1000000 := by
  have h1 := cutL_size left right 40 (by omega) l 0 hz
  have h2 : (Lib.trimRightB (cutL left right 0 l) 32).length ≤ (cutL left right 0 l).length := by
    unfold Lib.trimRightB
    rw [List.length_reverse]
    exact Nat.le_trans (List.dropWhile_sublist _).length_le (by simp)
  show (Lib.trimRightB (cutL left right 0 l) 32).toArray.size ≤ _
  simp
  omega

set_option maxRecDepth 100000 in
set_option maxHeartbeats 1000000 in
theorem blockP (w : World) (A : Option Addr) (c : Nat) (v : Vw) (r : Rg) (h : Rows2 w w.heap.size A v.rows) (ht : v.Tame) (hT : Tabs w) :
    Calls Tryd.prog 27 #[v.val A c, r.val] w fun e w' => e = .returned (.tuple #[.string (blockT v r.top r.left r.bottom r.right), .int .i64 (blockE v r.top r.left r.bottom r.right)]) ∧ Below w.heap.size w w' := by
  obtain ⟨W0, hW0, hbox, hs0, hvb, hrb⟩ := boxes2 w v A c r
  have HC := hide (checkV W0 A c v ((h.below hbox).more hbox.size) ht (hT.below hbox))
  have HK := hide (fun w1 (hb1 : Below W0.heap.size W0 w1) => And.intro (hvb.below hb1 (by omega)).cells (hrb.below hb1 (by omega)).cells)
  have HL := hide (fun w1 (hb1 : Below W0.heap.size W0 w1) (y left right : Nat) (hy : y < v.rows.length) (e1 : r.left = left) (e2 : r.right = right) => block1P w1 w.heap.size (w.heap.size + 1) v r A c (hvb.below hb1 (by omega)) (hrb.below hb1 (by omega)) ((h.below (hbox.trans (hb1.mono hbox.size))).more (hbox.trans (hb1.mono hbox.size)).size) ht y left right hy e1 e2)
  have HSz := hide (fun (left right y : Nat) (hy : y < v.rows.length) => cutB_size left right (rowOf_tame ht hy).1 (rowOf_tame ht hy).2)
  have hways := blkWays v r.top r.left r.bottom r.right
  have Hok := hide (fun (h0 : v.err = 0) => (Vw.proper (show v.ok = true by unfold Vw.ok; rw [h0]; rfl)))
  obtain ⟨⟨k0, k1, k2, k3, k4, k5⟩, p0, p1, p2, p3, p4, p5, p6, p7⟩ := HK.out W0 (Below.refl _ _)
  have Hbox := hide hbox
  have h12 := ht.1
  clear h ht hT hbox hs0 hvb hrb
  subst hW0
  obtain ⟨rk, ri, rp, rt, rl, rb, rr, rs⟩ := r
  unfold Vw.val at HC ⊢
  unfold Rg.val
  dsimp only at hways HL p0 p1 p2 p3 p4 p5 p6 p7 ⊢
  obtain ⟨E, hE⟩ : ∃ E, blockE v rt rl rb rr = E := ⟨_, rfl⟩
  obtain ⟨T, hTT⟩ : ∃ T, blockT v rt rl rb rr = T := ⟨_, rfl⟩
  have Hdef := hide (show E = 0 → T = joinN (linesFrom (fun y => cutB rl.toNat rr.toNat (rowOf v y)) rt.toNat (rb - rt).toNat) by rw [← hE, ← hTT]; intro h0; unfold blockT; rw [if_pos h0])
  unfold BlkWays at hways
  rw [hE, hTT] at hways ⊢
  clear hE hTT
  rcases hways with ⟨he, rfl, rfl⟩ | ⟨he, h1, rfl, rfl⟩ | ⟨he, h1, h2, rfl, rfl⟩ | ⟨he, h1, h2, h3, rfl, rfl⟩ | ⟨he, h1, h2, h3, h4, rfl, rfl⟩ | ⟨he, h1, h2, h3, h4, h5, rfl, rfl⟩ | ⟨he, h1, h2, h3, h4, h5, h6, rfl, rfl⟩ | ⟨he, h1, h2, h3, h4, h5, h6, rfl⟩
  · obtain ⟨V, hV⟩ : ∃ V, v.err = V := ⟨_, rfl⟩
    rw [hV] at he HC ⊢
    clear hV HL HK HSz Hok Hdef
    go_enter Tryd.func27, Tryd.ntmps27
    go_wp2_with (go_at_call 19; refine HC.out.mono ?_; rintro e w1 ⟨rfl, hb1⟩; have hbw := Hbox.out.trans (hb1.mono Hbox.out.size))
    go_ret2
    exact ⟨rfl, hbw⟩
  iterate 6
    · rw [he] at HC
      clear he HL HSz Hok Hdef
      go_enter Tryd.func27, Tryd.ntmps27
      go_wp2_with (go_at_call 19; refine HC.out.mono ?_; rintro e w1 ⟨rfl, hb1⟩; obtain ⟨⟨x0, x1, x2, x3, x4, x5⟩, y0, y1, y2, y3, y4, y5, y6, y7⟩ := HK.out w1 hb1; have hbw := Hbox.out.trans (hb1.mono Hbox.out.size))
      go_ret2
      exact ⟨rfl, hbw⟩
  · have Hpr := hide (Hok.out he)
    rw [he] at HC
    clear he Hok
    have hh2 := Hpr.out.h2
    have hlen := Hpr.out.len
    obtain ⟨a, rfl⟩ : ∃ a' : Nat, rt = a' := ⟨rt.toNat, by omega⟩
    obtain ⟨left, rfl⟩ : ∃ a' : Nat, rl = a' := ⟨rl.toNat, by omega⟩
    obtain ⟨right, rfl⟩ : ∃ a' : Nat, rr = a' := ⟨rr.toNat, by omega⟩
    have hdef := Hdef.out rfl
    rw [Int.toNat_natCast, Int.toNat_natCast, Int.toNat_natCast] at hdef
    obtain ⟨n, hn⟩ : ∃ n, (rb - (a : Int)).toNat = n := ⟨_, rfl⟩
    rw [hn] at hdef
    have hqn : rb = ((a + n : Nat) : Int) := by omega
    have HCol := hide (fun w3 (hb3 : Below _ _ w3) => collectP w3 a n rb hqn 61 #[.pointer (some ⟨w.heap.size, 0, none⟩), .pointer (some ⟨w.heap.size + 1, 0, none⟩)]
      (enters_of Tryd.func61 (by kernel_rfl) rfl) (fun y => cutB left right (rowOf v y)) (by omega) (fun k hk => HSz.out left right (a + k) (by omega))
      (fun k W hk hbW => by
        have := HL.out W (hb3.trans (hbW.mono hb3.size)) (a + k) left right (by omega) rfl rfl
        rw [Int.natCast_add] at this
        exact this))
    rw [← hdef] at HCol
    clear hdef hn Hdef HL HSz Hpr hlen hqn
    go_enter Tryd.func27, Tryd.ntmps27
    go_wp2_with (first
      | (go_at_call 19; refine HC.out.mono ?_; rintro e w1 ⟨rfl, hb1⟩; obtain ⟨⟨x0, x1, x2, x3, x4, x5⟩, y0, y1, y2, y3, y4, y5, y6, y7⟩ := HK.out w1 hb1)
      | (go_at_call 34; refine (HCol.out w1 hb1).mono ?_; rintro e w4 ⟨rfl, hb4⟩; have hb5 := hb1.trans (hb4.mono hb1.size))
      | fail)
    go_ret2
    exact ⟨rfl, Hbox.out.trans (hb5.mono Hbox.out.size)⟩
end Go.Proofs.YtmloijhdibicdaaDoor
