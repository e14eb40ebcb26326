/- Chapter 45: the references of Between and Lines. -/
import Derived.Test.YtmloijhdibicdaaDoorK9
namespace Go.Proofs.YtmloijhdibicdaaDoor
open Go.RowKit Go.Shelf

set_option maxRecDepth 100000 in
set_option maxHeartbeats 1000000 in
theorem index45P (w : World) (A : Option Addr) (c : Nat) (v : Vw) (y : Nat) (col : Int) (h : Rows2 w w.heap.size A v.rows) (ht : v.Tame) (hy : y < v.rows.length) (h0 : 0 ≤ col) (h1 : col ≤ 1000) :
    Calls Tryd.prog 39 #[v.val A c, .int .i64 y, .int .i64 col] w fun e w' => e = .returned (.int .i64 (cidx (rowOf v y) col)) ∧ Below w.heap.size w w' := by
  have hbox := (Below.refl w.heap.size w).alloc (Nat.le_refl _) (.cells #[.int .i64 v.width, .int .i64 v.height, .slice A v.rows.length c, .int .i64 v.row, .int .i64 v.col, .bool v.visible] 24)
  obtain ⟨bR, oR, rfl, hbR, A1, c1, d0, d1, d2⟩ := h.get1 hy
  obtain ⟨hl1, -⟩ := rowOf_tame ht hy
  rw [rowOf_get hy] at d0 d1 d2
  have d0' := (hbox.cell (p := ⟨bR, oR + y, none⟩) hbR).trans d0
  have HI := hide (index15P (w.alloc (.cells #[.int .i64 v.width, .int .i64 v.height, .slice (some ⟨bR, oR, none⟩) v.rows.length c, .int .i64 v.row, .int .i64 v.col, .bool v.visible] 24)) A1 c1 (rowOf v y) col ((d2.below (GlAt.stays _) hbox).more hbox.size) (by omega) d1 (by omega) (by omega))
  have hi0 := idx_nonneg (rowOf v y) col h0
  rw [idx_index h0] at HI
  have Hc := hide (show cidx (rowOf v y) col = min (idx (rowOf v y) col).toNat (rowOf v y).length from rfl)
  obtain ⟨I, hI⟩ : ∃ I : Nat, idx (rowOf v y) col = I := ⟨(idx (rowOf v y) col).toNat, by omega⟩
  rw [hI] at HI Hc
  have hyI : (y : Int) < (v.rows.length : Int) := by omega
  have hy12 : y < 12 := by have := ht.1; omega
  obtain ⟨n, hn⟩ : ∃ n, (rowOf v y).length = n := ⟨_, rfl⟩
  rw [hn] at HI Hc d0 d0' d1 hl1
  have Hbox := hide hbox
  clear h d2 hi0 hI hn ht hy d0 d1 hbox
  unfold Vw.val
  rcases (show ((n : Int) < (I : Int) ∧ min (I : Int).toNat n = n) ∨ ((I : Int) ≤ (n : Int) ∧ min (I : Int).toNat n = I) by omega) with ⟨hd, hm⟩ | ⟨hd, hm⟩
  all_goals
    rw [hm] at Hc
    clear hm
    go_enter Tryd.func39, Tryd.ntmps39
    go_wp2_with (go_at_call 72; refine HI.out.mono ?_; rintro e w1 ⟨rfl, rfl⟩)
    go_ret
    exact ⟨ret_int (by rw [Hc.out]), Hbox.out⟩

set_option maxRecDepth 100000 in
set_option maxHeartbeats 1000000 in
theorem lines45P (w : World) (A : Option Addr) (c : Nat) (v : Vw) (a b : Int) (h : Rows2 w w.heap.size A v.rows) (ht : v.Tame) :
    Calls Tryd.prog 16 #[v.val A c, .int .i64 a, .int .i64 b] w fun e w' => e = .returned (.tuple #[.string (linT v a b), .int .i64 (linE v a b)]) ∧ Below w.heap.size w w' := by
  have hbox := (Below.refl w.heap.size w).alloc (Nat.le_refl _) (.cells #[.int .i64 v.width, .int .i64 v.height, .slice A v.rows.length c, .int .i64 v.row, .int .i64 v.col, .bool v.visible] 24)
  have hvb : VwBox _ w.heap.size v A c := block_new w (.cells #[.int .i64 v.width, .int .i64 v.height, .slice A v.rows.length c, .int .i64 v.row, .int .i64 v.col, .bool v.visible] 24)
  obtain ⟨W0, hW0⟩ : ∃ W0, W0 = w.alloc (.cells #[.int .i64 v.width, .int .i64 v.height, .slice A v.rows.length c, .int .i64 v.row, .int .i64 v.col, .bool v.visible] 24) := ⟨_, rfl⟩
  have hs0 : W0.heap.size = w.heap.size + 1 := by rw [hW0]; simp
  rw [← hW0] at hbox hvb
  have HC := hide (check15 W0 A c v ((h.below hbox).more hbox.size) ht)
  have HK := hide (fun w1 (hb1 : Below W0.heap.size W0 w1) => (hvb.below hb1 (by omega)).cells)
  have HR := hide (fun w1 (hb1 : Below W0.heap.size W0 w1) => (h.below (hbox.trans (hb1.mono hbox.size))).more (hbox.trans (hb1.mono hbox.size)).size)
  have HTm := hide (fun y (hy : y < v.rows.length) => rowOf_tame ht hy)
  have hways := linWays v a b
  have Hok := hide (fun (h0 : v.err = 0) => (Vw.proper (show v.ok = true by unfold Vw.ok; rw [h0]; rfl)))
  obtain ⟨k0, k1, k2, k3, k4, k5⟩ := HK.out W0 (Below.refl _ _)
  have Hbox := hide hbox
  have Hs0 := hide hs0
  have h12 := ht.1
  clear h ht hbox hs0 hvb
  subst hW0
  unfold Vw.val at HC ⊢
  obtain ⟨E, hE⟩ : ∃ E, linE v a b = E := ⟨_, rfl⟩
  obtain ⟨T, hT⟩ : ∃ T, linT v a b = T := ⟨_, rfl⟩
  have Hdef := hide (show E = 0 → T = joinN (linesFrom (fun y => textB (rowOf v y)) a.toNat (b - a).toNat) by rw [← hE, ← hT]; intro h0; unfold linT; rw [if_pos h0])
  unfold LinWays at hways
  rw [hE, hT] at hways ⊢
  clear hE hT
  rcases hways with ⟨he, rfl, rfl⟩ | ⟨he, h1, rfl, rfl⟩ | ⟨he, h1, h2, rfl, rfl⟩ | ⟨he, h1, h2, h3, rfl, rfl⟩ | ⟨he, h1, h2, h3, rfl⟩
  · obtain ⟨V, hV⟩ : ∃ V, v.err = V := ⟨_, rfl⟩
    rw [hV] at he HC ⊢
    clear hV HR HTm HK Hok Hdef
    go_enter Tryd.func16, Tryd.ntmps16
    go_wp2_with (go_at_call 37; refine HC.out.mono ?_; rintro e w1 ⟨rfl, hb1⟩; have hbw := Hbox.out.trans (hb1.mono Hbox.out.size))
    go_ret2
    exact ⟨rfl, hbw⟩
  iterate 3
    · rw [he] at HC
      clear he HR HTm Hok Hdef
      go_enter Tryd.func16, Tryd.ntmps16
      go_wp2_with (go_at_call 37; refine HC.out.mono ?_; rintro e w1 ⟨rfl, hb1⟩; obtain ⟨x0, x1, x2, x3, x4, x5⟩ := HK.out w1 hb1; have hbw := Hbox.out.trans (hb1.mono Hbox.out.size))
      go_ret2
      exact ⟨rfl, hbw⟩
  · have Hpr := hide (Hok.out he)
    rw [he] at HC
    clear he Hok
    have hh2 := Hpr.out.h2
    have hlen := Hpr.out.len
    obtain ⟨a, rfl⟩ : ∃ a' : Nat, a = a' := ⟨a.toNat, by omega⟩
    have hdef := Hdef.out rfl
    rw [Int.toNat_natCast] at hdef
    obtain ⟨n, hn⟩ : ∃ n, (b - (a : Int)).toNat = n := ⟨_, rfl⟩
    rw [hn] at hdef
    have hqn : b = (a : Int) + (n : Int) := by omega
    have hbl : b ≤ 60 := by omega
    have hanl : a + n ≤ v.rows.length := by omega
    have Hfin := hide hdef
    have HSz := hide (fun k (hk : k ≤ n) => joinN_size (fun y => textB (rowOf v y)) 100000 k a fun j hj => textB_size0 (HTm.out (a + j) (by omega)).1 (HTm.out (a + j) (by omega)).2)
    clear hdef hn Hdef Hpr hlen h1 h2
    subst hqn
    go_enter Tryd.func16, Tryd.ntmps16
    go_wp2_with (go_at_call 37; refine HC.out.mono ?_; rintro e w1 ⟨rfl, hb1⟩; obtain ⟨x0, x1, x2, x3, x4, x5⟩ := HK.out w1 hb1)
    have hbw := Hbox.out.trans (hb1.mono Hbox.out.size)
    go_loop [9, 10] (fun o i => ∃ k : Nat, k ≤ n ∧ i = .int .i64 ((a : Int) + k) ∧ o = .string (joinN (linesFrom (fun y => textB (rowOf v y)) a k))) (fun _ i => ((a : Int) + n - intOf i).toNat)
    case atStart => exact ⟨0, Nat.zero_le _, int_eq (by omega), by rw [show linesFrom (fun y => textB (rowOf v y)) a 0 = [] from rfl, joinN_nil]⟩
    case round =>
      obtain ⟨k, hk, rfl, rfl⟩ := hrel
      by_cases hlt : k < n
      · have hy : a + k < v.rows.length := by omega
        obtain ⟨bR, oR, he, hbR, A1, c1, d0, d1, d2⟩ := (HR.out w1 hb1).get1 hy
        obtain ⟨hl1, hl2⟩ := HTm.out (a + k) hy
        rw [rowOf_get hy] at d0 d1 d2
        subst he
        have HTx := hide (text15 w1 A1 c1 (rowOf v (a + k)) d2 (by omega) (fun g hg => by have := hl2 g hg; omega))
        have hz1 := HSz.out k (by omega)
        have hz2 := textB_size0 hl1 hl2
        have Hnext := hide (show joinN (linesFrom (fun y => textB (rowOf v y)) a (k + 1)) = (if k = 0 then joinN (linesFrom (fun y => textB (rowOf v y)) a k) else joinN (linesFrom (fun y => textB (rowOf v y)) a k) ++ nl) ++ textB (rowOf v (a + k)) by
          rw [linesFrom_succ]
          by_cases h0 : k = 0
          · subst h0
            rw [if_pos rfl, show linesFrom (fun y => textB (rowOf v y)) a 0 = [] from rfl, joinN_nil, List.nil_append, joinN_one, nil_ba]
          · rw [if_neg h0, joinN_snoc _ _ (fun h => by have := congrArg List.length h; rw [linesFrom_len] at this; simp at this; omega)])
        obtain ⟨S, hS⟩ : ∃ S, joinN (linesFrom (fun y => textB (rowOf v y)) a k) = S := ⟨_, rfl⟩
        obtain ⟨X, hX⟩ : ∃ X, textB (rowOf v (a + k)) = X := ⟨_, rfl⟩
        rw [hS, hX] at Hnext
        rw [hS] at hz1 ⊢
        rw [hX] at hz2 HTx
        obtain ⟨rl, hrl⟩ : ∃ rl, (rowOf v (a + k)).length = rl := ⟨_, rfl⟩
        rw [hrl] at HTx d0
        have hnl : nl = ⟨#[10]⟩ := rfl
        have hnls : nl.size = 1 := rfl
        have hi0 : (0 : Int) ≤ (a : Int) + (k : Int) := by omega
        have hi1 : (a : Int) + (k : Int) < (v.rows.length : Int) := by omega
        have hlt2 : (a : Int) + (k : Int) < (a : Int) + (n : Int) := by omega
        have hS1 : S.size ≤ 10000000 := by
          have : k ≤ 12 := by omega
          have : k * (100000 + 1) ≤ 12 * (100000 + 1) := Nat.mul_le_mul_right _ this
          omega
        clear hS hX hrl d1 d2 hl1 hl2 hy hz1 hnl hnls
        have hnx : (⟨#[10]⟩ : ByteArray).size = 1 := rfl
        have hcat1 : S.size + 1 ≤ 9223372036854775807 := by omega
        have hcat2 : S.size + X.size ≤ 9223372036854775807 := by omega
        have hcat3 : (S ++ ⟨#[10]⟩).size + X.size ≤ 9223372036854775807 := by rw [ByteArray.size_append, hnx]; omega
        have hcat4 : S.size + (⟨#[10]⟩ : ByteArray).size ≤ 9223372036854775807 := by rw [hnx]; omega
        rcases Nat.eq_zero_or_pos k with h0 | h0
        · have hgt : ¬ (a : Int) < (a : Int) + (k : Int) := by omega
          have H0 := hide h0
          clear h0
          go_wp2_with (go_at_call 41; refine HTx.out.mono ?_; rintro e w2 ⟨rfl, rfl⟩)
          go_round
          case rel => exact ⟨k + 1, by omega, int_eq (by omega), by rw [Hnext.out, if_pos H0.out]⟩
          case measure => simp [intOf]; omega
        · have hgt : (a : Int) < (a : Int) + (k : Int) := by omega
          go_wp2_with (go_at_call 41; refine HTx.out.mono ?_; rintro e w2 ⟨rfl, rfl⟩)
          go_round
          case rel => exact ⟨k + 1, by omega, int_eq (by omega), by rw [Hnext.out, if_neg (by omega)]; rfl⟩
          case measure => simp [intOf]; omega
      · obtain rfl : k = n := by omega
        go_wp2
        go_ret2
        exact ⟨tuple_si (by rw [Hfin.out]) rfl, hbw⟩
end Go.Proofs.YtmloijhdibicdaaDoor
