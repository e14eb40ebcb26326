/- The walk of the law ClippingFull. -/
import Derived.Test.YtmloijhdibicdaaDoorK17
import Derived.Test.YtmloijhdibicdaaDoorK28
namespace Go.Proofs.YtmloijhdibicdaaDoor
open Go.RowKit Go.Shelf

theorem cutB_full (W : Nat) (l : List Gl) (h : widthOf l ≤ W) : cutB 0 W l = ⟨(Lib.trimRightB (textB l).data.toList 32).toArray⟩ := by
  unfold cutB
  rw [cut_full W l 0 (by omega)]
theorem trim_size (x : ByteArray) : (⟨(Lib.trimRightB x.data.toList 32).toArray⟩ : ByteArray).size ≤ x.size := by
  rw [Lib.size_mk]
  unfold Lib.trimRightB
  rw [List.length_reverse]
  exact Nat.le_trans (List.dropWhile_sublist _).length_le (by simp)

set_option maxRecDepth 100000 in
set_option maxHeartbeats 1500000 in
theorem fullLawP (w : World) (A : Option Addr) (c : Nat) (v : Vw) (n1 n2 : Nat) (hn1 : n1 < 256) (hn2 : n2 < 256) (h : Rows2 w w.heap.size A v.rows) (hT : Tabs w) :
    Calls Tryd.prog 10 #[v.val A c, .int .u8 (n1 : Int), .int .u8 (n2 : Int)] w fun e w' => e = .returned (.bool true) ∧ Below w.heap.size w w' := by
  have hbox := (Below.refl w.heap.size w).alloc (Nat.le_refl _) (.cells #[.int .i64 v.width, .int .i64 v.height, .slice A v.rows.length c, .int .i64 v.row, .int .i64 v.col, .bool v.visible] 24)
  have hvb : VwBox _ w.heap.size v A c := block_new w (.cells #[.int .i64 v.width, .int .i64 v.height, .slice A v.rows.length c, .int .i64 v.row, .int .i64 v.col, .bool v.visible] 24)
  obtain ⟨W0, hW0⟩ : ∃ W0, W0 = w.alloc (.cells #[.int .i64 v.width, .int .i64 v.height, .slice A v.rows.length c, .int .i64 v.row, .int .i64 v.col, .bool v.visible] 24) := ⟨_, rfl⟩
  have hs0 : W0.heap.size = w.heap.size + 1 := by rw [hW0]; simp
  rw [← hW0] at hbox hvb
  have HG := hide (greatP W0 A c v ((h.below hbox).more hbox.size))
  have HA := hide (fun w1 (hb : Below W0.heap.size W0 w1) => awakeP w1 (hT.below (hbox.trans (hb.mono hbox.size))))
  have HK := hide (fun w1 (hb1 : Below W0.heap.size W0 w1) => (hvb.below hb1 (by omega)).cells)
  have HR := hide (fun w1 (hb1 : Below W0.heap.size W0 w1) => (h.below (hbox.trans (hb1.mono hbox.size))).more (hbox.trans (hb1.mono hbox.size)).size)
  obtain ⟨k0, k1, k2, k3, k4, k5⟩ := HK.out W0 (Below.refl _ _)
  have Hbox := hide hbox
  have Hs0 := hide hs0
  cases hg : v.great with
  | true =>
    rw [hg] at HG
    clear h hT hbox hs0 hvb HR
    subst hW0
    unfold Vw.val at HG ⊢
    go_enter Tryd.func10, Tryd.ntmps10
    go_wp2_with (first
      | (go_at_call 11; refine HG.out.mono ?_; rintro e w1 ⟨rfl, hb1⟩)
      | (go_at_call 12; refine (HA.out _ hb1).mono ?_; rintro e w2 ⟨rfl, hb2⟩)
      | fail)
    go_ret
    exact ⟨rfl, Hbox.out.trans ((hb1.trans (hb2.mono hb1.size)).mono Hbox.out.size)⟩
  | false =>
    have htame := Vw.tame hg
    rw [hg] at HG
    have HC := hide (fun w1 (hb : Below W0.heap.size W0 w1) => checkV w1 A c v ((h.below (hbox.trans (hb.mono hbox.size))).more (hbox.trans (hb.mono hbox.size)).size) htame (hT.below (hbox.trans (hb.mono hbox.size))))
    cases hok : v.ok with
    | false =>
      have hne : (v.err != 0) = true := by unfold Vw.ok at hok; simpa using hok
      clear h hT hbox hs0 hvb htame hg hok HR
      subst hW0
      obtain ⟨V, hV⟩ : ∃ V, v.err = V := ⟨_, rfl⟩
      simp only [hV] at HC hne
      clear hV
      unfold Vw.val at HG HC ⊢
      go_enter Tryd.func10, Tryd.ntmps10
      go_wp2_with (first
        | (go_at_call 11; refine HG.out.mono ?_; rintro e w1 ⟨rfl, hb1⟩; obtain ⟨x0, x1, x2, x3, x4, x5⟩ := HK.out w1 hb1)
        | (go_at_call 19; refine (HC.out _ hb1).mono ?_; rintro e w2 ⟨rfl, hb2'⟩; have hb2 := hb1.trans (hb2'.mono hb1.size))
        | (go_at_call 12; refine (HA.out _ hb2).mono ?_; rintro e w3 ⟨rfl, hb3'⟩; have hb3 := hb2.trans (hb3'.mono hb2.size))
        | fail)
      go_ret
      exact ⟨rfl, Hbox.out.trans (hb3.mono Hbox.out.size)⟩
    | true =>
      have he : v.err = 0 := by unfold Vw.ok at hok; simpa using hok
      have hp := Vw.proper hok
      have hh1 := hp.h1
      have hh2 := hp.h2
      have hw1' := hp.w1
      have hw2' := hp.w2
      have hlen := hp.len
      simp only [he] at HC
      have hne0 : (v.height == 0) = false := by rw [beq_eq_false_iff_ne]; omega
      obtain ⟨a, hav⟩ : ∃ a : Nat, (n1 : Int) % v.height = (a : Int) := ⟨((n1 : Int) % v.height).toNat, by have := Int.emod_nonneg (n1 : Int) (show v.height ≠ 0 by omega); omega⟩
      have hal : (a : Int) < v.height := by rw [← hav]; exact Int.emod_lt_of_pos _ (by omega)
      have hwr : IntKind.i64.wrap (v.height - (a : Int)) = v.height - (a : Int) := IntWalk.i64_in _ (by omega)
      have hne1 : (v.height - (a : Int) == 0) = false := by rw [beq_eq_false_iff_ne]; omega
      obtain ⟨d, hdv⟩ : ∃ d : Nat, (n2 : Int) % (v.height - (a : Int)) = (d : Int) := ⟨((n2 : Int) % (v.height - (a : Int))).toNat, by have := Int.emod_nonneg (n2 : Int) (show v.height - (a : Int) ≠ 0 by omega); omega⟩
      have hdl : (d : Int) < v.height - (a : Int) := by rw [← hdv]; exact Int.emod_lt_of_pos _ (by omega)
      have hE : blockE v (a : Int) 0 ((a : Int) + 1 + (d : Int)) v.width = 0 := by
        unfold blockE; rw [if_neg (by simp [he]), if_neg (by unfold blockBad; simp; omega)]
      have hTx : blockT v (a : Int) 0 ((a : Int) + 1 + (d : Int)) v.width = joinN (linesFrom (fun y => cutB 0 v.width.toNat (rowOf v y)) a (d + 1)) := by
        unfold blockT; rw [if_pos hE, Int.toNat_natCast, show ((a : Int) + 1 + (d : Int) - (a : Int)).toNat = d + 1 by omega]; rfl
      have HB := hide (fun w1 (hb : Below W0.heap.size W0 w1) => blockP w1 A c v ⟨0, 0, 0, (a : Int), 0, (a : Int) + 1 + (d : Int), v.width, ⟨#[]⟩⟩ ((h.below (hbox.trans (hb.mono hbox.size))).more (hbox.trans (hb.mono hbox.size)).size) htame (hT.below (hbox.trans (hb.mono hbox.size))))
      dsimp only at HB
      rw [hE, hTx] at HB
      have h12 := htame.1
      have HTm := hide (fun y (hy : y < v.rows.length) => rowOf_tame htame hy)
      obtain ⟨F, hF⟩ : ∃ F : Nat → ByteArray, (fun y => cutB 0 v.width.toNat (rowOf v y)) = F := ⟨_, rfl⟩
      have HF := hide (fun y (hy : y < v.rows.length) => show F y = ⟨(Lib.trimRightB (textB (rowOf v y)).data.toList 32).toArray⟩ by
        rw [← hF]
        exact cutB_full _ _ (by have := rowErr_width (hp.rows (rowOf v y) (by rw [← rowOf_get hy]; exact List.getElem_mem hy)); omega))
      rw [hF] at HB
      have hTz : (joinN (linesFrom F a (d + 1))).size ≤ 100000000 := by
        have h1 := joinN_size F 1000000 (d + 1) a fun j hj => by rw [← hF]; exact cutB_size _ _ (rowOf_tame htame (by omega)).1 (rowOf_tame htame (by omega)).2
        have : (d + 1) * (1000000 + 1) ≤ 12 * (1000000 + 1) := Nat.mul_le_mul_right _ (by omega)
        omega
      obtain ⟨n, hn⟩ : ∃ n, d + 1 = n := ⟨_, rfl⟩
      rw [hn] at HB hTz
      obtain ⟨T, hTT⟩ : ∃ T, joinN (linesFrom F a n) = T := ⟨_, rfl⟩
      rw [hTT] at HB
      have HTT := hide hTT
      have Hn := hide hn
      have hnd : (a : Int) + 1 + (d : Int) = ((a + n : Nat) : Int) := by omega
      have Hnd := hide hnd
      have hn0 : 0 < n := by omega
      have hanl : a + n ≤ v.rows.length := by omega
      clear h hT hbox hs0 hvb htame hg hok he hp hE hTx hF hTT hn hnd
      subst hW0
      unfold Vw.val at HG HC HB ⊢
      unfold Rg.val at HB
      dsimp only at HB
      go_enter Tryd.func10, Tryd.ntmps10
      go_wp2_with (first
        | (go_at_call 11; refine HG.out.mono ?_; rintro e w1 ⟨rfl, hb1⟩; obtain ⟨x0, x1, x2, x3, x4, x5⟩ := HK.out w1 hb1)
        | (go_at_call 19; refine (HC.out _ hb1).mono ?_; rintro e w2 ⟨rfl, hb2'⟩; have hb2 := hb1.trans (hb2'.mono hb1.size); obtain ⟨y0, y1, y2, y3, y4, y5⟩ := HK.out w2 hb2)
        | (go_at_call 27; refine (HB.out _ hb2).mono ?_; rintro e w3 ⟨rfl, hb3'⟩; have hb3 := hb2.trans (hb3'.mono hb2.size))
        | fail)
      have HB3 := hide hb3
      have hbb3 := Below.refl w3.heap.size w3
      clear k0 k1 k2 k3 k4 k5 x0 x1 x2 x3 x4 x5 y0 y1 y2 y3 y4 y5 hb1 hb2 hb2' hb3' HG HC HB hb3
      go_loopw [11, 12] (fun s i wr => ∃ k y : Nat, k ≤ n ∧ y = a + k ∧ i = .int .i64 y ∧ wr.ownsRow w3.heap.size 9 1 s k ((linesFrom F a k).map Value.string) ∧ Below w3.heap.size w3 wr) (fun _ i _ => ((a + n : Nat) - intOf i).toNat)
      case atStart => exact ⟨0, a, Nat.zero_le _, rfl, rfl, own_lit w3 w3.heap.size 9 1 0 #[] (Nat.le_refl _) (by omega) rfl, hbb3.alloc (Nat.le_refl _) _⟩
      case round =>
        rename World => wo
        obtain ⟨k, y, hk, hyk, rfl, hown, hbo⟩ := hrel
        have hbW := HB3.out.trans (hbo.mono HB3.out.size)
        have hso := hbo.size
        by_cases hlt : k < n
        · have hlt2 : (y : Int) < (a : Int) + 1 + (d : Int) := by have := Hnd.out; omega
          have hy : y < v.rows.length := by omega
          have hyI : (y : Int) < (v.rows.length : Int) := by omega
          have hy12 : y < 12 := by omega
          obtain ⟨x0, x1, x2, x3, x4, x5⟩ := HK.out wo hbW
          obtain ⟨bR, oR, he, hbR, A1, c1, d0, d1, d2⟩ := (HR.out wo hbW).get1 hy
          obtain ⟨hl1, hl2⟩ := HTm.out y hy
          rw [rowOf_get hy] at d0 d1 d2
          subst he
          have hline := HF.out y hy
          obtain ⟨row, hrow⟩ : ∃ row, rowOf v y = row := ⟨_, rfl⟩
          rw [hrow] at d0 d1 d2 hl1 hl2 hline
          have HTx := hide (textVP wo A1 c1 row d2 (by omega) (fun g hg => by have := hl2 g hg; omega))
          have hts := textB_size0 hl1 hl2
          obtain ⟨R, hR⟩ : ∃ R, textB row = R := ⟨_, rfl⟩
          rw [hR] at HTx hline hts
          have Hline := hide hline
          have Hmap := hide (linesFrom_map_succ F a k)
          have Hown := hide hown
          have Hyk := hide hyk
          obtain ⟨A0, c0, rfl⟩ := own_form hown
          obtain ⟨rl, hrl⟩ : ∃ rl, row.length = rl := ⟨_, rfl⟩
          rw [hrl] at HTx d0
          have HTr := hide (fun W => Any.strings_TrimRight_one laysTrimRight R 32 (by decide) W (by omega))
          clear hrow hR hrl hl2 d1 d2 hline hown hyk hl1
          go_wp2_with (first
            | (at_builtin; refine wpList_app _ (.tmp 53) (.tmp 61) 77 rfl rfl el_string w3.heap.size _ k _ (by rfl) hown2 hs2 _ 1 1 _ _ (by rfl) (by first | rfl | simp) rfl (by simp [Value.oneCell']) (by omega) ?_; intro v6 w6 hown6 hg6; have hb6 := below_own hbw2 hown2 hg6 (Nat.le_refl _) hs2)
            | (go_at_call 22; refine HTx.out.mono ?_; rintro e w2 ⟨rfl, hb2⟩; have hown2 := own_below Hown.out hb2 (Nat.le_refl _); have hbw2 := hbo.trans (hb2.mono hso); have hs2 := hbw2.size)
            | (go_at_call 29; refine (HTr.out _).mono ?_; rintro e w5 ⟨rfl, rfl⟩)
            | fail)
          go_roundw
          case rel => exact ⟨k + 1, y + 1, by omega, by rw [Hyk.out]; rfl, by go_num, own_eq hown6 rfl (by rw [Hmap.out, ← Hyk.out, Hline.out]), hb6⟩
          case measure => simp [intOf]; have := Hyk.out; omega
        · obtain rfl : k = n := by omega
          have hge : ¬ (y : Int) < (a : Int) + 1 + (d : Int) := by have := Hnd.out; omega
          obtain ⟨g1, c1, rfl, hg0, hg1⟩ := own_form1 hown hn0
          have hcap : k ≤ c1 := by
            rcases hown.2 with ⟨h, _⟩ | ⟨g, cap, cur, h, _, _, hnc, _⟩
            · cases h
            · cases h; exact hnc
          have hl : (linesFrom F a k).length = k := linesFrom_len F a k
          have hcells : ∀ (j : Nat) x, (linesFrom F a k)[j]? = some x → wo.cell? ⟨g1, 0 + j, none⟩ = some (.string x) := fun j x hx => by
            have hj := (List.getElem?_eq_some_iff.1 hx).1
            rw [Nat.zero_add, hown.cellAt j (by omega), List.getElem?_map, hx]
            rfl
          have HJ := hide (Any.strings_Join laysJoin joinX g1 0 c1 (linesFrom F a k) ⟨#[10]⟩ wo hcells hg1 (by omega) (by omega) (by rw [show (⟨#[10]⟩ : ByteArray).data.toList = [10] from rfl, joinN_len]; omega))
          rw [hl] at HJ
          have HJ2 := hide (HJ.out.mono fun e w' (hh : _ ∧ _) => (show e = .returned (.string T) ∧ Below wo.heap.size wo w' from ⟨hh.1.trans (by rw [← HTT.out]; rfl), hh.2⟩))
          clear hl hcells HJ hlt hyk
          go_wp2_with (first
            | (go_at_call 30; refine HJ2.out.mono ?_; rintro e w7 ⟨rfl, hb7'⟩; have hb7 := hbW.trans (hb7'.mono hbW.size))
            | (go_at_call 12; refine (HA.out _ hb7).mono ?_; rintro e w8 ⟨rfl, hb8'⟩; have hb8 := hb7.trans (hb8'.mono hb7.size))
            | fail)
          go_ret
          exact ⟨rfl, Hbox.out.trans (hb8.mono Hbox.out.size)⟩
end Go.Proofs.YtmloijhdibicdaaDoor
