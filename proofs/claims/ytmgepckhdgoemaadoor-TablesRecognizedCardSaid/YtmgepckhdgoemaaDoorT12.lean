/- Tables: tables.longest. -/
import Derived.Test.YtmgepckhdgoemaaDoorP1
import Derived.Test.YtmgepckhdgoemaaDoorT11
namespace Go.Proofs.YtmgepckhdgoemaaDoor
open Go.RowKit

/-- A view whose rows are as a proper view's, as the walks of the inner functions want it. -/
structure Vw.Nice (v : Vw) (W : Nat) : Prop where
  tame : v.Tame
  width : v.width = W
  w1 : 1 ≤ W
  w2 : W ≤ 200
  height : v.height = v.rows.length
  wide : ∀ r ∈ v.rows, widthOf r ≤ W
theorem Vw.nice {v : Vw} (ht : v.Tame) (h : v.ok = true) : v.Nice v.width.toNat := by
  obtain ⟨a1, a2, a3, a4, a5, -, a7⟩ := Vw.proper h
  exact ⟨ht, by omega, by omega, by omega, a5.symm, fun r hr => by have := rowErr_width (a7 r hr); omega⟩

set_option maxHeartbeats 2000000 in
set_option maxRecDepth 100000 in
theorem longestP (w : World) (A : Option Addr) (c : Nat) (v : Vw) (W t : Nat) (h : Rows2 w w.heap.size A v.rows) (hn : v.Nice W) (hc : v.rows.length ≤ c) (ht : t < v.rows.length) :
    Calls Tryd.prog 19 #[v.val A c, .int .i64 t] w fun e w' => e = .returned (.int .i64 (longR v.rows W t v.rows.length)) ∧ Below w.heap.size w w' := by
  have hbox := (Below.refl w.heap.size w).alloc (Nat.le_refl _) (.cells #[.int .i64 v.width, .int .i64 v.height, .slice A v.rows.length c, .int .i64 v.row, .int .i64 v.col, .bool v.visible] 24)
  have hvb : VwBox _ w.heap.size v A c := block_new w (.cells #[.int .i64 v.width, .int .i64 v.height, .slice A v.rows.length c, .int .i64 v.row, .int .i64 v.col, .bool v.visible] 24)
  obtain ⟨htame, n1, n2, n3, n4, n5⟩ := hn
  have HG := hide (fun (w1 : World) (hb1 : Below w.heap.size w w1) (b : Nat) (h1 : t < b) (h2 : b ≤ v.rows.length) => guttersP w1 A c v W t b ((h.below hb1).more hb1.size) htame n1 n2 n3 h1 h2 hc n5)
  have HH := hide h
  have HT := hide htame.2
  have hl12 := htame.1
  have H4 := hide n4
  clear h htame n4 n5 n1
  unfold Vw.val at HG ⊢
  go_enter Tryd.func19, Tryd.ntmps19
  go_wp2
  go_loopw [5, 6] (fun e i wr => ∃ b : Nat, (t + 1 ≤ b ∧ b ≤ v.rows.length + 1) ∧ i = .int .i64 b ∧ e = .int .i64 (longR v.rows W t (b - 1)) ∧ (∀ k, t ≤ k → k + 1 < b → ∀ l, v.rows[k]? = some l → emptyB l = false) ∧
    Below (w.heap.size + 1) (w.alloc (.cells #[.int .i64 v.width, .int .i64 v.height, .slice A v.rows.length c, .int .i64 v.row, .int .i64 v.col, .bool v.visible] 24)) wr) (fun _ i _ => v.rows.length + 1 - (intOf i).toNat)
  case atStart => exact ⟨t + 1, by omega, by go_num, by rw [Nat.add_sub_cancel]; unfold longR; rw [endTo_low _ _ _ _ (by omega), if_pos rfl]; rfl, fun k h1 h2 => by omega, Below.refl _ _⟩
  case round =>
    rename World => wo
    obtain ⟨b, ⟨hb1, hb2⟩, rfl, rfl, hne, hbr⟩ := hrel
    have Hne := hide hne
    clear hne
    obtain ⟨k0, k1, k2, k3, k4, k5⟩ := (hvb.below hbr (Nat.lt_succ_self _)).cells
    have hbw := hbox.trans (hbr.mono (Nat.le_succ _))
    have hlw : w.heap.size < wo.heap.size := by have := hbr.size; simp at this; omega
    have hlast : ∀ n, n + 1 = b → ((b : Nat) : Int) - 1 = (n : Int) := fun n hn => by omega
    obtain ⟨n, hn⟩ : ∃ n, n + 1 = b := ⟨b - 1, by omega⟩
    have hix := hlast n hn
    have hbn : b - 1 = n := by omega
    rw [hbn]
    clear hlast hbn
    by_cases hle : b ≤ v.rows.length
    · have hd : decide ((b : Int) ≤ v.height) = true := by have := H4.out; simp; omega
      have hnl : n < v.rows.length := by omega
      have hnl2 : (n : Int) < (v.rows.length : Int) := by omega
      obtain ⟨ba, off, rfl, hbb, A1, c1, d0, d1, d2⟩ := (HH.out.below hbw).get1 hnl
      obtain ⟨r, hr⟩ : ∃ r, v.rows[n] = r := ⟨_, rfl⟩
      obtain ⟨hrl, -⟩ := HT.out _ (List.getElem_mem hnl)
      rw [hr] at d0 d1 d2 hrl
      have Hr := hide (show v.rows[n]? = some r by rw [List.getElem?_eq_getElem hnl, hr])
      have HE := hide (emptyP wo A1 c1 r (d2.more hbw.size) (by omega))
      clear d2 hr
      cases he : emptyB r with
      | true =>
        rw [he] at HE
        have hst : longR v.rows W t v.rows.length = longR v.rows W t n := by
          have : endTo v.rows W t v.rows.length = endTo v.rows W t n := by
            have := endTo_stop v.rows W t n (v.rows.length - n) fun b' h1 h2 => tabB_empty v.rows W t b' n (by omega) (by omega) (by omega) (by rw [(List.getElem?_eq_some_iff.1 Hr.out).2]; exact he)
            rwa [show n + (v.rows.length - n) = v.rows.length by omega] at this
          unfold longR; rw [this]
        have Hst := hide hst
        clear hst he
        go_wp2_with (go_at_call 48; refine HE.out.mono ?_; rintro e w2 ⟨rfl, hb3⟩)
        go_ret
        exact ⟨ret_int (by rw [Hst.out]), hbw.trans (hb3.mono hbw.size)⟩
      | false =>
        rw [he] at HE
        have Hne2 : Hid (∀ k, t ≤ k → k + 1 < b + 1 → ∀ l, v.rows[k]? = some l → emptyB l = false) := hide fun k h1 h2 l hl => by
          by_cases hk : k = n
          · subst hk; rw [Hr.out] at hl; cases hl; exact he
          · exact Hne.out k h1 (by omega) l hl
        clear he
        have hsub : ((b : Nat) : Int) - 1 = (n : Int) := hix
        by_cases h2 : t + 2 ≤ b
        · have hd2 : decide (2 ≤ (b : Int) - (t : Int)) = true := by simp; omega
          have HGb := hide (fun w1 hb1 => HG.out w1 hb1 b (by omega) hle)
          obtain ⟨f, hf⟩ : ∃ f, gut v.rows t b = f := ⟨_, rfl⟩
          have Hf := hide hf
          rw [hf] at HGb
          clear hf
          have hlong : longR v.rows W t b = if 1 < (partsTo f W).length then b else longR v.rows W t n := by
            have ht := tabB_full v.rows W t b hle (fun k h1 h2 l hl => Hne2.out k h1 (by omega) l hl)
            rw [Hf.out] at ht
            unfold longR
            rw [← hn, endTo_step, hn, ht]
            by_cases hp : 1 < (partsTo f W).length
            · rw [if_pos (c := (_ && _) = true) (by simp; omega), if_neg (by omega), if_pos hp]
            · rw [if_neg (c := (_ && _) = true) (by simp; omega), if_neg hp]
          have Hlong := hide hlong
          clear hlong
          cases hp : decide (1 < ((partsTo f W).length : Int)) with
          | true =>
            go_wp2_with (first
              | (go_at_call 48; refine HE.out.mono ?_; rintro e w2 ⟨rfl, hb3⟩; have hbw2 := hbw.trans (hb3.mono hbw.size); have hbr2 := hbr.trans (hb3.mono hlw); obtain ⟨q0, q1, q2, q3, q4, q5⟩ := (hvb.below hbr2 (Nat.lt_succ_self _)).cells)
              | (go_at_call 50; refine (HGb.out _ hbw2).mono ?_; rintro e w3 ⟨g, cap, rfl, hown, hb4⟩; have hcl : ∀ j, j < W → w3.cell? ⟨g, j, none⟩ = some (.bool (f j)) := (fun j hj => by rw [hown.cellAt j (by omega), bits_get W _ hj]); have HCount := hide (countP w3 g W cap f (by omega) (hown.lt g rfl).2 hcl); clear hcl)
              | (go_at_call 49; refine HCount.out.mono ?_; rintro e w4 ⟨rfl, hb5⟩))
            go_roundw
            case rel => exact ⟨b + 1, by omega, by go_num, by rw [Nat.add_sub_cancel, Hlong.out, if_pos (by have := of_decide_eq_true hp; omega)], Hne2.out, (hbr2.trans (hb4.mono (by have := hb3.size; omega))).trans (hb5.mono (by have := hb3.size; have := hb4.size; omega))⟩
            case measure => simp [intOf]; omega
          | false =>
            go_wp2_with (first
              | (go_at_call 48; refine HE.out.mono ?_; rintro e w2 ⟨rfl, hb3⟩; have hbw2 := hbw.trans (hb3.mono hbw.size); have hbr2 := hbr.trans (hb3.mono hlw); obtain ⟨q0, q1, q2, q3, q4, q5⟩ := (hvb.below hbr2 (Nat.lt_succ_self _)).cells)
              | (go_at_call 50; refine (HGb.out _ hbw2).mono ?_; rintro e w3 ⟨g, cap, rfl, hown, hb4⟩; have hcl : ∀ j, j < W → w3.cell? ⟨g, j, none⟩ = some (.bool (f j)) := (fun j hj => by rw [hown.cellAt j (by omega), bits_get W _ hj]); have HCount := hide (countP w3 g W cap f (by omega) (hown.lt g rfl).2 hcl); clear hcl)
              | (go_at_call 49; refine HCount.out.mono ?_; rintro e w4 ⟨rfl, hb5⟩))
            go_roundw
            case rel => exact ⟨b + 1, by omega, by go_num, by rw [Nat.add_sub_cancel, Hlong.out, if_neg (by have := of_decide_eq_false hp; omega)], Hne2.out, (hbr2.trans (hb4.mono (by have := hb3.size; omega))).trans (hb5.mono (by have := hb3.size; have := hb4.size; omega))⟩
            case measure => simp [intOf]; omega
        · have hd2 : decide (2 ≤ (b : Int) - (t : Int)) = false := by simp; omega
          go_wp2_with (go_at_call 48; refine HE.out.mono ?_; rintro e w2 ⟨rfl, hb3⟩)
          go_roundw
          case rel =>
            refine ⟨b + 1, by omega, by go_num, ?_, Hne2.out, hbr.trans (hb3.mono hlw)⟩
            rw [Nat.add_sub_cancel]
            unfold longR
            rw [endTo_low _ _ _ n (by omega), endTo_low _ _ _ b (by omega)]
          case measure => simp [intOf]; omega
    · have hd : decide ((b : Int) ≤ v.height) = false := by have := H4.out; simp; omega
      have hbe : n = v.rows.length := by omega
      have Hbe := hide hbe
      clear hbe
      go_wp2
      go_ret
      exact ⟨ret_int (by rw [Hbe.out]), hbw⟩
end Go.Proofs.YtmgepckhdgoemaaDoor
