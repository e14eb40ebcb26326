/- Tables: narratorref24.table. -/
import Derived.Test.YtbbhkibbkecojaaDoorP2
import Derived.Test.YtbbhkibbkecojaaDoorT12
namespace Go.Proofs.YtbbhkibbkecojaaDoor
open Go.RowKit

theorem valid24_of {v : Vw} {t b : Nat} (hok : v.ok = true) (h1 : t < b) (h2 : b ≤ v.rows.length) : valid24 v t b = true := by
  have := (Vw.proper hok).len
  unfold valid24 validB
  rw [hok]; simp; omega

set_option maxHeartbeats 2000000 in
set_option maxRecDepth 100000 in
theorem tableP (w : World) (A : Option Addr) (c : Nat) (v : Vw) (W t b : Nat) (h : Rows2 w w.heap.size A v.rows) (hn : v.Nice W) (hok : v.ok = true) (hc : v.rows.length ≤ c) (htb : t < b) (hb : b ≤ v.rows.length) :
    Calls Tryd.prog 40 #[v.val A c, .int .i64 t, .int .i64 b] w fun e w' => e = .returned (.bool (tabB v.rows W t b)) ∧ Below w.heap.size w w' := by
  have hbox := (Below.refl w.heap.size w).alloc (Nat.le_refl _) (.cells #[.int .i64 v.width, .int .i64 v.height, .slice A v.rows.length c, .int .i64 v.row, .int .i64 v.col, .bool v.visible] 24)
  have hvb : VwBox _ w.heap.size v A c := block_new w (.cells #[.int .i64 v.width, .int .i64 v.height, .slice A v.rows.length c, .int .i64 v.row, .int .i64 v.col, .bool v.visible] 24)
  obtain ⟨htame, n1, n2, n3, n4, n5⟩ := hn
  have HG := hide (fun (w1 : World) (hb1 : Below w.heap.size w w1) (t b : Nat) (h1 : t < b) (h2 : b ≤ v.rows.length) => gutters24_yes w1 A c v W t b ((h.below hb1).more hb1.size) htame (valid24_of hok h1 h2) n1 hc)
  have H5 := hide n5
  have hl12 := htame.1
  clear h htame n4 n5 n1 hok
  unfold Vw.val at HG ⊢
  go_enter Tryd.func40, Tryd.ntmps40
  go_wp2
  go_loopw [7] (fun i wr => ∃ k : Nat, (t ≤ k ∧ k ≤ b) ∧ i = .int .i64 k ∧ (∀ j, t ≤ j → j < k → ∀ l, v.rows[j]? = some l → emptyB l = false) ∧
    Below (w.heap.size + 1) (w.alloc (.cells #[.int .i64 v.width, .int .i64 v.height, .slice A v.rows.length c, .int .i64 v.row, .int .i64 v.col, .bool v.visible] 24)) wr) (fun i _ => b - (intOf i).toNat)
  case atStart => exact ⟨t, by omega, rfl, fun j h1 h2 => by omega, Below.refl _ _⟩
  case round =>
    rename World => wo
    obtain ⟨k, ⟨hk1, hk2⟩, rfl, hne, hbr⟩ := hrel
    have Hne := hide hne
    clear hne
    obtain ⟨k0, k1, k2, k3, k4, k5⟩ := (hvb.below hbr (Nat.lt_succ_self _)).cells
    have hbw := hbox.trans (hbr.mono (Nat.le_succ _))
    have hlw : w.heap.size + 1 ≤ wo.heap.size := by have := hbr.size; simp at this; omega
    by_cases hlt : k < b
    · have hkl : k < v.rows.length := by omega
      have HGk := hide (HG.out wo hbw k (k + 1) (by omega) (by omega))
      have hcast : ((k + 1 : Nat) : Int) = (k : Int) + 1 := by omega
      rw [hcast] at HGk
      have hpr := parts_row v.rows W k hkl (H5.out _ (List.getElem_mem hkl))
      obtain ⟨r, hr⟩ : ∃ r, v.rows[k] = r := ⟨_, rfl⟩
      have Hr := hide (show v.rows[k]? = some r by rw [List.getElem?_eq_getElem hkl, hr])
      rw [hr] at hpr
      obtain ⟨f, hf⟩ : ∃ f, gut v.rows k (k + 1) = f := ⟨_, rfl⟩
      rw [hf] at HGk hpr
      have hpl := (partsTo_bd f W).1
      obtain ⟨ps, hps⟩ : ∃ ps, partsTo f W = ps := ⟨_, rfl⟩
      have Hps := hide hps
      rw [hps] at hpr hpl
      clear hcast hr hf hps
      cases he : emptyB r with
      | true =>
        rw [he] at hpr
        have htab := tabB_none v.rows W t b k hk1 hlt hb Hr.out he
        have Htab := hide htab
        clear htab he
        go_wp2_with (first
          | (go_at_call 23; refine HGk.out.mono ?_; rintro e w2 ⟨g, cap, rfl, hown, hb2⟩; have hcl : ∀ j, j < W → w2.cell? ⟨g, j, none⟩ = some (.bool (f j)) := (fun j hj => by rw [hown.cellAt j (by omega), bits_get W _ hj]); have HP := hide (parts24P w2 g cap W f (hown.lt g rfl).2 hcl (by omega)); clear hcl; rw [Hps.out] at HP)
          | (go_at_call 37; refine HP.out.mono ?_; rintro e w3 ⟨vv, rfl, hown3, hb3⟩; obtain ⟨A3, c3, rfl⟩ := own_form hown3))
        go_ret
        exact ⟨ret_bool Htab.out.symm, (hbw.trans (hb2.mono hbw.size)).trans (hb3.mono (hbw.trans (hb2.mono hbw.size)).size)⟩
      | false =>
        rw [he] at hpr
        have Hne2 : Hid (∀ j, t ≤ j → j < k + 1 → ∀ l, v.rows[j]? = some l → emptyB l = false) := hide fun j h1 h2 l hl => by
          by_cases hjk : j = k
          · subst hjk; rw [Hr.out] at hl; cases hl; exact he
          · exact Hne.out j h1 (by omega) l hl
        clear he
        go_wp2_with (first
          | (go_at_call 23; refine HGk.out.mono ?_; rintro e w2 ⟨g, cap, rfl, hown, hb2⟩; have hcl : ∀ j, j < W → w2.cell? ⟨g, j, none⟩ = some (.bool (f j)) := (fun j hj => by rw [hown.cellAt j (by omega), bits_get W _ hj]); have HP := hide (parts24P w2 g cap W f (hown.lt g rfl).2 hcl (by omega)); clear hcl; rw [Hps.out] at HP)
          | (go_at_call 37; refine HP.out.mono ?_; rintro e w3 ⟨vv, rfl, hown3, hb3⟩; obtain ⟨A3, c3, rfl⟩ := own_form hown3))
        go_roundw
        case rel => exact ⟨k + 1, by omega, by go_num, Hne2.out, (hbr.trans (hb2.mono hlw)).trans (hb3.mono (by have := hb2.size; omega))⟩
        case measure => simp [intOf]; omega
    · have htab := tabB_full v.rows W t b hb fun j h1 h2 l hl => Hne.out j h1 (by omega) l hl
      have HGb := hide (HG.out wo hbw t b htb hb)
      obtain ⟨f, hf⟩ : ∃ f, gut v.rows t b = f := ⟨_, rfl⟩
      rw [hf] at HGb htab
      have hpl := (partsTo_bd f W).1
      obtain ⟨ps, hps⟩ : ∃ ps, partsTo f W = ps := ⟨_, rfl⟩
      have Hps := hide hps
      rw [hps] at htab hpl
      have Htab := hide htab
      clear hf hps htab
      go_wp2_with (first
        | (go_at_call 23; refine HGb.out.mono ?_; rintro e w2 ⟨g, cap, rfl, hown, hb2⟩; have hcl : ∀ j, j < W → w2.cell? ⟨g, j, none⟩ = some (.bool (f j)) := (fun j hj => by rw [hown.cellAt j (by omega), bits_get W _ hj]); have HP := hide (parts24P w2 g cap W f (hown.lt g rfl).2 hcl (by omega)); clear hcl; rw [Hps.out] at HP)
        | (go_at_call 37; refine HP.out.mono ?_; rintro e w3 ⟨vv, rfl, hown3, hb3⟩; obtain ⟨A3, c3, rfl⟩ := own_form hown3))
      go_ret
      refine ⟨ret_bool ?_, (hbw.trans (hb2.mono hbw.size)).trans (hb3.mono (hbw.trans (hb2.mono hbw.size)).size)⟩
      rw [Htab.out, Bool.eq_iff_iff]; simp; try omega
end Go.Proofs.YtbbhkibbkecojaaDoor
