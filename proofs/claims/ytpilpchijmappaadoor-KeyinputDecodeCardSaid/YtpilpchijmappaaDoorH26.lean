/- narratorref14.Named. -/
import Derived.Test.YtpilpchijmappaaDoorH25
namespace Go.Proofs.YtpilpchijmappaaDoor
open Go.RowKit

theorem rem_one8 : ∀ j : Nat, j < 8 → ((j : Int) % 2 == 1) = decide (j % 2 = 1) := by decide +kernel
theorem rem_two8 : ∀ j : Nat, j < 8 → ((j : Int) / 2 % 2 == 1) = decide (j / 2 % 2 = 1) := by decide +kernel
theorem quo_four8 : ∀ j : Nat, j < 8 → ((j : Int) / 4 == 1) = decide (j / 4 = 1) := by decide +kernel

set_option maxRecDepth 100000 in
set_option maxHeartbeats 1000000 in
theorem named14 (w : World) : Calls Tryd.prog 36 #[] w (KeysRow w) := by
  have hrf := Below.refl w.heap.size w
  have HC := hide (fun W k => check14 W k)
  have HNm := hide (fun W => names14 W)
  go_enter Tryd.func36, Tryd.ntmps36
  go_wp2_with (go_at_call 46; refine (HNm.out _).mono ?_; rintro e w1 ⟨g, c, rfl, hown', hb1'⟩; have hb1 := (hrf.alloc (Nat.le_refl _) _).trans (hb1'.mono (by simp)); have hown := own_more hown' (show w.heap.size ≤ _ by simp); have Hl := hide (own_below (own_lit w w.heap.size 23 5 0 #[] (Nat.le_refl _) (by omega) rfl) hb1' (Nat.le_refl _)); clear hown' hb1')
  go_loopw [1, 3] (fun l i wr => ∃ k : Nat, k ≤ 26 ∧ i = .int .i64 k ∧ OwnKeys wr w.heap.size l (namedTo (8 * k)) ∧ wr.ownsRow w.heap.size 9 1 (.slice (some ⟨g, 0, none⟩) 26 c) 26 (keyNames.map nameV) ∧ Below w.heap.size w wr) (fun _ i _ => 26 - (intOf i).toNat)
  case atStart => exact ⟨0, Nat.zero_le _, rfl, Hl.out, hown, hb1⟩
  case round =>
    rename World => wo
    obtain ⟨k, hk, rfl, hkeys, hnames, hbo⟩ := hrel
    clear hown Hl
    by_cases hlt : k < 26
    · have hltI : (k : Int) < 26 := by omega
      obtain ⟨N, hN⟩ : ∃ N, keyNames.getD k [] = N := ⟨_, rfl⟩
      have hNin := name_at hlt
      have Hstep := hide (fun j c a s (hj : j < 8) hc ha hs => namedTo_step (k := k) (j := j) (c := c) (a := a) (s := s) hlt hj hc ha hs)
      rw [hN] at hNin Hstep
      have HNin := hide hNin
      have Hkeys := hide hkeys
      have Hnames := hide hnames
      have HN := hide hN
      clear hkeys hnames hNin hN
      go_wp2
      go_loopw [1, 4] (fun l i wr => ∃ j : Nat, j ≤ 8 ∧ i = .int .i64 j ∧ OwnKeys wr w.heap.size l (namedTo (8 * k + j)) ∧ wr.ownsRow w.heap.size 9 1 (.slice (some ⟨g, 0, none⟩) 26 c) 26 (keyNames.map nameV) ∧ Below w.heap.size w wr) (fun _ i _ => 8 - (intOf i).toNat)
      case atStart => exact ⟨0, Nat.zero_le _, rfl, Hkeys.out, Hnames.out, hbo⟩
      case round =>
        obtain ⟨j, hj, rfl, hkeys, hnames, hbr⟩ := hrel
        clear Hkeys Hnames
        have hname := name_cell hlt hnames
        rw [HN.out] at hname
        have hle := namedTo_le (8 * k + j)
        obtain ⟨L, hL⟩ : ∃ L, namedTo (8 * k + j) = L := ⟨_, rfl⟩
        rw [hL] at hkeys hle
        have Hkeys := hide hkeys
        have Hnames := hide hnames
        by_cases hjl : j < 8
        · have hjI : (j : Int) < 8 := by omega
          obtain ⟨S, hS⟩ : ∃ S, decide (j % 2 = 1) = S := ⟨_, rfl⟩
          obtain ⟨A, hA⟩ : ∃ A, decide (j / 2 % 2 = 1) = A := ⟨_, rfl⟩
          obtain ⟨C, hC⟩ : ∃ C, decide (j / 4 = 1) = C := ⟨_, rfl⟩
          have bS := (rem_one8 j hjl).trans hS
          have bA := (rem_two8 j hjl).trans hA
          have bC := (quo_four8 j hjl).trans hC
          have HS := Hstep.out j C A S hjl hC hA hS
          rw [hL] at HS
          have hE := toKey_keyErr (n := N) (c := C) (a := A) (s := S) HNin.out
          have HCk := hide (fun W => HC.out W (toKey (N, C, A, S)))
          rw [hE] at HCk
          unfold Key.val toKey at HCk
          have HNK := hide (fun W => keyBox_new W (toKey (N, C, A, S)))
          unfold toKey at HNK
          dsimp only at HCk HNK
          have Hown2 := hide (own_more (own_below Hnames.out (Below.refl wr.heap.size wr) (Nat.le_refl _)) (Nat.le_refl _))
          have hsz := hbr.size
          cases hm : modB N C A S with
          | true =>
            rw [hm] at HS HCk
            have HSS := hide HS
            clear hS hA hC hE HS hm hkeys hnames hL Hown2
            go_wp2_with (first
              | (go_at_call 15; refine (HCk.out _).mono ?_; rintro e w2 ⟨rfl, hb2⟩; have hbw := (hbr.alloc hsz _).trans (hb2.mono (by simp; omega)); have hs2 := hbw.size; have Hk2 := hide (own_below (own_below Hkeys.out ((Below.refl _ wr).alloc (Nat.le_refl _) _) (Nat.le_refl _)) hb2 (Nat.le_refl _)); have Hn2 := hide (own_below (own_below Hnames.out ((Below.refl _ wr).alloc (Nat.le_refl _) _) (Nat.le_refl _)) hb2 (Nat.le_refl _)); obtain ⟨x0, x1, x2, x3, x4⟩ := ((HNK.out wr).below hb2 (by simp)).cells)
              | (at_builtin; refine wpList_app _ (.tmp 36) (.tmp 38) 42 rfl rfl el_key w.heap.size _ L.length (L.flatMap Key.enc) (by rfl) Hk2.out hs2 _ 1 1 _ _ (by rfl) (by first | rfl | simp) rfl (by simp [Value.oneCell']) (by omega) ?_; intro v6 w6 hown6 hg6; have Hb6 := hide (below_own hbw Hk2.out hg6 (Nat.le_refl _) hs2); have Hn6 := hide (own_other Hn2.out Hk2.out (by decide) hg6); have Hown6 := hide hown6; clear hown6 hg6)
              | fail)
            go_roundw
            case rel => exact ⟨j + 1, by omega, by go_num, own_keys_step (r := [toKey (N, C, A, S)]) Hown6.out HSS.out rfl rfl, Hn6.out, Hb6.out⟩
            case measure => simp [intOf]; omega
          | false =>
            rw [hm] at HS HCk
            have HSS := hide HS
            clear hS hA hC hE HS hm hkeys hnames hL Hown2
            go_wp2_with (first
              | (go_at_call 15; refine (HCk.out _).mono ?_; rintro e w2 ⟨rfl, hb2⟩; have hbw := (hbr.alloc hsz _).trans (hb2.mono (by simp; omega)); have hs2 := hbw.size; have Hk2 := hide (own_below (own_below Hkeys.out ((Below.refl _ wr).alloc (Nat.le_refl _) _) (Nat.le_refl _)) hb2 (Nat.le_refl _)); have Hn2 := hide (own_below (own_below Hnames.out ((Below.refl _ wr).alloc (Nat.le_refl _) _) (Nat.le_refl _)) hb2 (Nat.le_refl _)))
              | fail)
            go_roundw
            case rel => exact ⟨j + 1, by omega, by go_num, by rw [HSS.out, if_neg (by decide), List.append_nil]; exact Hk2.out, Hn2.out, hbw⟩
            case measure => simp [intOf]; omega
        · obtain rfl : j = 8 := by omega
          have hge : ¬ ((8 : Nat) : Int) < 8 := by omega
          clear hkeys hnames
          have HLL := hide hL
          clear hL
          go_wp2
          go_roundw
          case rel => exact ⟨k + 1, by omega, by go_num, by rw [show 8 * (k + 1) = 8 * k + 8 by omega, HLL.out]; exact Hkeys.out, Hnames.out, hbr⟩
          case measure => simp [intOf]; omega
    · obtain rfl : k = 26 := by omega
      have Hk := hide hkeys
      clear hkeys hnames
      go_wp2
      go_ret
      exact keysRow_mk namedTo_all Hk.out hbo
end Go.Proofs.YtpilpchijmappaaDoor
