/- Joined: Q4, Q5, Q6, Q7. -/
import Derived.Test.YtdmnnjpbndngeaaDoorQ3
import Derived.Deep.RegionHeld3
import Derived.BigQuiet
import Derived.Deep.DeepCutAuto
/- Chapter 45: cellrow.Check. -/
namespace Go.Proofs.YtdmnnjpbndngeaaDoor
open Go.RowKit

set_option maxRecDepth 100000 in
set_option maxHeartbeats 2000000 in
theorem checkCR (w : World) (A : Option Addr) (c : Nat) (l : List Ce) (h : CeRow w w.heap.size A l) (hs : ∀ x ∈ l, x.text.size ≤ 500) (hT : Tabs w) :
    Calls Tryd.prog 36 #[.slice A l.length c] w fun e w' => e = .returned (.int .i64 (rowCE l)) ∧ Below w.heap.size w w' := by
  have HH := hide h
  have Hs := hide hs
  have HT := hide (fun (W2 : World) (hb : Below w.heap.size w W2) => hT.below hb)
  have Hrf := hide (Below.refl w.heap.size w)
  obtain ⟨n, hn⟩ : ∃ n, l.length = n := ⟨_, rfl⟩
  have Hn := hide hn
  unfold rowCE
  rw [hn]
  clear h hs hn hT
  by_cases h1 : n < 1
  · have d1 : decide (n < 1) = true := decide_eq_true h1
    have d1' : decide ((n : Int) < 1) = true := decide_eq_true (by omega)
    rw [if_pos (.inl h1)]
    go_enter Tryd.func36, Tryd.ntmps36
    go_wp2
    go_ret
    exact ⟨rfl, Hrf.out⟩
  have d1 : decide (n < 1) = false := decide_eq_false h1
  have d1' : decide ((n : Int) < 1) = false := decide_eq_false (by omega)
  by_cases h2 : 132 < n
  · have d2 : decide (132 < n) = true := decide_eq_true h2
    have d2' : decide ((132 : Int) < (n : Int)) = true := decide_eq_true (by omega)
    rw [if_pos (.inr h2)]
    go_enter Tryd.func36, Tryd.ntmps36
    go_wp2
    go_ret
    exact ⟨rfl, Hrf.out⟩
  have d2 : decide (132 < n) = false := decide_eq_false h2
  have d2' : decide ((132 : Int) < (n : Int)) = false := decide_eq_false (by omega)
  rw [if_neg (by omega)]
  have hn132 : n ≤ 132 := by omega
  obtain ⟨E, hE⟩ : ∃ E, rowC l = E := ⟨_, rfl⟩
  rw [hE]
  have HE := hide (show rowC (l.drop 0) = E by rw [List.drop_zero]; exact hE)
  clear h1 h2 hE
  go_enter Tryd.func36, Tryd.ntmps36
  go_wp2
  clear d1 d1' d2 d2'
  go_loopw [3] (fun i wr => ∃ k : Nat, k ≤ n ∧ i = .int .i64 (k : Int) ∧ rowC (l.drop k) = E ∧ Below w.heap.size w wr) (fun i _ => n - (intOf i).toNat)
  case atStart => exact ⟨0, Nat.zero_le _, rfl, HE.out, Hrf.out⟩
  case round =>
    clear HE Hrf
    obtain ⟨k, hk, rfl, he, hb⟩ := hrel
    rename World => wo
    have hso := hb.size
    have Hb := hide hb
    clear hb
    by_cases hlt : k < n
    · have hltI : (k : Int) < (n : Int) := by omega
      have hkl : k < l.length := by rw [Hn.out]; exact hlt
      have hmem := List.getElem_mem hkl
      obtain ⟨b, off, hA, hbb, c0, c1, c2, c3, c4⟩ := (HH.out.below (CeAt.stays _) Hb.out).get hkl
      have hsz := Hs.out _ hmem
      rw [List.drop_eq_getElem_cons hkl] at he
      obtain ⟨⟨tx, wd, fo, ba, fl⟩, hc⟩ : ∃ x, l[k] = x := ⟨_, rfl⟩
      rw [hc] at c0 c1 c2 c3 c4 hsz he
      dsimp only at c0 c1 c2 c3 c4 hsz
      subst hA
      obtain ⟨W1, hW1⟩ : ∃ W1, wo.alloc (.cells #[.string tx, .int .i64 wd, .int .i64 fo, .int .i64 ba, .int .i64 fl] 47) = W1 := ⟨_, rfl⟩
      have hb1 : Below wo.heap.size wo W1 := by rw [← hW1]; exact (Below.refl _ _).alloc (Nat.le_refl _) _
      have hbk : W1.heap[wo.heap.size]? = some (.cells #[.string tx, .int .i64 wd, .int .i64 fo, .int .i64 ba, .int .i64 fl] 47 (0, 0)) := by rw [← hW1]; exact block_new wo _
      have hs1 : wo.heap.size < W1.heap.size := block_lt hbk
      have Hb1 := hide (Hb.out.trans (hb1.mono hso))
      have HB5 := hide (fun (W2 : World) (hb : Below W1.heap.size W1 W2) => ce_cells (block_below hbk hb hs1))
      have HO1 := hide (fun (W2 : World) (hb : Below W1.heap.size W1 W2) => hb1.trans (hb.mono hb1.size))
      obtain ⟨b0, b1, b2, b3, b4⟩ := ce_cells hbk
      have HCk := hide (fun (W2 : World) (hb : Below w.heap.size w W2) => checkCl W2 tx hsz (HT.out W2 hb))
      have HWd := hide (fun (W2 : World) (hb : Below w.heap.size w W2) => widthCl W2 tx hsz (HT.out W2 hb))
      obtain ⟨C, hC⟩ : ∃ C, clErr tx.data.toList = C := ⟨_, rfl⟩
      obtain ⟨D, hD⟩ : ∃ D, clW tx.data.toList = D := ⟨_, rfl⟩
      have hw := rowC_ways he
      unfold RowWays at hw
      dsimp only at hw
      simp only [hC] at HCk hw
      simp only [hD] at HWd hw
      clear hC hD hmem hc he hsz hb1 hbk
      rcases hw with ⟨q1, q2, rfl⟩ | hw
      · have t1 : (wd != 1) = true := by rw [bne_iff_ne]; exact q1
        have t2 : (wd != 2) = true := by rw [bne_iff_ne]; exact q2
        clear q1 q2
        go_wp2
        go_ret
        exact ⟨rfl, Hb1.out⟩
      have HBo := hide (fun (W2 : World) (hb : Below wo.heap.size wo W2) => Hb.out.trans (hb.mono hso))
      have HL := HH.out.below (CeAt.stays _) Hb.out
      have HL := hide HL
      rcases hw with ⟨q0, q1, rfl⟩ | hw
      · have t3 : (C != 0) = true := by rw [bne_iff_ne]; exact q1
        clear q1
        rcases q0 with rfl | rfl
        all_goals
          go_wp2_with (first
            | (go_at_call 51; refine (HCk.out _ Hb1.out).mono ?_; rintro e w4 ⟨rfl, hb4⟩; obtain ⟨e0, e1, e2, e3, e4⟩ := HB5.out w4 hb4; have Hb4 := hide (Hb1.out.trans (hb4.mono Hb1.out.size)); have Hi4 := hide hb4; clear hb4)
            | fail)
          go_ret
          exact ⟨rfl, Hb4.out⟩
      rcases hw with ⟨q0, q1, q2, rfl⟩ | hw
      · have t3 : (C != 0) = false := by rw [q1]; rfl
        have t4 : (D != wd) = true := by rw [bne_iff_ne]; exact q2
        clear q1 q2
        rcases q0 with rfl | rfl
        · go_wp2_with (first
            | (go_at_call 51; refine (HCk.out _ Hb1.out).mono ?_; rintro e w4 ⟨rfl, hb4⟩; obtain ⟨e0, e1, e2, e3, e4⟩ := HB5.out w4 hb4; have Hb4 := hide (Hb1.out.trans (hb4.mono Hb1.out.size)); have Hi4 := hide hb4; clear hb4)
            | fail)
          have hbd := (Below.refl w4.heap.size w4).drew
          have HS4 := hide (fun (W2 : World) (hb : Below w4.heap.size w4 W2) => HB5.out W2 (Hi4.out.trans (hb.mono Hi4.out.size)))
          clear e0 e1 e2 e3 e4
          obtain ⟨e0, e1, e2, e3, e4⟩ := HB5.out w4 Hi4.out
          go_region_held3 (fun W2 => W2.cell? ⟨wo.heap.size, 0, none⟩ = some (.string tx) ∧ W2.cell? ⟨wo.heap.size, 1, none⟩ = some (.int .i64 1) ∧ W2.cell? ⟨wo.heap.size, 2, none⟩ = some (.int .i64 fo) ∧ W2.cell? ⟨wo.heap.size, 3, none⟩ = some (.int .i64 ba) ∧ W2.cell? ⟨wo.heap.size, 4, none⟩ = some (.int .i64 fl))
            (first | exact HS4.out _ hb5 | exact HS4.out _ hbd)
            (first
              | (go_at_call 52; refine (HWd.out _ (Hb4.out.trans (hbd.mono Hb4.out.size))).mono ?_; rintro e w5 ⟨rfl, hb5'⟩; have hb5 := hbd.trans (hb5'.mono hbd.size); clear hb5')
              | fail)
          clear e0 e1 e2 e3 e4
          obtain ⟨g0, g1, g2, g3, g4⟩ := HS4.out w5 hb5
          have Hi5 := hide (Hi4.out.trans (hb5.mono Hi4.out.size))
          have Hb5 := hide (Hb4.out.trans (hb5.mono Hb4.out.size))
          clear hb5 hbd
          go_wp2
          go_ret
          exact ⟨rfl, Hb5.out⟩
        · go_wp2_with (first
            | (go_at_call 51; refine (HCk.out _ Hb1.out).mono ?_; rintro e w4 ⟨rfl, hb4⟩; obtain ⟨e0, e1, e2, e3, e4⟩ := HB5.out w4 hb4; have Hb4 := hide (Hb1.out.trans (hb4.mono Hb1.out.size)); have Hi4 := hide hb4; clear hb4)
            | fail)
          have hbd := (Below.refl w4.heap.size w4).drew
          have HS4 := hide (fun (W2 : World) (hb : Below w4.heap.size w4 W2) => HB5.out W2 (Hi4.out.trans (hb.mono Hi4.out.size)))
          clear e0 e1 e2 e3 e4
          obtain ⟨e0, e1, e2, e3, e4⟩ := HB5.out w4 Hi4.out
          go_region_held3 (fun W2 => W2.cell? ⟨wo.heap.size, 0, none⟩ = some (.string tx) ∧ W2.cell? ⟨wo.heap.size, 1, none⟩ = some (.int .i64 2) ∧ W2.cell? ⟨wo.heap.size, 2, none⟩ = some (.int .i64 fo) ∧ W2.cell? ⟨wo.heap.size, 3, none⟩ = some (.int .i64 ba) ∧ W2.cell? ⟨wo.heap.size, 4, none⟩ = some (.int .i64 fl))
            (first | exact HS4.out _ hb5 | exact HS4.out _ hbd)
            (first
              | (go_at_call 52; refine (HWd.out _ (Hb4.out.trans (hbd.mono Hb4.out.size))).mono ?_; rintro e w5 ⟨rfl, hb5'⟩; have hb5 := hbd.trans (hb5'.mono hbd.size); clear hb5')
              | fail)
          clear e0 e1 e2 e3 e4
          obtain ⟨g0, g1, g2, g3, g4⟩ := HS4.out w5 hb5
          have Hi5 := hide (Hi4.out.trans (hb5.mono Hi4.out.size))
          have Hb5 := hide (Hb4.out.trans (hb5.mono Hb4.out.size))
          clear hb5 hbd
          go_wp2
          go_ret
          exact ⟨rfl, Hb5.out⟩
      rcases hw with ⟨rfl, q1, q2, q3⟩ | hw
      · have t3 : (C != 0) = false := by rw [q1]; rfl
        have t4 : (D != 1) = false := by rw [q2]; rfl
        have Q3 := hide q3
        clear q1 q2 q3
        go_wp2_with (first
          | (go_at_call 51; refine (HCk.out _ Hb1.out).mono ?_; rintro e w4 ⟨rfl, hb4⟩; obtain ⟨e0, e1, e2, e3, e4⟩ := HB5.out w4 hb4; have Hb4 := hide (Hb1.out.trans (hb4.mono Hb1.out.size)); have Hi4 := hide hb4; clear hb4)
          | fail)
        have hbd := (Below.refl w4.heap.size w4).drew
        have HS4 := hide (fun (W2 : World) (hb : Below w4.heap.size w4 W2) => HB5.out W2 (Hi4.out.trans (hb.mono Hi4.out.size)))
        clear e0 e1 e2 e3 e4
        obtain ⟨e0, e1, e2, e3, e4⟩ := HB5.out w4 Hi4.out
        go_region_held3 (fun W2 => W2.cell? ⟨wo.heap.size, 0, none⟩ = some (.string tx) ∧ W2.cell? ⟨wo.heap.size, 1, none⟩ = some (.int .i64 1) ∧ W2.cell? ⟨wo.heap.size, 2, none⟩ = some (.int .i64 fo) ∧ W2.cell? ⟨wo.heap.size, 3, none⟩ = some (.int .i64 ba) ∧ W2.cell? ⟨wo.heap.size, 4, none⟩ = some (.int .i64 fl))
          (first | exact HS4.out _ hb5 | exact HS4.out _ hbd)
          (first
            | (go_at_call 52; refine (HWd.out _ (Hb4.out.trans (hbd.mono Hb4.out.size))).mono ?_; rintro e w5 ⟨rfl, hb5'⟩; have hb5 := hbd.trans (hb5'.mono hbd.size); clear hb5')
            | fail)
        clear e0 e1 e2 e3 e4
        obtain ⟨g0, g1, g2, g3, g4⟩ := HS4.out w5 hb5
        have Hi5 := hide (Hi4.out.trans (hb5.mono Hi4.out.size))
        have Hb5 := hide (Hb4.out.trans (hb5.mono Hb4.out.size))
        clear hb5 hbd
        go_wp2
        go_quiet (fail)
        go_wp2
        go_roundw
        case rel => exact ⟨k + 1, by omega, by go_num, Q3.out, below_drewN Hb5.out _⟩
        case measure => simp [intOf]; omega
      have hdl : (l.drop (k + 1)).length = n - (k + 1) := by rw [List.length_drop, Hn.out]
      rcases hw with ⟨rfl, q1, q2, q3, rfl⟩ | hw
      · have t3 : (C != 0) = false := by rw [q1]; rfl
        have t4 : (D != 2) = false := by rw [q2]; rfl
        rw [q3] at hdl
        have hk1 : k + 1 = n := by simp at hdl; omega
        have hix : (k : Int) + 1 = (n : Int) := by omega
        have hwr : IntKind.i64.wrap (n : Int) = (n : Int) := IntWalk.i64_in _ (by omega)
        have t5 : decide ((n : Int) ≤ (n : Int)) = true := decide_eq_true (by omega)
        have t6 : decide (n ≤ n) = true := decide_eq_true (by omega)
        clear q1 q2 q3 hdl hk1
        go_wp2_with (first
          | (go_at_call 51; refine (HCk.out _ Hb1.out).mono ?_; rintro e w4 ⟨rfl, hb4⟩; obtain ⟨e0, e1, e2, e3, e4⟩ := HB5.out w4 hb4; have Hb4 := hide (Hb1.out.trans (hb4.mono Hb1.out.size)); have Hi4 := hide hb4; clear hb4)
          | fail)
        have hbd := (Below.refl w4.heap.size w4).drew
        have HS4 := hide (fun (W2 : World) (hb : Below w4.heap.size w4 W2) => HB5.out W2 (Hi4.out.trans (hb.mono Hi4.out.size)))
        clear e0 e1 e2 e3 e4
        obtain ⟨e0, e1, e2, e3, e4⟩ := HB5.out w4 Hi4.out
        go_region_held3 (fun W2 => W2.cell? ⟨wo.heap.size, 0, none⟩ = some (.string tx) ∧ W2.cell? ⟨wo.heap.size, 1, none⟩ = some (.int .i64 2) ∧ W2.cell? ⟨wo.heap.size, 2, none⟩ = some (.int .i64 fo) ∧ W2.cell? ⟨wo.heap.size, 3, none⟩ = some (.int .i64 ba) ∧ W2.cell? ⟨wo.heap.size, 4, none⟩ = some (.int .i64 fl))
          (first | exact HS4.out _ hb5 | exact HS4.out _ hbd)
          (first
            | (go_at_call 52; refine (HWd.out _ (Hb4.out.trans (hbd.mono Hb4.out.size))).mono ?_; rintro e w5 ⟨rfl, hb5'⟩; have hb5 := hbd.trans (hb5'.mono hbd.size); clear hb5')
            | fail)
        clear e0 e1 e2 e3 e4
        obtain ⟨g0, g1, g2, g3, g4⟩ := HS4.out w5 hb5
        have Hi5 := hide (Hi4.out.trans (hb5.mono Hi4.out.size))
        have Hb5 := hide (Hb4.out.trans (hb5.mono Hb4.out.size))
        clear hb5 hbd
        go_wp2
        go_quiet (fail)
        go_wp2
        go_ret
        exact ⟨rfl, below_drewN Hb5.out _⟩
      have key : ∀ d rest', l.drop (k + 1) = d :: rest' → k + 1 < n ∧ l[k + 1]? = some d ∧ rest' = l.drop (k + 2) := fun d rest' h => by
        rw [h] at hdl
        rw [List.length_cons] at hdl
        have hlt2 : k + 1 < l.length := by rw [Hn.out]; omega
        rw [List.drop_eq_getElem_cons hlt2] at h
        injection h with h1 h2
        exact ⟨by omega, by rw [List.getElem?_eq_getElem hlt2, h1], h2.symm⟩
      have key2 : ∀ d, l[k + 1]? = some d → ∀ (W2 : World), Below wo.heap.size wo W2 → W2.cell? ⟨b, off + (k + 1) * 5, none⟩ = some (.string d.text) ∧ W2.cell? ⟨b, off + (k + 1) * 5 + 1, none⟩ = some (.int .i64 d.width) ∧ W2.cell? ⟨b, off + (k + 1) * 5 + 2, none⟩ = some (.int .i64 d.fore) ∧ W2.cell? ⟨b, off + (k + 1) * 5 + 3, none⟩ = some (.int .i64 d.back) ∧ W2.cell? ⟨b, off + (k + 1) * 5 + 4, none⟩ = some (.int .i64 d.flags) := fun d hd W2 hb => by
        have hl1 : k + 1 < l.length := (List.getElem?_eq_some_iff.1 hd).1
        obtain ⟨b', off', hA, hbb', c0, c1, c2, c3, c4⟩ := HL.out.get hl1
        cases hA
        rw [(List.getElem?_eq_some_iff.1 hd).2] at c0 c1 c2 c3 c4
        have hx : b < wo.heap.size := by omega
        exact ⟨(hb.cell (p := ⟨b, _, none⟩) hx).trans c0, (hb.cell (p := ⟨b, _, none⟩) hx).trans c1, (hb.cell (p := ⟨b, _, none⟩) hx).trans c2, (hb.cell (p := ⟨b, _, none⟩) hx).trans c3, (hb.cell (p := ⟨b, _, none⟩) hx).trans c4⟩
      rcases hw with ⟨d, rest', rfl, q1, q2, q3, q4, rfl⟩ | ⟨d, rest', rfl, q1, q2, q3, q4, q5⟩
      · obtain ⟨p1, p2, p3⟩ := key d rest' q3
        have K2 := hide (key2 d p2)
        have hq := fun W2 => neq_half W2 d ⟨tx, 2, fo, ba, fl⟩ false q4
        obtain ⟨dt, dw, df, db, dg⟩ := d
        obtain ⟨k1, hk1⟩ : ∃ k1, k + 1 = k1 := ⟨_, rfl⟩
        rw [hk1] at K2 p1
        dsimp only [Bool.not_true, Bool.not_false] at K2 hq
        have t3 : (C != 0) = false := by rw [q1]; rfl
        have t4 : (D != 2) = false := by rw [q2]; rfl
        have t5 : decide ((n : Int) ≤ (k1 : Int)) = false := decide_eq_false (by omega)
        have t6 : decide (n ≤ k1) = false := decide_eq_false (by omega)
        have p1I : (k1 : Int) < (n : Int) := by omega
        have hix : (k : Int) + 1 = (k1 : Int) := by omega
        have hwr : IntKind.i64.wrap (k1 : Int) = (k1 : Int) := IntWalk.i64_in _ (by omega)
        have Hk1 := hide hk1
        have P3 := hide p3
        clear hk1 key key2 hdl q1 q2 q3 q4 p2 p3
        go_wp2_with (first
          | (go_at_call 51; refine (HCk.out _ Hb1.out).mono ?_; rintro e w4 ⟨rfl, hb4⟩; obtain ⟨e0, e1, e2, e3, e4⟩ := HB5.out w4 hb4; have Hb4 := hide (Hb1.out.trans (hb4.mono Hb1.out.size)); have Hi4 := hide hb4; clear hb4)
          | fail)
        have hbd := (Below.refl w4.heap.size w4).drew
        have HS4 := hide (fun (W2 : World) (hb : Below w4.heap.size w4 W2) => HB5.out W2 (Hi4.out.trans (hb.mono Hi4.out.size)))
        clear e0 e1 e2 e3 e4
        obtain ⟨e0, e1, e2, e3, e4⟩ := HB5.out w4 Hi4.out
        go_region_held3 (fun W2 => W2.cell? ⟨wo.heap.size, 0, none⟩ = some (.string tx) ∧ W2.cell? ⟨wo.heap.size, 1, none⟩ = some (.int .i64 2) ∧ W2.cell? ⟨wo.heap.size, 2, none⟩ = some (.int .i64 fo) ∧ W2.cell? ⟨wo.heap.size, 3, none⟩ = some (.int .i64 ba) ∧ W2.cell? ⟨wo.heap.size, 4, none⟩ = some (.int .i64 fl))
          (first | exact HS4.out _ hb5 | exact HS4.out _ hbd)
          (first
            | (go_at_call 52; refine (HWd.out _ (Hb4.out.trans (hbd.mono Hb4.out.size))).mono ?_; rintro e w5 ⟨rfl, hb5'⟩; have hb5 := hbd.trans (hb5'.mono hbd.size); clear hb5')
            | fail)
        clear e0 e1 e2 e3 e4
        obtain ⟨g0, g1, g2, g3, g4⟩ := HS4.out w5 hb5
        have Hi5 := hide (Hi4.out.trans (hb5.mono Hi4.out.size))
        have Hb5 := hide (Hb4.out.trans (hb5.mono Hb4.out.size))
        clear hb5 hbd
        obtain ⟨z0, z1, z2, z3, z4⟩ := K2.out w5 (HO1.out w5 Hi5.out)
        go_wp2
        go_quiet (fail)
        go_wp2
        go_ret
        exact ⟨rfl, below_drewN Hb5.out _⟩
      · have Q5 := hide q5
        clear q5
        obtain ⟨p1, p2, p3⟩ := key d rest' q3
        have K2 := hide (key2 d p2)
        have hq := fun W2 => neq_half W2 d ⟨tx, 2, fo, ba, fl⟩ true q4
        obtain ⟨dt, dw, df, db, dg⟩ := d
        obtain ⟨k1, hk1⟩ : ∃ k1, k + 1 = k1 := ⟨_, rfl⟩
        rw [hk1] at K2 p1
        dsimp only [Bool.not_true, Bool.not_false] at K2 hq
        have t3 : (C != 0) = false := by rw [q1]; rfl
        have t4 : (D != 2) = false := by rw [q2]; rfl
        have t5 : decide ((n : Int) ≤ (k1 : Int)) = false := decide_eq_false (by omega)
        have t6 : decide (n ≤ k1) = false := decide_eq_false (by omega)
        have p1I : (k1 : Int) < (n : Int) := by omega
        have hix : (k : Int) + 1 = (k1 : Int) := by omega
        have hwr : IntKind.i64.wrap (k1 : Int) = (k1 : Int) := IntWalk.i64_in _ (by omega)
        have Hk1 := hide hk1
        have P3 := hide p3
        clear hk1 key key2 hdl q1 q2 q3 q4 p2 p3
        go_wp2_with (first
          | (go_at_call 51; refine (HCk.out _ Hb1.out).mono ?_; rintro e w4 ⟨rfl, hb4⟩; obtain ⟨e0, e1, e2, e3, e4⟩ := HB5.out w4 hb4; have Hb4 := hide (Hb1.out.trans (hb4.mono Hb1.out.size)); have Hi4 := hide hb4; clear hb4)
          | fail)
        have hbd := (Below.refl w4.heap.size w4).drew
        have HS4 := hide (fun (W2 : World) (hb : Below w4.heap.size w4 W2) => HB5.out W2 (Hi4.out.trans (hb.mono Hi4.out.size)))
        clear e0 e1 e2 e3 e4
        obtain ⟨e0, e1, e2, e3, e4⟩ := HB5.out w4 Hi4.out
        go_region_held3 (fun W2 => W2.cell? ⟨wo.heap.size, 0, none⟩ = some (.string tx) ∧ W2.cell? ⟨wo.heap.size, 1, none⟩ = some (.int .i64 2) ∧ W2.cell? ⟨wo.heap.size, 2, none⟩ = some (.int .i64 fo) ∧ W2.cell? ⟨wo.heap.size, 3, none⟩ = some (.int .i64 ba) ∧ W2.cell? ⟨wo.heap.size, 4, none⟩ = some (.int .i64 fl))
          (first | exact HS4.out _ hb5 | exact HS4.out _ hbd)
          (first
            | (go_at_call 52; refine (HWd.out _ (Hb4.out.trans (hbd.mono Hb4.out.size))).mono ?_; rintro e w5 ⟨rfl, hb5'⟩; have hb5 := hbd.trans (hb5'.mono hbd.size); clear hb5')
            | fail)
        clear e0 e1 e2 e3 e4
        obtain ⟨g0, g1, g2, g3, g4⟩ := HS4.out w5 hb5
        have Hi5 := hide (Hi4.out.trans (hb5.mono Hi4.out.size))
        have Hb5 := hide (Hb4.out.trans (hb5.mono Hb4.out.size))
        clear hb5 hbd
        obtain ⟨z0, z1, z2, z3, z4⟩ := K2.out w5 (HO1.out w5 Hi5.out)
        go_wp2
        go_quiet (fail)
        go_wp2
        go_roundw
        case rel => exact ⟨k1 + 1, by omega, by go_num, by rw [show k1 + 1 = k + 2 by have := Hk1.out; omega, ← P3.out]; exact Q5.out, below_drewN Hb5.out _⟩
        case measure => have := Hk1.out; simp [intOf]; omega
    · obtain rfl : n = k := by omega
      have hnl : ¬ (n : Int) < (n : Int) := by omega
      have he0 : E = 0 := by rw [← he, List.drop_of_length_le (by rw [Hn.out]; exact Nat.le_refl _)]; rfl
      subst he0
      go_wp2
      go_ret
      exact ⟨rfl, Hb.out⟩
end Go.Proofs.YtdmnnjpbndngeaaDoor

/- Chapter 45: attr.Check, attr.Style; the search for a cell whose rendition is out of range. -/
namespace Go.Proofs.YtdmnnjpbndngeaaDoor
open Go.RowKit Go.Shelf

def atE (x : Int) : Bool := decide (-1 ≤ x) && decide (x ≤ 255)
set_option maxRecDepth 100000 in
set_option maxHeartbeats 1000000 in
theorem attrP (w : World) (a b f : Int) :
    Calls Tryd.prog 39 #[.agg #[.int .i64 a, .int .i64 b, .int .i64 f]] w fun e w' => e = .returned (.int .i64 (if attrOk ⟨⟨#[]⟩, 0, a, b, f⟩ = true then 0 else 2)) ∧ Below w.heap.size w w' := by
  have hb0 := (Below.refl w.heap.size w).alloc (Nat.le_refl _) (.cells #[.int .i64 a, .int .i64 b, .int .i64 f] 28)
  obtain ⟨W0, hW0⟩ : ∃ W0, w.alloc (.cells #[.int .i64 a, .int .i64 b, .int .i64 f] 28) = W0 := ⟨_, rfl⟩
  have hbk : W0.heap[w.heap.size]? = some (.cells #[.int .i64 a, .int .i64 b, .int .i64 f] 28 (0, 0)) := by rw [← hW0]; exact block_new w _
  rw [hW0] at hb0
  have k0 : W0.cell? ⟨w.heap.size, 0, none⟩ = some (.int .i64 a) := cell_block hbk 0
  have k1 : W0.cell? ⟨w.heap.size, 1, none⟩ = some (.int .i64 b) := cell_block hbk 1
  have k2 : W0.cell? ⟨w.heap.size, 2, none⟩ = some (.int .i64 f) := cell_block hbk 2
  have Hb0 := hide hb0
  clear hbk hb0
  have i0 : ∀ w : World, (Instr.index 116 (.agg #[.int .i64 a, .int .i64 b]) (.int .i64 0)).run Tryd.prog w = .ok (.int .i64 a) w := fun _ => by kernel_rfl
  have i1 : ∀ w : World, (Instr.index 116 (.agg #[.int .i64 a, .int .i64 b]) (.int .i64 1)).run Tryd.prog w = .ok (.int .i64 b) w := fun _ => by kernel_rfl
  obtain ⟨R, hR⟩ : ∃ R : Int, (if attrOk ⟨⟨#[]⟩, 0, a, b, f⟩ = true then (0 : Int) else 2) = R := ⟨_, rfl⟩
  have HR := hide hR
  rw [hR]
  clear hR
  go_enter Tryd.func39, Tryd.ntmps39
  go_wp2
  go_loop [10] (fun i => i = .int .i64 0 ∨ (i = .int .i64 1 ∧ atE a = true) ∨ (i = .int .i64 2 ∧ atE a = true ∧ atE b = true)) (fun i => 2 - (intOf i).toNat)
  case atStart => exact .inl rfl
  case round =>
    have ways : ∀ x : Int, (decide (x < -1) = true ∧ atE x = false) ∨ (decide (x < -1) = false ∧ decide (255 < x) = true ∧ atE x = false) ∨ (decide (x < -1) = false ∧ decide (255 < x) = false ∧ atE x = true) := fun x => by
      unfold atE
      by_cases h1 : x < -1
      · exact .inl ⟨decide_eq_true h1, by rw [decide_eq_false (show ¬ -1 ≤ x by omega)]; rfl⟩
      · by_cases h2 : 255 < x
        · exact .inr (.inl ⟨decide_eq_false h1, decide_eq_true h2, by rw [decide_eq_false (show ¬ x ≤ 255 by omega), Bool.and_false]⟩)
        · exact .inr (.inr ⟨decide_eq_false h1, decide_eq_false h2, by rw [decide_eq_true (show -1 ≤ x by omega), decide_eq_true (show x ≤ 255 by omega)]; rfl⟩)
    have hbad : ∀ h : (atE a && atE b) = false, R = 2 := fun h => by
      rw [← HR.out]; unfold attrOk; dsimp only
      unfold atE at h
      rw [← Bool.and_assoc, h]; rfl
    have Hbad := hide hbad
    clear hbad
    rcases hrel with rfl | ⟨rfl, ha⟩ | ⟨rfl, ha, hbb⟩
    · rcases ways a with ⟨d1, d3⟩ | ⟨d1, d2, d3⟩ | ⟨d1, d2, d3⟩
      · have Hq := hide (Hbad.out (by rw [d3]; rfl))
        clear d3 ways
        go_wp2
        go_ret
        exact ⟨ret_int Hq.out.symm, Hb0.out⟩
      · have Hq := hide (Hbad.out (by rw [d3]; rfl))
        clear d3 ways
        go_wp2
        go_ret
        exact ⟨ret_int Hq.out.symm, Hb0.out⟩
      · have D3 := hide d3
        clear d3 ways
        go_wp2
        go_round
        case rel => exact .inr (.inl ⟨rfl, D3.out⟩)
        case measure => simp [intOf]
    · rcases ways b with ⟨d1, d3⟩ | ⟨d1, d2, d3⟩ | ⟨d1, d2, d3⟩
      · have Hq := hide (Hbad.out (by rw [d3, Bool.and_false]))
        clear d3 ways ha
        go_wp2
        go_ret
        exact ⟨ret_int Hq.out.symm, Hb0.out⟩
      · have Hq := hide (Hbad.out (by rw [d3, Bool.and_false]))
        clear d3 ways ha
        go_wp2
        go_ret
        exact ⟨ret_int Hq.out.symm, Hb0.out⟩
      · have D3 := hide d3
        have Ha := hide ha
        clear d3 ways ha
        go_wp2
        go_round
        case rel => exact .inr (.inr ⟨rfl, Ha.out, D3.out⟩)
        case measure => simp [intOf]
    · have key : R = if decide (0 ≤ f) && decide (f ≤ 255) then 0 else 2 := by
        rw [← HR.out]; unfold attrOk; dsimp only
        unfold atE at ha hbb
        rw [ha, hbb]; rfl
      have Hk := hide key
      clear key ha hbb ways
      by_cases h1 : f < 0
      · have d1 : decide (f < 0) = true := decide_eq_true h1
        go_wp2
        go_ret
        exact ⟨ret_int (by rw [Hk.out, decide_eq_false (show ¬ 0 ≤ f by omega)]; rfl), Hb0.out⟩
      have d1 : decide (f < 0) = false := decide_eq_false h1
      by_cases h2 : 255 < f
      · have d2 : decide (255 < f) = true := decide_eq_true h2
        go_wp2
        go_ret
        exact ⟨ret_int (by rw [Hk.out, decide_eq_false (show ¬ f ≤ 255 by omega), Bool.and_false]; rfl), Hb0.out⟩
      have d2 : decide (255 < f) = false := decide_eq_false h2
      go_wp2
      go_ret
      exact ⟨ret_int (by rw [Hk.out, decide_eq_true (show 0 ≤ f by omega), decide_eq_true (show f ≤ 255 by omega)]; rfl), Hb0.out⟩

set_option maxHeartbeats 1000000 in
theorem styleP (w : World) (a b f : Int) :
    Calls Tryd.prog 43 #[.agg #[.int .i64 a, .int .i64 b, .int .i64 f]] w fun e w' => e = .returned (.int .i64 (stylF f)) ∧ Below w.heap.size w w' := by
  have hb0 := (Below.refl w.heap.size w).alloc (Nat.le_refl _) (.cells #[.int .i64 a, .int .i64 b, .int .i64 f] 28)
  unfold stylF
  obtain ⟨x, hx⟩ : ∃ x, bits BinOp.and IntKind.i64 f 64 = x := ⟨_, rfl⟩
  obtain ⟨y, hy⟩ : ∃ y, bits BinOp.and IntKind.i64 f 32 = y := ⟨_, rfl⟩
  obtain ⟨z, hz⟩ : ∃ z, bits BinOp.and IntKind.i64 f 29 = z := ⟨_, rfl⟩
  rw [hx, hy, hz]
  by_cases h1 : x ≠ 0
  · have d1 : (x != 0) = true := by rw [bne_iff_ne]; exact h1
    rw [if_pos h1]
    go_enter Tryd.func43, Tryd.ntmps43
    go_wp2
    go_ret
    exact ⟨rfl, hb0⟩
  have d1 : (x != 0) = false := by rw [Decidable.not_not.1 h1]; rfl
  rw [if_neg h1]
  by_cases h2 : y ≠ 0
  · have d2 : (y != 0) = true := by rw [bne_iff_ne]; exact h2
    rw [if_pos h2]
    go_enter Tryd.func43, Tryd.ntmps43
    go_wp2
    go_ret
    exact ⟨rfl, hb0⟩
  have d2 : (y != 0) = false := by rw [Decidable.not_not.1 h2]; rfl
  rw [if_neg h2]
  by_cases h3 : z ≠ 0
  · have d3 : (z != 0) = true := by rw [bne_iff_ne]; exact h3
    rw [if_pos h3]
    go_enter Tryd.func43, Tryd.ntmps43
    go_wp2
    go_ret
    exact ⟨rfl, hb0⟩
  have d3 : (z != 0) = false := by rw [Decidable.not_not.1 h3]; rfl
  rw [if_neg h3]
  go_enter Tryd.func43, Tryd.ntmps43
  go_wp2
  go_ret
  exact ⟨rfl, hb0⟩

def Ce.val (c : Ce) : Value := .agg #[.string c.text, .int .i64 c.width, .int .i64 c.fore, .int .i64 c.back, .int .i64 c.flags]
set_option maxHeartbeats 1000000 in
theorem badP (w : World) (c : Ce) :
    Calls Tryd.prog 38 #[c.val] w fun e w' => e = .returned (.bool (!attrOk c)) ∧ Below w.heap.size w w' := by
  obtain ⟨tx, wd, a, b, f⟩ := c
  have hb0 := (Below.refl w.heap.size w).alloc (Nat.le_refl _) (.cells #[.string tx, .int .i64 wd, .int .i64 a, .int .i64 b, .int .i64 f] 47)
  have HA := hide (fun W2 => attrP W2 a b f)
  have e : attrOk ⟨tx, wd, a, b, f⟩ = attrOk ⟨⟨#[]⟩, 0, a, b, f⟩ := rfl
  rw [e]
  unfold Ce.val
  cases h : attrOk ⟨⟨#[]⟩, 0, a, b, f⟩ with
  | true =>
    simp only [h, if_true] at HA
    clear h e
    go_enter Tryd.func38, Tryd.ntmps38
    go_wp2_with (go_at_call 39; refine (HA.out _).mono ?_; rintro e w1 ⟨rfl, hb1⟩)
    go_ret
    exact ⟨rfl, hb0.trans (hb1.mono hb0.size)⟩
  | false =>
    simp only [h] at HA
    rw [if_neg (by simp)] at HA
    clear h e
    go_enter Tryd.func38, Tryd.ntmps38
    go_wp2_with (go_at_call 39; refine (HA.out _).mono ?_; rintro e w1 ⟨rfl, hb1⟩)
    go_ret
    exact ⟨rfl, hb0.trans (hb1.mono hb0.size)⟩

set_option maxRecDepth 100000 in
set_option maxHeartbeats 1000000 in
theorem indexFP (w : World) (A : Option Addr) (c : Nat) (l : List Ce) (h : CeRow w w.heap.size A l) (hl : l.length ≤ 1000) :
    Calls Tryd.prog 55 #[.slice A l.length c, .func (.func 38) #[] #[]] w fun e w' => ∃ i : Int, e = .returned (.int .i64 i) ∧ decide (0 ≤ i) = !(l.all attrOk) ∧ Below w.heap.size w w' := by
  have HH := hide h
  obtain ⟨n, hn⟩ : ∃ n, l.length = n := ⟨_, rfl⟩
  have Hn := hide hn
  have HB := hide badP
  unfold Ce.val at HB
  have Hrf := hide (Below.refl w.heap.size w)
  rw [hn] at hl ⊢
  clear h hn
  go_enter Tryd.func55, Tryd.ntmps55
  go_wp2
  go_loopw [8] (fun i wr => ∃ k : Nat, k ≤ n ∧ i = .int .i64 (k : Int) ∧ (l.take k).all attrOk = true ∧ Below w.heap.size w wr) (fun i _ => n - (intOf i).toNat)
  case atStart => exact ⟨0, Nat.zero_le _, rfl, by simp, Hrf.out⟩
  case round =>
    clear Hrf
    obtain ⟨k, hk, rfl, ha, hb⟩ := hrel
    rename World => wo
    have hso := hb.size
    have Hb := hide hb
    have Ha := hide ha
    clear hb ha
    by_cases hlt : k < n
    · have hltI : (k : Int) < (n : Int) := by omega
      have hkl : k < l.length := by rw [Hn.out]; exact hlt
      obtain ⟨b, off, hA, hbb, c0, c1, c2, c3, c4⟩ := (HH.out.below (CeAt.stays _) Hb.out).get hkl
      have Hall := hide (all_take_succ attrOk l k hkl)
      have Hnot := hide (all_not attrOk l k hkl)
      obtain ⟨x, hx⟩ : ∃ x, l[k] = x := ⟨_, rfl⟩
      rw [hx] at c0 c1 c2 c3 c4 Hall Hnot
      subst hA
      have Hx := hide (HB.out wo x)
      obtain ⟨y, hy⟩ : ∃ y, attrOk x = y := ⟨_, rfl⟩
      rw [hy] at Hx Hall Hnot
      clear hx hy HB
      cases y with
      | true =>
        go_wp2_with (first
          | (go_at_call 38; refine Hx.out.mono ?_; rintro e w1 ⟨rfl, hb1⟩; have Hb1 := hide (Hb.out.trans (hb1.mono hso)); clear hb1)
          | fail)
        go_roundw
        case rel => exact ⟨k + 1, by omega, by go_num, by rw [Hall.out, Ha.out]; rfl, Hb1.out⟩
        case measure => simp [intOf]; omega
      | false =>
        have Hnt := hide (Hnot.out rfl)
        clear Hnot
        go_wp2_with (first
          | (go_at_call 38; refine Hx.out.mono ?_; rintro e w1 ⟨rfl, hb1⟩; have Hb1 := hide (Hb.out.trans (hb1.mono hso)); clear hb1)
          | fail)
        go_ret
        exact ⟨_, rfl, by rw [Hnt.out, decide_eq_true (by omega)]; rfl, Hb1.out⟩
    · obtain rfl : n = k := by omega
      have hnl : ¬ (n : Int) < (n : Int) := by omega
      have hall : l.all attrOk = true := by
        have := Ha.out
        rwa [List.take_of_length_le (by rw [Hn.out]; exact Nat.le_refl _)] at this
      have Hall := hide hall
      clear hall
      go_wp2
      go_ret
      exact ⟨_, rfl, by rw [Hall.out]; rfl, Hb.out⟩

theorem containsFP (w : World) (A : Option Addr) (c : Nat) (l : List Ce) (h : CeRow w w.heap.size A l) (hl : l.length ≤ 1000) :
    Calls Tryd.prog 37 #[.slice A l.length c, .func (.func 38) #[] #[]] w fun e w' => e = .returned (.bool (!(l.all attrOk))) ∧ Below w.heap.size w w' := by
  have HI := hide (indexFP w A c l h hl)
  clear h
  go_enter Tryd.func37, Tryd.ntmps37
  go_wp2_with (go_at_call 55; refine HI.out.mono ?_; rintro e w1 ⟨i, rfl, hi, hb1⟩)
  go_ret
  exact ⟨rfl, hb1⟩
end Go.Proofs.YtdmnnjpbndngeaaDoor

/- Chapter 45: may a terminal be shown: view.showable. -/
namespace Go.Proofs.YtdmnnjpbndngeaaDoor
open Go.RowKit Go.Shelf

/-- The size of the rows of cells that the statements examine. -/
def TameC (rows : List (List Ce)) : Prop := rows.length ≤ 12 ∧ ∀ l ∈ rows, l.length ≤ 140 ∧ ∀ x ∈ l, x.text.size ≤ 40
theorem large_tame {rows : List (List Ce)} (h : largeC rows = false) : TameC rows := by
  unfold largeC at h
  rw [Bool.or_eq_false_iff] at h
  refine ⟨by have := of_decide_eq_false h.1; omega, fun l hl => ?_⟩
  have h2 := List.any_eq_false.1 h.2 l hl
  unfold rowGreatC at h2
  simp only [Bool.not_eq_true, Bool.or_eq_false_iff] at h2
  refine ⟨by have := of_decide_eq_false h2.1; omega, fun x hx => ?_⟩
  have h3 := List.any_eq_false.1 h2.2 x hx
  simp at h3; omega
theorem showB_no {W H r c : Int} {rows : List (List Ce)} (h : sizedB W H = false ∨ (rows.length : Int) ≠ H ∨ r < 0 ∨ H ≤ r ∨ c < 0 ∨ W ≤ c) : showB W H rows r c = false := by
  unfold showB insB
  rcases h with h | h | h | h | h | h
  · rw [h]; rfl
  · rw [decide_eq_false h]; simp
  · rw [decide_eq_false (show ¬ 0 ≤ r by omega)]; simp
  · rw [decide_eq_false (show ¬ r < H by omega)]; simp
  · rw [decide_eq_false (show ¬ 0 ≤ c by omega)]; simp
  · rw [decide_eq_false (show ¬ c < W by omega)]; simp
theorem showB_yes {W H r c : Int} {rows : List (List Ce)} (h1 : sizedB W H = true) (h2 : (rows.length : Int) = H) (h3 : ¬ r < 0) (h4 : ¬ H ≤ r) (h5 : ¬ c < 0) (h6 : ¬ W ≤ c) : showB W H rows r c = rows.all (rowShow W) := by
  unfold showB insB
  rw [h1, decide_eq_true h2, decide_eq_true (show 0 ≤ r by omega), decide_eq_true (show r < H by omega), decide_eq_true (show 0 ≤ c by omega), decide_eq_true (show c < W by omega)]; rfl
theorem at2 (W : World) (o1 o2 : Obj) (n : Nat) (hn : W.heap.size = n) : (((W.alloc o1).alloc o2).drew).heap[n]? = some o1 ∧ (((W.alloc o1).alloc o2).drew).heap[n + 1]? = some o2 := by
  subst hn
  have e1 : ∀ (w : World) (o : Obj), (w.alloc o).heap.size = w.heap.size + 1 := fun w o => by simp
  have a1 := block_new W o1
  have a2 := block_new (W.alloc o1) o2
  rw [e1] at a2
  exact ⟨block_alloc a1 _, a2⟩
theorem cells3 {w : World} {b : Nat} {v0 v1 v2 : Value} {t : TypeId} (h : w.heap[b]? = some (.cells #[v0, v1, v2] t (0, 0))) : w.cell? ⟨b, 0, none⟩ = some v0 ∧ w.cell? ⟨b, 1, none⟩ = some v1 ∧ w.cell? ⟨b, 2, none⟩ = some v2 :=
  ⟨cell_block h 0, cell_block h 1, cell_block h 2⟩
theorem bA {a w : World} (h : Below a.heap.size a w) (o : Obj) : Below a.heap.size a (w.alloc o) := h.alloc h.size o
theorem bS {a w : World} (h : Below a.heap.size a w) {p : Addr} (hp : a.heap.size ≤ p.block) (u : Value) : Below a.heap.size a (w.setCell p u) := h.setCell hp u
theorem bD {a w : World} (h : Below a.heap.size a w) : Below a.heap.size a w.drew := h.drew

set_option maxRecDepth 100000 in
set_option maxHeartbeats 4000000 in
theorem showP (w : World) (A : Option Addr) (c : Nat) (t : Tm) (h : CRows2 w w.heap.size A t.rows) (ht : TameC t.rows) (hT : Tabs w) :
    Calls Tryd.prog 21 #[t.val A c] w fun e w' => e = .returned (.bool (showB t.W t.H t.rows t.row t.col)) ∧ Below w.heap.size w w' := by
  obtain ⟨W, H, rows, row, col, vis, I, B, S, SA, SL, SC⟩ := t
  unfold Tm.val
  dsimp only at h ht ⊢
  obtain ⟨W0, hW0⟩ : ∃ W0, w.alloc (.cells #[.int .i64 W, .int .i64 H, .slice A rows.length c, .int .i64 (I 3), .int .i64 (I 4), .slice (SA 5) (SL 5) (SC 5), .int .i64 row, .int .i64 col, .bool (B 8), .int .i64 (I 9), .int .i64 (I 10), .bool (B 11), .int .i64 (I 12), .int .i64 (I 13), .int .i64 (I 14), .bool (B 15), .int .u8 (I 16), .int .u8 (I 17), .int .i64 (I 18), .int .i64 (I 19), .int .i64 (I 20), .int .i64 (I 21), .bool (B 22), .bool (B 23), .bool (B 24), .bool (B 25), .bool (B 26), .bool vis, .bool (B 28), .bool (B 29), .int .u8 (I 30), .int .u8 (I 31), .int .i64 (I 32), .int .i64 (I 33), .int .i64 (I 34), .slice (SA 35) (SL 35) (SC 35), .slice (SA 36) (SL 36) (SC 36), .int .i64 (I 37), .string (S 38), .string (S 39), .string (S 40), .string (S 41)] 38) = W0 := ⟨_, rfl⟩
  have hbox : Below w.heap.size w W0 := by rw [← hW0]; exact (Below.refl w.heap.size w).alloc (Nat.le_refl _) _
  have hblk : W0.heap[w.heap.size]? = some (.cells #[.int .i64 W, .int .i64 H, .slice A rows.length c, .int .i64 (I 3), .int .i64 (I 4), .slice (SA 5) (SL 5) (SC 5), .int .i64 row, .int .i64 col, .bool (B 8), .int .i64 (I 9), .int .i64 (I 10), .bool (B 11), .int .i64 (I 12), .int .i64 (I 13), .int .i64 (I 14), .bool (B 15), .int .u8 (I 16), .int .u8 (I 17), .int .i64 (I 18), .int .i64 (I 19), .int .i64 (I 20), .int .i64 (I 21), .bool (B 22), .bool (B 23), .bool (B 24), .bool (B 25), .bool (B 26), .bool vis, .bool (B 28), .bool (B 29), .int .u8 (I 30), .int .u8 (I 31), .int .i64 (I 32), .int .i64 (I 33), .int .i64 (I 34), .slice (SA 35) (SL 35) (SC 35), .slice (SA 36) (SL 36) (SC 36), .int .i64 (I 37), .string (S 38), .string (S 39), .string (S 40), .string (S 41)] 38 (0, 0)) := by rw [← hW0]; exact block_new w _
  have hs0 : w.heap.size < W0.heap.size := block_lt hblk
  have HS := hide (fun (W2 : World) (hb : Below W0.heap.size W0 W2) => show W2.cell? ⟨w.heap.size, 0, none⟩ = some (.int .i64 W) ∧ W2.cell? ⟨w.heap.size, 1, none⟩ = some (.int .i64 H) ∧ W2.cell? ⟨w.heap.size, 2, none⟩ = some (.slice A rows.length c) ∧ W2.cell? ⟨w.heap.size, 6, none⟩ = some (.int .i64 row) ∧ W2.cell? ⟨w.heap.size, 7, none⟩ = some (.int .i64 col) ∧ W2.cell? ⟨w.heap.size, 8, none⟩ = some (.bool (B 8)) from
    have hk := block_below hblk hb hs0
    ⟨cell_block hk 0, cell_block hk 1, cell_block hk 2, cell_block hk 6, cell_block hk 7, cell_block hk 8⟩)
  obtain ⟨k0, k1, k2, k6, k7, k8⟩ := HS.out W0 (Below.refl _ _)
  have Hbox := hide hbox
  have HH := hide h
  have HT := hide (fun (W2 : World) (hb : Below w.heap.size w W2) => hT.below hb)
  have Ht := hide ht
  obtain ⟨n, hn⟩ : ∃ n, rows.length = n := ⟨_, rfl⟩
  have Hn := hide hn
  have hn12 : n ≤ 12 := by rw [← hn]; exact ht.1
  obtain ⟨R, hR⟩ : ∃ R, showB W H rows row col = R := ⟨_, rfl⟩
  have HR := hide hR
  rw [hR, hn]
  rw [hn] at hW0 HS k2
  clear h hT ht hbox hblk hR hn hs0
  go_enter Tryd.func21, Tryd.ntmps21
  go_wp2
  go_cut [3, 4] (fun s3 s4 wx => ∃ b3 b4, s3 = .pointer (some ⟨b3, 0, none⟩) ∧ s4 = .pointer (some ⟨b4, 0, none⟩) ∧ Below W0.heap.size W0 wx ∧ wx.heap[b3]? = some (.cells #[.int .i64 W, .int .i64 H, .slice A n c] 24 (0, 0)) ∧ wx.heap[b4]? = some (.cells #[.int .i64 row, .int .i64 col, .bool (B 8)] 26 (0, 0)))
  case first =>
    go_region_held3 (fun W2 => W2.cell? ⟨w.heap.size, 0, none⟩ = some (.int .i64 W) ∧ W2.cell? ⟨w.heap.size, 1, none⟩ = some (.int .i64 H) ∧ W2.cell? ⟨w.heap.size, 2, none⟩ = some (.slice A n c) ∧ W2.cell? ⟨w.heap.size, 6, none⟩ = some (.int .i64 row) ∧ W2.cell? ⟨w.heap.size, 7, none⟩ = some (.int .i64 col) ∧ W2.cell? ⟨w.heap.size, 8, none⟩ = some (.bool (B 8)))
      (exact HS.out _ (by repeat (first | exact Below.refl _ _ | refine bD ?_ | refine bA ?_ _ | refine bS ?_ (by dsimp only; omega) _)))
      (fail)
    all_goals
      go_wp2_with fail
      go_meet
      case rel =>
        refine ⟨_, _, rfl, rfl, (by repeat (first | exact Below.refl _ _ | refine bD ?_ | refine bA ?_ _ | refine bS ?_ (by dsimp only; omega) _)), ?_, ?_⟩
        all_goals first | with_reducible exact (at2 W0 _ _ _ rfl).1 | with_reducible exact (at2 W0 _ _ _ rfl).2
  case rest =>
    obtain ⟨b3, b4, rfl, rfl, hb1, hg3, hg4⟩ := hcut
    obtain ⟨W1, rfl⟩ : ∃ W1 : World, W1 = wc := ⟨_, rfl⟩
    have l3 := block_lt hg3
    have l4 := block_lt hg4
    have HG := hide (fun (W2 : World) (hb : Below W1.heap.size W1 W2) => And.intro (cells3 (block_below hg3 hb l3)) (cells3 (block_below hg4 hb l4)))
    obtain ⟨⟨g0, g1, g2⟩, d0, d1, d2⟩ := HG.out W1 (Below.refl _ _)
    have Hb1 := hide (Hbox.out.trans (hb1.mono Hbox.out.size))
    have HZ := hide (fun W2 => sizedP W2 W H)
    clear hb1 hg3 hg4 l3 l4 HS hW0 k0 k1 k2 k6 k7 k8
    have HNo := hide (fun h => (HR.out.symm.trans (showB_no (W := W) (H := H) (r := row) (c := col) (rows := rows) h)))
    cases hz : sizedB W H with
    | false =>
      have hR := HNo.out (.inl hz)
      rw [hz] at HZ
      subst hR
      clear hz
      go_wp2_with (go_at_call 28; refine (HZ.out W1).mono ?_; rintro e w2 ⟨rfl, rfl⟩)
      go_ret
      exact ⟨rfl, Hb1.out⟩
    | true =>
    rw [hz] at HZ
    have Hz := hide hz
    clear hz
    by_cases h2 : (n : Int) ≠ H
    · have hR := HNo.out (.inr (.inl (by rw [Hn.out]; exact h2)))
      have t2 : ((n : Int) != H) = true := by rw [bne_iff_ne]; exact h2
      subst hR
      clear h2
      go_wp2_with (go_at_call 28; refine (HZ.out W1).mono ?_; rintro e w2 ⟨rfl, rfl⟩)
      go_ret
      exact ⟨rfl, Hb1.out⟩
    have h2 := Decidable.not_not.1 h2
    have t2 : ((n : Int) != H) = false := by rw [h2]; simp
    have H2 := hide h2
    clear h2
    by_cases h3 : row < 0
    · have hR := HNo.out (.inr (.inr (.inl h3)))
      have t3 : decide (row < 0) = true := decide_eq_true h3
      subst hR
      go_wp2_with (go_at_call 28; refine (HZ.out W1).mono ?_; rintro e w2 ⟨rfl, rfl⟩)
      go_ret
      exact ⟨rfl, Hb1.out⟩
    have t3 : decide (row < 0) = false := decide_eq_false h3
    by_cases h4 : H ≤ row
    · have hR := HNo.out (.inr (.inr (.inr (.inl h4))))
      have t4 : decide (H ≤ row) = true := decide_eq_true h4
      subst hR
      go_wp2_with (go_at_call 28; refine (HZ.out W1).mono ?_; rintro e w2 ⟨rfl, rfl⟩)
      go_ret
      exact ⟨rfl, Hb1.out⟩
    have t4 : decide (H ≤ row) = false := decide_eq_false h4
    by_cases h5 : col < 0
    · have hR := HNo.out (.inr (.inr (.inr (.inr (.inl h5)))))
      have t5 : decide (col < 0) = true := decide_eq_true h5
      subst hR
      go_wp2_with (go_at_call 28; refine (HZ.out W1).mono ?_; rintro e w2 ⟨rfl, rfl⟩)
      go_ret
      exact ⟨rfl, Hb1.out⟩
    have t5 : decide (col < 0) = false := decide_eq_false h5
    by_cases h6 : W ≤ col
    · have hR := HNo.out (.inr (.inr (.inr (.inr (.inr h6)))))
      have t6 : decide (W ≤ col) = true := decide_eq_true h6
      subst hR
      go_wp2_with (go_at_call 28; refine (HZ.out W1).mono ?_; rintro e w2 ⟨rfl, rfl⟩)
      go_ret
      exact ⟨rfl, Hb1.out⟩
    have t6 : decide (W ≤ col) = false := decide_eq_false h6
    have hR : rows.all (rowShow W) = R := by
      rw [← HR.out, showB_yes Hz.out (by rw [Hn.out]; exact H2.out) h3 h4 h5 h6]
    have HR := hide hR
    have Hrf := hide (Below.refl W1.heap.size W1)
    clear hR HNo h3 h4 h5 h6
    go_wp2_with (go_at_call 28; refine (HZ.out W1).mono ?_; rintro e w2 ⟨rfl, rfl⟩)
    clear t2 t3 t4 t5 t6
    go_loopw [52] (fun i wr => ∃ k : Nat, k ≤ n ∧ i = .int .i64 (k : Int) ∧ (rows.take k).all (rowShow W) = true ∧ Below W1.heap.size W1 wr) (fun i _ => n - (intOf i).toNat)
    case atStart => exact ⟨0, Nat.zero_le _, rfl, by simp, Hrf.out⟩
    case round =>
      clear Hrf g0 g1 g2 d0 d1 d2
      obtain ⟨k, hk, rfl, ha, hb⟩ := hrel
      rename World => wo
      have hso := hb.size
      have Hb := hide hb
      have Hbw := hide (Hb1.out.trans (hb.mono Hb1.out.size))
      have Ha := hide ha
      obtain ⟨⟨g0, g1, g2⟩, d0, d1, d2⟩ := HG.out wo hb
      clear hb ha
      by_cases hlt : k < n
      · have hltI : (k : Int) < (n : Int) := by omega
        have hkl : k < rows.length := by rw [Hn.out]; exact hlt
        obtain ⟨b, off, hA, hbb, A1, c1, e0, e1, e2⟩ := (HH.out.below Hbw.out).get1 hkl
        have hall := all_take_succ (rowShow W) rows k hkl
        have hnot := all_not (rowShow W) rows k hkl
        have htk := Ht.out.2 _ (List.getElem_mem hkl)
        obtain ⟨l, hl⟩ : ∃ l, rows[k] = l := ⟨_, rfl⟩
        rw [hl] at e0 e1 e2 hall hnot htk
        have hrow : CeRow wo wo.heap.size A1 l := e2.more Hbw.out.size
        have HC := hide (checkCR wo A1 c1 l hrow (fun x hx => by have := htk.2 x hx; omega) (HT.out wo Hbw.out))
        have HF := hide (fun (W2 : World) (hb : Below wo.heap.size wo W2) => containsFP W2 A1 c1 l ((hrow.below (CeAt.stays _) hb).more hb.size) (by omega))
        obtain ⟨q, hq⟩ : ∃ q, l.length = q := ⟨_, rfl⟩
        rw [hq] at e0 HC HF
        have hrs : rowShow W l = (decide ((q : Int) = W) && (decide (rowCE l = 0) && l.all attrOk)) := by unfold rowShow; rw [hq]
        rw [hrs] at hall hnot
        obtain ⟨E, hE⟩ : ∃ E, rowCE l = E := ⟨_, rfl⟩
        obtain ⟨G, hG⟩ : ∃ G, l.all attrOk = G := ⟨_, rfl⟩
        rw [hE] at HC hall hnot
        rw [hG] at HF hall hnot
        subst hA
        clear hl hrow hq hrs hE hG htk e1 e2
        have hq140 : True := trivial
        have Hnot := hide (fun h => HR.out.symm.trans (hnot h))
        have Hall := hide hall
        clear hnot hall
        by_cases q1 : (q : Int) ≠ W
        · have t1 : ((q : Int) != W) = true := by rw [bne_iff_ne]; exact q1
          have hR := Hnot.out (by rw [decide_eq_false q1]; rfl)
          subst hR
          clear q1
          go_wp2
          go_ret
          exact ⟨rfl, Hbw.out⟩
        have q1 := Decidable.not_not.1 q1
        have t1 : ((q : Int) != W) = false := by rw [q1]; simp
        have Q1 := hide q1
        clear q1
        by_cases q2 : E ≠ 0
        · have t2 : (E != 0) = true := by rw [bne_iff_ne]; exact q2
          have hR := Hnot.out (by rw [decide_eq_false q2]; simp)
          subst hR
          clear q2
          go_wp2_with (go_at_call 36; refine HC.out.mono ?_; rintro e w3 ⟨rfl, hb3⟩; have Hb3 := hide (Hbw.out.trans (hb3.mono Hbw.out.size)); clear hb3)
          go_ret
          exact ⟨rfl, Hb3.out⟩
        have q2 := Decidable.not_not.1 q2
        have t2 : (E != 0) = false := by rw [q2]; rfl
        have Q2 := hide q2
        clear q2
        cases G with
        | false =>
          have hR := Hnot.out (by simp)
          subst hR
          go_wp2_with (first
            | (go_at_call 36; refine HC.out.mono ?_; rintro e w3 ⟨rfl, hb3⟩; have Hi3 := hide hb3; have Hb3 := hide (Hbw.out.trans (hb3.mono Hbw.out.size)); clear hb3)
            | (go_at_call 37; refine (HF.out _ Hi3.out).mono ?_; rintro e w4 ⟨rfl, hb4⟩; have Hb4 := hide (Hb3.out.trans (hb4.mono Hb3.out.size)); clear hb4)
            | fail)
          go_ret
          exact ⟨rfl, Hb4.out⟩
        | true =>
          have hnew : (rows.take (k + 1)).all (rowShow W) = true := by rw [Hall.out, Ha.out, decide_eq_true Q1.out, decide_eq_true Q2.out]; rfl
          have Hnew := hide hnew
          clear hnew Hnot Hall
          go_wp2_with (first
            | (go_at_call 36; refine HC.out.mono ?_; rintro e w3 ⟨rfl, hb3⟩; have Hi3 := hide hb3; have Hb3 := hide (Hb.out.trans (hb3.mono hso)); clear hb3)
            | (go_at_call 37; refine (HF.out _ Hi3.out).mono ?_; rintro e w4 ⟨rfl, hb4⟩; have Hb4 := hide (Hb3.out.trans (hb4.mono Hb3.out.size)); clear hb4)
            | fail)
          go_roundw
          case rel => exact ⟨k + 1, by omega, by go_num, Hnew.out, Hb4.out⟩
          case measure => simp [intOf]; omega
      · obtain rfl : n = k := by omega
        have hnl : ¬ (n : Int) < (n : Int) := by omega
        have hR : R = true := by
          rw [← HR.out]
          have := Ha.out
          rwa [List.take_of_length_le (by rw [Hn.out]; exact Nat.le_refl _)] at this
        subst hR
        go_wp2
        go_ret
        exact ⟨rfl, Hbw.out⟩
end Go.Proofs.YtdmnnjpbndngeaaDoor

/- Chapter 45: may a terminal be shown: narratorref15.Showable. -/
namespace Go.Proofs.YtdmnnjpbndngeaaDoor
open Go.RowKit Go.Shelf

set_option maxRecDepth 100000 in
set_option maxHeartbeats 4000000 in
theorem show15 (w : World) (A : Option Addr) (c : Nat) (t : Tm) (h : CRows2 w w.heap.size A t.rows) (ht : TameC t.rows) :
    Calls Tryd.prog 5 #[t.val A c] w fun e w' => e = .returned (.bool (showB t.W t.H t.rows t.row t.col)) ∧ Below w.heap.size w w' := by
  obtain ⟨W, H, rows, row, col, vis, I, B, S, SA, SL, SC⟩ := t
  unfold Tm.val
  dsimp only at h ht ⊢
  obtain ⟨W0, hW0⟩ : ∃ W0, w.alloc (.cells #[.int .i64 W, .int .i64 H, .slice A rows.length c, .int .i64 (I 3), .int .i64 (I 4), .slice (SA 5) (SL 5) (SC 5), .int .i64 row, .int .i64 col, .bool (B 8), .int .i64 (I 9), .int .i64 (I 10), .bool (B 11), .int .i64 (I 12), .int .i64 (I 13), .int .i64 (I 14), .bool (B 15), .int .u8 (I 16), .int .u8 (I 17), .int .i64 (I 18), .int .i64 (I 19), .int .i64 (I 20), .int .i64 (I 21), .bool (B 22), .bool (B 23), .bool (B 24), .bool (B 25), .bool (B 26), .bool vis, .bool (B 28), .bool (B 29), .int .u8 (I 30), .int .u8 (I 31), .int .i64 (I 32), .int .i64 (I 33), .int .i64 (I 34), .slice (SA 35) (SL 35) (SC 35), .slice (SA 36) (SL 36) (SC 36), .int .i64 (I 37), .string (S 38), .string (S 39), .string (S 40), .string (S 41)] 38) = W0 := ⟨_, rfl⟩
  have hbox : Below w.heap.size w W0 := by rw [← hW0]; exact (Below.refl w.heap.size w).alloc (Nat.le_refl _) _
  have hblk : W0.heap[w.heap.size]? = some (.cells #[.int .i64 W, .int .i64 H, .slice A rows.length c, .int .i64 (I 3), .int .i64 (I 4), .slice (SA 5) (SL 5) (SC 5), .int .i64 row, .int .i64 col, .bool (B 8), .int .i64 (I 9), .int .i64 (I 10), .bool (B 11), .int .i64 (I 12), .int .i64 (I 13), .int .i64 (I 14), .bool (B 15), .int .u8 (I 16), .int .u8 (I 17), .int .i64 (I 18), .int .i64 (I 19), .int .i64 (I 20), .int .i64 (I 21), .bool (B 22), .bool (B 23), .bool (B 24), .bool (B 25), .bool (B 26), .bool vis, .bool (B 28), .bool (B 29), .int .u8 (I 30), .int .u8 (I 31), .int .i64 (I 32), .int .i64 (I 33), .int .i64 (I 34), .slice (SA 35) (SL 35) (SC 35), .slice (SA 36) (SL 36) (SC 36), .int .i64 (I 37), .string (S 38), .string (S 39), .string (S 40), .string (S 41)] 38 (0, 0)) := by rw [← hW0]; exact block_new w _
  have hs0 : w.heap.size < W0.heap.size := block_lt hblk
  obtain ⟨W1, hW1⟩ : ∃ W1, W0.alloc (.cells #[.int .i64 W, .int .i64 H, .slice A rows.length c] 24) = W1 := ⟨_, rfl⟩
  have hb1 : Below W0.heap.size W0 W1 := by rw [← hW1]; exact (Below.refl _ _).alloc (Nat.le_refl _) _
  have hg3 : W1.heap[W0.heap.size]? = some (.cells #[.int .i64 W, .int .i64 H, .slice A rows.length c] 24 (0, 0)) := by rw [← hW1]; exact block_new W0 _
  have l3 := block_lt hg3
  have hblk1 := block_below hblk hb1 hs0
  have l4 : w.heap.size < W1.heap.size := by omega
  have HG := hide (fun (W2 : World) (hb : Below W1.heap.size W1 W2) => show (W2.cell? ⟨W0.heap.size, 0, none⟩ = some (.int .i64 W) ∧ W2.cell? ⟨W0.heap.size, 1, none⟩ = some (.int .i64 H) ∧ W2.cell? ⟨W0.heap.size, 2, none⟩ = some (.slice A rows.length c)) ∧ W2.cell? ⟨w.heap.size, 6, none⟩ = some (.int .i64 row) ∧ W2.cell? ⟨w.heap.size, 7, none⟩ = some (.int .i64 col) from
    ⟨cells3 (block_below hg3 hb l3), cell_block (block_below hblk1 hb l4) 6, cell_block (block_below hblk1 hb l4) 7⟩)
  have k0 : W0.cell? ⟨w.heap.size, 0, none⟩ = some (.int .i64 W) := cell_block hblk 0
  have k1 : W0.cell? ⟨w.heap.size, 1, none⟩ = some (.int .i64 H) := cell_block hblk 1
  have k2 : W0.cell? ⟨w.heap.size, 2, none⟩ = some (.slice A rows.length c) := cell_block hblk 2
  have Hb1 := hide (hbox.trans (hb1.mono hbox.size))
  have HH := hide h
  have Ht := hide ht
  obtain ⟨n, hn⟩ : ∃ n, rows.length = n := ⟨_, rfl⟩
  have Hn := hide hn
  have hn12 : n ≤ 12 := by rw [← hn]; exact ht.1
  obtain ⟨R, hR⟩ : ∃ R, showB W H rows row col = R := ⟨_, rfl⟩
  have HR := hide hR
  rw [hR, hn]
  rw [hn] at hW0 hW1 HG k2
  obtain ⟨⟨g0, g1, g2⟩, d0, d1⟩ := HG.out W1 (Below.refl _ _)
  have HZ := hide (fun W2 => size15 W2 W H)
  have HNo := hide (fun h => (HR.out.symm.trans (showB_no (W := W) (H := H) (r := row) (c := col) (rows := rows) h)))
  clear h ht hbox hblk hblk1 hg3 hb1 l3 l4 hR hn hs0
  go_enter Tryd.func5, Tryd.ntmps5
  cases hz : sizedB W H with
  | false =>
    have hR := HNo.out (.inl hz)
    rw [hz] at HZ
    subst hR
    clear hz
    go_wp2_with (go_at_call 10; refine (HZ.out W1).mono ?_; rintro e w2 ⟨rfl, rfl⟩)
    go_ret
    exact ⟨rfl, Hb1.out⟩
  | true =>
  rw [hz] at HZ
  have Hz := hide hz
  clear hz
  by_cases h2 : (n : Int) ≠ H
  · have hR := HNo.out (.inr (.inl (by rw [Hn.out]; exact h2)))
    have t2 : ((n : Int) != H) = true := by rw [bne_iff_ne]; exact h2
    subst hR
    clear h2
    go_wp2_with (go_at_call 10; refine (HZ.out W1).mono ?_; rintro e w2 ⟨rfl, rfl⟩)
    go_ret
    exact ⟨rfl, Hb1.out⟩
  have h2 := Decidable.not_not.1 h2
  have t2 : ((n : Int) != H) = false := by rw [h2]; simp
  have H2 := hide h2
  clear h2
  by_cases h3 : row < 0
  · have hR := HNo.out (.inr (.inr (.inl h3)))
    have t3 : decide (row < 0) = true := decide_eq_true h3
    subst hR
    go_wp2_with (go_at_call 10; refine (HZ.out W1).mono ?_; rintro e w2 ⟨rfl, rfl⟩)
    go_ret
    exact ⟨rfl, Hb1.out⟩
  have t3 : decide (row < 0) = false := decide_eq_false h3
  by_cases h4 : H ≤ row
  · have hR := HNo.out (.inr (.inr (.inr (.inl h4))))
    have t4 : decide (H ≤ row) = true := decide_eq_true h4
    subst hR
    go_wp2_with (go_at_call 10; refine (HZ.out W1).mono ?_; rintro e w2 ⟨rfl, rfl⟩)
    go_ret
    exact ⟨rfl, Hb1.out⟩
  have t4 : decide (H ≤ row) = false := decide_eq_false h4
  by_cases h5 : col < 0
  · have hR := HNo.out (.inr (.inr (.inr (.inr (.inl h5)))))
    have t5 : decide (col < 0) = true := decide_eq_true h5
    subst hR
    go_wp2_with (go_at_call 10; refine (HZ.out W1).mono ?_; rintro e w2 ⟨rfl, rfl⟩)
    go_ret
    exact ⟨rfl, Hb1.out⟩
  have t5 : decide (col < 0) = false := decide_eq_false h5
  by_cases h6 : W ≤ col
  · have hR := HNo.out (.inr (.inr (.inr (.inr (.inr h6)))))
    have t6 : decide (W ≤ col) = true := decide_eq_true h6
    subst hR
    go_wp2_with (go_at_call 10; refine (HZ.out W1).mono ?_; rintro e w2 ⟨rfl, rfl⟩)
    go_ret
    exact ⟨rfl, Hb1.out⟩
  have t6 : decide (W ≤ col) = false := decide_eq_false h6
  have hR : rows.all (rowShow W) = R := by
    rw [← HR.out, showB_yes Hz.out (by rw [Hn.out]; exact H2.out) h3 h4 h5 h6]
  have HR := hide hR
  have Hrf := hide (Below.refl W1.heap.size W1)
  clear hR HNo h3 h4 h5 h6
  go_wp2_with (go_at_call 10; refine (HZ.out W1).mono ?_; rintro e w2 ⟨rfl, rfl⟩)
  clear t2 t3 t4 t5 t6 k0 k1 k2
  go_loopw [4] (fun i wr => ∃ k : Nat, k ≤ n ∧ i = .int .i64 (k : Int) ∧ (rows.take k).all (rowShow W) = true ∧ Below W1.heap.size W1 wr) (fun i _ => n - (intOf i).toNat)
  case atStart => exact ⟨0, Nat.zero_le _, rfl, by simp, Hrf.out⟩
  case round =>
    clear Hrf g0 g1 g2 d0 d1
    obtain ⟨k, hk, rfl, ha, hb⟩ := hrel
    rename World => wo
    have hso := hb.size
    have Hb := hide hb
    have Hbw := hide (Hb1.out.trans (hb.mono Hb1.out.size))
    have Ha := hide ha
    obtain ⟨⟨g0, g1, g2⟩, d0, d1⟩ := HG.out wo hb
    clear hb ha
    by_cases hlt : k < n
    · have hltI : (k : Int) < (n : Int) := by omega
      have hkl : k < rows.length := by rw [Hn.out]; exact hlt
      obtain ⟨b, off, hA, hbb, A1, c1, e0, e1, e2⟩ := (HH.out.below Hbw.out).get1 hkl
      have hall := all_take_succ (rowShow W) rows k hkl
      have hnot := all_not (rowShow W) rows k hkl
      have htk := Ht.out.2 _ (List.getElem_mem hkl)
      obtain ⟨l, hl⟩ : ∃ l, rows[k] = l := ⟨_, rfl⟩
      rw [hl] at e0 e1 e2 hall hnot htk
      have hrow : CeRow wo wo.heap.size A1 l := e2.more Hbw.out.size
      obtain ⟨q, hq⟩ : ∃ q, l.length = q := ⟨_, rfl⟩
      have hq140 : q ≤ 140 := by rw [← hq]; exact htk.1
      have Hql := hide hq
      rw [hq] at e0
      subst hA
      have hbo : b < wo.heap.size := by have := Hbw.out.size; omega
      have HP := hide (fun (W2 : World) (hb : Below wo.heap.size wo W2) => show W2.cell? ⟨W0.heap.size, 0, none⟩ = some (.int .i64 W) ∧ W2.cell? ⟨W0.heap.size, 2, none⟩ = some (.slice (some ⟨b, off, none⟩) n c) ∧ W2.cell? ⟨b, off + k, none⟩ = some (.slice A1 q c1) from
        have hx := HG.out W2 (Hb.out.trans (hb.mono hso))
        ⟨hx.1.1, hx.1.2.2, (hb.cell (p := ⟨b, off + k, none⟩) hbo).trans e0⟩)
      have HC := hide (fun (W2 : World) (hb : Below wo.heap.size wo W2) => check07 W2 A1 c1 l ((hrow.below (CeAt.stays _) hb).more hb.size) (fun x hx => by have := htk.2 x hx; omega))
      have Hrow := hide hrow
      rw [hq] at HC
      have hrs : rowShow W l = (decide ((q : Int) = W) && (decide (rowCE l = 0) && l.all attrOk)) := by unfold rowShow; rw [hq]
      rw [hrs] at hall hnot
      obtain ⟨E, hE⟩ : ∃ E, rowCE l = E := ⟨_, rfl⟩
      obtain ⟨G, hG⟩ : ∃ G, l.all attrOk = G := ⟨_, rfl⟩
      rw [hE] at HC hall hnot
      rw [hG] at hall hnot
      have HGG := hide hG
      clear hl hrow hq hrs hE hG htk e1 e2
      have Hnot := hide (fun h => HR.out.symm.trans (hnot h))
      have Hall := hide hall
      clear hnot hall
      by_cases q1 : (q : Int) ≠ W
      · have t1 : ((q : Int) != W) = true := by rw [bne_iff_ne]; exact q1
        have hR := Hnot.out (by rw [decide_eq_false q1]; rfl)
        subst hR
        clear q1
        go_wp2
        go_quiet (fail)
        go_wp2
        go_ret
        exact ⟨rfl, below_drewN Hbw.out _⟩
      have q1 := Decidable.not_not.1 q1
      have t1 : ((q : Int) != W) = false := by rw [q1]; simp
      have Q1 := hide q1
      clear q1
      have hbd := (Below.refl wo.heap.size wo).drew
      by_cases q2 : E ≠ 0
      · have t2 : (E != 0) = true := by rw [bne_iff_ne]; exact q2
        have hR := Hnot.out (by rw [decide_eq_false q2]; simp)
        subst hR
        clear q2
        go_wp2
        go_region_held3 (fun W2 => W2.cell? ⟨W0.heap.size, 0, none⟩ = some (.int .i64 W) ∧ W2.cell? ⟨W0.heap.size, 2, none⟩ = some (.slice (some ⟨b, off, none⟩) n c) ∧ W2.cell? ⟨b, off + k, none⟩ = some (.slice A1 q c1))
          (first | exact HP.out _ hb3 | exact HP.out _ hbd)
          (first
            | (go_at_call 11; refine (HC.out _ hbd).mono ?_; rintro e w3 ⟨rfl, hb3'⟩; have hb3 := hbd.trans (hb3'.mono hbd.size); clear hb3')
            | fail)
        all_goals
          have Hb3 := hide (Hbw.out.trans (hb3.mono Hbw.out.size))
          go_wp2
          go_ret
          exact ⟨rfl, Hb3.out⟩
      have q2 := Decidable.not_not.1 q2
      have t2 : (E != 0) = false := by rw [q2]; rfl
      have Q2 := hide q2
      clear q2
      go_wp2
      go_region_held3 (fun W2 => W2.cell? ⟨W0.heap.size, 0, none⟩ = some (.int .i64 W) ∧ W2.cell? ⟨W0.heap.size, 2, none⟩ = some (.slice (some ⟨b, off, none⟩) n c) ∧ W2.cell? ⟨b, off + k, none⟩ = some (.slice A1 q c1))
        (first | exact HP.out _ hb3 | exact HP.out _ hbd)
        (first
          | (go_at_call 11; refine (HC.out _ hbd).mono ?_; rintro e w3 ⟨rfl, hb3'⟩; have hb3 := hbd.trans (hb3'.mono hbd.size); clear hb3')
          | fail)
      all_goals
        have Hi3 := hide hb3
        obtain ⟨p0, p1, p2⟩ := HP.out w3 hb3
        clear hb3 hbd g0 g1 g2 d0 d1 e0 t1 t2 HC
        go_wp2
        go_loopw [5] (fun i wr => ∃ z : Nat, z ≤ q ∧ i = .int .i64 (z : Int) ∧ (l.take z).all attrOk = true ∧ Below wo.heap.size wo wr) (fun i _ => q - (intOf i).toNat)
        case atStart => exact ⟨0, Nat.zero_le _, rfl, by simp, Hi3.out⟩
        case round =>
          clear Hi3 p0 p1 p2
          obtain ⟨z, hz, rfl, ha2, hb2⟩ := hrel
          rename World => wi
          have hsi := hb2.size
          have Hi := hide hb2
          have Hbi := hide (Hbw.out.trans (hb2.mono Hbw.out.size))
          have Hbi1 := hide (Hb.out.trans (hb2.mono hso))
          have Ha2 := hide ha2
          obtain ⟨p0, p1, p2⟩ := HP.out wi hb2
          clear ha2 hb2
          by_cases hzq : z < q
          · have hzqI : (z : Int) < (q : Int) := by omega
            have hzl : z < l.length := by rw [Hql.out]; exact hzq
            obtain ⟨b2, o2, hA1, hbb2, f0, f1, f2, f3, f4⟩ := (Hrow.out.below (CeAt.stays _) Hi.out).get hzl
            have hall2 := all_take_succ attrOk l z hzl
            have hnot2 := all_not attrOk l z hzl
            obtain ⟨⟨tx, wd, fo, ba, fl⟩, hx⟩ : ∃ x, l[z] = x := ⟨_, rfl⟩
            rw [hx] at f0 f1 f2 f3 f4 hall2 hnot2
            dsimp only at f0 f1 f2 f3 f4
            subst hA1
            have HRt := hide (right04 wi fo ba fl)
            have e9 : attrOk ⟨tx, wd, fo, ba, fl⟩ = attrOk ⟨⟨#[]⟩, 0, fo, ba, fl⟩ := rfl
            rw [e9] at hall2 hnot2
            obtain ⟨y, hy⟩ : ∃ y, attrOk ⟨⟨#[]⟩, 0, fo, ba, fl⟩ = y := ⟨_, rfl⟩
            rw [hy] at hall2 hnot2 HRt
            cases y with
            | false =>
              have hg : G = false := by rw [← HGG.out]; exact hnot2 rfl
              have hR := Hnot.out (by rw [hg]; simp)
              rw [if_neg (by simp)] at HRt
              subst hR
              clear hx hy e9 hall2 hnot2 hg
              go_wp2_with (go_at_call 12; refine HRt.out.mono ?_; rintro e w5 ⟨rfl, hb5⟩; have Hb5 := hide (Hbi.out.trans (hb5.mono Hbi.out.size)); clear hb5)
              go_ret
              exact ⟨rfl, Hb5.out⟩
            | true =>
              rw [if_pos rfl] at HRt
              have Hall2 := hide hall2
              clear hx hy e9 hall2 hnot2
              go_wp2_with (go_at_call 12; refine HRt.out.mono ?_; rintro e w5 ⟨rfl, hb5⟩; have Hb5 := hide (Hi.out.trans (hb5.mono hsi)); clear hb5)
              go_roundw
              case rel => exact ⟨z + 1, by omega, by go_num, by rw [Hall2.out, Ha2.out]; rfl, Hb5.out⟩
              case measure => simp [intOf]; omega
          · obtain rfl : q = z := by omega
            have hnl : ¬ (q : Int) < (q : Int) := by omega
            have hg : G = true := by
              rw [← HGG.out]
              have := Ha2.out
              rwa [List.take_of_length_le (by rw [Hql.out]; exact Nat.le_refl _)] at this
            have hnew : (rows.take (k + 1)).all (rowShow W) = true := by rw [Hall.out, Ha.out, hg, decide_eq_true Q1.out, decide_eq_true Q2.out]; rfl
            have Hnew := hide hnew
            clear hnew hg
            go_wp2
            go_roundw
            case rel => exact ⟨k + 1, by omega, by go_num, Hnew.out, Hbi1.out⟩
            case measure => simp [intOf]; omega
    · obtain rfl : n = k := by omega
      have hnl : ¬ (n : Int) < (n : Int) := by omega
      have hR : R = true := by
        rw [← HR.out]
        have := Ha.out
        rwa [List.take_of_length_le (by rw [Hn.out]; exact Nat.le_refl _)] at this
      subst hR
      go_wp2
      go_ret
      exact ⟨rfl, Hbw.out⟩
end Go.Proofs.YtdmnnjpbndngeaaDoor
