/- Joined: L11. -/
import Derived.Test.YtmgepckhdgoemaaDoorR1
/- The walk of the law TablesRecognized (printed by gen_l11.py). -/
namespace Go.Proofs.YtmgepckhdgoemaaDoor
open Go.RowKit

theorem el_strR : ElemOf Tryd.prog 42 9 (.string ⟨#[]⟩) 1 16 := ⟨Tryd.underlying42, by kernel_rfl, rfl, by decide, by decide⟩
theorem maxTo_good {T : List (List ByteArray)} {m : Nat} (j : Nat) : ∀ k, (∀ i r, i < k → T[i]? = some r → RowGood m r) → maxTo T k j ≤ 12
  | 0, _ => Nat.zero_le _
  | k + 1, h => by
    have ih := maxTo_good j k fun i r hi hr => h i r (by omega) hr
    show max _ _ ≤ 12
    have : ((T.getD k []).getD j ⟨#[]⟩).size ≤ 12 := by
      have e : T.getD k [] = (T[k]?).getD [] := List.getD_eq_getElem?_getD
      rw [e]
      cases hk : T[k]? with
      | none => rw [Option.getD_none, List.getD_eq_getElem?_getD]; exact Nat.zero_le _
      | some r =>
        have hr := h k r (Nat.lt_succ_self _) hk
        rw [Option.getD_some, List.getD_eq_getElem?_getD]
        cases hj : r[j]? with
        | none => exact Nat.zero_le _
        | some s => exact (hr.2 s (List.mem_of_getElem? hj)).small
    omega

set_option maxRecDepth 100000 in
set_option maxHeartbeats 8000000 in
theorem recLawP (w : World) (A : Option Addr) (c : Nat) (T : List (List ByteArray)) (gp : Nat) (hgp : gp < 256) (h : SRows w w.heap.size A T) (hT : Tabs w) (hMx : Mx w) :
    Calls Tryd.prog 4 #[.slice A T.length c, .int .u8 gp] w fun e w' => e = .returned (.bool true) ∧ Below w.heap.size w w' := by
  have HA := hide (fun w1 (hb1 : Below w.heap.size w w1) => awakeP w1 (hT.below hb1))
  have Hrf := hide (Below.refl w.heap.size w)
  obtain ⟨n, hn⟩ : ∃ n, T.length = n := ⟨_, rfl⟩
  have Hn := hide hn
  rw [hn]
  by_cases hn2 : n < 2
  · have d1 : decide (n < 2) = true := decide_eq_true hn2
    have d1' : decide ((n : Int) < 2) = true := decide_eq_true (by omega)
    clear h hT hMx hn
    go_enter Tryd.func4, Tryd.ntmps4
    go_wp2_with (go_at_call 6; refine (HA.out _ Hrf.out).mono ?_; rintro e w9 ⟨rfl, hb9⟩)
    go_ret
    exact ⟨rfl, hb9⟩
  have d1 : decide (n < 2) = false := decide_eq_false hn2
  have d1' : decide ((n : Int) < 2) = false := decide_eq_false (by omega)
  by_cases hn6 : 6 < n
  · have d2 : decide (6 < n) = true := decide_eq_true hn6
    have d2' : decide ((6 : Int) < (n : Int)) = true := decide_eq_true (by omega)
    clear h hT hMx hn
    go_enter Tryd.func4, Tryd.ntmps4
    go_wp2_with (go_at_call 6; refine (HA.out _ Hrf.out).mono ?_; rintro e w9 ⟨rfl, hb9⟩)
    go_ret
    exact ⟨rfl, hb9⟩
  have d2 : decide (6 < n) = false := decide_eq_false hn6
  have d2' : decide ((6 : Int) < (n : Int)) = false := decide_eq_false (by omega)
  -- the rows in memory
  obtain ⟨ba, off, rfl, hba, -⟩ := h.get1 (show 0 < T.length by omega)
  have HRow := hide (fun (w1 : World) (hb1 : Below w.heap.size w w1) (y : Nat) (hy : y < n) => show ∃ (hyl : y < T.length) (A1 : Option Addr) (c1 : Nat), w1.cell? ⟨ba, off + y, none⟩ = some (.slice A1 (T[y]).length c1) ∧ StrRow w1 w.heap.size A1 (T[y]) by
    have hyl : y < T.length := by rw [Hn.out]; exact hy
    obtain ⟨b2, o2, hA2, hb2, A1, c1, d0, -, d2⟩ := h.get1 hyl
    cases hA2
    exact ⟨hyl, A1, c1, (hb1.cell (p := ⟨ba, off + y, none⟩) hb2).trans d0, d2.below (One.stays _ _) hb1⟩)
  obtain ⟨h0l, A0, c0, d0, -⟩ := HRow.out w Hrf.out 0 (by omega)
  rw [Nat.add_zero] at d0
  obtain ⟨m, hm⟩ : ∃ m, (T[0]).length = m := ⟨_, rfl⟩
  rw [hm] at d0
  have hn0 : (0 : Int) < (n : Int) := by omega
  by_cases hm2 : m < 2
  · have d3 : decide (m < 2) = true := decide_eq_true hm2
    have d3' : decide ((m : Int) < 2) = true := decide_eq_true (by omega)
    clear h hT hMx hn hm
    go_enter Tryd.func4, Tryd.ntmps4
    go_wp2_with (go_at_call 6; refine (HA.out _ Hrf.out).mono ?_; rintro e w9 ⟨rfl, hb9⟩)
    go_ret
    exact ⟨rfl, hb9⟩
  have d3 : decide (m < 2) = false := decide_eq_false hm2
  have d3' : decide ((m : Int) < 2) = false := decide_eq_false (by omega)
  by_cases hm5 : 5 < m
  · have d4 : decide (5 < m) = true := decide_eq_true hm5
    have d4' : decide ((5 : Int) < (m : Int)) = true := decide_eq_true (by omega)
    clear h hT hMx hn hm
    go_enter Tryd.func4, Tryd.ntmps4
    go_wp2_with (go_at_call 6; refine (HA.out _ Hrf.out).mono ?_; rintro e w9 ⟨rfl, hb9⟩)
    go_ret
    exact ⟨rfl, hb9⟩
  have d4 : decide (5 < m) = false := decide_eq_false hm5
  have d4' : decide ((5 : Int) < (m : Int)) = false := decide_eq_false (by omega)
  have hmk := run_make_row' (P := Tryd.prog) 43 3 (.int .i64 0) 8 Tryd.underlying43 infoI rfl .i64 .i64 m (by omega) (by omega)
  have HMx := hide (fun (w1 : World) (hb1 : Below w.heap.size w w1) => hMx.below hb1)
  have HTb := hide (fun (w1 : World) (hb1 : Below w.heap.size w w1) => hT.below hb1)
  have hr0 := World.rowIs_made w (.int .i64 0) m 3
  have hb0 := (Below.refl w.heap.size w).alloc (Nat.le_refl _) (.cells (madeCells #[.int .i64 0] m) 3)
  have Hr0 := hide (hr0.congr (g := fun j => .int .i64 (maxTo T 0 j : Nat)) fun i _ => rfl)
  have Hb0 := hide hb0
  have hmm : 2 ≤ m ∧ m ≤ 5 := by omega
  have hnn : 2 ≤ n ∧ n ≤ 6 := by omega
  clear h hT hMx hn hm hr0 hb0 hn2 hn6 hm2 hm5
  go_enter Tryd.func4, Tryd.ntmps4
  go_wp2
  clear d0 d1 d1' d2 d2' d3 d3' d4 d4'
  go_loopw [54] (fun i wr => ∃ k : Nat, k ≤ n ∧ i = .int .i64 (k : Int) ∧ wr.rowIs w.heap.size 3 m (fun j => .int .i64 (maxTo T k j : Nat)) ∧ (∀ i r, i < k → T[i]? = some r → RowGood m r) ∧ Below w.heap.size w wr) (fun i _ => n - (intOf i).toNat)
  case atStart => exact ⟨0, Nat.zero_le _, rfl, Hr0.out, fun i r hi => absurd hi (Nat.not_lt_zero _), Hb0.out⟩
  case round =>
    clear Hr0 Hb0
    obtain ⟨k, hk, rfl, hrow, hgood, hbo⟩ := hrel
    rename World => wo
    have Hrow := hide hrow
    have Hgood := hide hgood
    have Hbo := hide hbo
    have hwlt : w.heap.size < wo.heap.size := hrow.lt
    clear hrow hgood hbo
    by_cases hlt : k < n
    · have hltI : (k : Int) < (n : Int) := by omega
      obtain ⟨hkl, A1, c1, d0w, hs⟩ := HRow.out w Hrf.out k hlt
      have d0 : wo.cell? ⟨ba, off + k, none⟩ = some (.slice A1 (T[k]).length c1) := (Hbo.out.cell (p := ⟨ba, off + k, none⟩) hba).trans d0w
      clear d0w
      have hTk : T[k]? = some T[k] := List.getElem?_eq_getElem hkl
      have hgk : T.getD k [] = T[k] := by rw [List.getD_eq_getElem?_getD, hTk]; rfl
      obtain ⟨r, hr⟩ : ∃ r, T[k] = r := ⟨_, rfl⟩
      rw [hr] at d0 hs hTk hgk
      obtain ⟨x, hx⟩ : ∃ x, r.length = x := ⟨_, rfl⟩
      rw [hx] at d0
      have Hx := hide hx
      have HTk := hide hTk
      have Hgk := hide hgk
      have Hs := hide hs
      clear hr hx hTk hgk hs
      by_cases hxm : x = m
      · subst hxm
        have q1 : ((x : Int) != (x : Int)) = false := by simp
        go_wp2
        clear q1
        have Hrow0 := hide (Hrow.out.congr (g := fun j => .int .i64 (if j < 0 then maxTo T (k + 1) j else maxTo T k j : Nat)) fun i _ => by rw [if_neg (Nat.not_lt_zero _)])
        go_loopw [66] (fun i wr => ∃ q : Nat, q ≤ x ∧ i = .int .i64 (q : Int) ∧ wr.rowIs w.heap.size 3 x (fun j => .int .i64 (if j < q then maxTo T (k + 1) j else maxTo T k j : Nat)) ∧ (∀ i s, i < q → r[i]? = some s → GoodC s.data.toList) ∧ Below w.heap.size w wr) (fun i _ => x - (intOf i).toNat)
        case atStart => exact ⟨0, Nat.zero_le _, rfl, Hrow0.out, fun i r hi => absurd hi (Nat.not_lt_zero _), Hbo.out⟩
        case round =>
          clear Hrow0 Hrow
          obtain ⟨q, hq, rfl, hrow, hcell, hbi⟩ := hrel
          rename World => wi
          have hwlt2 : w.heap.size < wi.heap.size := hrow.lt
          have Hrow := hide hrow
          have Hcell := hide hcell
          have Hbwi := hide hbi
          clear hrow hcell hbi d0
          by_cases hqx : q < x
          · have hqxI : (q : Int) < (x : Int) := by omega
            have hql : q < r.length := by rw [Hx.out]; exact hqx
            obtain ⟨b2, o2, hA1, hb2, g0⟩ := (Hs.out.below (One.stays _ _) Hbwi.out).get1 hql
            have hrq : r[q]? = some r[q] := List.getElem?_eq_getElem hql
            have hgq : r.getD q ⟨#[]⟩ = r[q] := by rw [List.getD_eq_getElem?_getD, hrq]; rfl
            obtain ⟨s, hsq⟩ : ∃ s, r[q] = s := ⟨_, rfl⟩
            rw [hsq] at g0 hrq hgq
            have g0 : wi.cell? ⟨b2, o2 + q, none⟩ = some (.string s) := g0
            have Hrq := hide hrq
            have Hgq := hide hgq
            have HA1 := hide hA1
            rw [hA1]
            clear hrq hsq hgq hA1
            cases b1 : (s.toList == []) with
            | true =>
              have b1' : (s.toList != []) = false := by unfold bne; rw [b1]; rfl
              go_wp2_with (first
                | (go_at_call 6; refine (HA.out wi Hbwi.out).mono ?_; rintro e w9 ⟨rfl, hb9⟩; have Hb9 := hide (Hbwi.out.trans (hb9.mono Hbwi.out.size)); clear hb9)
                | fail)
              go_ret
              exact ⟨rfl, Hb9.out⟩
            | false =>
            have b1' : (s.toList != []) = true := by unfold bne; rw [b1]; rfl
            by_cases hs12 : 12 < s.size
            · have b2 : decide (12 < s.size) = true := decide_eq_true hs12
              have b2' : decide ((12 : Int) < (s.size : Int)) = true := decide_eq_true (by omega)
              go_wp2_with (first
                | (go_at_call 6; refine (HA.out wi Hbwi.out).mono ?_; rintro e w9 ⟨rfl, hb9⟩; have Hb9 := hide (Hbwi.out.trans (hb9.mono Hbwi.out.size)); clear hb9)
                | fail)
              go_ret
              exact ⟨rfl, Hb9.out⟩
            have b2 : decide (12 < s.size) = false := decide_eq_false hs12
            have b2' : decide ((12 : Int) < (s.size : Int)) = false := decide_eq_false (by omega)
            have HT1 := hide (fun W2 => trim1P W2 s (by omega))
            have HCo := hide (fun W2 (hb : Below w.heap.size w W2) => contP W2 (HMx.out W2 hb) s ⟨#[32, 32]⟩ (by omega))
            have HT2 := hide (fun W2 => trimCutP W2 s (by omega))
            obtain ⟨X1, hX1⟩ : ∃ X : ByteArray, (⟨(Lib.trimB s.data.toList 32).toArray⟩ : ByteArray) = X := ⟨_, rfl⟩
            obtain ⟨X2, hX2⟩ : ∃ X : ByteArray, (⟨(Lib.trimS s.data.toList cutB.data.toList).toArray⟩ : ByteArray) = X := ⟨_, rfl⟩
            obtain ⟨y3, hy3⟩ : ∃ y, Lib.contains s.data.toList (⟨#[32, 32]⟩ : ByteArray).data.toList = y := ⟨_, rfl⟩
            simp only [hX1] at HT1
            simp only [hX2] at HT2
            simp only [hy3] at HCo
            unfold cutB at HT2
            have HX1 := hide hX1
            have HX2 := hide hX2
            have Hy3 := hide hy3
            clear hX1 hX2 hy3
            by_cases b3 : X1 ≠ s
            · have hne3 : ¬ s.toList = X1.toList := fun h3 => b3 (ByteArray.ext (Array.ext' (by rw [ByteArray.toList_eq, ByteArray.toList_eq] at h3; exact h3.symm)))
              go_wp2_with (first
                | (go_at_call 6; refine (HA.out w4 Hb4.out).mono ?_; rintro e w9 ⟨rfl, hb9⟩; have Hb9 := hide (Hb4.out.trans (hb9.mono Hb4.out.size)); clear hb9)
                | (go_at_call 10; (with_reducible refine (HT1.out wi).mono ?_); rintro e w4 ⟨rfl, hb4⟩; have Hb4 := hide (Hbwi.out.trans (hb4.mono Hbwi.out.size)); have Hi4 := hide hb4; clear hb4)
                | fail)
              go_ret
              exact ⟨rfl, Hb9.out⟩
            have b3 : s = X1 := (Decidable.not_not.1 b3).symm
            subst b3
            cases y3 with
            | true =>
              go_wp2_with (first
                | (go_at_call 6; refine (HA.out w4 Hb4.out).mono ?_; rintro e w9 ⟨rfl, hb9⟩; have Hb9 := hide (Hb4.out.trans (hb9.mono Hb4.out.size)); clear hb9)
                | (go_at_call 13; (with_reducible refine (HCo.out w4 Hb4.out).mono ?_); rintro e w4b ⟨rfl, hw4⟩; subst hw4)
                | (go_at_call 10; (with_reducible refine (HT1.out wi).mono ?_); rintro e w4 ⟨rfl, hb4⟩; have Hb4 := hide (Hbwi.out.trans (hb4.mono Hbwi.out.size)); have Hi4 := hide hb4; clear hb4)
                | fail)
              go_ret
              exact ⟨rfl, Hb9.out⟩
            | false =>
            cases b5 : (X2.toList == []) with
            | false =>
              have b5' : (X2.toList != []) = true := by unfold bne; rw [b5]; rfl
              go_wp2_with (first
                | (go_at_call 6; refine (HA.out w5 Hb5.out).mono ?_; rintro e w9 ⟨rfl, hb9⟩; have Hb9 := hide (Hb5.out.trans (hb9.mono Hb5.out.size)); clear hb9)
                | (go_at_call 13; (with_reducible refine (HCo.out w4 Hb4.out).mono ?_); rintro e w4b ⟨rfl, hw4⟩; subst hw4)
                | (go_at_call 10; (with_reducible refine (HT2.out w4).mono ?_); rintro e w5 ⟨rfl, hb5⟩; have Hb5 := hide (Hb4.out.trans (hb5.mono Hb4.out.size)); have Hi5 := hide (Hi4.out.trans (hb5.mono Hi4.out.size)); clear hb5)
                | (go_at_call 10; (with_reducible refine (HT1.out wi).mono ?_); rintro e w4 ⟨rfl, hb4⟩; have Hb4 := hide (Hbwi.out.trans (hb4.mono Hbwi.out.size)); have Hi4 := hide hb4; clear hb4)
                | fail)
              go_ret
              exact ⟨rfl, Hb9.out⟩
            | true =>
            have b5' : (X2.toList != []) = false := by unfold bne; rw [b5]; rfl
            have Hgood1 := hide (show GoodC s.data.toList by
              have e1 : Lib.trimB s.data.toList 32 = s.data.toList := by
                exact congrArg (fun b : ByteArray => b.data.toList) HX1.out
              have e2 : Lib.trimS s.data.toList cutB.data.toList = [] := by
                have h5 : X2.toList = [] := by simpa using b5
                rw [ByteArray.toList_eq, ← HX2.out] at h5
                exact h5
              have e0 : s.data.toList ≠ [] := fun h0 => by
                rw [ByteArray.toList_eq, h0] at b1
                cases b1
              have hz : s.size = s.data.toList.length := rfl
              exact good_of e0 (by omega) e1 Hy3.out e2)
            go_upto_region 14 with (first
              | (go_at_call 13; (with_reducible refine (HCo.out w4 Hb4.out).mono ?_); rintro e w4b ⟨rfl, hw4⟩; subst hw4)
              | (go_at_call 10; (with_reducible refine (HT2.out w4).mono ?_); rintro e w5 ⟨rfl, hb5⟩; have Hb5 := hide (Hb4.out.trans (hb5.mono Hb4.out.size)); have Hi5 := hide (Hi4.out.trans (hb5.mono Hi4.out.size)); clear hb5)
              | (go_at_call 10; (with_reducible refine (HT1.out wi).mono ?_); rintro e w4 ⟨rfl, hb4⟩; have Hb4 := hide (Hbwi.out.trans (hb4.mono Hbwi.out.size)); have Hi4 := hide hb4; clear hb4)
              | fail)
            have hrow5 := rowI_below Hrow.out Hi5.out hwlt2
            have v1 : w5.cell? ⟨w.heap.size, q, none⟩ = some (.int .i64 (maxTo T k q : Nat)) := (hrow5.cell hqx).trans (by rw [if_neg (Nat.lt_irrefl _)])
            have v2 := hrow5.frozen q
            obtain ⟨M, hM⟩ : ∃ M, maxTo T k q = M := ⟨_, rfl⟩
            rw [hM] at v1
            have HM := hide hM
            have hM12 : M ≤ 12 := by rw [← hM]; exact maxTo_good q k Hgood.out
            have Hrow5 := hide hrow5
            clear hrow5 hM g0 b1 b1' b2 b2' b5 b5' HT1 HT2 HCo
            go_wp2
            go_roundw
            case rel =>
              refine ⟨q + 1, by omega, by go_num, (Hrow5.out.set q _).congr fun i hi => ?_, ?_, ?_⟩
              · by_cases hiq : i = q
                · subst hiq
                  rw [if_pos rfl, if_pos (Nat.lt_succ_self _)]
                  have e : maxTo T (k + 1) i = max M s.size := by
                    show max (maxTo T k i) ((T.getD k []).getD i ⟨#[]⟩).size = _
                    rw [HM.out, Hgk.out, Hgq.out]
                  rw [e]
                  congr 1
                  omega
                · rw [if_neg hiq]
                  by_cases hlq : i < q
                  · rw [if_pos hlq, if_pos (by omega)]
                  · rw [if_neg hlq, if_neg (by omega)]
              · intro i s' hi hs'
                by_cases hiq : i < q
                · exact Hcell.out i s' hiq hs'
                · obtain rfl : i = q := by omega
                  rw [Hrq.out] at hs'
                  cases hs'
                  exact Hgood1.out
              · exact Hb5.out.setCell (p := ⟨w.heap.size, q, none⟩) (Nat.le_refl _) _
            case measure => simp [intOf]; omega
          · obtain rfl : x = q := by omega
            have Hfin := hide (Hrow.out.congr (g := fun j => .int .i64 (maxTo T (k + 1) j : Nat)) fun i hi => by rw [if_pos hi])
            clear Hrow
            go_wp2
            go_roundw
            case rel =>
              refine ⟨k + 1, by omega, by go_num, Hfin.out, ?_, Hbwi.out⟩
              intro i r' hi hr'
              by_cases hik : i < k
              · exact Hgood.out i r' hik hr'
              · obtain rfl : i = k := by omega
                rw [HTk.out] at hr'
                cases hr'
                refine ⟨Hx.out, fun s hs => ?_⟩
                obtain ⟨y, hy, rfl⟩ := List.getElem_of_mem hs
                exact Hcell.out y _ (by rw [← Hx.out]; exact hy) (List.getElem?_eq_getElem hy)
            case measure => simp [intOf]; omega
      · have q1 : ((x : Int) != (m : Int)) = true := by rw [bne_iff_ne]; omega
        go_wp2_with (go_at_call 6; refine (HA.out _ Hbo.out).mono ?_; rintro e w9 ⟨rfl, hb9⟩; have Hb9 := hide (Hbo.out.trans (hb9.mono Hbo.out.size)); clear hb9)
        go_ret
        exact ⟨rfl, Hb9.out⟩
    · obtain rfl : n = k := by omega
      have Hall := hide (fun (r : List ByteArray) (hr : r ∈ T) => show RowGood m r by
        obtain ⟨i, hi, rfl⟩ := List.getElem_of_mem hr
        exact Hgood.out i _ (by rw [← Hn.out]; exact hi) (List.getElem?_eq_getElem hi))
      obtain ⟨g4, hg4⟩ : ∃ g4, gp % 4 = g4 := ⟨_, rfl⟩
      have hg4b : g4 < 4 := by omega
      have hg4I : (gp : Int) % 4 = (g4 : Int) := by omega
      obtain ⟨ws, hws⟩ : ∃ ws, wsT T m = ws := ⟨_, rfl⟩
      have HRec := hide (show RecB (byT T) ws (2 + g4) by rw [← hws]; exact rec_of (by rw [Hn.out]; exact hnn.1) (by rw [Hn.out]; exact hnn.2) hmm.1 hmm.2 (by omega) (by omega) Hall.out)
      have Hws := hide (fun (q : Nat) (hq : q < m) => show ws[q]? = some (maxTo T n q) by
        rw [← hws]; unfold wsT; rw [List.getElem?_map, List.getElem?_range hq, Hn.out]; rfl)
      have Hwl := hide (show ws.length = m by rw [← hws]; unfold wsT; simp)
      have Hmx := hide (fun (q : Nat) => show maxTo T n q ≤ 12 from maxTo_good q n Hgood.out)
      have Hge := hide (fun (q i : Nat) (hi : i < n) => maxTo_ge T q n i hi)
      clear hws Hgood
      have hown0 := own_lit wo wo.heap.size 9 1 0 #[] (Nat.le_refl _) (by omega) rfl
      have Hown0 := hide hown0
      have hbn0 := (Below.refl wo.heap.size wo).alloc (Nat.le_refl _) (.cells #[] 9)
      have Hbn0 := hide hbn0
      clear hown0 hbn0
      go_wp2
      go_loopw [10, 109] (fun v i wr => ∃ (k : Nat) (ls : List ByteArray), k ≤ n ∧ i = .int .i64 (k : Int) ∧ ls.length = k ∧ (∀ (i : Nat) (s : ByteArray) (r : List ByteArray), ls[i]? = some s → T[i]? = some r → s.data.toList = lineL (2 + g4) ws (r.map fun s => s.data.toList)) ∧ (∀ s ∈ ls, s.size ≤ 200) ∧ wr.ownsRow wo.heap.size 9 1 v k (ls.map Value.string) ∧ Below wo.heap.size wo wr) (fun _ i _ => n - (intOf i).toNat)
      case atStart => exact ⟨0, [], Nat.zero_le _, rfl, rfl, fun i s r hi => by simp at hi, fun s hs => (by cases hs), Hown0.out, Hbn0.out⟩
      case round =>
        clear Hown0 Hbn0
        obtain ⟨k, ls, hk, rfl, hls, hlin, hlsz, hown, hbi⟩ := hrel
        rename World => wi
        have hsi := hbi.size
        obtain ⟨A5, c5, rfl⟩ := own_form hown
        have Hls := hide hls
        have Hlin := hide hlin
        have Hlsz := hide hlsz
        have Hown := hide hown
        have Hbi := hide hbi
        have Hbwi := hide (Hbo.out.trans (hbi.mono (Nat.le_of_lt hwlt)))
        have Hrowi := hide (rowI_below Hrow.out hbi hwlt)
        clear hls hlin hlsz hown hbi
        by_cases hkn : k < n
        · have hltI : (k : Int) < (n : Int) := by omega
          obtain ⟨hkl, A1, c1, d0w, hs⟩ := HRow.out w Hrf.out k hkn
          have d0 : wi.cell? ⟨ba, off + k, none⟩ = some (.slice A1 (T[k]).length c1) := (Hbwi.out.cell (p := ⟨ba, off + k, none⟩) hba).trans d0w
          clear d0w
          have hTk : T[k]? = some T[k] := List.getElem?_eq_getElem hkl
          have hgk : T.getD k [] = T[k] := by rw [List.getD_eq_getElem?_getD, hTk]; rfl
          have hrg := Hall.out _ (List.getElem_mem hkl)
          obtain ⟨r, hr⟩ : ∃ r, T[k] = r := ⟨_, rfl⟩
          rw [hr] at d0 hs hTk hgk hrg
          rw [hrg.1] at d0
          have Hrg := hide hrg
          have HTk := hide hTk
          have Hgk := hide hgk
          have Hs := hide hs
          obtain ⟨cs, hcs⟩ : ∃ cs, (r.map fun s => s.data.toList) = cs := ⟨_, rfl⟩
          have Hcs := hide hcs
          obtain ⟨LN, hLN⟩ : ∃ LN, lineL (2 + g4) ws cs = LN := ⟨_, rfl⟩
          have HLN := hide (show (⟨#[]⟩ : ByteArray).data.toList ++ lineL (2 + g4) (ws.drop 0) (cs.drop 0) = LN by rw [List.drop_zero, List.drop_zero]; exact hLN)
          have HLN1 := hide hLN
          have Hrf2 := hide (Below.refl wi.heap.size wi)
          clear hr hTk hgk hrg hs hcs hLN
          go_wp2
          go_loopw [13, 115] (fun v i wr => ∃ (q : Nat) (s : ByteArray), q ≤ m ∧ i = .int .i64 (q : Int) ∧ v = .string s ∧ s.data.toList ++ lineL (2 + g4) (ws.drop q) (cs.drop q) = LN ∧ s.size ≤ 50 * q ∧ Below wi.heap.size wi wr) (fun _ i _ => m - (intOf i).toNat)
          case atStart => exact ⟨0, ⟨#[]⟩, Nat.zero_le _, rfl, rfl, HLN.out, by simp [ByteArray.size], Hrf2.out⟩
          case round =>
            clear HLN Hrf2 d0
            obtain ⟨q, s, hq, rfl, rfl, hln, hsz, hbj⟩ := hrel
            rename World => wj
            have hsj := hbj.size
            have Hbj := hide hbj
            have Hbwj := hide (Hbwi.out.trans (hbj.mono (by have := Hbwi.out.size; omega)))
            have hrowj := rowI_below Hrowi.out hbj (by omega)
            clear hbj
            by_cases hqm : q < m
            · have hqmI : (q : Int) < (m : Int) := by omega
              have hql : q < r.length := by rw [Hrg.out.1]; exact hqm
              obtain ⟨b2, o2, hA1, hb2, g0⟩ := (Hs.out.below (One.stays _ _) Hbwj.out).get1 hql
              have hrq : r[q]? = some r[q] := List.getElem?_eq_getElem hql
              have hgq : r.getD q ⟨#[]⟩ = r[q] := by rw [List.getD_eq_getElem?_getD, hrq]; rfl
              have hgood := Hrg.out.2 _ (List.getElem_mem hql)
              obtain ⟨x, hsq⟩ : ∃ s, r[q] = s := ⟨_, rfl⟩
              rw [hsq] at g0 hrq hgq hgood
              have g0 : wj.cell? ⟨b2, o2 + q, none⟩ = some (.string x) := g0
              have hx12 : x.size ≤ 12 := hgood.small
              have hwq := Hws.out q hqm
              have hge := Hge.out q k hkn
              rw [Hgk.out, hgq] at hge
              have hm12 := Hmx.out q
              have v1 : wj.cell? ⟨w.heap.size, q, none⟩ = some (.int .i64 (maxTo T n q : Nat)) := hrowj.cell hqm
              obtain ⟨F, hF⟩ : ∃ F, maxTo T n q = F := ⟨_, rfl⟩
              rw [hF] at hwq hge hm12 v1
              have hcq : cs[q]? = some x.data.toList := by rw [← Hcs.out, List.getElem?_map, hrq]; rfl
              have hdw : ws.drop q = F :: ws.drop (q + 1) := by
                have hl : q < ws.length := by rw [Hwl.out]; exact hqm
                rw [List.drop_eq_getElem_cons hl]; congr 1
                rw [List.getElem?_eq_getElem hl] at hwq
                exact Option.some.inj hwq
              have hdc : cs.drop q = x.data.toList :: cs.drop (q + 1) := by
                have hl : q < cs.length := (List.getElem?_eq_some_iff.1 hcq).1
                rw [List.drop_eq_getElem_cons hl]; congr 1
                rw [List.getElem?_eq_getElem hl] at hcq
                exact Option.some.inj hcq
              obtain ⟨N, hN⟩ : ∃ N, F - x.size + (2 + g4) = N := ⟨_, rfl⟩
              have hN30 : N ≤ 30 := by omega
              have Hln := hide (show s.data.toList ++ (x.data.toList ++ List.replicate N 32 ++ lineL (2 + g4) (ws.drop (q + 1)) (cs.drop (q + 1))) = LN by
                rw [hdw, hdc] at hln
                have e : lineL (2 + g4) (F :: ws.drop (q + 1)) (x.data.toList :: cs.drop (q + 1)) = x.data.toList ++ List.replicate (F - x.data.toList.length + (2 + g4)) 32 ++ lineL (2 + g4) (ws.drop (q + 1)) (cs.drop (q + 1)) := rfl
                rw [e] at hln
                rw [← hN]; exact hln)
              obtain ⟨R, hR⟩ : ∃ R : ByteArray, (⟨(List.replicate N (32 : UInt8)).toArray⟩ : ByteArray) = R := ⟨_, rfl⟩
              have hRl : R.data.toList = List.replicate N 32 := by rw [← hR]
              have hRz : R.size ≤ 30 := by
                have : R.size = R.data.toList.length := rfl
                rw [this, hRl, List.length_replicate]; exact hN30
              have HRp := hide (fun (W2 : World) => show Calls Tryd.prog 14 #[.string ⟨#[32]⟩, .int .i64 ((F : Int) - (x.size : Int) + 2 + (g4 : Int))] W2 fun e w' => e = .returned (.string R) ∧ Below W2.heap.size W2 w' by
                rw [show (F : Int) - (x.size : Int) + 2 + (g4 : Int) = ((N : Nat) : Int) by omega, ← hR]
                exact repSpP W2 N (by omega))
              have HRl := hide hRl
              have Hsz := hide (And.intro hsz hN30)
              have hsz2 : s.size ≤ 1000 := by omega
              have HA1 := hide hA1
              rw [hA1]
              clear hrq hsq hgq hgood hwq hF hcq hdw hdc hln hN hR hRl hA1 hsz hrowj
              have hcat1 : x.size + R.size ≤ 9223372036854775807 := by omega
              have hcat2 : s.size + (x ++ R).size ≤ 9223372036854775807 := by rw [ByteArray.size_append]; omega
              have hFx : (F : Int) - (x.size : Int) ≤ 12 ∧ 0 ≤ (F : Int) - (x.size : Int) := by omega
              go_wp2_with (first
                | (go_at_call 14; (with_reducible refine (HRp.out wj).mono ?_); rintro e w4 ⟨rfl, hb4⟩; have Hb4 := hide (Hbj.out.trans (hb4.mono hsj)); clear hb4)
                | fail)
              go_roundw
              case rel =>
                refine ⟨q + 1, s ++ (x ++ R), by omega, by go_num, rfl, ?_, by rw [ByteArray.size_append, ByteArray.size_append]; have := Hsz.out; omega, Hb4.out⟩
                rw [Joins.data_append, Joins.data_append, HRl.out, List.append_assoc]
                exact Hln.out
              case measure => simp [intOf]; omega
            · obtain rfl : m = q := by omega
              have hd1 : ws.drop m = [] := List.drop_of_length_le (by rw [Hwl.out]; exact Nat.le_refl _)
              rw [hd1] at hln
              have hln2 : s.data.toList = LN := by
                rw [← hln]
                show _ = _ ++ []
                rw [List.append_nil]
              have hmemk : r.map (fun s => s.data.toList) ∈ byT T := List.mem_map.2 ⟨r, List.mem_of_getElem? HTk.out, rfl⟩
              have hsz85 : s.size ≤ 85 := by
                have e1 : s.size = s.data.toList.length := rfl
                rw [e1, hln2, ← HLN1.out, ← Hcs.out, HRec.out.len hmemk]
                exact HRec.out.W.2
              have Hln2 := hide hln2
              have hownj := own_below Hown.out Hbj.out (Nat.le_refl _)
              have Hownj := hide hownj
              have hwij : wo.heap.size ≤ wj.heap.size := by have := Hbj.out.size; omega
              have Hbij := hide (Hbi.out.trans (Hbj.out.mono hsi))
              clear hln hln2 hd1 hownj hrowj hsz
              go_wp2_with (first
                | (at_builtin; refine wpList_app _ (.tmp 138) (.tmp 140) 42 rfl (by rfl) el_strR wo.heap.size (.slice A5 k c5) k _ (by rfl) Hownj.out hwij #[.string s] 1 1 9 _ (by rfl) rfl rfl (by simp [Value.oneCell']) (by omega) ?_; intro v7 w7 hown7 hg7; have HO7 := hide hown7; have HG7 := hide hg7; clear hown7 hg7)
                | fail)
              go_roundw
              case rel =>
                refine ⟨k + 1, ls ++ [s], by omega, by go_num, by rw [List.length_append, Hls.out]; rfl, ?_, ?_, own_eq HO7.out rfl (by rw [List.map_append]; rfl), below_own Hbij.out Hownj.out HG7.out (Nat.le_refl _) hwij⟩
                · intro i s' r' hi hr'
                  by_cases hik : i < k
                  · rw [List.getElem?_append_left (by rw [Hls.out]; exact hik)] at hi
                    exact Hlin.out i s' r' hi hr'
                  · have hil := (List.getElem?_eq_some_iff.1 hi).1
                    rw [List.length_append, Hls.out] at hil
                    obtain rfl : i = k := by simp at hil; omega
                    rw [List.getElem?_append_right (by rw [Hls.out]; exact Nat.le_refl _), Hls.out, Nat.sub_self] at hi
                    cases hi
                    rw [HTk.out] at hr'
                    cases hr'
                    rw [Hln2.out, ← HLN1.out, ← Hcs.out]
                · intro s' hs'
                  rcases List.mem_append.1 hs' with h1 | h1
                  · exact Hlsz.out s' h1
                  · rw [List.mem_singleton] at h1
                    subst h1; omega
              case measure => simp [intOf]; omega
        · obtain rfl : n = k := by omega
          have hl0 : 0 < ls.length := by rw [Hls.out]; omega
          have hTl : ∀ i (hi : i < ls.length), i < T.length := fun i hi => by rw [Hn.out, ← Hls.out]; exact hi
          have hline : ∀ i (hi : i < ls.length), (ls[i]).data.toList = lineL (2 + g4) ws ((T[i]'(hTl i hi)).map fun s => s.data.toList) := fun i hi => Hlin.out i _ _ (List.getElem?_eq_getElem hi) (List.getElem?_eq_getElem (hTl i hi))
          have hV : textV ((ls[0]).size : Int) ls = recV (byT T) ws (2 + g4) := by
            have e1 : ((ls[0]).size : Int) = ((offL (2 + g4) ws ws.length : Nat) : Int) := by
              have e2 : (ls[0]).size = (ls[0]).data.toList.length := rfl
              rw [e2, hline 0 hl0, HRec.out.len (List.mem_map.2 ⟨_, List.getElem_mem (hTl 0 hl0), rfl⟩)]
            have e3 : (ls.map fun s => trimR (textRow s)) = (byT T).map fun cs => rowL (lineL (2 + g4) ws cs) := by
              apply List.ext_getElem
              · unfold byT; simp [Hls.out, Hn.out]
              · intro i h1 h2
                rw [List.length_map] at h1
                have e4 : (byT T)[i]'(by unfold byT; simpa using hTl i h1) = (T[i]'(hTl i h1)).map (fun s => s.data.toList) := List.getElem_map (fun r : List ByteArray => r.map fun s => s.data.toList)
                rw [List.getElem_map, List.getElem_map, e4, textRow_eq, hline i h1]
                rfl
            have e5 : (ls.length : Int) = ((byT T).length : Int) := by unfold byT; rw [List.length_map, Hls.out, Hn.out]
            unfold textV recV
            rw [e1, e3, e5]
          have hTame : (recV (byT T) ws (2 + g4)).Tame := by
            refine ⟨?_, fun r hr => ?_⟩
            · have := HRec.out.n6
              unfold recV; rw [List.length_map]; omega
            · obtain ⟨cs, hcs, rfl⟩ := List.mem_map.1 hr
              obtain ⟨q, hq, hql, -⟩ := rowL_sub (lineL (2 + g4) ws cs)
              have hl := HRec.out.len hcs
              have hW := HRec.out.W.2
              refine ⟨by rw [hq, List.length_map, List.length_take]; omega, fun g hg => ?_⟩
              rw [hq] at hg
              obtain ⟨b, -, rfl⟩ := List.mem_map.1 hg
              exact (by decide : (1 : Nat) ≤ 40)
          obtain ⟨Wd, hWd⟩ : ∃ Wd, offL (2 + g4) ws ws.length = Wd := ⟨_, rfl⟩
          obtain ⟨RW, hRW⟩ : ∃ RW, ((byT T).map fun cs => rowL (lineL (2 + g4) ws cs)) = RW := ⟨_, rfl⟩
          have hbyn : (byT T).length = n := by unfold byT; rw [List.length_map, Hn.out]
          have hRWn : RW.length = n := by rw [← hRW, List.length_map, hbyn]
          have hv : recV (byT T) ws (2 + g4) = ⟨Wd, n, RW, 0, 0, true⟩ := by unfold recV; rw [hWd, hRW, hbyn]
          have hok := HRec.out.ok
          have hfind := HRec.out.find
          have hparts := HRec.out.parts'
          rw [hWd, hbyn] at hfind hparts
          rw [hv] at hV hTame hok hfind hparts
          dsimp only at hfind hparts
          have Hline := hide hline
          have HV := hide hV
          have Hparts := hide hparts
          have HRW := hide (fun (y : Nat) (r : List ByteArray) (hr : T[y]? = some r) => show RW[y]?.getD [] = rowL (lineL (2 + g4) ws (r.map fun s => s.data.toList)) by
            rw [← hRW]; unfold byT; rw [List.getElem?_map, List.getElem?_map, hr]; rfl)
          obtain ⟨g5, c6, hA5, -, hgl5⟩ := own_form1 Hown.out (by omega)
          cases hA5
          have v0 : wi.cell? ⟨g5, 0, none⟩ = some (.string ls[0]) := by
            have := Hown.out.cellAt 0 (by omega)
            rw [this, List.getElem?_map, List.getElem?_eq_getElem hl0]; rfl
          have hsl : Sl (One Value.string) 1 wi wi.heap.size (some ⟨g5, 0, none⟩) ls := by
            obtain ⟨Al, cl, heq, -, hsl⟩ := Sl.of_own1 (f := Value.string) (l := ls) (own_eq Hown.out Hls.out.symm rfl)
            injection heq with h1 h2 h3
            rw [h1]; exact hsl
          have HText := hide ((textP wi (some ⟨g5, 0, none⟩) c5 ((ls[0]).size : Int) ls hsl (by rw [Hls.out]; omega) Hlsz.out).mono fun e w' h => (show ∃ A' c', e = .returned (.agg #[.int .i64 (Wd : Int), .int .i64 (n : Int), .slice A' n c', .int .i64 0, .int .i64 0, .bool true]) ∧ n ≤ c' ∧ Rows2 w' w'.heap.size A' RW ∧ Below wi.heap.size wi w' by
            obtain ⟨A', c', he, hc, hr, hb⟩ := h
            rw [hV] at he hr
            refine ⟨A', c', ?_, by rw [← Hls.out]; exact hc, hr, hb⟩
            rw [he]
            unfold Vw.val
            dsimp only
            rw [hRWn]))
          rw [Hls.out] at HText
          obtain ⟨s0, hs0⟩ : ∃ s0, ls[0] = s0 := ⟨_, rfl⟩
          rw [hs0] at HText v0
          have Htame := hide hTame
          have Hok := hide hok
          have Hfind := hide hfind
          have HRWn := hide hRWn
          have Hmn := hide (And.intro hmm hnn)
          have hb6 := fun (A6 : Option Addr) (c6 : Nat) (w5 : World) (hb5 : Below wi.heap.size wi w5) => hb5.alloc hb5.size (.cells #[.int .i64 (Wd : Int), .int .i64 (n : Int), .slice A6 n c6, .int .i64 0, .int .i64 0, .bool true] 24)
          have Hb6 := hide hb6
          have hn0I : (0 : Int) < (n : Int) := by omega
          clear hline hV hparts hsl hs0 hTame hok hfind hRWn hbyn hv hb6 hRW hWd
          go_upto_region 30 with (first
            | (go_at_call 15; refine HText.out.mono ?_; rintro e w5 ⟨A6, c7, rfl, hc7, hr7, hb5⟩; have Hb5 := hide hb5; have Hr7 := hide hr7; clear hb5 hr7)
            | fail)
          -- the view in its variable
          obtain ⟨v, hvv⟩ : ∃ v : Vw, (⟨Wd, n, RW, 0, 0, true⟩ : Vw) = v := ⟨_, rfl⟩
          have hcv : (Obj.cells #[.int .i64 (Wd : Int), .int .i64 (n : Int), .slice A6 n c7, .int .i64 0, .int .i64 0, .bool true] 24) = (Obj.cells #[.int .i64 v.width, .int .i64 v.height, .slice A6 v.rows.length c7, .int .i64 v.row, .int .i64 v.col, .bool v.visible] 24) := by
            rw [← hvv]; dsimp only; rw [HRWn.out]
          have hval : Vw.val v A6 c7 = .agg #[.int .i64 (Wd : Int), .int .i64 (n : Int), .slice A6 n c7, .int .i64 0, .int .i64 0, .bool true] := by
            rw [← hvv]; unfold Vw.val; dsimp only; rw [HRWn.out]
          have hb6 := Hb6.out A6 c7 w5 Hb5.out
          obtain ⟨w6, hw6⟩ : ∃ w6, w5.alloc (.cells #[.int .i64 (Wd : Int), .int .i64 (n : Int), .slice A6 n c7, .int .i64 0, .int .i64 0, .bool true] 24) = w6 := ⟨_, rfl⟩
          have hvb6 := block_new w5 (.cells #[.int .i64 (Wd : Int), .int .i64 (n : Int), .slice A6 n c7, .int .i64 0, .int .i64 0, .bool true] 24)
          have hr6 : Rows2 w6 w6.heap.size A6 RW := by
            rw [← hw6]
            exact (Hr7.out.below ((Below.refl _ _).alloc (Nat.le_refl _) _)).more (by simp)
          rw [hw6] at hb6 hvb6 ⊢
          have hs6 : w5.heap.size < w6.heap.size := block_lt hvb6
          have Hbw6 := hide (Hbwi.out.trans (hb6.mono Hbwi.out.size))
          have HV6 := hide (fun (W2 : World) (hb : Below w6.heap.size w6 W2) => vb_cells (block_below hvb6 hb hs6))
          have HB6 := hide (fun (W2 : World) (hb : Below w6.heap.size w6 W2) => Hbw6.out.trans (hb.mono Hbw6.out.size))
          have hrv : v.rows = RW := by rw [← hvv]
          have hwv : v.width = Wd := by rw [← hvv]
          have htame := Htame.out
          have hok := Hok.out
          have hfind := Hfind.out
          rw [hvv] at htame hok hfind
          have hcv7 : v.rows.length ≤ c7 := by rw [hrv, HRWn.out]; exact hc7
          have HRv := hide (fun (W2 : World) (hb : Below w6.heap.size w6 W2) => show Rows2 W2 W2.heap.size A6 v.rows by rw [hrv]; exact (hr6.below hb).more hb.size)
          have HF := hide (findP w6 A6 c7 v (by rw [hrv]; exact hr6) htame (HTb.out w6 Hbw6.out) hcv7)
          -- the table
          have hpl : (partsTo (gut RW 0 n) Wd).length = m := by rw [Hparts.out]; unfold colsL; simp [Hwl.out]
          obtain ⟨p, q, pc0, pcm, htbl⟩ := tblR_eq RW Wd 0 n m (m - 1) hpl (by omega) (by omega)
          obtain ⟨lb, hlb⟩ : ∃ lb, cellOf (RW[0]?.getD []) p.1 p.2 = lb := ⟨_, rfl⟩
          rw [hlb] at htbl
          obtain ⟨p1, p2⟩ := p
          obtain ⟨q1, q2⟩ := q
          dsimp only at htbl
          rw [hfind, htbl] at HF
          simp only [List.length_cons, List.length_nil, Nat.zero_add, List.flatMap_cons, List.flatMap_nil, List.append_nil] at HF
          rw [show (((0 : Nat) : Int)) = 0 from rfl] at HF
          have HC := hide (fun (W2 : World) (hb : Below w6.heap.size w6 W2) => (colsP W2 A6 c7 v ⟨3, 0, -1, 0, p1, n, q2, lb⟩ (HRv.out W2 hb) htame (HTb.out W2 (HB6.out W2 hb)) hcv7).mono fun e w' h => (show ∃ vv, e = .returned vv ∧ w'.ownsRow W2.heap.size 33 8 vv m ((colsR RW Wd 0 n).flatMap Rg.enc) ∧ Below W2.heap.size W2 w' by
            rw [colsT_yes (t := 0) hok hwv (show 0 < n by omega) (by rw [hrv, HRWn.out]; exact Nat.le_refl _) rfl rfl, hrv, colsR_length, hpl] at h; exact h))
          have HCe := hide (fun (W2 : World) (hb : Below w6.heap.size w6 W2) (y j : Nat) (r : List ByteArray) (x : ByteArray) (hy : y < n) (hj : j < m) (hr : T[y]? = some r) (hx : r[j]? = some x) => (cellTP W2 A6 c7 v ⟨3, 0, -1, 0, p1, n, q2, lb⟩ (y : Int) (j : Int) (HRv.out W2 hb) htame (HTb.out W2 (HB6.out W2 hb)) hcv7).mono fun e w' h => (show e = .returned (.tuple #[.string x, .int .i64 0]) ∧ Below W2.heap.size W2 w' by
            have hjl : j < ws.length := by rw [Hwl.out]; exact hj
            have hwj : ws[j]? = some (ws.getD j 0) := by rw [List.getD_eq_getElem?_getD, List.getElem?_eq_getElem hjl]; rfl
            have hp : (partsTo (gut v.rows 0 n) Wd)[j]? = some (offL (2 + g4) ws j, offL (2 + g4) ws j + ws.getD j 0) := by
              rw [hrv, Hparts.out]; unfold colsL; rw [List.getElem?_map, List.getElem?_range hjl]; rfl
            have hc := cellT_at (v := v) (r := ⟨3, 0, -1, 0, p1, n, q2, lb⟩) (T := 0) (B := n) (W := Wd) (i := j) (y := y) (valid24_of (t := 0) hok (by omega) (by rw [hrv, HRWn.out]; exact Nat.le_refl _)) hwv rfl rfl (Nat.zero_le _) hy hp
            have hcs : (r.map fun s => s.data.toList) ∈ byT T := List.mem_map.2 ⟨r, List.mem_of_getElem? hr, rfl⟩
            have hb := HRec.out.cellOf hcs hwj (show (r.map fun s => s.data.toList)[j]? = some x.data.toList by rw [List.getElem?_map, hx]; rfl)
            rw [show ((y : Int) - ((0 : Nat) : Int)) = (y : Int) by omega, hrv, HRW.out y r hr] at hc
            dsimp only at hc
            have hxx := ByteArray.ext (Array.ext' hb)
            rw [hxx] at hc
            rw [hc] at h
            exact h))
          unfold Rg.val at HC HCe
          simp only [hval] at HF HC HCe
          clear hpl htbl hlb hok hfind htame hr6 hvb6 hb6 hval hcv hrv hwv hcv7 pc0 pcm hw6 hvv HV
          obtain ⟨k0, k1, k2, k3, k4, k5⟩ := HV6.out w6 (Below.refl _ _)
          go_upto_region 31 with (first
            | (go_at_call 7; refine HF.out.mono ?_; rintro e w7 ⟨vv, rfl, hown7, hb7⟩; obtain ⟨g8, c8, rfl, -, hgl8⟩ := own_form1 hown7 (by omega); have Hown7 := hide hown7; have Hb7 := hide hb7; clear hown7 hb7)
            | fail)
          clear k0 k1 k2 k3 k4 k5
          have HX := hide (fun (W2 : World) (hb : Below w7.heap.size w7 W2) => show W2.cell? ⟨g8, 0, none⟩ = some (.int .i64 3) ∧ W2.cell? ⟨g8, 1, none⟩ = some (.int .i64 0) ∧ W2.cell? ⟨g8, 2, none⟩ = some (.int .i64 (-1)) ∧ W2.cell? ⟨g8, 3, none⟩ = some (.int .i64 0) ∧ W2.cell? ⟨g8, 4, none⟩ = some (.int .i64 (p1 : Int)) ∧ W2.cell? ⟨g8, 5, none⟩ = some (.int .i64 (n : Int)) ∧ W2.cell? ⟨g8, 6, none⟩ = some (.int .i64 (q2 : Int)) ∧ W2.cell? ⟨g8, 7, none⟩ = some (.string lb) by
            have hcell : ∀ j u, ((⟨3, 0, -1, 0, p1, n, q2, lb⟩ : Rg).enc)[j]? = some u → W2.cell? ⟨g8, j, none⟩ = some u := fun j u hu => by
              have hjl : j < 8 := (List.getElem?_eq_some_iff.1 hu).1
              rw [hb.cell (p := ⟨g8, j, none⟩) hgl8, Hown7.out.cellAt j (by omega)]; exact hu
            exact ⟨hcell 0 _ rfl, hcell 1 _ rfl, hcell 2 _ rfl, hcell 3 _ rfl, hcell 4 _ rfl, hcell 5 _ rfl, hcell 6 _ rfl, hcell 7 _ rfl⟩)
          have H67 := hide (fun (W2 : World) (hb : Below w7.heap.size w7 W2) => Hb7.out.trans (hb.mono Hb7.out.size))
          have HB7 := hide (fun (W2 : World) (hb : Below w7.heap.size w7 W2) => HB6.out W2 (H67.out W2 hb))
          have HS := hide (fun (W2 : World) (hb : Below w7.heap.size w7 W2) => And.intro (HV6.out W2 (H67.out W2 hb)) (HX.out W2 hb))
          have hbd := (Below.refl w7.heap.size w7).drew
          have q1 : ((n : Int) != (n : Int)) = false := by simp
          have q2' : ((m : Int) != (m : Int)) = false := by simp
          obtain ⟨⟨k0, k1, k2, k3, k4, k5⟩, x0, x1, x2, x3, x4, x5, x6, x7⟩ := HS.out w7 (Below.refl _ _)
          clear hgl8
          go_region_held3 (fun W2 => (W2.cell? ⟨w5.heap.size, 0, none⟩ = some (.int .i64 (Wd : Int)) ∧ W2.cell? ⟨w5.heap.size, 1, none⟩ = some (.int .i64 (n : Int)) ∧ W2.cell? ⟨w5.heap.size, 2, none⟩ = some (.slice A6 n c7) ∧ W2.cell? ⟨w5.heap.size, 3, none⟩ = some (.int .i64 0) ∧ W2.cell? ⟨w5.heap.size, 4, none⟩ = some (.int .i64 0) ∧ W2.cell? ⟨w5.heap.size, 5, none⟩ = some (.bool true)) ∧ W2.cell? ⟨g8, 0, none⟩ = some (.int .i64 3) ∧ W2.cell? ⟨g8, 1, none⟩ = some (.int .i64 0) ∧ W2.cell? ⟨g8, 2, none⟩ = some (.int .i64 (-1)) ∧ W2.cell? ⟨g8, 3, none⟩ = some (.int .i64 0) ∧ W2.cell? ⟨g8, 4, none⟩ = some (.int .i64 (p1 : Int)) ∧ W2.cell? ⟨g8, 5, none⟩ = some (.int .i64 (n : Int)) ∧ W2.cell? ⟨g8, 6, none⟩ = some (.int .i64 (q2 : Int)) ∧ W2.cell? ⟨g8, 7, none⟩ = some (.string lb))
            (first | exact HS.out _ hb9 | exact HS.out _ hbd)
            (first
              | (go_at_call 8; refine (HC.out _ (H67.out _ hbd)).mono ?_; rintro e w9 ⟨vv9, rfl, hown9, hb9'⟩; obtain ⟨A9, c9, rfl⟩ := own_form hown9; have hb9 := hbd.trans (hb9'.mono hbd.size); clear hown9 hb9')
              | fail)
          all_goals
            have Hb9 := hide hb9
            clear hbd hb9 k0 k1 k2 k3 k4 k5 x0 x1 x2 x3 x4 x5 x6 x7 q1 q2'
            go_wp2
            go_loopw [183] (fun i wr => ∃ k : Nat, k ≤ n ∧ i = .int .i64 (k : Int) ∧ Below w7.heap.size w7 wr) (fun i _ => n - (intOf i).toNat)
            case atStart => exact ⟨0, Nat.zero_le _, rfl, Hb9.out⟩
            case round =>
              clear Hb9
              obtain ⟨y, hy, rfl, hby⟩ := hrel
              rename World => wy
              have Hby := hide hby
              have Hbwy := hide (HB7.out wy hby)
              clear hby
              by_cases hyn : y < n
              · have hynI : (y : Int) < (n : Int) := by omega
                obtain ⟨hyl, A1, c1, d0w, hs⟩ := HRow.out w Hrf.out y hyn
                have d0 : wy.cell? ⟨ba, off + y, none⟩ = some (.slice A1 (T[y]).length c1) := (Hbwy.out.cell (p := ⟨ba, off + y, none⟩) hba).trans d0w
                clear d0w
                have hTy : T[y]? = some T[y] := List.getElem?_eq_getElem hyl
                have hrg := Hall.out _ (List.getElem_mem hyl)
                obtain ⟨r, hr⟩ : ∃ r, T[y] = r := ⟨_, rfl⟩
                rw [hr] at d0 hs hTy hrg
                rw [hrg.1] at d0
                have Hrg := hide hrg
                have HTy := hide hTy
                have Hs := hide hs
                clear hr hTy hrg hs
                go_wp2
                go_loopw [190] (fun i wr => ∃ q : Nat, q ≤ m ∧ i = .int .i64 (q : Int) ∧ Below w7.heap.size w7 wr) (fun i _ => m - (intOf i).toNat)
                case atStart => exact ⟨0, Nat.zero_le _, rfl, Hby.out⟩
                case round =>
                  clear d0
                  obtain ⟨q, hq, rfl, hbz⟩ := hrel
                  rename World => wz
                  have hsz := hbz.size
                  have Hbz := hide hbz
                  have Hbwz := hide (HB7.out wz hbz)
                  clear hbz
                  by_cases hqm : q < m
                  · have hqmI : (q : Int) < (m : Int) := by omega
                    have hql : q < r.length := by rw [Hrg.out.1]; exact hqm
                    obtain ⟨b2, o2, hA1, hb2, g0⟩ := (Hs.out.below (One.stays _ _) Hbwz.out).get1 hql
                    have hrq : r[q]? = some r[q] := List.getElem?_eq_getElem hql
                    obtain ⟨x, hsq⟩ : ∃ s, r[q] = s := ⟨_, rfl⟩
                    rw [hsq] at g0 hrq
                    have g0 : wz.cell? ⟨b2, o2 + q, none⟩ = some (.string x) := g0
                    have HCq := hide (fun (W2 : World) (hb : Below w7.heap.size w7 W2) => HCe.out W2 (H67.out W2 hb) y q r x hyn hqm HTy.out hrq)
                    have HA1 := hide hA1
                    rw [hA1]
                    have HSz := hide (fun (W2 : World) (hb : Below wz.heap.size wz W2) => HS.out W2 (Hbz.out.trans (hb.mono hsz)))
                    have HCz := hide (fun (W2 : World) (hb : Below wz.heap.size wz W2) => HCq.out W2 (Hbz.out.trans (hb.mono hsz)))
                    have HBz := hide (fun (W2 : World) (hb : Below wz.heap.size wz W2) => Hbz.out.trans (hb.mono hsz))
                    obtain ⟨⟨k0, k1, k2, k3, k4, k5⟩, x0, x1, x2, x3, x4, x5, x6, x7⟩ := HSz.out wz (Below.refl _ _)
                    have hbd := (Below.refl wz.heap.size wz).drew
                    have qxx : (x.toList != x.toList) = false := by simp
                    clear hrq hsq hA1 HCq
                    go_wp2
                    go_region_held3 (fun W2 => (W2.cell? ⟨w5.heap.size, 0, none⟩ = some (.int .i64 (Wd : Int)) ∧ W2.cell? ⟨w5.heap.size, 1, none⟩ = some (.int .i64 (n : Int)) ∧ W2.cell? ⟨w5.heap.size, 2, none⟩ = some (.slice A6 n c7) ∧ W2.cell? ⟨w5.heap.size, 3, none⟩ = some (.int .i64 0) ∧ W2.cell? ⟨w5.heap.size, 4, none⟩ = some (.int .i64 0) ∧ W2.cell? ⟨w5.heap.size, 5, none⟩ = some (.bool true)) ∧ W2.cell? ⟨g8, 0, none⟩ = some (.int .i64 3) ∧ W2.cell? ⟨g8, 1, none⟩ = some (.int .i64 0) ∧ W2.cell? ⟨g8, 2, none⟩ = some (.int .i64 (-1)) ∧ W2.cell? ⟨g8, 3, none⟩ = some (.int .i64 0) ∧ W2.cell? ⟨g8, 4, none⟩ = some (.int .i64 (p1 : Int)) ∧ W2.cell? ⟨g8, 5, none⟩ = some (.int .i64 (n : Int)) ∧ W2.cell? ⟨g8, 6, none⟩ = some (.int .i64 (q2 : Int)) ∧ W2.cell? ⟨g8, 7, none⟩ = some (.string lb))
                      (first | exact HSz.out _ hb9 | exact HSz.out _ hbd)
                      (first
                        | (go_at_call 9; refine (HCz.out _ hbd).mono ?_; rintro e w9 ⟨rfl, hb9'⟩; have hb9 := hbd.trans (hb9'.mono hbd.size); clear hb9')
                        | fail)
                    all_goals
                      have Hb9 := hide (HBz.out _ hb9)
                      clear hbd hb9 k0 k1 k2 k3 k4 k5 x0 x1 x2 x3 x4 x5 x6 x7
                      go_wp2
                      go_roundw
                      case rel => exact ⟨q + 1, by omega, by go_num, Hb9.out⟩
                      case measure => simp [intOf]; omega
                  · obtain rfl : m = q := by omega
                    go_wp2
                    go_roundw
                    case rel => exact ⟨y + 1, by omega, by go_num, Hbz.out⟩
                    case measure => simp [intOf]; omega
              · obtain rfl : n = y := by omega
                go_wp2_with (go_at_call 6; refine (HA.out _ Hbwy.out).mono ?_; rintro e w9 ⟨rfl, hb9⟩; have Hb9 := hide (Hbwy.out.trans (hb9.mono Hbwy.out.size)); clear hb9)
                go_ret
                exact ⟨rfl, Hb9.out⟩
end Go.Proofs.YtmgepckhdgoemaaDoor
