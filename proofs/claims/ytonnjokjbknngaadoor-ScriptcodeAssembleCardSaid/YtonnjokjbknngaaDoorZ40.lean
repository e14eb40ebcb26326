/- The reference's line: an instruction. -/
import Derived.Test.YtonnjokjbknngaaDoorZ39
import Derived.Deep.CutBlock
import Derived.Test.YtonnjokjbknngaaDoorZ15
namespace Go.Proofs.YtonnjokjbknngaaDoor
open Go.RowKit Go.Maps Go.Lib Go.Shelf

theorem idx_get (w : BS) : ∀ (l : List BS) (i j : Nat), idxFrom w i l = ((i + j : Nat) : Int) → l[j]? = some w
  | [], i, j, h => by unfold idxFrom at h; omega
  | x :: l, i, j, h => by
    unfold idxFrom at h
    by_cases hx : x = w
    · rw [if_pos hx] at h
      obtain rfl : j = 0 := by omega
      rw [hx]; rfl
    · rw [if_neg hx] at h
      have h1 := idxFrom_rng w l (i + 1)
      rw [h] at h1
      obtain ⟨j', rfl⟩ : ∃ j', j = j' + 1 := ⟨j - 1, by omega⟩
      have := idx_get w l (i + 1) j' (by rw [h]; congr 1; omega)
      simpa using this
theorem op_at (w : BS) (k : Nat) (hk : k < opNames.length) : opNames[k] = w ↔ opOf w = (k : Int) := by
  constructor
  · rintro rfl
    have : ∀ k : Fin opNames.length, opOf (opNames[k.val]'k.isLt) = ((k.val : Nat) : Int) := by decide
    exact this ⟨k, hk⟩
  · intro h
    have := idx_get w opNames 0 k (by rw [Nat.zero_add]; exact h)
    rw [List.getElem?_eq_getElem hk] at this
    exact Option.some.inj this
def opK (w : BS) (k : Nat) : Int := if 0 ≤ opOf w ∧ opOf w < (k : Int) then opOf w else -1
theorem opK_zero (w : BS) : opK w 0 = -1 := by unfold opK; rw [if_neg (by omega)]
theorem opK_all (w : BS) : opK w 21 = opOf w := by
  unfold opK
  rcases opOf_rng w with h | h
  · rw [if_neg (by omega), h]
  · rw [if_pos (by omega)]
theorem opK_yes {w : BS} {k : Nat} (hk : k < opNames.length) (h : opNames[k] = w) : opK w (k + 1) = (k : Int) := by
  have := (op_at w k hk).1 h
  unfold opK
  rw [if_pos (by omega), this]
theorem opK_no {w : BS} {k : Nat} (hk : k < opNames.length) (h : opNames[k] ≠ w) : opK w (k + 1) = opK w k := by
  have : opOf w ≠ (k : Int) := fun e => h ((op_at w k hk).2 e)
  unfold opK
  by_cases h1 : 0 ≤ opOf w ∧ opOf w < (k : Int)
  · rw [if_pos h1, if_pos (by omega)]
  · rw [if_neg h1, if_neg (by omega)]

theorem opLine_push (no : Int) (a : BS) (st : St) : opLine no 1 [a] st = match numOf 1000000000000 a with | none => (3, st) | some z => if z < -999999999 ∨ 999999999 < z then (2, st) else st.add no ⟨1, z⟩ [] := by
  have hs := numOf_two (M := 1000000000) (M' := 1000000000000) (by omega) (by omega) a
  unfold opLine
  rw [if_neg (by omega), if_pos rfl]
  dsimp only
  rcases hs with h | ⟨x, y, h1, h2, h3⟩
  · rw [h]
    cases numOf 1000000000000 a <;> rfl
  · rw [h1, h2]
    dsimp only
    rw [if_pos (by omega), if_pos (by omega)]

theorem op_fin {B : Nat} {w0 W : World} {v0 v : Fld → Value} {bs : Array Value} {st : St} {x : Ins} {no : Int} {t : BS} (h : R5 B w0 W v0 bs v (upd (upd (upd (lensOf st) .code (st.code.length + 1)) .lines (st.lines.length + 1)) .tgts (st.tgts.length + 1)) (upd (upd (upd (rowsOf st) .code (rowsOf st .code ++ x.enc)) .lines (rowsOf st .lines ++ [.int .i64 no])) .tgts (rowsOf st .tgts ++ [strV t]))) :
    R5 B w0 W v0 bs v (lensOf ⟨st.code ++ [x], st.lines ++ [no], st.labs, st.tgts ++ [t]⟩) (rowsOf ⟨st.code ++ [x], st.lines ++ [no], st.labs, st.tgts ++ [t]⟩) := by
  have e1 : lensOf ⟨st.code ++ [x], st.lines ++ [no], st.labs, st.tgts ++ [t]⟩ = upd (upd (upd (lensOf st) .code (st.code.length + 1)) .lines (st.lines.length + 1)) .tgts (st.tgts.length + 1) := funext fun i => by cases i <;> simp [lensOf, upd]
  have e2 : rowsOf ⟨st.code ++ [x], st.lines ++ [no], st.labs, st.tgts ++ [t]⟩ = upd (upd (upd (rowsOf st) .code (rowsOf st .code ++ x.enc)) .lines (rowsOf st .lines ++ [.int .i64 no])) .tgts (rowsOf st .tgts ++ [strV t]) := funext fun i => by cases i <;> simp [rowsOf, upd]
  rw [e1, e2]; exact h

set_option maxRecDepth 100000 in
set_option maxHeartbeats 3000000 in
theorem lineOpR (w : World) (B : Nat) (v : Fld → Value) (st : St) (h : RefAt w B v st) (no : Int) (w0 : BS) (r : List BS) (N g c : Nat) (hN : r.length + 1 = N) (hg : g < w.heap.size) (hws : ∀ k x, (w0 :: r)[k]? = some x → w.cell? ⟨g, k, none⟩ = some (strV x)) (hz : ∀ x ∈ w0 :: r, x.length ≤ 1000)
    (hne : w0 ≠ []) (hl : ¬ (r = [] ∧ w0.getLast? = some 58)) (h35 : ¬ w0.head? = some 35) :
    Calls Tryd.prog 34 #[.pointer (some ⟨B, 0, none⟩), .int .i64 no, .slice (some ⟨g, 0, none⟩) N c] w (LineRetR B w v (lineF no (w0 :: r) st)) := by
  have hF := lineF_op no w0 r st h35 hl
  obtain ⟨s0, hs0⟩ : ∃ s : ByteArray, (⟨w0.toArray⟩ : ByteArray) = s := ⟨_, rfl⟩
  have hs0l : s0.data.toList = w0 := by rw [← hs0]
  have hml : w0.length = s0.size := by rw [← hs0l]; rfl
  have hpos := List.length_pos_iff.2 hne
  have hc0 : w.cell? ⟨g, 0, none⟩ = some (.string s0) := by rw [← hs0]; exact hws 0 w0 rfl
  have hway : ((N : Int) == 1) = false ∨ ((N : Int) == 1) = true ∧ ∃ (m : Nat) (hlt : m < s0.size) (d : UInt8), s0[m]'hlt = d ∧ (s0.size : Int) - 1 = (m : Int) ∧ ((d.toNat : Int) == 58) = false := by
    by_cases h1 : N = 1
    · right
      have hr : r = [] := List.eq_nil_of_length_eq_zero (by omega)
      refine ⟨by rw [h1]; rfl, s0.size - 1, by omega, _, rfl, by omega, ?_⟩
      rw [beq_eq_false_iff_ne]
      intro hd
      apply hl
      refine ⟨hr, ?_⟩
      rw [List.getLast?_eq_getElem?, hml, List.getElem?_eq_getElem (by omega)]
      congr 1
      rw [← UInt8.toNat_inj]
      have h2 : s0[s0.size - 1]'(by omega) = w0[s0.size - 1]'(by omega) := by
        rw [get_at, hs0l, List.getD_eq_getElem?_getD, List.getElem?_eq_getElem (by omega)]; rfl
      rw [← h2]
      show _ = 58
      omega
    · left; rw [beq_eq_false_iff_ne]; omega
  have hs0z : s0.size ≤ 1000 := by rw [← hml]; exact hz w0 (by simp)
  have HF := hide hF
  have Hh := hide h
  have Hws := hide hws
  have Hz := hide hz
  have HNr := hide hN
  have Hs0l := hide hs0l
  have hN0 : 0 < N := by omega
  have hN0I : (0 : Int) < (N : Int) := by omega
  have hBw : B ≤ w.heap.size := Nat.le_of_lt h.r5.lt
  clear hF h hws hz hN hs0l hs0 hne hl h35 hml hpos
  go_enter Tryd.func34, Tryd.ntmps34
  go_upto_region 1 with fail
  go_cut [30] (fun v wx => v = .bool false ∧ Below w.heap.size w wx)
  case first =>
    rcases hway with q1 | ⟨q1, m, hlt, d, hd, hix, qd⟩
    all_goals
      go_quiet (fail)
      go_wp2
      go_meet
      case rel => exact ⟨rfl, below_drewN' (Below.refl _ _) _⟩
  case rest =>
    obtain ⟨rfl, hb1⟩ := hcut
    have Hb1 := hide hb1
    clear hway hb1
    go_wp2
    go_loopw [10, 11] (fun z i wr => ∃ k : Nat, k ≤ 21 ∧ i = .int .i64 k ∧ z = .int .i64 (opK w0 k) ∧ Below w.heap.size w wr) (fun _ i _ => 21 - (intOf i).toNat)
    case atStart => exact ⟨0, Nat.zero_le _, rfl, by rw [opK_zero], Hb1.out⟩
    case round =>
      obtain ⟨k, hk, rfl, rfl, hbr⟩ := hrel
      rename World => wo
      have HB := hide hbr
      clear hbr
      by_cases hlt : k < 21
      · have hltI : (k : Int) < 21 := by omega
        have hkl : k < opNames.length := hlt
        obtain ⟨NK, hNK⟩ : ∃ s : ByteArray, (⟨(opNames[k]'hkl).toArray⟩ : ByteArray) = s := ⟨_, rfl⟩
        have hNKl : NK.data.toList = opNames[k]'hkl := by rw [← hNK]
        have HNc := hide (fun (W : World) (base g c' : Nat) (h : W.ownsRow base 9 1 (.slice (some ⟨g, 0, none⟩) 21 c') 21 (opNames.map strV)) => (h.cellAt k (by omega)).trans (show (opNames.map strV)[k]? = some (.string NK) by rw [List.getElem?_map, List.getElem?_eq_getElem hkl, ← hNK]; rfl))
        have HC0 := hide (fun (W : World) (hb : Below w.heap.size w W) => (hb.cell (p := ⟨g, 0, none⟩) hg).trans hc0)
        obtain ⟨bb, hbb, hop⟩ : ∃ bb, (NK.toList == s0.toList) = bb ∧ opK w0 (k + 1) = if bb = true then (k : Int) else opK w0 k := by
          by_cases he : opNames[k]'hkl = w0
          · exact ⟨true, by rw [ByteArray.toList_eq, ByteArray.toList_eq, hNKl, Hs0l.out, he]; exact beq_self_eq_true _, by rw [if_pos rfl]; exact opK_yes hkl he⟩
          · exact ⟨false, by rw [ByteArray.toList_eq, ByteArray.toList_eq, hNKl, Hs0l.out, beq_eq_false_iff_ne]; exact he, by rw [if_neg (by decide)]; exact opK_no hkl he⟩
        have Hop := hide hop
        clear hNK hNKl hop hkl
        go_upto_region 15 with (first
          | (go_at_call 28; refine (names46 _).mono ?_; rintro e w4 ⟨g4, c4, rfl, -, hb4⟩; have HB4 := hide (HB.out.trans (hb4.mono HB.out.size)); clear hb4)
          | fail)
        go_cut [87] from 74 to 88 (fun b wx => b = .bool bb ∧ Below w.heap.size w wx)
        case first =>
          have hd4 := HB4.out.drew
          have hcd := HC0.out _ HB4.out
          go_region_law (first
            | (go_simp; go_at_call 28; refine (names46 _).mono ?_; rintro e w6 ⟨g6, c6, rfl, hown6, hb6⟩; have hB6 := hd4.trans (hb6.mono hd4.size); have hn6 := HNc.out _ _ _ _ hown6; have hc6 := HC0.out _ hB6; clear hown6 hb6)
            | fail)
          all_goals
            go_wp2_with fail
            go_meet
            case rel => exact ⟨rfl, hB6⟩
        case rest =>
          obtain ⟨rfl, hb7⟩ := hcut
          have Hb7 := hide hb7
          clear hb7 hbb HB4
          cases bb with
          | true =>
            go_wp2
            go_roundw
            case rel => exact ⟨k + 1, by omega, by go_num, by rw [Hop.out]; rfl, Hb7.out⟩
            case measure => simp [intOf]; omega
          | false =>
            go_wp2
            go_roundw
            case rel => exact ⟨k + 1, by omega, by go_num, by rw [Hop.out]; rfl, Hb7.out⟩
            case measure => simp [intOf]; omega
      · obtain rfl : k = 21 := by omega
        rw [opK_all]
        have hrng := opOf_rng w0
        obtain ⟨OP, hOP⟩ : ∃ o, opOf w0 = o := ⟨_, rfl⟩
        have hF := HF.out
        rw [hOP] at hrng hF ⊢
        have HF2 := hide hF
        go_upto_region 17 with (first
          | (go_at_call 28; refine (names46 _).mono ?_; rintro e w4 ⟨g4, c4, rfl, -, hb4⟩; have HB4 := hide (HB.out.trans (hb4.mono HB.out.size)); clear hb4)
          | fail)
        have HBx := hide (HB4.out.alloc HB4.out.size (.cells #[.int .i64 OP, .int .i64 0] 41))
        have Hbx0 := hide (block_new w4 (.cells #[.int .i64 OP, .int .i64 0] 41))
        have HcW := hide (fun (W : World) (hb : Below w.heap.size w W) k x (hx : (w0 :: r)[k]? = some x) => (hb.cell (p := ⟨g, k, none⟩) hg).trans (Hws.out k x hx))
        clear hF HF hOP
        by_cases hm1 : OP = -1
        · subst hm1
          have HR := hide (show (lineF no (w0 :: r) st).1 = 6 by rw [HF2.out]; rfl)
          clear HF2 hrng
          go_wp2
          go_ret
          exact lineRetR_err HR.out (by decide) (HBx.out.mono hBw)
        have hr0 : 0 ≤ OP := by omega
        have hr20 : OP ≤ 20 := by omega
        have qn : decide (OP < 0) = false := decide_eq_false (by omega)
        clear hrng hm1
        go_upto_block 2 with fail
        go_cut [13] (fun tv wx => ∃ (arg : Int) (t : BS), tv = strV t ∧ lineF no (w0 :: r) st = st.add no ⟨OP, arg⟩ t ∧ wx.heap[w4.heap.size]? = some (.cells #[.int .i64 OP, .int .i64 arg] 41) ∧ Below w.heap.size w wx)
        case first =>
          by_cases h1 : OP = 1
          · subst h1
            by_cases hN2 : N = 2
            · obtain ⟨a, hr⟩ : ∃ a, r = [a] := by
                have h := HNr.out
                match r, h with
                | [a], _ => exact ⟨a, rfl⟩
                | [], h => simp at h; omega
                | x :: y :: t, h => simp at h; omega
              subst hr
              have qN : ((N : Int) != 2) = false := by rw [hN2]; rfl
              obtain ⟨a0, ha0⟩ : ∃ s : ByteArray, (⟨a.toArray⟩ : ByteArray) = s := ⟨_, rfl⟩
              have ha0l : a0.data.toList = a := by rw [← ha0]
              have ha0z : a0.size ≤ 3000000 := by
                have h1 : a0.size = a.length := by rw [← ha0l]; rfl
                have := Hz.out a (by simp)
                omega
              have ca := HcW.out _ HBx.out 1 a rfl
              unfold strV at ca
              rw [ha0] at ca
              have HNu := hide (fun W => numberR W a0 ha0z)
              rw [ha0l] at HNu
              have hF := HF2.out
              rw [opLine_push] at hF
              obtain ⟨R, hR⟩ : ∃ o, numOf 1000000000000 a = o := ⟨_, rfl⟩
              rw [hR] at HNu hF
              have h2N : (1 : Int) < (N : Int) := by omega
              have h2Nn : 1 < N := by omega
              clear ha0 ha0l hR HF2 hN2
              cases R with
              | none =>
                have HR := hide (show (lineF no [w0, a] st).1 = 3 by rw [hF])
                unfold numRet at HNu
                dsimp only at HNu
                clear hF
                go_wp2_with (first
                  | (go_at_call 59; (with_reducible refine (HNu.out _).mono ?_); rintro e w2 ⟨rfl, rfl⟩)
                  | fail)
                go_ret
                exact lineRetR_err HR.out (by decide) (HBx.out.mono hBw)
              | some z =>
                dsimp only at hF
                unfold numRet at HNu
                dsimp only at HNu
                by_cases hzr : z < -999999999 ∨ 999999999 < z
                · have HR := hide (show (lineF no [w0, a] st).1 = 2 by rw [hF, if_pos hzr])
                  have hq : decide (z < -999999999) = true ∨ (decide (z < -999999999) = false ∧ decide (999999999 < z) = true) := by
                    by_cases h : z < -999999999
                    · exact .inl (decide_eq_true h)
                    · exact .inr ⟨decide_eq_false h, decide_eq_true (by omega)⟩
                  clear hF hzr
                  rcases hq with hq | ⟨hq, hq2⟩
                  all_goals
                    go_wp2_with (first
                      | (go_at_call 59; (with_reducible refine (HNu.out _).mono ?_); rintro e w2 ⟨rfl, rfl⟩)
                      | fail)
                    go_ret
                    exact lineRetR_err HR.out (by decide) (HBx.out.mono hBw)
                · have HR := hide (show lineF no [w0, a] st = st.add no ⟨1, z⟩ [] by rw [hF, if_neg hzr])
                  have hq : decide (z < -999999999) = false := decide_eq_false (by omega)
                  have hq2 : decide (999999999 < z) = false := decide_eq_false (by omega)
                  have zc1 := cell_block Hbx0.out 1
                  have zf1 := frozen_block Hbx0.out 1
                  clear hF hzr
                  go_wp2_with (first
                    | (go_at_call 59; (with_reducible refine (HNu.out _).mono ?_); rintro e w2 ⟨rfl, rfl⟩)
                    | fail)
                  go_meet
                  case rel => exact ⟨z, [], rfl, HR.out, block_new _ _, HB4.out.alloc HB4.out.size _⟩
            · have qN : ((N : Int) != 2) = true := by rw [bne_iff_ne]; omega
              have HR := hide (show (lineF no (w0 :: r) st).1 = 3 by
                rw [HF2.out]
                have h := HNr.out
                match r, h with
                | [a], h => simp at h; omega
                | [], _ => rfl
                | x :: y :: t, _ => rfl)
              clear HF2 hN2
              go_wp2
              go_ret
              exact lineRetR_err HR.out (by decide) (HBx.out.mono hBw)
          · have q1 : (OP == 1) = false := by rw [beq_eq_false_iff_ne]; exact h1
            have HJ := hide (fun W => jumpP W OP)
            by_cases h2 : OP = 17 ∨ OP = 18
            · have HJb := hide (show jumpB OP = true from decide_eq_true h2)
              have hF : lineF no (w0 :: r) st = (match r with | [a] => if labB a then st.add no ⟨OP, 0⟩ a else (3, st) | _ => (3, st)) := by
                rw [HF2.out]
                unfold opLine
                rw [if_neg (by omega), if_neg h1, if_pos h2]
                match r with
                | [] => rfl
                | [a] => rfl
                | x :: y :: t => rfl
              by_cases hN2 : N = 2
              · obtain ⟨a, hr⟩ : ∃ a, r = [a] := by
                  have h := HNr.out
                  match r, h with
                  | [a], _ => exact ⟨a, rfl⟩
                  | [], h => simp at h; omega
                  | x :: y :: t, h => simp at h; omega
                subst hr
                dsimp only at hF
                have qN : ((N : Int) != 2) = false := by rw [hN2]; rfl
                obtain ⟨a0, ha0⟩ : ∃ s : ByteArray, (⟨a.toArray⟩ : ByteArray) = s := ⟨_, rfl⟩
                have ha0l : a0.data.toList = a := by rw [← ha0]
                have ha0z : a0.size ≤ 3000000 := by
                  have h1 : a0.size = a.length := by rw [← ha0l]; rfl
                  have := Hz.out a (by simp)
                  omega
                have ca := HcW.out _ HBx.out 1 a rfl
                unfold strV at ca
                rw [ha0] at ca
                have Ha0 := hide ha0
                have HLb := hide (fun W => labelR W a0 ha0z)
                rw [ha0l] at HLb
                obtain ⟨LB, hLB⟩ : ∃ o, labB a = o := ⟨_, rfl⟩
                rw [hLB] at HLb hF
                have h2N : (1 : Int) < (N : Int) := by omega
                have h2Nn : 1 < N := by omega
                clear ha0 ha0l hLB HF2 hN2 h1 h2
                cases LB with
                | false =>
                  have HR := hide (show (lineF no [w0, a] st).1 = 3 by rw [hF]; rfl)
                  clear hF
                  go_wp2_with (first
                    | (go_at_call 35; (with_reducible refine (HJ.out _).mono ?_); rintro e w5 ⟨rfl, rfl⟩; rw [HJb.out])
                    | (go_at_call 58; (with_reducible refine (HLb.out _).mono ?_); rintro e w6 ⟨rfl, rfl⟩)
                    | fail)
                  go_ret
                  exact lineRetR_err HR.out (by decide) (HBx.out.mono hBw)
                | true =>
                  have HR := hide (show lineF no [w0, a] st = st.add no ⟨OP, 0⟩ a by rw [hF, if_pos rfl])
                  clear hF
                  go_wp2_with (first
                    | (go_at_call 35; (with_reducible refine (HJ.out _).mono ?_); rintro e w5 ⟨rfl, rfl⟩; rw [HJb.out])
                    | (go_at_call 58; (with_reducible refine (HLb.out _).mono ?_); rintro e w6 ⟨rfl, rfl⟩)
                    | fail)
                  go_meet
                  case rel => exact ⟨0, a, by unfold strV; rw [Ha0.out], HR.out, Hbx0.out, HBx.out⟩
              · have qN : ((N : Int) != 2) = true := by rw [bne_iff_ne]; omega
                have HR := hide (show (lineF no (w0 :: r) st).1 = 3 by
                  rw [hF]
                  have h := HNr.out
                  match r, h with
                  | [a], h => simp at h; omega
                  | [], _ => rfl
                  | x :: y :: t, _ => rfl)
                clear HF2 hN2 hF h1 h2
                go_wp2_with (first
                  | (go_at_call 35; (with_reducible refine (HJ.out _).mono ?_); rintro e w5 ⟨rfl, rfl⟩; rw [HJb.out])
                  | fail)
                go_ret
                exact lineRetR_err HR.out (by decide) (HBx.out.mono hBw)
            · have HJb := hide (show jumpB OP = false from decide_eq_false h2)
              have hF : lineF no (w0 :: r) st = (if r = [] then st.add no ⟨OP, 0⟩ [] else (3, st)) := by
                rw [HF2.out]
                unfold opLine
                rw [if_neg (by omega), if_neg h1, if_neg h2]
              by_cases hN1 : N = 1
              · have hr : r = [] := List.eq_nil_of_length_eq_zero (by have := HNr.out; omega)
                have qN : ((N : Int) != 1) = false := by rw [hN1]; rfl
                have HR := hide (show lineF no (w0 :: r) st = st.add no ⟨OP, 0⟩ [] by rw [hF, if_pos hr])
                clear HF2 hN1 hF h1 h2 hr
                go_wp2_with (first
                  | (go_at_call 35; (with_reducible refine (HJ.out _).mono ?_); rintro e w5 ⟨rfl, rfl⟩; rw [HJb.out])
                  | fail)
                go_meet
                case rel => exact ⟨0, [], rfl, HR.out, Hbx0.out, HBx.out⟩
              · have hr : r ≠ [] := by rintro rfl; exact hN1 (by have := HNr.out; simp at this; omega)
                have qN : ((N : Int) != 1) = true := by rw [bne_iff_ne]; omega
                have HR := hide (show (lineF no (w0 :: r) st).1 = 3 by rw [hF, if_neg hr])
                clear HF2 hN1 hF h1 h2 hr
                go_wp2_with (first
                  | (go_at_call 35; (with_reducible refine (HJ.out _).mono ?_); rintro e w5 ⟨rfl, rfl⟩; rw [HJb.out])
                  | fail)
                go_ret
                exact lineRetR_err HR.out (by decide) (HBx.out.mono hBw)
        case rest =>
          obtain ⟨arg, t, rfl, hans, hbx, hbw⟩ := hcut
          obtain ⟨TS, hTS⟩ : ∃ s : ByteArray, (⟨t.toArray⟩ : ByteArray) = s := ⟨_, rfl⟩
          unfold strV
          rw [hTS]
          have HTS := hide (show strV t = .string TS by unfold strV; rw [hTS])
          clear hTS
          have hR := Hh.out.r5.below hbw
          obtain ⟨A0, p0, e0⟩ := own_form (hR.own .code)
          have c0 : wc.cell? ⟨B, 0, none⟩ = some (v .code) := cell_block hR.box 0
          have ca : (wc.alloc (.cells #[.int .i64 OP, .int .i64 arg] 41)).cell? ⟨B, 0, none⟩ = some (v .code) := cell_block (hR.alloc _).box 0
          have hx0 := cell_block hbx 0
          have hx1 := cell_block hbx 1
          rw [e0] at c0 ca
          have c0' : wc.cell? ⟨B, 0, none⟩ = some (.slice A0 st.code.length p0) := c0
          have ca' : (wc.alloc (.cells #[.int .i64 OP, .int .i64 arg] 41)).cell? ⟨B, 0, none⟩ = some (.slice A0 st.code.length p0) := ca
          have E0 := hide (show v .code = .slice A0 st.code.length p0 from e0)
          have HRR := hide hR
          have Hans := hide hans
          have Hbw := hide hbw
          have hcl := Hh.out.small
          have HRl := hide (show st.lines.length ≤ 100000 by rw [Hh.out.llen]; omega)
          have HRt := hide (show st.tgts.length ≤ 100000 by rw [Hh.out.tlen]; omega)
          obtain ⟨CL, hCL⟩ : ∃ n, st.code.length = n := ⟨_, rfl⟩
          have HCL := hide hCL
          rw [hCL] at c0' ca' hcl E0
          clear c0 ca e0 hR hans hbx hbw HBx Hbx0 HB4 HcW HF2 Hws Hz hCL HB
          by_cases h500 : CL = 500
          · have HR := hide (show (lineF no (w0 :: r) st).1 = 5 by rw [Hans.out]; unfold St.add; rw [HCL.out, if_pos h500])
            have q5 : ((CL : Int) == 500) = true := by rw [h500]; rfl
            clear h500
            go_wp2
            go_ret
            exact lineRetR_err HR.out (by decide) (Hbw.out.mono hBw)
          · have HR := hide (show lineF no (w0 :: r) st = (0, ⟨st.code ++ [⟨OP, arg⟩], st.lines ++ [no], st.labs, st.tgts ++ [t]⟩) by rw [Hans.out]; unfold St.add; rw [HCL.out, if_neg h500])
            have q5 : ((CL : Int) == 500) = false := by rw [beq_eq_false_iff_ne]; omega
            have Hc5 := hide (show CL + 1 ≤ 500 by omega)
            clear h500
            go_upto_region 38 with fail
            go_cut [] (fun wx => ∃ g cap, R5 B w wx v (box5 (upd v .code (.slice (some ⟨g, 0, none⟩) (st.code.length + 1) cap))) (upd v .code (.slice (some ⟨g, 0, none⟩) (st.code.length + 1) cap)) (upd (lensOf st) .code (st.code.length + 1)) (upd (rowsOf st) .code (rowsOf st .code ++ Ins.enc ⟨OP, arg⟩)))
            case first =>
              have HL := hide (show lensOf st .code ≤ 100000 by show st.code.length ≤ 100000; rw [HCL.out]; omega)
              go_region_law (first
                | (refine step_r5 (HRR.out.alloc (.cells #[.int .i64 OP, .int .i64 arg] 41)).drew .code (.tmp 147) (.tmp 149) (by rfl) (by rfl) el_ins (by decide) HL.out (by exact E0.out.symm) #[.int .i64 OP, .int .i64 arg] 1 41 wc.heap.size (by rfl) (block_new _ _) rfl (by simp [Value.oneCell']) ?_; intro g7 cap7 w7 h7; have f7 := frozen_block h7.box 0; have k7 : w7.cell? ⟨B, 0, none⟩ = some (v .code) := cell_block h7.box 0; have H7 := hide h7; clear h7)
                | fail)
              all_goals
                go_wp2_with fail
                go_meet
                case rel => exact ⟨g7, cap7, R5.put (i := .code) H7.out⟩
            case rest =>
              obtain ⟨g6, cap6, h6⟩ := hcut
              have c1 : wc.cell? ⟨B, 1, none⟩ = some (v .lines) := cell_block h6.box 1
              have H6 := hide h6
              clear h6 c0' ca' hx0 hx1
              obtain ⟨wa, rfl⟩ : ∃ wa : World, wa = wc := ⟨_, rfl⟩
              go_upto_region 39 with fail
              go_cut [] (fun wx => ∃ g cap, R5 B w wx v (box5 (upd (upd v .code (.slice (some ⟨g6, 0, none⟩) (st.code.length + 1) cap6)) .lines (.slice (some ⟨g, 0, none⟩) (st.lines.length + 1) cap))) (upd (upd v .code (.slice (some ⟨g6, 0, none⟩) (st.code.length + 1) cap6)) .lines (.slice (some ⟨g, 0, none⟩) (st.lines.length + 1) cap)) (upd (upd (lensOf st) .code (st.code.length + 1)) .lines (st.lines.length + 1)) (upd (upd (rowsOf st) .code (rowsOf st .code ++ Ins.enc ⟨OP, arg⟩)) .lines (rowsOf st .lines ++ [.int .i64 no])))
              case first =>
                go_wp2_with (first
                  | (at_builtin; refine list_r5 H6.out .lines (.tmp 157) (.tmp 159) ?_ ?_ el_int (by decide) HRl.out ?_ #[.int .i64 no] 1 3 _ ?_ rfl rfl (by simp [Value.oneCell']) ?_; (· rfl); (· rfl); (· rfl); (· rfl); intro g7 cap7 w7 h7; have f7 := frozen_block h7.box 1; have k7 : w7.cell? ⟨B, 1, none⟩ = some (v .lines) := cell_block h7.box 1; have H7 := hide h7; clear h7)
                  | fail)
                go_meet
                case rel => exact ⟨g7, cap7, R5.put (i := .lines) H7.out⟩
              case rest =>
                obtain ⟨g7, cap7, h7⟩ := hcut
                have c2 : wc.cell? ⟨B, 2, none⟩ = some (v .tgts) := cell_block h7.box 2
                have H7 := hide h7
                clear h7 c1
                go_wp2_with (first
                  | (at_builtin; refine list_r5 H7.out .tgts (.tmp 167) (.tmp 169) ?_ ?_ el_str46 (by decide) HRt.out ?_ #[.string TS] 1 9 _ ?_ rfl rfl (by simp [Value.oneCell']) ?_; (· rfl); (· rfl); (· rfl); (· rfl); intro g8 cap8 w8 h8; have f8 := frozen_block h8.box 2; have k8 : w8.cell? ⟨B, 2, none⟩ = some (v .tgts) := cell_block h8.box 2; have H8 := hide h8; clear h8)
                  | fail)
                go_ret
                exact lineRetR_ok HR.out ⟨_, op_fin (by have h := R5.put (i := .tgts) H8.out; rw [← HTS.out] at h; exact h)⟩ (by simp [Hh.out.llen]) (by simp [Hh.out.tlen]) (by show (st.code ++ [_]).length ≤ 500; rw [List.length_append, HCL.out]; exact Hc5.out)
end Go.Proofs.YtonnjokjbknngaaDoor
