/- The reference's line: a label. -/
import Derived.Test.YtonnjokjbknngaaDoorZ39a
import Derived.Test.YtonnjokjbknngaaDoorZ34
import Derived.Deep.QuietTactic
import Derived.BigQuiet
import Derived.Deep.DeepCutAuto
namespace Go.Proofs.YtonnjokjbknngaaDoor
open Go.RowKit Go.Maps Go.Lib Go.Shelf

/-- What a line's call comes to. -/
def LineRetR (B : Nat) (w0 : World) (v0 : Fld → Value) (r : Int × St) (e : Ending) (w' : World) : Prop :=
  e = .returned (.int .i64 r.1) ∧ Below B w0 w' ∧ (r.1 = 0 → ∃ v, R5 B w0 w' v0 (box5 v) v (lensOf r.2) (rowsOf r.2) ∧ r.2.lines.length = r.2.code.length ∧ r.2.tgts.length = r.2.code.length ∧ r.2.code.length ≤ 500)
theorem lineRetR_err {B : Nat} {w0 w' : World} {v0 : Fld → Value} {r : Int × St} {z : Int} (h : r.1 = z) (hz : z ≠ 0) (hb : Below B w0 w') : LineRetR B w0 v0 r (.returned (.int .i64 z)) w' := ⟨by rw [h], hb, fun h0 => absurd (h.symm.trans h0) hz⟩

def fi : Fld → Nat | .code => 0 | .lines => 1 | .tgts => 2 | .names => 3 | .vals => 4
theorem R5.put {B : Nat} {w0 W : World} {v0 v : Fld → Value} {n : Fld → Nat} {x : Fld → List Value} {i : Fld} {u : Value} (h : R5 B w0 W v0 (box5 v) (upd v i u) n x) : R5 B w0 (W.setCell ⟨B, fi i, none⟩ u) v0 (box5 (upd v i u)) (upd v i u) n x := by
  rw [show box5 (upd v i u) = (box5 v).setIfInBounds (fi i) u by cases i <;> simp [box5, upd, fi]]
  exact h.set _ _
theorem lineRetR_ok {B : Nat} {w0 w' : World} {v0 : Fld → Value} {r : Int × St} {st : St} (h : r = (0, st)) (hR : ∃ v, R5 B w0 w' v0 (box5 v) v (lensOf st) (rowsOf st)) (h1 : st.lines.length = st.code.length) (h2 : st.tgts.length = st.code.length) (h3 : st.code.length ≤ 500) : LineRetR B w0 v0 r (.returned (.int .i64 0)) w' := by
  subst h
  obtain ⟨v, hR⟩ := hR
  exact ⟨rfl, hR.bl, fun _ => ⟨v, hR, h1, h2, h3⟩⟩
theorem lab_fin {B : Nat} {w0 W : World} {v0 v : Fld → Value} {bs : Array Value} {st : St} {nm : BS} {k : Nat} (h : R5 B w0 W v0 bs v (upd (upd (lensOf st) .names (st.labs.length + 1)) .vals (st.labs.length + 1)) (upd (upd (rowsOf st) .names (rowsOf st .names ++ [strV nm])) .vals (rowsOf st .vals ++ [.int .i64 (k : Int)]))) :
    R5 B w0 W v0 bs v (lensOf ⟨st.code, st.lines, st.labs ++ [(nm, k)], st.tgts⟩) (rowsOf ⟨st.code, st.lines, st.labs ++ [(nm, k)], st.tgts⟩) := by
  have e1 : lensOf ⟨st.code, st.lines, st.labs ++ [(nm, k)], st.tgts⟩ = upd (upd (lensOf st) .names (st.labs.length + 1)) .vals (st.labs.length + 1) := funext fun i => by cases i <;> simp [lensOf, upd]
  have e2 : rowsOf ⟨st.code, st.lines, st.labs ++ [(nm, k)], st.tgts⟩ = upd (upd (rowsOf st) .names (rowsOf st .names ++ [strV nm])) .vals (rowsOf st .vals ++ [.int .i64 (k : Int)]) := funext fun i => by cases i <;> simp [rowsOf, upd]
  rw [e1, e2]; exact h

set_option maxRecDepth 100000 in
set_option maxHeartbeats 1000000 in
theorem lineLabR (w : World) (B : Nat) (v : Fld → Value) (st : St) (h : RefAt w B v st) (hlabs : st.labs.length ≤ 2000) (no : Int) (w0 : BS) (g c : Nat) (hc : w.cell? ⟨g, 0, none⟩ = some (strV w0)) (hz : w0.length ≤ 1000)
    (hl : w0.getLast? = some 58) (h35 : w0.head? ≠ some 35) :
    Calls Tryd.prog 34 #[.pointer (some ⟨B, 0, none⟩), .int .i64 no, .slice (some ⟨g, 0, none⟩) 1 c] w (LineRetR B w v (lineF no [w0] st)) := by
  have hF : lineF no [w0] st = (if labB w0.dropLast = false then (3, st) else if (findL w0.dropLast st.labs).isSome then (7, st) else (0, ⟨st.code, st.lines, st.labs ++ [(w0.dropLast, st.code.length)], st.tgts⟩)) := by
    unfold lineF
    dsimp only
    rw [if_neg h35, if_pos ⟨rfl, hl⟩]
  obtain ⟨s0, hs0⟩ : ∃ s : ByteArray, (⟨w0.toArray⟩ : ByteArray) = s := ⟨_, rfl⟩
  have hs0l : s0.data.toList = w0 := by rw [← hs0]
  have hne : w0 ≠ [] := by rintro rfl; cases hl
  obtain ⟨m, hm⟩ : ∃ m, s0.size = m + 1 := ⟨s0.size - 1, by
    have h1 : s0.size = w0.length := by rw [← hs0l]; rfl
    have := List.length_pos_iff.2 hne
    omega⟩
  have hml : w0.length = m + 1 := by rw [← hm, ← hs0l]; rfl
  have hlt : m < s0.size := by omega
  have hlast : s0[m]'hlt = 58 := by
    rw [get_at, hs0l, List.getD_eq_getElem?_getD, show m = w0.length - 1 by omega, ← List.getLast?_eq_getElem?, hl]; rfl
  have hix : (s0.size : Int) - 1 = (m : Int) := by omega
  have hmI : (m : Int) < (s0.size : Int) := by omega
  obtain ⟨NM, hNM⟩ : ∃ x, s0.extract 0 m = x := ⟨_, rfl⟩
  have hNl : NM.data.toList = w0.dropLast := by
    rw [← hNM, Lib.extract_data, hs0l, List.dropLast_eq_take, hml]; simp
  have hsl : ∀ W : World, (Instr.slice 9 (.string s0) none (some (.int .i64 (m : Int))) none).run Tryd.prog W = .ok (.string NM) W := fun W => by
    rw [run_slice_string_to_if (P := Tryd.prog) (w := W) 9 s0 .i64 (m : Int) Tryd.underlying9, if_pos ⟨by omega, by omega⟩, show ((m : Int)).toNat = m by omega, hNM]
  have hNz : NM.size ≤ 3000000 := by
    have h1 : NM.size = w0.dropLast.length := by rw [← hNl]; rfl
    rw [h1, List.length_dropLast]; omega
  have hm3 : m ≤ 1000 := by omega
  unfold strV at hc
  rw [hs0] at hc
  have HLb := hide (fun W => labelR W NM hNz)
  have HFd := hide (fun (W : World) (hb : Below w.heap.size w W) => findR W B v st (h.r5.below hb).again NM (by omega))
  rw [hNl] at HLb HFd
  have Hh := hide h
  have hNMv : Value.string NM = strV w0.dropLast := by unfold strV; rw [← hNl]
  have HNv := hide hNMv
  have hBw : B ≤ w.heap.size := Nat.le_of_lt h.r5.lt
  by_cases hlab : labB w0.dropLast = false
  · have HR := hide (show (lineF no [w0] st).1 = 3 by rw [hF, if_pos hlab])
    rw [hlab] at HLb
    clear h35 hl hs0 hs0l hne hml hNM hNl hF h hNMv hlab HFd Hh HNv
    go_enter Tryd.func34, Tryd.ntmps34
    go_wp2
    go_quiet (fail)
    go_wp2
    go_quiet (fail)
    go_wp2_with (go_at_call 58; (with_reducible refine (HLb.out _).mono ?_); rintro e w4 ⟨rfl, rfl⟩)
    go_ret
    exact lineRetR_err HR.out (by decide) (below_drewN' (Below.refl _ _) _)
  have hlab1 : labB w0.dropLast = true := by simpa using hlab
  rw [if_neg hlab] at hF
  rw [hlab1] at HLb
  cases hfind : findL w0.dropLast st.labs with
  | some k =>
    have HR := hide (show (lineF no [w0] st).1 = 7 by rw [hF, hfind]; rfl)
    rw [hfind] at HFd
    unfold findV at HFd
    dsimp only at HFd
    clear h35 hl hs0 hs0l hne hml hNM hNl hF h hNMv hlab Hh HNv hlab1 hfind
    go_enter Tryd.func34, Tryd.ntmps34
    go_wp2
    go_quiet (fail)
    go_wp2
    go_quiet (fail)
    go_wp2_with (first
      | (go_at_call 58; (with_reducible refine (HLb.out _).mono ?_); rintro e w4 ⟨rfl, rfl⟩)
      | (go_at_call 36; (with_reducible refine (HFd.out _ (below_drewN' (Below.refl _ _) _)).mono ?_); rintro e w5 ⟨rfl, rfl⟩)
      | fail)
    go_ret
    exact lineRetR_err HR.out (by decide) (below_drewN' (Below.refl _ _) _)
  | none =>
    have HR := hide (show lineF no [w0] st = (0, ⟨st.code, st.lines, st.labs ++ [(w0.dropLast, st.code.length)], st.tgts⟩) by rw [hF, hfind]; rfl)
    rw [hfind] at HFd
    unfold findV at HFd
    dsimp only at HFd
    have c3 : w.cell? ⟨B, 3, none⟩ = some (v .names) := cell_block h.r5.box 3
    have hRW := hide (fun (W : World) (hb : Below w.heap.size w W) => h.r5.below hb)
    clear h35 hl hs0 hs0l hne hml hNM hNl hF h hNMv hlab hlab1 hfind
    go_enter Tryd.func34, Tryd.ntmps34
    go_wp2
    go_quiet (fail)
    go_wp2
    go_quiet (fail)
    go_upto_region 8 with (first
      | (go_at_call 58; (with_reducible refine (HLb.out _).mono ?_); rintro e w4 ⟨rfl, rfl⟩)
      | (go_at_call 36; (with_reducible refine (HFd.out _ (below_drewN' (Below.refl _ _) _)).mono ?_); rintro e w5 ⟨rfl, rfl⟩)
      | fail)
    go_cut [] from 16 to 172 (fun wx => ∃ g cap, R5 B w wx v (box5 (upd v .names (.slice (some ⟨g, 0, none⟩) (st.labs.length + 1) cap))) (upd v .names (.slice (some ⟨g, 0, none⟩) (st.labs.length + 1) cap)) (upd (lensOf st) .names (st.labs.length + 1)) (upd (rowsOf st) .names (rowsOf st .names ++ [strV w0.dropLast])))
    case first =>
      clear HLb HFd
      go_wp2_with (first
        | (at_builtin; refine list_r5 (hRW.out _ (below_drewN' (Below.refl _ _) _)) .names (.tmp 54) (.tmp 56) rfl (by rfl) el_str46 (by decide) (by show st.labs.length ≤ 100000; omega) (by rfl) #[.string NM] 1 9 _ (by rfl) rfl rfl (by simp [Value.oneCell']) ?_; intro g6 cap6 w6 h6; have hfz := frozen_block h6.box 3; have hck : w6.cell? ⟨B, 3, none⟩ = some (v .names) := cell_block h6.box 3; have H6 := hide h6; clear h6)
        | fail)
      go_meet
      case rel => exact ⟨g6, cap6, by rw [box5_upd, ← HNv.out]; exact H6.out.set 3 _⟩
    case rest =>
      obtain ⟨g6, cap6, h6⟩ := hcut
      obtain ⟨A0, p0, e0⟩ := own_form (Hh.out.r5.own .code)
      have c0 : wc.cell? ⟨B, 0, none⟩ = some (v .code) := cell_block h6.box 0
      have c4 : wc.cell? ⟨B, 4, none⟩ = some (v .vals) := cell_block h6.box 4
      have ca4 : (wc.alloc (.cells #[.int .i64 (st.code.length : Int)] 3)).cell? ⟨B, 4, none⟩ = some (v .vals) := cell_block (h6.alloc _).box 4
      rw [e0] at c0
      have c0' : wc.cell? ⟨B, 0, none⟩ = some (.slice A0 st.code.length p0) := c0
      have hcl := Hh.out.small
      have H6 := hide h6
      clear c0 e0 h6 HLb HFd c3
      have HL := hide (show (upd (lensOf st) .names (st.labs.length + 1)) .vals = st.labs.length by simp [upd, lensOf])
      go_upto_region 9 with fail
      go_region_law (first
        | (refine step_r5 (H6.out.alloc (.cells #[.int .i64 (st.code.length : Int)] 3)).drew .vals (.tmp 64) (.tmp 70) (by rfl) (by rfl) el_int (by decide) (by rw [HL.out]; omega) (by rfl) #[.int .i64 (st.code.length : Int)] 1 3 wc.heap.size (by rfl) (block_new _ _) rfl (by simp [Value.oneCell']) ?_; intro g7 cap7 w7 h7; have f7 := frozen_block h7.box 4; have k7 : w7.cell? ⟨B, 4, none⟩ = some (v .vals) := cell_block h7.box 4; have H7 := hide h7; clear h7)
        | (refine step_r5 (H6.out.drew.alloc (.cells #[.int .i64 (st.code.length : Int)] 3)) .vals (.tmp 64) (.tmp 70) (by rfl) (by rfl) el_int (by decide) (by rw [HL.out]; omega) (by rfl) #[.int .i64 (st.code.length : Int)] 1 3 wc.heap.size (by rfl) (block_new _ _) rfl (by simp [Value.oneCell']) ?_; intro g7 cap7 w7 h7; have f7 := frozen_block h7.box 4; have k7 : w7.cell? ⟨B, 4, none⟩ = some (v .vals) := cell_block h7.box 4; have H7 := hide h7; clear h7)
        | fail)
      all_goals
        go_wp2
        go_ret
        exact lineRetR_ok HR.out ⟨_, lab_fin (R5.put (i := .vals) H7.out)⟩ Hh.out.llen Hh.out.tlen Hh.out.small
end Go.Proofs.YtonnjokjbknngaaDoor
