/- frames.draw: the picture of a view. -/
import Derived.Test.YtdgmjbcfopkibaaDoorF5
import Derived.Test.YtdgmjbcfopkibaaDoorF3
import Derived.Deep.OwnRows
import Derived.Deep.RegionLaw
import Derived.Deep.DeepCutAuto
namespace Go.Proofs.YtdgmjbcfopkibaaDoor
open Go.RowKit Go.Shelf

theorem row_below {w w' : World} {b B n : Nat} {t : TypeId} {f : Nat → Value} (h : w.rowIs b t n f) (hb : Below B w w') (hB : b < B) : w'.rowIs b t n f := h.of_block (hb.block b hB)
theorem widthF_app (a b : List Gl) : widthOf (a ++ b) = widthOf a + widthOf b := by simp [widthOf]
theorem info_row : (Tryd.prog.info? 63).map (fun i => (i.zero, i.size, i.bytes)) = some (some (.slice none 0 0), 1, 24) := by kernel_rfl
theorem info_int : (Tryd.prog.info? 3).map (fun i => (i.zero, i.size, i.bytes)) = some (some (.int .i64 0), 1, 8) := by kernel_rfl

set_option maxRecDepth 100000 in
set_option maxHeartbeats 4000000 in
theorem drawP (w : World) (A : Option Addr) (c : Nat) (v : Vw) (W : Nat) (h : Rows2 w w.heap.size A v.rows) (hn : v.Nice W) :
    Calls Tryd.prog 19 #[v.val A c] w fun e w' => ∃ bp, e = .returned (.slice (some ⟨bp, 0, none⟩) v.rows.length v.rows.length) ∧ w.heap.size ≤ bp ∧ PicAt w' bp v.rows.length W v.pic ∧ Below w.heap.size w w' := by
  obtain ⟨width, height, rows, row, col, vis⟩ := v
  have htame := hn.tame
  have hwid := hn.wide
  have hw1 := hn.w1
  have hw2 := hn.w2
  have e1 : width = (W : Int) := hn.width
  have e2 : height = (rows.length : Int) := hn.height
  subst e1 e2
  dsimp only at htame hwid h ⊢
  obtain ⟨n, hnl⟩ : ∃ n, rows.length = n := ⟨_, rfl⟩
  have Hn := hide hnl
  have hn12 : n ≤ 12 := by rw [← hnl]; exact htame.1
  have Hh := hide h
  have Htame := hide htame.2
  have Hwid := hide hwid
  unfold Vw.val
  dsimp only
  rw [hnl]
  have hmk1 := run_make_row' (P := Tryd.prog) 42 63 (.slice none 0 0) 24 Tryd.underlying42 info_row rfl .i64 .i64 n (by omega) (by omega)
  have hmk2 := run_make_row' (P := Tryd.prog) 63 3 (.int .i64 0) 8 Tryd.underlying63 info_int rfl .i64 .i64 W (by omega) (by omega)
  have hv0 := block_new w (.cells #[.int .i64 (W : Int), .int .i64 (n : Int), .slice A n c, .int .i64 row, .int .i64 col, .bool vis] 24)
  have hv1 := block_alloc hv0 (.cells (madeCells #[.slice none 0 0] n) 63)
  have hr1 := World.rowIs_made (w.alloc (.cells #[.int .i64 (W : Int), .int .i64 (n : Int), .slice A n c, .int .i64 row, .int .i64 col, .bool vis] 24)) (.slice none 0 0) n 63
  rw [World.size_alloc] at hr1
  have hb1 := ((Below.refl w.heap.size w).alloc (Nat.le_refl _) (.cells #[.int .i64 (W : Int), .int .i64 (n : Int), .slice A n c, .int .i64 row, .int .i64 col, .bool vis] 24)).alloc (by simp) (.cells (madeCells #[.slice none 0 0] n) 63)
  have Hv1 := hide hv1
  have Hr1 := hide (hr1.congr (g := fun j => if j < 0 then .slice (some ⟨j, 0, none⟩) W W else .slice none 0 0) fun i _ => by rw [if_neg (Nat.not_lt_zero _)])
  have Hb1 := hide hb1
  clear hv0 hv1 hr1 hb1 h htame hwid hnl hn
  go_enter Tryd.func19, Tryd.ntmps19
  go_wp2
  go_loopw [15] (fun i wr => ∃ (k : Nat) (bf : Nat → Nat), k ≤ n ∧ i = .int .i64 (k : Int) ∧ wr.rowIs (w.heap.size + 1) 63 n (fun j => if j < k then .slice (some ⟨bf j, 0, none⟩) W W else .slice none 0 0) ∧
    (∀ j, j < k → w.heap.size + 1 < bf j ∧ wr.rowIs (bf j) 3 W (fun c => .int .i64 (picR (rows.getD j []) c : Nat))) ∧ wr.heap[w.heap.size]? = some (.cells #[.int .i64 (W : Int), .int .i64 (n : Int), .slice A n c, .int .i64 row, .int .i64 col, .bool vis] 24) ∧ Below w.heap.size w wr) (fun i _ => n - (intOf i).toNat)
  case atStart => exact ⟨0, fun j => j, Nat.zero_le _, rfl, Hr1.out, fun j hj => absurd hj (Nat.not_lt_zero _), Hv1.out, Hb1.out⟩
  case round =>
    clear Hr1 Hv1 Hb1
    obtain ⟨k, bf, hk, rfl, hrow, hfam, hbox, hbr⟩ := hrel
    rename World => wo
    have y0 := cell_block hbox 0
    by_cases hlt : k < n
    · have hltI : (k : Int) < (n : Int) := by omega
      have hkr : k < rows.length := by rw [Hn.out]; exact hlt
      obtain ⟨ba, off, rfl, hba, A1, c1, d0, d1, d2⟩ := Hh.out.get1 hkr
      have e0 : wo.cell? ⟨ba, off + k, none⟩ = some (.slice A1 rows[k].length c1) := (hbr.cell (p := ⟨ba, off + k, none⟩) hba).trans d0
      obtain ⟨hl140, hg40⟩ := Htame.out _ (List.getElem_mem hkr)
      have hwW := Hwid.out _ (List.getElem_mem hkr)
      have Hget := hide (show rows.getD k [] = rows[k] by rw [List.getD_eq_getElem?_getD, List.getElem?_eq_getElem hkr]; rfl)
      obtain ⟨l, hl⟩ : ∃ l, rows[k] = l := ⟨_, rfl⟩
      rw [hl] at e0 hl140 hg40 hwW d2 Hget
      have Hgl := hide ((d2.below (GlAt.stays _) hbr).more hbr.size)
      obtain ⟨m, hm⟩ : ∃ m, l.length = m := ⟨_, rfl⟩
      have Hm := hide hm
      rw [hm] at e0 hl140
      have Hg40 := hide hg40
      have HwW := hide hwW
      have hsz : w.heap.size + 1 < wo.heap.size := hrow.lt
      -- the new row
      obtain ⟨W2, hW2⟩ : ∃ W2, (wo.alloc (.cells (madeCells #[.int .i64 0] W) 3)).setCell ⟨w.heap.size + 1, k, none⟩ (.slice (some ⟨wo.heap.size, 0, none⟩) W W) = W2 := ⟨_, rfl⟩
      have hs2 : W2.heap.size = wo.heap.size + 1 := by rw [← hW2]; simp [World.setCell]
      have hrow2 : W2.rowIs (w.heap.size + 1) 63 n (fun j => if j < k + 1 then .slice (some ⟨if j = k then wo.heap.size else bf j, 0, none⟩) W W else .slice none 0 0) := by
        rw [← hW2]
        refine ((hrow.alloc _).set k _).congr fun i hi => ?_
        by_cases h1 : i = k
        · subst h1; rw [if_pos rfl, if_pos (Nat.lt_succ_self _), if_pos rfl]
        · rw [if_neg h1]
          by_cases h2 : i < k
          · rw [if_pos h2, if_pos (by omega), if_neg h1]
          · rw [if_neg h2, if_neg (by omega)]
      have hnew2 : W2.rowIs wo.heap.size 3 W (fun c => .int .i64 (picR (l.take 0) c : Nat)) := by
        rw [← hW2]
        exact ((World.rowIs_made wo (.int .i64 0) W 3).setOther (by show wo.heap.size ≠ w.heap.size + 1; omega) _).congr fun i _ => by simp [picR]
      have hfam2 : ∀ j, j < k → w.heap.size + 1 < bf j ∧ bf j < wo.heap.size ∧ W2.rowIs (bf j) 3 W (fun c => .int .i64 (picR (rows.getD j []) c : Nat)) := fun j hj => by
        obtain ⟨g1, g2⟩ := hfam j hj
        refine ⟨g1, g2.lt, ?_⟩
        rw [← hW2]
        exact (g2.alloc _).setOther (by show bf j ≠ w.heap.size + 1; omega) _
      have hbox2 : W2.heap[w.heap.size]? = some (.cells #[.int .i64 (W : Int), .int .i64 (n : Int), .slice (some ⟨ba, off, none⟩) n c, .int .i64 row, .int .i64 col, .bool vis] 24) := by
        rw [← hW2]
        exact block_far (block_alloc hbox _) (by show w.heap.size ≠ w.heap.size + 1; omega) _
      have hb2 : Below w.heap.size w W2 := by
        rw [← hW2]
        exact (hbr.alloc hbr.size _).setCell (p := ⟨w.heap.size + 1, k, none⟩) (Nat.le_succ _) _
      have hgl2 : Below wo.heap.size wo (wo.alloc (.cells (madeCells #[.int .i64 0] W) 3)) := (Below.refl _ _).alloc (Nat.le_refl _) _
      have HGl := hide (fun (W3 : World) (hb : Below w.heap.size w W3) => d2.below (GlAt.stays _) hb)
      have z0 : (wo.alloc (.cells (madeCells #[.int .i64 0] W) 3)).cell? ⟨w.heap.size + 1, k, none⟩ = some (.slice none 0 0) := ((hrow.alloc _).cell hlt).trans (by rw [if_neg (Nat.lt_irrefl _)])
      have f0 := (hrow.alloc (.cells (madeCells #[.int .i64 0] W) 3)).frozen k
      have y0a : (wo.alloc (.cells (madeCells #[.int .i64 0] W) 3)).cell? ⟨w.heap.size, 0, none⟩ = some (.int .i64 (W : Int)) := cell_block (block_alloc hbox _) 0
      have y2 := cell_block hbox 2
      have Hrow2 := hide hrow2
      have Hnew2 := hide hnew2
      have Hfam2 := hide hfam2
      have Hbox2 := hide hbox2
      have Hb2 := hide hb2
      have Hs2 := hide hs2
      clear hrow2 hnew2 hfam2 hbox2 hb2 hgl2 hrow hfam hbox hbr d0 d1 d2 hl hm hg40 hwW hs2 Hgl
      go_wp2
      clear z0 f0 y0a y2 e0 y0 hW2
      go_loopw [6, 28] (fun cc i wi => ∃ j : Nat, j ≤ m ∧ i = .int .i64 (j : Int) ∧ cc = .int .i64 (widthOf (l.take j) : Nat) ∧ wi.rowIs wo.heap.size 3 W (fun c => .int .i64 (picR (l.take j) c : Nat)) ∧ Below wo.heap.size W2 wi ∧ wo.heap.size + 1 ≤ wi.heap.size) (fun _ i _ => m - (intOf i).toNat)
      case atStart => exact ⟨0, Nat.zero_le _, rfl, by simp [widthOf], Hnew2.out, Below.refl _ _, by have := Hs2.out; omega⟩
      case round =>
        clear Hnew2
        obtain ⟨j, hj, rfl, rfl, hnew, hbi, hsi⟩ := hrel
        rename World => wi
        by_cases hlj : j < m
        · have hljI : (j : Int) < (m : Int) := by omega
          have hjl : j < l.length := by rw [Hm.out]; exact hlj
          have hpic := picR_snoc l j hjl
          have hws := widthOf_snoc l j hjl
          have hw3 : widthOf (l.take (j + 1)) ≤ widthOf l := by
            have := widthF_app (l.take (j + 1)) (l.drop (j + 1))
            rw [List.take_append_drop] at this
            omega
          have hcW : widthOf (l.take j) < W := by
            have h1 := glW_pos l[j]
            have h2 := HwW.out
            omega
          obtain ⟨cc, hcc⟩ : ∃ cc, widthOf (l.take j) = cc := ⟨_, rfl⟩
          have hbw := Hb2.out.trans (hbi.mono (by omega))
          obtain ⟨bG, oG, rfl, hbG, c0, c1', c2⟩ := (HGl.out wi hbw).get hjl
          have hx40 := Hg40.out _ (List.getElem_mem hjl)
          obtain ⟨⟨tx, wd, st⟩, hx⟩ : ∃ x, l[j] = x := ⟨_, rfl⟩
          rw [hx] at hpic hws c0 c1' c2 hx40
          rw [hcc] at hpic hws hcW ⊢
          dsimp only at hpic c0 c1' c2 hx40
          unfold glW at hws
          dsimp only at hws
          have Hpic := hide hpic
          have Hws := hide hws
          have Hnew := hide hnew
          have Hbi := hide hbi
          have Hbw := hide hbw
          have hbg := Hbi.out.alloc (show wo.heap.size ≤ wi.heap.size by omega) (.cells #[.string tx, .bool wd, .int .i64 st] 57)
          have Hbg := hide hbg
          clear hpic hws hcc hx hw3 hnew hbi hbg hjl hbw
          by_cases hno : wd = true ∨ st = 3
          · have Hsame := hide (fun i => show picR (l.take (j + 1)) i = picR (l.take j) i by
              rw [Hpic.out i, if_neg (by rintro ⟨_, h1, h2⟩; rcases hno with h | h; (· rw [h] at h1; cases h1); exact h2 h)])
            cases wd with
            | true =>
              have Hw := hide (show widthOf (l.take (j + 1)) = cc + 1 + 1 from Hws.out)
              clear hno Hpic Hws
              go_wp2
              go_roundw
              case rel => exact ⟨j + 1, by omega, by go_num, int_eq (by rw [Hw.out]; push_cast; omega), (Hnew.out.alloc _).congr fun i _ => by rw [Hsame.out], Hbg.out, by simp; omega⟩
              case measure => simp [intOf]; omega
            | false =>
              have h3 : st = 3 := by simpa using hno
              have q3 : (st != 3) = false := by rw [h3]; rfl
              have Hw := hide (show widthOf (l.take (j + 1)) = cc + 1 from Hws.out)
              clear hno h3 Hpic Hws
              go_wp2
              go_roundw
              case rel => exact ⟨j + 1, by omega, by go_num, int_eq (by rw [Hw.out]; push_cast; omega), (Hnew.out.alloc _).congr fun i _ => by rw [Hsame.out], Hbg.out, by simp; omega⟩
              case measure => simp [intOf]; omega
          · have hwd : wd = false := by cases wd; (· rfl); exact absurd (.inl rfl) hno
            have h3 : st ≠ 3 := fun h => hno (.inr h)
            subst hwd
            have q3 : (st != 3) = true := by rw [bne_iff_ne]; exact h3
            have Hw := hide (show widthOf (l.take (j + 1)) = cc + 1 from Hws.out)
            have Hset := hide (fun i => show (if i = cc then Value.int .i64 ((armT tx.data.toList : Nat) : Int) else Value.int .i64 ((picR (l.take j) i : Nat) : Int)) = Value.int .i64 ((picR (l.take (j + 1)) i : Nat) : Int) by
              rw [Hpic.out i]
              by_cases hi : i = cc
              · rw [if_pos hi, if_pos ⟨hi, rfl, h3⟩]
              · rw [if_neg hi, if_neg (fun h => hi h.1)])
            have HA := hide (fun W3 => armsP W3 tx (by omega))
            obtain ⟨av, hav⟩ : ∃ av, ((armT tx.data.toList : Nat) : Int) = av := ⟨_, rfl⟩
            rw [hav] at HA Hset
            clear hno h3 Hpic Hws hav
            go_upto_region 11 with fail
            obtain ⟨wg, hwg⟩ : ∃ wg, wi.alloc (.cells #[.string tx, .bool false, .int .i64 st] 57) = wg := ⟨_, rfl⟩
            have hnewg : wg.rowIs wo.heap.size 3 W (fun c => .int .i64 (picR (l.take j) c : Nat)) := by rw [← hwg]; exact Hnew.out.alloc _
            have hrowg : wg.rowIs (w.heap.size + 1) 63 n (fun j => if j < k + 1 then .slice (some ⟨if j = k then wo.heap.size else bf j, 0, none⟩) W W else .slice none 0 0) := by
              rw [← hwg]; exact (row_below Hrow2.out Hbi.out hsz).alloc _
            have hcell0 : wg.cell? ⟨wi.heap.size, 0, none⟩ = some (.string tx) := by rw [← hwg]; exact cell_block (block_new _ _) 0
            have hsg : wg.heap.size = wi.heap.size + 1 := by rw [← hwg]; simp
            have Hbg2 := hide (show Below wo.heap.size W2 wg by rw [← hwg]; exact Hbg.out)
            have v0 : wg.cell? ⟨w.heap.size + 1, k, none⟩ = some (.slice (some ⟨wo.heap.size, 0, none⟩) W W) := (hrowg.cell hlt).trans (by rw [if_pos (Nat.lt_succ_self _), if_pos rfl])
            have v1 := hnewg.cell hcW
            have v2 := hnewg.frozen cc
            have hccI : (cc : Int) < (W : Int) := by omega
            have Hgb := hide (show wg.heap[wi.heap.size]? = some (.cells #[.string tx, .bool false, .int .i64 st] 57) by rw [← hwg]; exact block_new _ _)
            rw [hwg]
            have Hnewg := hide hnewg
            have Hrowg := hide hrowg
            clear hwg hnewg hrowg c0 c1' c2
            go_cut [] from 40 to 49 (fun wx => wx.rowIs wo.heap.size 3 W (fun c => .int .i64 (picR (l.take (j + 1)) c : Nat)) ∧ Below wo.heap.size W2 wx ∧ wo.heap.size + 1 ≤ wx.heap.size ∧ wx.heap[wi.heap.size]? = some (.cells #[.string tx, .bool false, .int .i64 st] 57))
            case first =>
              go_region_law (first
                | (go_simp; go_at_call 24; refine (HA.out _).mono ?_; rintro e w6 ⟨rfl, hb6⟩; have hn6 := row_below (w := wg.drew) Hnewg.out hb6 (by show wo.heap.size < wg.heap.size; omega); have hr6 := row_below (w := wg.drew) Hrowg.out hb6 (by show w.heap.size + 1 < wg.heap.size; omega); have x0 : w6.cell? ⟨w.heap.size + 1, k, none⟩ = some (.slice (some ⟨wo.heap.size, 0, none⟩) W W) := (hr6.cell hlt).trans (by rw [if_pos (Nat.lt_succ_self _), if_pos rfl]); have x1 := hn6.cell hcW; have x2 := hn6.frozen cc; have Hn6 := hide hn6; have Hb6 := hide hb6; clear hn6 hr6 hb6)
                | fail)
              all_goals
                go_wp2
                go_meet
                case rel =>
                  have hs6 := Hb6.out.size
                  refine ⟨(Hn6.out.set cc _).congr fun i _ => Hset.out i, ((Hbg2.out.drew.trans (Hb6.out.mono (by show _ ≤ wg.heap.size; omega))).setCell (p := ⟨wo.heap.size, cc, none⟩) (Nat.le_refl _) _), ?_, ?_⟩
                  · have : wg.drew.heap.size = wg.heap.size := rfl
                    simp [World.setCell]; omega
                  · refine block_far ((Hb6.out.block _ (by show wi.heap.size < wg.heap.size; omega)).trans ?_) (by show wi.heap.size ≠ wo.heap.size; omega) _
                    exact Hgb.out
            case rest =>
              obtain ⟨hn7, hb7, hs7, hg7⟩ := hcut
              have Hn7 := hide hn7
              have Hb7 := hide hb7
              have q7 := cell_block hg7 1
              clear hn7 hb7 hg7 v0 v1 v2
              go_wp2
              go_roundw
              case rel => exact ⟨j + 1, by omega, by go_num, int_eq (by rw [Hw.out]; push_cast; omega), Hn7.out, Hb7.out, hs7⟩
              case measure => simp [intOf]; omega
        · obtain rfl : j = m := by omega
          have htk : l.take j = l := by rw [← Hm.out, List.take_length]
          rw [htk] at hnew
          have hr3 := row_below Hrow2.out hbi hsz
          have hbx3 := block_below Hbox2.out hbi (by omega)
          have hbw3 := Hb2.out.trans (hbi.mono (by omega))
          have hf3 : ∀ i, i < k + 1 → w.heap.size + 1 < (if i = k then wo.heap.size else bf i) ∧ wi.rowIs (if i = k then wo.heap.size else bf i) 3 W (fun c => .int .i64 (picR (rows.getD i []) c : Nat)) := fun i hi => by
            by_cases h1 : i = k
            · subst h1
              rw [if_pos rfl, Hget.out]
              exact ⟨hsz, hnew⟩
            · rw [if_neg h1]
              obtain ⟨g1, g2, g3⟩ := Hfam2.out i (by omega)
              exact ⟨g1, row_below g3 hbi g2⟩
          have Hr3 := hide hr3
          have Hbx3 := hide hbx3
          have Hbw3 := hide hbw3
          have Hf3 := hide hf3
          clear hr3 hbx3 hbw3 hf3 hnew hbi htk
          go_wp2
          go_roundw
          case rel => exact ⟨k + 1, fun i => if i = k then wo.heap.size else bf i, by omega, by go_num, Hr3.out, Hf3.out, Hbx3.out, Hbw3.out⟩
          case measure => simp [intOf]; omega
    · obtain rfl : k = n := by omega
      have HP := hide (show PicAt wo (w.heap.size + 1) k W (Vw.pic ⟨W, k, rows, row, col, vis⟩) from ⟨hrow.lt, fun t ht => ⟨bf t, (hfam t ht).2.lt, (hrow.cell ht).trans (by rw [if_pos ht]), fun c hc => (hfam t ht).2.cell hc⟩, Vw.pic_lt _⟩)
      have Hbr := hide hbr
      clear hrow hfam hbox hbr y0
      go_wp2
      go_ret
      exact ⟨_, rfl, Nat.le_succ _, HP.out, Hbr.out⟩
end Go.Proofs.YtdgmjbcfopkibaaDoor
