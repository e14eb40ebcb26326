/- Proper views: what the checks answer; narratorref15.Check. -/
import Derived.Test.YtmgepckhdgoemaaDoorV10
namespace Go.Proofs.YtmgepckhdgoemaaDoor
open Go.RowKit

/-- The first error of a list. -/
def firstErr {α : Type} (f : α → Int) : List α → Int
  | [] => 0
  | x :: l => if f x ≠ 0 then f x else firstErr f l
theorem firstErr_at {α : Type} (f : α → Int) : ∀ (l : List α) (k : Nat) (hk : k < l.length), (∀ i (hi : i < k), f (l[i]'(by omega)) = 0) → f l[k] ≠ 0 → firstErr f l = f l[k]
  | x :: l, 0, hk, _, h => by unfold firstErr; exact if_pos h
  | x :: l, k + 1, hk, h0, h => by
    unfold firstErr
    have hx : f x = 0 := h0 0 (by omega)
    rw [if_neg (by omega)]
    exact firstErr_at f l k (by simpa using hk) (fun i hi => h0 (i + 1) (by omega)) h
theorem firstErr_none {α : Type} (f : α → Int) : ∀ (l : List α), (∀ i (hi : i < l.length), f l[i] = 0) → firstErr f l = 0
  | [], _ => rfl
  | x :: l, h => by
    unfold firstErr
    have hx : f x = 0 := h 0 (by simp)
    rw [if_neg (by omega)]
    exact firstErr_none f l (fun i hi => h (i + 1) (by simpa using hi))
theorem firstErr_zero {α : Type} {f : α → Int} : ∀ {l : List α}, firstErr f l = 0 → ∀ x ∈ l, f x = 0
  | x :: l, h, y, hy => by
    unfold firstErr at h
    by_cases hx : f x = 0
    · rw [if_neg (by simp [hx])] at h
      rcases List.mem_cons.1 hy with rfl | hy
      · exact hx
      · exact firstErr_zero h y hy
    · rw [if_pos hx] at h; exact absurd h hx

theorem firstErr_here {α : Type} {f : α → Int} {l : List α} {k : Nat} {r : α} (hk : l[k]? = some r) (h0 : ∀ i, i < k → ∀ x, l[i]? = some x → f x = 0) (hne : f r ≠ 0) : firstErr f l = f r := by
  obtain ⟨hlt, rfl⟩ := List.getElem?_eq_some_iff.1 hk
  exact firstErr_at f l k hlt (fun i hi => h0 i hi _ (List.getElem?_eq_getElem (by omega))) hne

def lastBlank (l : List Gl) : Bool := match l.getLast? with | some g => isBlank g | none => false
theorem lastBlank_at (l : List Gl) (n : Nat) (h : l.length = n + 1) (hn : n < l.length) : lastBlank l = isBlank l[n] := by
  have h1 : l.getLast? = some l[n] := by
    rw [List.getLast?_eq_getElem?, show l.length - 1 = n by omega, List.getElem?_eq_getElem (by omega)]
  unfold lastBlank; rw [h1]
theorem lastBlank_nil (l : List Gl) (h : l.length = 0) : lastBlank l = false := by
  have : l = [] := List.length_eq_zero_iff.1 h
  subst this; rfl

/-- Why a row is not proper. -/
def rowErr (width : Int) (l : List Gl) : Int :=
  if firstErr glErr l ≠ 0 then firstErr glErr l else if width < widthOf l then 12 else if lastBlank l then 1 else 0
def Vw.curB (v : Vw) : Bool := ((decide (v.row < 0) || decide (v.height ≤ v.row)) || decide (v.col < 0)) || decide (v.width ≤ v.col)
/-- Why a view is not proper. -/
def Vw.err (v : Vw) : Int :=
  if sizedB v.width v.height = false then 2 else if (v.rows.length : Int) ≠ v.height then 11 else if v.curB then 2 else firstErr (rowErr v.width) v.rows

theorem rowErr_glyph {width : Int} {l : List Gl} (h : firstErr glErr l ≠ 0) : rowErr width l = firstErr glErr l := by unfold rowErr; rw [if_pos h]
theorem rowErr_wide {width : Int} {l : List Gl} (h : firstErr glErr l = 0) (hw : decide (width < (widthOf l : Int)) = true) : rowErr width l = 12 := by
  unfold rowErr; rw [if_neg (by simp [h]), if_pos (of_decide_eq_true hw)]
theorem rowErr_last {width : Int} {l : List Gl} (h : firstErr glErr l = 0) (hw : decide (width < (widthOf l : Int)) = false) : rowErr width l = if lastBlank l then 1 else 0 := by
  unfold rowErr; rw [if_neg (by simp [h]), if_neg (of_decide_eq_false hw)]

/-- Small enough for the walks. -/
def Vw.Tame (v : Vw) : Prop := v.rows.length ≤ 12 ∧ ∀ r ∈ v.rows, r.length ≤ 140 ∧ ∀ g ∈ r, g.text.size ≤ 40
theorem Vw.tame {v : Vw} (h : v.great = false) : v.Tame := by
  unfold Vw.great at h
  rw [Bool.or_eq_false_iff, Bool.or_eq_false_iff] at h
  obtain ⟨⟨h1, h2⟩, h3⟩ := h
  refine ⟨by have := of_decide_eq_false h1; omega, fun r hr => ?_⟩
  rw [List.any_eq_false] at h3
  have h4 := h3 r hr
  unfold rowGreat at h4
  rw [Bool.not_eq_true, Bool.or_eq_false_iff, List.any_eq_false] at h4
  refine ⟨by have := of_decide_eq_false h4.1; omega, fun g hg => ?_⟩
  have := h4.2 g hg
  simp at this; omega

theorem curWays (v : Vw) (c : Bool) (h : v.curB = c) :
    (c = true ∧ decide (v.row < 0) = true) ∨ (c = true ∧ decide (v.row < 0) = false ∧ decide (v.height ≤ v.row) = true) ∨
    (c = true ∧ decide (v.row < 0) = false ∧ decide (v.height ≤ v.row) = false ∧ decide (v.col < 0) = true) ∨
    (c = true ∧ decide (v.row < 0) = false ∧ decide (v.height ≤ v.row) = false ∧ decide (v.col < 0) = false ∧ decide (v.width ≤ v.col) = true) ∨
    (c = false ∧ decide (v.row < 0) = false ∧ decide (v.height ≤ v.row) = false ∧ decide (v.col < 0) = false ∧ decide (v.width ≤ v.col) = false) := by
  subst h
  unfold Vw.curB
  cases decide (v.row < 0) <;> cases decide (v.height ≤ v.row) <;> cases decide (v.col < 0) <;> cases decide (v.width ≤ v.col) <;> simp

set_option maxHeartbeats 4000000 in
set_option maxRecDepth 100000 in
theorem check15 (w : World) (A : Option Addr) (c : Nat) (v : Vw) (h : Rows2 w w.heap.size A v.rows) (ht : v.Tame) :
    Calls Tryd.prog 17 #[v.val A c] w fun e w' => e = .returned (.int .i64 v.err) ∧ Below w.heap.size w w' := by
  have HH := hide h
  clear h
  obtain ⟨V, hV⟩ : ∃ V, v.err = V := ⟨_, rfl⟩
  rw [hV]
  obtain ⟨width, height, rows, row, col, vis⟩ := v
  have hways := curWays ⟨width, height, rows, row, col, vis⟩ _ rfl
  have HTame := hide ht
  have hlen := ht.1
  clear ht
  unfold Vw.val
  unfold Vw.err at hV
  dsimp only at HH hV hways hlen ⊢
  cases hs : sizedB width height with
  | false =>
    rw [hs, if_pos rfl] at hV
    subst hV
    go_enter Tryd.func17, Tryd.ntmps17
    go_wp2_with (go_at_call 40; refine (size15 _ _ _).mono ?_; rintro e w1 ⟨rfl, rfl⟩)
    go_ret
    exact ⟨rfl, (Below.refl _ _).alloc (Nat.le_refl _) _⟩
  | true =>
    rw [hs, if_neg (by simp)] at hV
    cases hm : ((rows.length : Int) != height) with
    | true =>
      rw [if_pos (by simpa using hm)] at hV
      subst hV
      go_enter Tryd.func17, Tryd.ntmps17
      go_wp2_with (go_at_call 40; refine (size15 _ _ _).mono ?_; rintro e w1 ⟨rfl, rfl⟩)
      go_ret
      exact ⟨rfl, (Below.refl _ _).alloc (Nat.le_refl _) _⟩
    | false =>
      rw [if_neg (by simpa using hm)] at hV
      rcases hways with ⟨hc, h1⟩ | ⟨hc, h1, h2⟩ | ⟨hc, h1, h2, h3⟩ | ⟨hc, h1, h2, h3, h4⟩ | ⟨hc, h1, h2, h3, h4⟩
      iterate 4
        · rw [hc, if_pos rfl] at hV
          subst hV
          clear hc
          go_enter Tryd.func17, Tryd.ntmps17
          go_wp2_with (go_at_call 40; refine (size15 _ _ _).mono ?_; rintro e w1 ⟨rfl, rfl⟩)
          go_ret
          exact ⟨rfl, (Below.refl _ _).alloc (Nat.le_refl _) _⟩
      rw [hc, if_neg (by simp)] at hV
      clear hc
      have HV := hide hV
      clear hV
      go_enter Tryd.func17, Tryd.ntmps17
      go_wp2_with (go_at_call 40; refine (size15 _ _ _).mono ?_; rintro e w1 ⟨rfl, rfl⟩)
      have hbox := (Below.refl w.heap.size w).alloc (Nat.le_refl _) (.cells #[.int .i64 width, .int .i64 height, .slice A rows.length c, .int .i64 row, .int .i64 col, .bool vis] 24)
      go_loopw [3] (fun i wr => ∃ k : Nat, k ≤ rows.length ∧ i = .int .i64 k ∧ (∀ i, i < k → ∀ x, rows[i]? = some x → rowErr width x = 0) ∧ Below (w.heap.size + 1) (w.alloc (.cells #[.int .i64 width, .int .i64 height, .slice A rows.length c, .int .i64 row, .int .i64 col, .bool vis] 24)) wr) (fun i _ => rows.length - (intOf i).toNat)
      case atStart => exact ⟨0, Nat.zero_le _, rfl, by simp, Below.refl _ _⟩
      case round =>
        rename World => wo
        obtain ⟨k, hk, rfl, ha, hbr⟩ := hrel
        have Ha := hide ha
        clear ha
        have k0 : wo.cell? ⟨w.heap.size, 0, none⟩ = some (.int .i64 width) := (hbr.cell (p := ⟨w.heap.size, 0, none⟩) (Nat.lt_succ_self _)).trans (cell_block (block_new _ _) 0)
        have k2 : wo.cell? ⟨w.heap.size, 2, none⟩ = some (.slice A rows.length c) := (hbr.cell (p := ⟨w.heap.size, 2, none⟩) (Nat.lt_succ_self _)).trans (cell_block (block_new _ _) 2)
        have hlw : w.heap.size < wo.heap.size := by have := hbr.size; simp at this; omega
        have hbw := hbox.trans (hbr.mono (Nat.le_succ _))
        have hbr' := hbr
        clear hbr
        by_cases hlt : k < rows.length
        · have hge : rows[k]? = some rows[k] := List.getElem?_eq_getElem hlt
          obtain ⟨hrl, hgl⟩ := HTame.out.2 _ (List.getElem_mem (h := hlt))
          obtain ⟨r, hr⟩ : ∃ r, rows[k] = r := ⟨_, rfl⟩
          obtain ⟨b, off, rfl, hbb, A1, c1, d0, d1, d2⟩ := (HH.out.below hbw).get1 hlt
          rw [hr] at hge hrl hgl d0 d1 d2
          have Hge := hide hge
          have hrow := hide (d2.more hbw.size)
          clear d2 hr hge
          go_wp2
          go_loopw [5] (fun i wr => ∃ j : Nat, j ≤ r.length ∧ i = .int .i64 j ∧ (∀ i, i < j → ∀ x, r[i]? = some x → glErr x = 0) ∧ Below wo.heap.size wo wr) (fun i _ => r.length - (intOf i).toNat)
          case atStart => exact ⟨0, Nat.zero_le _, rfl, by simp, Below.refl _ _⟩
          case round =>
            obtain ⟨j, hj, rfl, hb0, hbq⟩ := hrel
            have Hb0 := hide hb0
            clear hb0
            have hrow2 := hide ((hrow.out.below (GlAt.stays _) hbq).more hbq.size)
            have q0 : wr.cell? ⟨w.heap.size, 0, none⟩ = some (.int .i64 width) := (hbq.cell (p := ⟨w.heap.size, 0, none⟩) hlw).trans k0
            have hwr := hbw.trans (hbq.mono hbw.size)
            have hlq : w.heap.size < wr.heap.size := Nat.lt_of_lt_of_le hlw hbq.size
            by_cases hlj : j < r.length
            · have hgs := hgl _ (List.getElem_mem (h := hlj))
              obtain ⟨b2, off2, rfl, hb2, e0, e1, e2⟩ := hrow2.out.get hlj
              have HP := hide (fun w => glyph15 w r[j] (by omega))
              cases he : (glErr r[j] != 0) with
              | true =>
                go_wp2_with (go_at_call 41; refine (HP.out _).mono ?_; rintro e w1 ⟨rfl, hb1⟩)
                go_ret
                refine ⟨ret_int ?_, hwr.trans (hb1.mono hwr.size)⟩
                have hne : glErr r[j] ≠ 0 := by simpa using he
                have h1 := firstErr_here (List.getElem?_eq_getElem hlj) Hb0.out hne
                have h2 : rowErr width r = glErr r[j] := by rw [rowErr_glyph (by rw [h1]; exact hne), h1]
                rw [← HV.out, firstErr_here Hge.out Ha.out (by rw [h2]; exact hne), h2]
              | false =>
                go_wp2_with (go_at_call 41; refine (HP.out _).mono ?_; rintro e w1 ⟨rfl, hb1⟩)
                go_roundw
                case rel =>
                  refine ⟨j + 1, by omega, by go_num, ?_, hbq.trans (hb1.mono hbq.size)⟩
                  intro i hi x hx
                  rcases Nat.lt_succ_iff_lt_or_eq.1 hi with h | rfl
                  · exact Hb0.out i h x hx
                  · rw [List.getElem?_eq_getElem hlj] at hx; cases hx; simpa using he
                case measure => simp [intOf]; omega
            · have hz : firstErr glErr r = 0 := firstErr_none _ _ fun i hi => Hb0.out i (by omega) _ (List.getElem?_eq_getElem hi)
              have x0 := Held.cell q0 hlq
              have HW := hide (fun W (hW : Below wr.heap.size wr W) => width15 W A1 c1 r ((hrow2.out.below (GlAt.stays _) hW).more hW.size) (by omega))
              cases hwd : decide (width < (widthOf r : Int)) with
              | true =>
                go_wp2
                refine wp_region_held_lit (by kernel_rfl) (by kernel_rfl) ?_
                repeat go_big_quiet_step ((go_at_call 42; exact held_call_same _ fun W hW => HW.out W hW))
                refine wpQuiet_nil ?_
                intro w2 hb2
                clear x0
                go_wp2
                go_ret
                refine ⟨ret_int ?_, hwr.trans (hb2.mono hwr.size)⟩
                have h2 := rowErr_wide hz hwd
                rw [← HV.out, firstErr_here Hge.out Ha.out (by rw [h2]; omega), h2]
              | false =>
                have h2 := hide (rowErr_last hz hwd)
                by_cases hn0 : r.length = 0
                · have hlb := hide (lastBlank_nil r hn0)
                  have hd : decide (0 < r.length) = false := by simp [hn0]
                  clear hn0
                  go_wp2
                  refine wp_region_held_lit (by kernel_rfl) (by kernel_rfl) ?_
                  repeat go_big_quiet_step ((go_at_call 42; exact held_call_same _ fun W hW => HW.out W hW))
                  refine wpQuiet_nil ?_
                  intro w2 hb2
                  clear x0
                  go_wp2
                  go_roundw
                  case rel =>
                    refine ⟨k + 1, by omega, by go_num, ?_, hbr'.trans ((hbq.mono ?_).trans (hb2.mono ?_))⟩
                    · intro i hi x hx
                      rcases Nat.lt_succ_iff_lt_or_eq.1 hi with h | rfl
                      · exact Ha.out i h x hx
                      · rw [Hge.out] at hx; cases hx; rw [h2.out, hlb.out]; rfl
                    · exact hlw
                    · exact hlq
                  case measure => simp [intOf]; omega
                · obtain ⟨n, hn⟩ : ∃ n, r.length = n + 1 := ⟨r.length - 1, by omega⟩
                  have hd : decide (0 < r.length) = true := by simp; omega
                  have hix : (r.length : Int) - 1 = n := by omega
                  have hln : n < r.length := by omega
                  have hlb := hide (lastBlank_at r n hn hln)
                  have Hn := hide hn
                  clear hn
                  obtain ⟨b2, off2, rfl, hb2, e0, e1, e2⟩ := hrow2.out.get hln
                  go_wp2
                  refine wp_region_held_lit (by kernel_rfl) (by kernel_rfl) ?_
                  repeat go_big_quiet_step ((go_at_call 42; exact held_call_same _ fun W hW => HW.out W hW))
                  refine wpQuiet_nil ?_
                  intro w2 hb3
                  clear x0
                  replace e0 := (hb3.cell (p := ⟨b2, _, none⟩) hb2).trans e0
                  replace e1 := (hb3.cell (p := ⟨b2, _, none⟩) hb2).trans e1
                  replace e2 := (hb3.cell (p := ⟨b2, _, none⟩) hb2).trans e2
                  have HB := hide (fun w => blank15 w r[n])
                  cases hib : isBlank r[n] with
                  | true =>
                    rw [hib] at HB
                    go_wp2_with (go_at_call 43; refine (HB.out _).mono ?_; rintro e w3 ⟨rfl, hb4⟩)
                    go_ret
                    have hb3w := hwr.trans (hb3.mono hwr.size)
                    refine ⟨ret_int ?_, hb3w.trans (hb4.mono hb3w.size)⟩
                    have h3 := h2.out
                    rw [hlb.out, hib, if_pos rfl] at h3
                    rw [← HV.out, firstErr_here Hge.out Ha.out (by rw [h3]; omega), h3]
                  | false =>
                    rw [hib] at HB
                    go_wp2_with (go_at_call 43; refine (HB.out _).mono ?_; rintro e w3 ⟨rfl, hb4⟩)
                    go_roundw
                    case rel =>
                      have hq := hb3.size
                      refine ⟨k + 1, by omega, by go_num, ?_, hbr'.trans ((hbq.mono ?_).trans ((hb3.mono ?_).trans (hb4.mono ?_)))⟩
                      · intro i hi x hx
                        rcases Nat.lt_succ_iff_lt_or_eq.1 hi with h | rfl
                        · exact Ha.out i h x hx
                        · rw [Hge.out] at hx; cases hx; rw [h2.out, hlb.out, hib]; rfl
                      · exact hlw
                      · exact hlq
                      · omega
                    case measure => simp [intOf]; omega
        · go_wp2
          go_ret
          refine ⟨ret_int ?_, hbw⟩
          rw [← HV.out]
          refine Eq.symm ?_
          exact firstErr_none _ _ fun i hi => Ha.out i (by omega) _ (List.getElem?_eq_getElem hi)
end Go.Proofs.YtmgepckhdgoemaaDoor
