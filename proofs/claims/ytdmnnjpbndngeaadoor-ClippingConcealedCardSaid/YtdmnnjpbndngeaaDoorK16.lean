/- Chapter 45: clipping.Word. -/
import Derived.Test.YtdmnnjpbndngeaaDoorK15
namespace Go.Proofs.YtdmnnjpbndngeaaDoor
open Go.RowKit Go.Shelf

theorem find_at {α : Type} (p : α → Bool) : ∀ (l : List α) (k : Nat) (x : α), l[k]? = some x → (∀ j y, j < k → l[j]? = some y → p y = false) → p x = true → l.find? p = some x
  | [], k, x, h, _, _ => by simp at h
  | y :: l, 0, x, h, _, hp => by simp at h; subst h; rw [List.find?_cons_of_pos hp]
  | y :: l, k + 1, x, h, hn, hp => by
    rw [List.find?_cons_of_neg (by rw [hn 0 y (by omega) rfl]; simp)]
    exact find_at p l k x (by simpa using h) (fun j z hj hz => hn (j + 1) z (by omega) (by simpa using hz)) hp
theorem find_no {α : Type} (p : α → Bool) (l : List α) (h : ∀ (j : Nat) (y : α), l[j]? = some y → p y = false) : l.find? p = none := by
  rw [List.find?_eq_none]
  intro x hx
  obtain ⟨j, hj⟩ := List.mem_iff_getElem?.1 hx
  rw [h j x hj]; simp
/-- Which of the first k spans holds an index: none. -/
def NoSpan (ws : List (Nat × Nat)) (i k : Nat) : Prop := ∀ (j : Nat) (y : Nat × Nat), j < k → ws[j]? = some y → (decide (y.1 ≤ i) && decide (i < y.2)) = false
theorem NoSpan.succ {ws : List (Nat × Nat)} {i k : Nat} {p : Nat × Nat} (h : NoSpan ws i k) (hk : ws[k]? = some p) (hp : (decide (p.1 ≤ i) && decide (i < p.2)) = false) : NoSpan ws i (k + 1) := fun j y hj hy => by
  by_cases he : j = k
  · subst he; rw [hk] at hy; cases hy; exact hp
  · exact h j y (by omega) hy

/-- The ways through the tests of Word. -/
theorem wordWays (v : Vw) (r c : Int) : ((v.err != 0) = true ∧ wordE v r c = v.err ∧ wordT v r c = ⟨#[]⟩) ∨ (v.err = 0 ∧ posB v r c = false ∧ wordE v r c = 2 ∧ wordT v r c = ⟨#[]⟩) ∨
    (v.err = 0 ∧ posB v r c = true ∧ (∀ p, wordAt (kindAt (rowOf v r.toNat)) (rowOf v r.toNat).length (cidx (rowOf v r.toNat) c) = some p → wordE v r c = 0 ∧ wordT v r c = textB (((rowOf v r.toNat).take p.2).drop p.1)) ∧
      (wordAt (kindAt (rowOf v r.toNat)) (rowOf v r.toNat).length (cidx (rowOf v r.toNat) c) = none → wordE v r c = 8 ∧ wordT v r c = ⟨#[]⟩)) := by
  unfold wordE wordT
  by_cases h0 : v.err = 0
  · right
    simp only [h0, ne_eq, not_true_eq_false, if_false]
    cases h1 : posB v r c with
    | false => exact .inl ⟨trivial, rfl, by simp, by simp⟩
    | true =>
      right
      simp only [Bool.true_eq_false, if_false]
      exact ⟨trivial, trivial, fun p hp => by rw [hp]; exact ⟨rfl, rfl⟩, fun hp => by rw [hp]; exact ⟨rfl, rfl⟩⟩
  · left
    exact ⟨by simpa using h0, by rw [if_pos h0], by rw [if_pos h0]⟩

set_option maxRecDepth 100000 in
set_option maxHeartbeats 2000000 in
theorem wordP (w : World) (A : Option Addr) (c : Nat) (v : Vw) (r k : Int) (h : Rows2 w w.heap.size A v.rows) (ht : v.Tame) (hT : Tabs w) :
    Calls Tryd.prog 14 #[v.val A c, .int .i64 r, .int .i64 k] w fun e w' => e = .returned (.tuple #[.string (wordT v r k), .int .i64 (wordE v r k)]) ∧ Below w.heap.size w w' := by
  have hbox := (Below.refl w.heap.size w).alloc (Nat.le_refl _) (.cells #[.int .i64 v.width, .int .i64 v.height, .slice A v.rows.length c, .int .i64 v.row, .int .i64 v.col, .bool v.visible] 54)
  have hvb : VwBox _ w.heap.size v A c := block_new w (.cells #[.int .i64 v.width, .int .i64 v.height, .slice A v.rows.length c, .int .i64 v.row, .int .i64 v.col, .bool v.visible] 54)
  obtain ⟨W0, hW0⟩ : ∃ W0, W0 = w.alloc (.cells #[.int .i64 v.width, .int .i64 v.height, .slice A v.rows.length c, .int .i64 v.row, .int .i64 v.col, .bool v.visible] 54) := ⟨_, rfl⟩
  have hs0 : W0.heap.size = w.heap.size + 1 := by rw [hW0]; simp
  rw [← hW0] at hbox hvb
  have HC := hide (checkV W0 A c v ((h.below hbox).more hbox.size) ht (hT.below hbox))
  have HP := hide (fun W1 => positionP W1 A c v r k)
  have HK := hide (fun w1 (hb1 : Below W0.heap.size W0 w1) => (hvb.below hb1 (by omega)).cells)
  have HR := hide (fun w1 (hb1 : Below W0.heap.size W0 w1) => (h.below (hbox.trans (hb1.mono hbox.size))).more (hbox.trans (hb1.mono hbox.size)).size)
  have HTm := hide (fun y (hy : y < v.rows.length) => rowOf_tame ht hy)
  have hways := wordWays v r k
  have Hok := hide (fun (h0 : v.err = 0) => (Vw.proper (show v.ok = true by unfold Vw.ok; rw [h0]; rfl)))
  obtain ⟨k0, k1, k2, k3, k4, k5⟩ := HK.out W0 (Below.refl _ _)
  have Hbox := hide hbox
  have h12 := ht.1
  clear h ht hT hbox hs0 hvb
  subst hW0
  unfold Vw.val at HC HP ⊢
  obtain ⟨E, hE⟩ : ∃ E, wordE v r k = E := ⟨_, rfl⟩
  obtain ⟨T, hTT⟩ : ∃ T, wordT v r k = T := ⟨_, rfl⟩
  rw [hE, hTT] at hways ⊢
  clear hE hTT
  rcases hways with ⟨he, rfl, rfl⟩ | ⟨he, hp, rfl, rfl⟩ | ⟨he, hp, hsome, hnone⟩
  · obtain ⟨V, hV⟩ : ∃ V, v.err = V := ⟨_, rfl⟩
    rw [hV] at he HC ⊢
    clear hV HP HR HTm HK Hok
    go_enter Tryd.func14, Tryd.ntmps14
    go_wp2_with (go_at_call 15; refine HC.out.mono ?_; rintro e w1 ⟨rfl, hb1⟩; have hbw := Hbox.out.trans (hb1.mono Hbox.out.size))
    go_ret2
    exact ⟨rfl, hbw⟩
  all_goals
    have Hpr := hide (Hok.out he)
    rw [he] at HC
    simp only [hp] at HP
    clear he Hok
  · clear HR HTm Hpr hp
    go_enter Tryd.func14, Tryd.ntmps14
    go_wp2_with (first
      | (go_at_call 15; refine HC.out.mono ?_; rintro e w1 ⟨rfl, hb1⟩; obtain ⟨x0, x1, x2, x3, x4, x5⟩ := HK.out w1 hb1)
      | (go_at_call 16; refine (HP.out _).mono ?_; rintro e w2 ⟨rfl, hb2'⟩; have hb2 := hb1.trans (hb2'.mono hb1.size))
      | fail)
    go_ret2
    exact ⟨rfl, Hbox.out.trans (hb2.mono Hbox.out.size)⟩
  · obtain ⟨g1, g2, g3, g4⟩ := posB_of hp
    have hw2 := Hpr.out.w2
    have hlen := Hpr.out.len
    obtain ⟨y, rfl⟩ : ∃ y : Nat, r = y := ⟨r.toNat, by omega⟩
    rw [Int.toNat_natCast] at hsome hnone
    have hy : y < v.rows.length := by omega
    have hyI : (y : Int) < (v.rows.length : Int) := by omega
    have hy12 : y < 12 := by omega
    obtain ⟨bR, oR, rfl, hbR, -⟩ := (HR.out _ (Below.refl _ _)).get1 hy
    have HRow := hide (fun w1 (hb1 : Below _ _ w1) => (show ∃ A1 c1, w1.cell? ⟨bR, oR + y, none⟩ = some (.slice A1 (rowOf v y).length c1) ∧ (rowOf v y).length ≤ c1 ∧ GlRow w1 w1.heap.size A1 (rowOf v y) by
      obtain ⟨b', o', he, -, A1, c1, d0, d1, d2⟩ := (HR.out w1 hb1).get1 hy
      cases he
      rw [rowOf_get hy] at d0 d1 d2
      exact ⟨A1, c1, d0, d1, d2⟩))
    obtain ⟨hl1, hl2⟩ := HTm.out y hy
    obtain ⟨row, hrow⟩ : ∃ row, rowOf v y = row := ⟨_, rfl⟩
    rw [hrow] at HRow hl1 hl2 hsome hnone
    have Hl2 := hide hl2
    obtain ⟨rl, hrl⟩ : ∃ rl, row.length = rl := ⟨_, rfl⟩
    have Hrl := hide hrl
    obtain ⟨i0, hi0⟩ : ∃ i0, cidx row k = i0 := ⟨_, rfl⟩
    have Hi0 := hide hi0
    rw [hi0, hrl] at hsome hnone
    obtain ⟨WS, hWS⟩ : ∃ WS, wordsTo (kindAt row) rl = WS := ⟨_, rfl⟩
    have HWS := hide hWS
    have hwb := words_bd (kindAt row) rl
    rw [hWS] at hwb
    have Hwb := hide hwb.2
    obtain ⟨n, hn⟩ : ∃ n, WS.length = n := ⟨_, rfl⟩
    have Hn := hide hn
    have hnl : n ≤ 140 := by omega
    have hrl140 : rl ≤ 140 := by omega
    have Hsome := hide (fun (j : Nat) (p : Nat × Nat) (hj : WS[j]? = some p) (hno : NoSpan WS i0 j) (hp : (decide (p.1 ≤ i0) && decide (i0 < p.2)) = true) => hsome p (by unfold wordAt; rw [hWS]; exact find_at _ _ j _ hj hno hp))
    have Hnone := hide (fun (hno : NoSpan WS i0 n) => hnone (by unfold wordAt; rw [hWS]; exact find_no _ _ fun j y hy => hno j y (by rw [← hn]; exact (List.getElem?_eq_some_iff.1 hy).1) hy))
    clear hsome hnone HTm Hpr hp hlen hrow hl2 hrl hi0 hWS hwb hn hy
    go_enter Tryd.func14, Tryd.ntmps14
    go_wp2_with (first
      | (go_at_call 15; refine HC.out.mono ?_; rintro e w1 ⟨rfl, hb1⟩; obtain ⟨x0, x1, x2, x3, x4, x5⟩ := HK.out w1 hb1)
      | (go_at_call 16; refine (HP.out _).mono ?_; rintro e w2 ⟨rfl, hb2'⟩; have hb2 := hb1.trans (hb2'.mono hb1.size); obtain ⟨y0, y1, y2, y3, y4, y5⟩ := HK.out w2 hb2; obtain ⟨A1, c1, d0, d1, d2⟩ := HRow.out w2 hb2; rw [Hrl.out] at d0; have HIx := hide (fun w3 (hb3 : Below w2.heap.size w2 w3) => indexCP w3 A1 c1 row k ((d2.below (GlAt.stays _) hb3).more hb3.size) (by omega) g3 (by omega)); rw [Hi0.out, Hrl.out] at HIx; have HWd := hide (fun w3 (hb3 : Below w2.heap.size w2 w3) => wordsP w3 A1 c1 row ((d2.below (GlAt.stays _) hb3).more hb3.size) (by omega)); rw [Hrl.out, HWS.out, Hn.out] at HWd; have Hd2 := hide d2; have Hd1 := hide d1; clear d1 d2)
      | (go_at_call 19; refine (HIx.out w2 (Below.refl _ _)).mono ?_; rintro e w3 ⟨rfl, hb3⟩)
      | (go_at_call 27; refine (HWd.out w3 hb3).mono ?_; rintro e w4 ⟨vw, rfl, hown, hb4⟩; obtain ⟨A4, c4, rfl⟩ := own_form hown)
      | fail)
    have hb24 := hb3.trans (hb4.mono hb3.size)
    clear x0 x1 x2 x3 x4 x5 y0 y1 y2 y3 y4 y5 k0 k1 k2 k3 k4 k5 HIx HWd HC HP
    go_loopw [34] (fun i wr => ∃ j : Nat, j ≤ n ∧ i = .int .i64 j ∧ NoSpan WS i0 j ∧ Below w4.heap.size w4 wr) (fun i _ => n - (intOf i).toNat)
    case atStart => exact ⟨0, Nat.zero_le _, rfl, fun j y hj => by omega, Below.refl _ _⟩
    case round =>
      rename World => wo
      obtain ⟨j, hj, rfl, hno, hbo⟩ := hrel
      have Hno := hide hno
      clear hno
      have hb2o := hb24.trans (hbo.mono hb24.size)
      have hbWo := Hbox.out.trans ((hb2.trans (hb2o.mono hb2.size)).mono Hbox.out.size)
      by_cases hlt : j < n
      · have hjl : j < WS.length := by rw [Hn.out]; exact hlt
        have hge := List.getElem?_eq_getElem hjl
        obtain ⟨⟨p1, p2⟩, hp⟩ : ∃ p, WS[j] = p := ⟨_, rfl⟩
        rw [hp] at hge
        have hpb := Hwb.out _ (List.mem_of_getElem? hge)
        dsimp only at hpb
        have hown2 := own_below hown hbo (Nat.le_refl _)
        obtain ⟨gS, d4, he4, -, hgS⟩ := own_form1 hown2 (by omega)
        cases he4
        have s0 := (hown2.cellAt (j * 2) (by omega)).trans (by simpa using flat_get (enc := spanV) (sz := 2) (fun _ => rfl) WS j _ 0 (.int .i64 p1) hge rfl)
        have s1 := (hown2.cellAt (j * 2 + 1) (by omega)).trans (flat_get (enc := spanV) (sz := 2) (fun _ => rfl) WS j _ 1 (.int .i64 p2) hge rfl)
        have Hge := hide hge
        have hjI : (j : Int) < (n : Int) := by omega
        have hbA := hbo.alloc hbo.size (.cells #[.int .i64 p1, .int .i64 p2] 81)
        have hbA2 := hb2o.trans ((Below.refl wo.heap.size wo).alloc (Nat.le_refl _) (.cells #[.int .i64 p1, .int .i64 p2] 81) |>.mono hb2o.size)
        clear hp hge hown2
        rcases (show (decide (p1 ≤ i0) = true ∧ decide (i0 < p2) = true ∧ (decide (p1 ≤ i0) && decide (i0 < p2)) = true) ∨ (decide (p1 ≤ i0) = false ∧ (decide (p1 ≤ i0) && decide (i0 < p2)) = false) ∨ (decide (p1 ≤ i0) = true ∧ decide (i0 < p2) = false ∧ (decide (p1 ≤ i0) && decide (i0 < p2)) = false) by
          by_cases h1 : p1 ≤ i0 <;> by_cases h2 : i0 < p2 <;> simp [h1, h2]) with ⟨t1, t2, t3⟩ | ⟨t1, t3⟩ | ⟨t1, t2, t3⟩
        · obtain ⟨hEE, hTT⟩ := Hsome.out j _ Hge.out Hno.out t3
          dsimp only at hTT
          have u1 : p1 ≤ i0 := by simpa using t1
          have u2 : i0 < p2 := by simpa using t2
          obtain ⟨A', c', hrun, hrow'⟩ := cutRow Hd2.out Hd1.out (show p1 ≤ p2 by omega) (show p2 ≤ row.length by rw [Hrl.out]; omega)
          have hcl : ((row.take p2).drop p1).length = p2 - p1 := by rw [List.length_drop, List.length_take, Hrl.out]; omega
          have HTx := hide (textVP _ A' c' ((row.take p2).drop p1) ((hrow'.below (GlAt.stays _) hbA2).more hbA2.size) (by rw [hcl]; omega) (fun g hg => by have := Hl2.out g (List.mem_of_mem_take (List.mem_of_mem_drop hg)); omega))
          rw [hcl, ← hTT] at HTx
          rw [Hrl.out] at hrun
          subst hEE
          clear hrow' hcl hTT t3
          go_wp2_with (go_at_call 20; refine HTx.out.mono ?_; rintro e w6 ⟨rfl, hb6⟩)
          go_ret2
          exact ⟨rfl, hbWo.trans ((((Below.refl wo.heap.size wo).alloc (Nat.le_refl _) _).trans (hb6.mono (by simp))).mono hbWo.size)⟩
        all_goals
          have Hno2 := hide (Hno.out.succ Hge.out t3)
          clear t3
          go_wp2
          go_roundw
          case rel => exact ⟨j + 1, by omega, by go_num, Hno2.out, hbA⟩
          case measure => simp [intOf]; omega
      · obtain rfl : j = n := by omega
        obtain ⟨hEE, hTT⟩ := Hnone.out Hno.out
        subst hEE hTT
        go_wp2
        go_ret2
        exact ⟨rfl, hbWo⟩
end Go.Proofs.YtdmnnjpbndngeaaDoor
