/- Tables: tables.Cell. -/
import Derived.Test.YtmgepckhdgoemaaDoorT10
import Derived.StillTailTactics
import Derived.IntWalk
namespace Go.Proofs.YtmgepckhdgoemaaDoor
open Go.RowKit

def partsT (v : Vw) (t b : Int) : List (Nat × Nat) := partsTo (gut v.rows t.toNat b.toNat) v.width.toNat
/-- What Cell returns. -/
def cellT (v : Vw) (r : Rg) (row col : Int) : ByteArray × Int :=
  if v.ok = false then (⟨#[]⟩, 1)
  else if validB v.height r.top r.bottom = false then (⟨#[]⟩, 2)
  else if row < 0 then (⟨#[]⟩, 2)
  else if r.bottom - r.top ≤ row then (⟨#[]⟩, 2)
  else if col < 0 then (⟨#[]⟩, 2)
  else match (partsT v r.top r.bottom)[col.toNat]? with
    | none => (⟨#[]⟩, 2)
    | some p => (cellOf (v.rows[(r.top + row).toNat]?.getD []) p.1 p.2, 0)
theorem ret_cell {a b : ByteArray × Int} (h : a = b) : Ending.returned (.tuple #[.string a.1, .int .i64 a.2]) = .returned (.tuple #[.string b.1, .int .i64 b.2]) := by rw [h]

set_option maxHeartbeats 2000000 in
set_option maxRecDepth 100000 in
/-- Before the columns are looked at. -/
theorem cellT_early (w : World) (A : Option Addr) (c : Nat) (v : Vw) (r : Rg) (row col : Int) (h : Rows2 w w.heap.size A v.rows) (ht : v.Tame) (hT : Tabs w)
    (hno : v.ok = false ∨ validB v.height r.top r.bottom = false ∨ row < 0 ∨ r.bottom - r.top ≤ row) :
    Calls Tryd.prog 9 #[v.val A c, r.val, .int .i64 row, .int .i64 col] w fun e w' => e = .returned (.tuple #[.string (cellT v r row col).1, .int .i64 (cellT v r row col).2]) ∧ Below w.heap.size w w' := by
  obtain ⟨R, hR⟩ : ∃ R, cellT v r row col = R := ⟨_, rfl⟩
  rw [hR]
  unfold cellT at hR
  obtain ⟨W0, hW0, hbox, hs0, hvb, hrb⟩ := boxes2 w v A c r
  have HC := hide (checkV W0 A c v ((h.below hbox).more hbox.size) ht (hT.below hbox))
  have HV := hide (fun w1 => validTP w1 A c v r.top r.bottom)
  clear h ht hT
  rw [hW0] at hbox hs0 hvb hrb HC
  clear hW0
  simp only [World.size_alloc] at HC
  cases hok : v.ok with
  | false =>
    rw [if_pos hok] at hR
    subst hR
    obtain ⟨V, hV⟩ : ∃ V, v.err = V := ⟨_, rfl⟩
    have h0 : (V != 0) = true := by unfold Vw.ok at hok; rw [hV] at hok; simpa using hok
    rw [hV] at HC
    clear hno hok hV
    unfold Vw.val at HC ⊢
    unfold Rg.val
    go_enter Tryd.func9, Tryd.ntmps9
    go_wp2_with (go_at_call 18; refine HC.out.mono ?_; rintro e w1 ⟨rfl, hb1⟩)
    go_ret2
    exact ⟨rfl, hbox.trans (hb1.mono (by omega))⟩
  | true =>
    rw [if_neg (by rw [hok]; simp)] at hR
    have h0 : v.err = 0 := by unfold Vw.ok at hok; simpa using hok
    rw [h0] at HC
    cases hval : validB v.height r.top r.bottom with
    | false =>
      rw [if_pos hval] at hR
      subst hR
      rw [hval] at HV
      clear hno hok h0 hval
      unfold Vw.val at HC HV ⊢
      unfold Rg.val
      go_enter Tryd.func9, Tryd.ntmps9
      go_wp2_with (first
        | (go_at_call 18; refine HC.out.mono ?_; rintro e w1 ⟨rfl, hb1⟩; obtain ⟨k0, k1, k2, k3, k4, k5⟩ := (hvb.below hb1 (by omega)).cells; obtain ⟨r0, r1, r2, r3, r4, r5, r6, r7⟩ := (hrb.below hb1 (by omega)).cells)
        | (go_at_call 21; refine (HV.out _).mono ?_; rintro e w2 ⟨rfl, hb2⟩))
      go_ret2
      have hq := hb1.mono (B' := w.heap.size) (by omega)
      exact ⟨rfl, (hbox.trans hq).trans (hb2.mono (hbox.trans hq).size)⟩
    | true =>
      rw [if_neg (by rw [hval]; simp)] at hR
      rw [hval] at HV
      have hpr := Vw.proper hok
      have hg1 := hpr.h2
      unfold validB at hval
      simp only [Bool.and_eq_true, decide_eq_true_eq] at hval
      obtain ⟨⟨v1, v2⟩, v3⟩ := hval
      by_cases hrow : row < 0
      · rw [if_pos hrow] at hR
        subst hR
        clear hno hok h0 hpr
        unfold Vw.val at HC HV ⊢
        unfold Rg.val
        go_enter Tryd.func9, Tryd.ntmps9
        go_wp2_with (first
          | (go_at_call 18; refine HC.out.mono ?_; rintro e w1 ⟨rfl, hb1⟩; obtain ⟨k0, k1, k2, k3, k4, k5⟩ := (hvb.below hb1 (by omega)).cells; obtain ⟨r0, r1, r2, r3, r4, r5, r6, r7⟩ := (hrb.below hb1 (by omega)).cells)
          | (go_at_call 21; refine (HV.out _).mono ?_; rintro e w2 ⟨rfl, hb2⟩))
        go_ret2
        have hq := hb1.mono (B' := w.heap.size) (by omega)
        exact ⟨rfl, (hbox.trans hq).trans (hb2.mono (hbox.trans hq).size)⟩
      · rw [if_neg hrow] at hR
        have hbig : r.bottom - r.top ≤ row := by
          rcases hno with x | x | x | x
          · rw [hok] at x; cases x
          · unfold validB at x; simp [v1, v2, v3] at x
          · exact absurd x hrow
          · exact x
        rw [if_pos hbig] at hR
        subst hR
        clear hno hok h0 hpr
        unfold Vw.val at HC HV ⊢
        unfold Rg.val
        go_enter Tryd.func9, Tryd.ntmps9
        go_wp2_with (first
          | (go_at_call 18; refine HC.out.mono ?_; rintro e w1 ⟨rfl, hb1⟩; obtain ⟨k0, k1, k2, k3, k4, k5⟩ := (hvb.below hb1 (by omega)).cells; obtain ⟨r0, r1, r2, r3, r4, r5, r6, r7⟩ := (hrb.below hb1 (by omega)).cells; have hs1 : w.heap.size + 1 + 1 ≤ w1.heap.size := (by have := hb1.size; omega))
          | (go_at_call 21; refine (HV.out _).mono ?_; rintro e w2 ⟨rfl, hb2⟩; obtain ⟨x0, x1, x2, x3, x4, x5, x6, x7⟩ := ((hrb.below hb1 (by omega)).below hb2 (by omega)).cells))
        go_ret2
        have hq := hb1.mono (B' := w.heap.size) (by omega)
        exact ⟨rfl, (hbox.trans hq).trans (hb2.mono (hbox.trans hq).size)⟩
theorem rg_get (l : List Rg) (k : Nat) (r : Rg) (h : l[k]? = some r) : (l.flatMap Rg.enc)[k * 8 + 3]? = some (.int .i64 r.top) ∧ (l.flatMap Rg.enc)[k * 8 + 4]? = some (.int .i64 r.left) ∧ (l.flatMap Rg.enc)[k * 8 + 5]? = some (.int .i64 r.bottom) ∧ (l.flatMap Rg.enc)[k * 8 + 6]? = some (.int .i64 r.right) ∧ (l.flatMap Rg.enc)[k * 8 + 7]? = some (.string r.label) :=
  ⟨flat_get (enc := Rg.enc) (sz := 8) (fun _ => rfl) l k r 3 _ h rfl, flat_get (enc := Rg.enc) (sz := 8) (fun _ => rfl) l k r 4 _ h rfl, flat_get (enc := Rg.enc) (sz := 8) (fun _ => rfl) l k r 5 _ h rfl, flat_get (enc := Rg.enc) (sz := 8) (fun _ => rfl) l k r 6 _ h rfl, flat_get (enc := Rg.enc) (sz := 8) (fun _ => rfl) l k r 7 _ h rfl⟩
theorem rg_len (l : List Rg) : (l.flatMap Rg.enc).length = l.length * 8 := flat_len (enc := Rg.enc) (sz := 8) (fun _ => rfl) l
theorem colsR_length (rows : List (List Gl)) (W t b : Nat) : (colsR rows W t b).length = (partsTo (gut rows t b) W).length := by unfold colsR; simp

set_option maxHeartbeats 4000000 in
set_option maxRecDepth 100000 in
theorem cellT_late (w : World) (A : Option Addr) (c : Nat) (v : Vw) (r : Rg) (W T B s : Nat) (row col : Int) (h : Rows2 w w.heap.size A v.rows) (ht : v.Tame) (hT : Tabs w) (hc : v.rows.length ≤ c) (hok : v.ok = true) (hval : validB v.height r.top r.bottom = true)
    (e1 : v.width = W) (e2 : 1 ≤ W) (e3 : W ≤ 200) (e4 : r.top = T) (e5 : r.bottom = B) (e6 : T < B) (e7 : B ≤ v.rows.length) (e8 : ∀ r ∈ v.rows, widthOf r ≤ W) (hrow : 0 ≤ row) (hrow2 : row < r.bottom - r.top) (hs : (s : Int) = r.top + row) :
    Calls Tryd.prog 9 #[v.val A c, r.val, .int .i64 row, .int .i64 col] w fun e w' => e = .returned (.tuple #[.string (cellT v r row col).1, .int .i64 (cellT v r row col).2]) ∧ Below w.heap.size w w' := by
  obtain ⟨R, hR⟩ : ∃ R, cellT v r row col = R := ⟨_, rfl⟩
  rw [hR]
  unfold cellT partsT at hR
  rw [if_neg (by rw [hok]; simp), if_neg (by rw [hval]; simp), if_neg (by omega), if_neg (by omega), e1, e4, e5, show ((T : Int) + row) = ((s : Nat) : Int) by omega] at hR
  simp only [Int.toNat_natCast] at hR
  obtain ⟨W0, hW0, hbox, hs0, hvb, hrb⟩ := boxes2 w v A c r
  have HC := hide (checkV W0 A c v ((h.below hbox).more hbox.size) ht (hT.below hbox))
  have HV := hide (fun w1 => validTP w1 A c v r.top r.bottom)
  have HG := hide (fun (w1 : World) (hb1 : Below w.heap.size w w1) => columnsP w1 A c v W T B r ((h.below hb1).more hb1.size) ht e1 e2 e3 e6 e7 hc e8 e4 e5)
  have hsl : s < v.rows.length := by omega
  have HH := hide h
  obtain ⟨hrl, hrt⟩ := ht.2 _ (List.getElem_mem hsl)
  replace hrt := hide hrt
  have hgr : v.rows[s]?.getD [] = v.rows[s] := by rw [List.getElem?_eq_getElem hsl]; rfl
  rw [hgr] at hR
  have h0 : v.err = 0 := by unfold Vw.ok at hok; simpa using hok
  rw [h0] at HC
  rw [hval] at HV
  have hlen8 := ht.1
  clear h ht hT e8 hok hval h0 hgr e1
  rw [hW0] at hbox hs0 hvb hrb HC
  clear hW0
  simp only [World.size_alloc] at HC
  have hrow3 : row < (B : Int) - (T : Int) := by omega
  have hsb : (s : Int) ≤ 100 := by omega
  have hTb : (T : Int) ≤ 100 := by omega
  have hBb : (B : Int) ≤ 100 := by omega
  obtain ⟨rk, ri, rp, rt, rl, rb, rr, rlb⟩ := r
  dsimp only at e4 e5 hrow2 hs hvb hrb hbox HC HV HG hs0 ⊢
  subst e4 e5
  have hsum : (T : Int) + row = (s : Int) := hs.symm
  clear hrow2 hs
  unfold Vw.val at HC HV HG ⊢
  unfold Rg.val at HG ⊢
  dsimp only at HG ⊢
  have hpl := colsR_length v.rows W T B
  obtain ⟨cs, hcs⟩ : ∃ cs, colsR v.rows W T B = cs := ⟨_, rfl⟩
  have Hcs := hide hcs
  rw [hcs] at HG hpl
  have hbd := (partsTo_bd (gut v.rows T B) W).1
  have hcl : cs.length ≤ 200 := by omega
  clear hcs hbd
  replace hpl := hide hpl
  by_cases hneg : col < 0
  · rw [if_pos hneg] at hR
    subst hR
    go_enter Tryd.func9, Tryd.ntmps9
    go_wp2_with (first
      | (go_at_call 18; refine HC.out.mono ?_; rintro e w1 ⟨rfl, hb1⟩; obtain ⟨k0, k1, k2, k3, k4, k5⟩ := (hvb.below hb1 (by omega)).cells; obtain ⟨r0, r1, r2, r3, r4, r5, r6, r7⟩ := (hrb.below hb1 (by omega)).cells; dsimp only at r0 r1 r2 r3 r4 r5 r6 r7; have hs1 : w.heap.size + 1 + 1 ≤ w1.heap.size := (by have := hb1.size; omega))
      | (go_at_call 21; refine (HV.out _).mono ?_; rintro e w2 ⟨rfl, hb2⟩; obtain ⟨q0, q1, q2, q3, q4, q5⟩ := ((hvb.below hb1 (by omega)).below hb2 (by omega)).cells; obtain ⟨x0, x1, x2, x3, x4, x5, x6, x7⟩ := ((hrb.below hb1 (by omega)).below hb2 (by omega)).cells; dsimp only at x0 x1 x2 x3 x4 x5 x6 x7; have hbb := (hbox.trans (hb1.mono (by omega))).trans (hb2.mono (by omega)))
      | (go_at_call 20; refine (HG.out _ hbb).mono ?_; rintro e w3 ⟨vv, rfl, hown, hb3⟩))
    go_ret2
    exact ⟨rfl, hbb.trans (hb3.mono hbb.size)⟩
  rw [if_neg hneg] at hR
  obtain ⟨κ, hκ⟩ : ∃ κ : Nat, col = κ := ⟨col.toNat, by omega⟩
  subst hκ
  rw [Int.toNat_natCast] at hR
  cases hp : (partsTo (gut v.rows T B) W)[κ]? with
  | none =>
    rw [hp] at hR
    dsimp only at hR
    subst hR
    have hge : cs.length ≤ κ := by rw [hpl.out]; simpa using hp
    clear hp
    go_enter Tryd.func9, Tryd.ntmps9
    go_wp2_with (first
      | (go_at_call 18; refine HC.out.mono ?_; rintro e w1 ⟨rfl, hb1⟩; obtain ⟨k0, k1, k2, k3, k4, k5⟩ := (hvb.below hb1 (by omega)).cells; obtain ⟨r0, r1, r2, r3, r4, r5, r6, r7⟩ := (hrb.below hb1 (by omega)).cells; dsimp only at r0 r1 r2 r3 r4 r5 r6 r7; have hs1 : w.heap.size + 1 + 1 ≤ w1.heap.size := (by have := hb1.size; omega))
      | (go_at_call 21; refine (HV.out _).mono ?_; rintro e w2 ⟨rfl, hb2⟩; obtain ⟨q0, q1, q2, q3, q4, q5⟩ := ((hvb.below hb1 (by omega)).below hb2 (by omega)).cells; obtain ⟨x0, x1, x2, x3, x4, x5, x6, x7⟩ := ((hrb.below hb1 (by omega)).below hb2 (by omega)).cells; dsimp only at x0 x1 x2 x3 x4 x5 x6 x7; have hbb := (hbox.trans (hb1.mono (by omega))).trans (hb2.mono (by omega)))
      | (go_at_call 20; refine (HG.out _ hbb).mono ?_; rintro e w3 ⟨vv, rfl, hown, hb3⟩; obtain ⟨A3, c3, rfl⟩ := own_form hown))
    go_ret2
    exact ⟨rfl, hbb.trans (hb3.mono hbb.size)⟩
  | some p =>
    rw [hp] at hR
    dsimp only at hR
    subst hR
    have hlt : κ < cs.length := by rw [hpl.out]; exact (List.getElem?_eq_some_iff.1 hp).1
    have hcp : cs[κ]? = some (colR v.rows T B p) := by rw [← Hcs.out]; unfold colsR; rw [List.getElem?_map, hp]; rfl
    obtain ⟨-, g4, -, g6, -⟩ := rg_get cs κ _ hcp
    replace g4 : (cs.flatMap Rg.enc)[κ * 8 + 4]? = some (.int .i64 p.1) := g4
    replace g6 : (cs.flatMap Rg.enc)[κ * 8 + 6]? = some (.int .i64 p.2) := g6
    replace g4 := hide g4
    replace g6 := hide g6
    clear hp hcp
    obtain ⟨p1, p2⟩ := p
    dsimp only at g4 g6 ⊢
    obtain ⟨rw0, hrw0⟩ : ∃ rw0, v.rows[s] = rw0 := ⟨_, rfl⟩
    have Hrw := hide hrw0
    rw [hrw0] at hrl hrt ⊢
    clear hrw0
    go_enter Tryd.func9, Tryd.ntmps9
    go_wp2_with (first
      | (go_at_call 18; refine HC.out.mono ?_; rintro e w1 ⟨rfl, hb1⟩; obtain ⟨k0, k1, k2, k3, k4, k5⟩ := (hvb.below hb1 (by omega)).cells; obtain ⟨r0, r1, r2, r3, r4, r5, r6, r7⟩ := (hrb.below hb1 (by omega)).cells; dsimp only at r0 r1 r2 r3 r4 r5 r6 r7; have hs1 : w.heap.size + 1 + 1 ≤ w1.heap.size := (by have := hb1.size; omega))
      | (go_at_call 21; refine (HV.out _).mono ?_; rintro e w2 ⟨rfl, hb2⟩; obtain ⟨q0, q1, q2, q3, q4, q5⟩ := ((hvb.below hb1 (by omega)).below hb2 (by omega)).cells; obtain ⟨x0, x1, x2, x3, x4, x5, x6, x7⟩ := ((hrb.below hb1 (by omega)).below hb2 (by omega)).cells; dsimp only at x0 x1 x2 x3 x4 x5 x6 x7; have hbb := (hbox.trans (hb1.mono (by omega))).trans (hb2.mono (by omega)))
      | (go_at_call 20; refine (HG.out _ hbb).mono ?_; rintro e w3 ⟨vv, rfl, hown, hb3⟩; obtain ⟨go, co, rfl, hgo, -⟩ := own_form1 hown (by omega)))
    have hs2 := hb2.size
    have hbw := hbb.trans (hb3.mono hbb.size)
    obtain ⟨y0, y1, y2, y3, y4, y5⟩ := (((hvb.below hb1 (by omega)).below hb2 (by omega)).below hb3 (by omega)).cells
    obtain ⟨z0, z1, z2, z3, z4, z5, z6, z7⟩ := (((hrb.below hb1 (by omega)).below hb2 (by omega)).below hb3 (by omega)).cells
    dsimp only at z0 z1 z2 z3 z4 z5 z6 z7
    obtain ⟨ba, off, rfl, hbb', A1, c1, d0, d1, d2⟩ := (HH.out.below hbw).get1 hsl
    rw [Hrw.out] at d0 d1 d2
    have e4 := (hown.cellAt (κ * 8 + 4) (by omega)).trans g4.out
    have e6 := (hown.cellAt (κ * 8 + 6) (by omega)).trans g6.out
    have hdr : Below w3.heap.size w3 w3.drew := (Below.refl _ _).drew
    have HCell := hide (cellP w3.drew A1 c1 rw0 p1 p2 (((d2.more hbw.size).below (GlAt.stays _) hdr)) (by omega) (fun g hg => by have := hrt.out g hg; omega))
    have hwr : IntKind.i64.wrap ((T : Int) + row) = (s : Int) := by rw [hsum]; exact IntWalk.i64_in _ (by omega)
    have hwr2 : IntKind.i64.wrap (s : Int) = (s : Int) := IntWalk.i64_in _ (by omega)
    have hsli : (s : Int) < (v.rows.length : Int) := by omega
    have hlti : (κ : Int) < (cs.length : Int) := by omega
    clear d2 hown k0 k1 k2 k3 k4 k5 r0 r1 r2 r3 r4 r5 r6 r7 q0 q1 q2 q3 q4 q5 x0 x1 x2 x3 x4 x5 x6 x7
    refine wp_region_still_tail 18 (by kernel_rfl) (by kernel_rfl) ?_
    change wpStill _ _ w3.drew (fun a' => wpList _ _ _ _ a' w3.drew) _ _
    simp only [List.take_succ_cons, List.take_zero, List.drop_succ_cons, List.drop_zero]
    repeat still_step
    refine wpStill_nil ?_
    go_wp2_with (go_at_call 22; refine HCell.out.mono ?_; rintro e w4 ⟨rfl, hb4⟩)
    go_ret2
    exact ⟨rfl, (hbw.trans ((hdr.trans hb4).mono hbw.size))⟩

theorem cellTP (w : World) (A : Option Addr) (c : Nat) (v : Vw) (r : Rg) (row col : Int) (h : Rows2 w w.heap.size A v.rows) (ht : v.Tame) (hT : Tabs w) (hc : v.rows.length ≤ c) :
    Calls Tryd.prog 9 #[v.val A c, r.val, .int .i64 row, .int .i64 col] w fun e w' => e = .returned (.tuple #[.string (cellT v r row col).1, .int .i64 (cellT v r row col).2]) ∧ Below w.heap.size w w' := by
  by_cases hno : v.ok = false ∨ validB v.height r.top r.bottom = false ∨ row < 0 ∨ r.bottom - r.top ≤ row
  · exact cellT_early w A c v r row col h ht hT hno
  · simp only [not_or, Bool.not_eq_false, Int.not_lt, Int.not_le] at hno
    obtain ⟨h1, h2, h3, h4⟩ := hno
    obtain ⟨-, W, T, B, e1, e2, e3, e4, e5, e6, e7, e8⟩ := valid24_facts (v := v) (t := r.top) (b := r.bottom) (by unfold valid24; rw [h1, h2]; rfl)
    exact cellT_late w A c v r W T B (r.top + row).toNat row col h ht hT hc h1 h2 e1 e2 e3 e4 e5 e6 e7 e8 h3 h4 (by omega)
end Go.Proofs.YtmgepckhdgoemaaDoor
