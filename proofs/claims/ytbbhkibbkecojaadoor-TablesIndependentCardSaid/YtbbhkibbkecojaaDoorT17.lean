/- Tables: narratorref24.Columns. -/
import Derived.Test.YtbbhkibbkecojaaDoorT16
import Derived.Deep.RegionHeld3
import Derived.Test.YtbbhkibbkecojaaDoorApp
namespace Go.Proofs.YtbbhkibbkecojaaDoor
open Go.RowKit

set_option maxHeartbeats 1000000 in
theorem parts24_nil (w : World) : Calls Tryd.prog 37 #[.slice none 0 0] w fun e w' => e = .returned (.slice (some ⟨w.heap.size, 0, none⟩) 0 0) ∧ w'.ownsRow w.heap.size 64 2 (.slice (some ⟨w.heap.size, 0, none⟩) 0 0) 0 [] ∧ Below w.heap.size w w' := by
  have hB := (Below.refl w.heap.size w).alloc (Nat.le_refl _) (.cells #[] 64)
  have hlit := own_lit w w.heap.size 64 2 0 #[] (Nat.le_refl _) (by omega) rfl
  obtain ⟨W1, hW1⟩ : ∃ W1, w.alloc (.cells #[] 64) = W1 := ⟨_, rfl⟩
  rw [hW1] at hB hlit
  have HW1 := hide hW1
  clear hW1
  go_enter Tryd.func37, Tryd.ntmps37
  go_wp2
  go_loopw [3, 4] (fun v i wr => v = .slice (some ⟨w.heap.size, 0, none⟩) 0 0 ∧ i = .int .i64 0 ∧ wr = W1) (fun _ _ _ => 0)
  case atStart => exact ⟨rfl, rfl, HW1.out⟩
  case round =>
    obtain ⟨rfl, rfl, rfl⟩ := hrel
    go_wp2
    go_ret
    exact ⟨rfl, hlit, hB⟩

theorem cellT_some {v : Vw} {r : Rg} {T B W i : Nat} {p : Nat × Nat} (hv : valid24 v r.top r.bottom = true) (e1 : v.width = W) (e4 : r.top = T) (e5 : r.bottom = B) (h6 : T < B) (hp : (partsTo (gut v.rows T B) W)[i]? = some p) :
    cellT v r 0 i = (cellOf (v.rows[T]?.getD []) p.1 p.2, 0) := by
  unfold valid24 at hv
  simp only [Bool.and_eq_true] at hv
  unfold cellT partsT
  rw [if_neg (by rw [hv.1]; simp), if_neg (by rw [hv.2]; simp), if_neg (by omega), if_neg (by omega), if_neg (by omega), e1, e4, e5]
  simp only [Int.toNat_natCast, Int.add_zero]
  rw [hp]

theorem far_cell {w w1 w' : World} {row : Option Nat} {B : Nat} (hb : Below B w w1) (hg : w1.grownBy w' row) (a : Addr) (h1 : a.block < B) (h2 : B ≤ w1.heap.size) (hne : some a.block ≠ row) {u : Value} (h : w.cell? a = some u) : w'.cell? a = some u :=
  ((hg.cell_far a (Nat.lt_of_lt_of_le h1 h2) hne).trans (hb.cell h1)).trans h
theorem far_block {w w1 w' : World} {row : Option Nat} {B : Nat} (hb : Below B w w1) (hg : w1.grownBy w' row) (b : Nat) (h1 : b < B) (h2 : B ≤ w1.heap.size) (hne : some b ≠ row) {o : Obj} (h : w.heap[b]? = some o) : w'.heap[b]? = some o :=
  ((hg.block b (Nat.lt_of_lt_of_le h1 h2) hne).trans (hb.block b h1)).trans h

theorem own_ne {w : World} {base : Nat} {e e' : TypeId} {sz n g g3 c : Nat} {xs : List Value} {cs : Array Value} {fr : Nat × Nat} (h : w.ownsRow base e sz (.slice (some ⟨g, 0, none⟩) n c) n xs) (hb : w.heap[g3]? = some (.cells cs e' fr)) (hne : e ≠ e') : g ≠ g3 := by
  rintro rfl
  rcases h.2 with ⟨h0, _⟩ | ⟨g4, cap4, cur, hv, _, hg, _⟩
  · cases h0
  · cases hv
    rw [hg] at hb
    cases hb
    exact hne rfl
theorem own_cs {w : World} {base : Nat} {e : TypeId} {sz n c : Nat} {A : Option Addr} {xs : List Value} (h : w.ownsRow base e sz (.slice A n c) n xs) (h0 : 0 < n) : ∃ (g : Nat) (cs : Array Value), A = some ⟨g, 0, none⟩ ∧ w.heap[g]? = some (.cells cs e (0, 0)) ∧ ∀ (j : Nat) (u : Value), xs[j]? = some u → cs[j]? = some u := by
  rcases h.2 with ⟨_, h1⟩ | ⟨g4, cap4, cur, hv, _, hg, _⟩
  · omega
  · cases hv
    refine ⟨g4, cur, rfl, hg, fun j u hu => ?_⟩
    have hj := (List.getElem?_eq_some_iff.1 hu).1
    have := h.cellAt j (by have := h.1; omega)
    rw [cell_block hg] at this
    rw [this, hu]

set_option maxHeartbeats 4000000 in
set_option maxRecDepth 100000 in
theorem cols24P (w : World) (A : Option Addr) (c : Nat) (v : Vw) (r : Rg) (h : Rows2 w w.heap.size A v.rows) (ht : v.Tame) (hc : v.rows.length ≤ c) :
    Calls Tryd.prog 16 #[v.val A c, r.val] w fun e w' => ∃ vv, e = .returned vv ∧ w'.ownsRow w.heap.size 26 8 vv (colsT v r).length ((colsT v r).flatMap Rg.enc) ∧ Below w.heap.size w w' := by
  obtain ⟨W0, hW0, hbox, hs0, hvb, hrb⟩ := boxes2 w v A c r
  have hlit := own_lit W0 (w.heap.size + 1 + 1) 26 8 0 #[] (by omega) (by omega) rfl
  have hB1 := hbox.alloc hbox.size (.cells #[] 26)
  have hvb1 : VwBox (W0.alloc (.cells #[] 26)) _ _ _ _ := block_alloc hvb _
  have hrb1 : RgBox (W0.alloc (.cells #[] 26)) _ _ := block_alloc hrb _
  have hs1 : (W0.alloc (.cells #[] 26)).heap.size = w.heap.size + 1 + 1 + 1 := by rw [World.size_alloc, hs0]
  rw [hs0] at hlit
  obtain ⟨W1, hW1⟩ : ∃ W1, W0.alloc (.cells #[] 26) = W1 := ⟨_, rfl⟩
  rw [hW1] at hlit hB1 hvb1 hrb1 hs1
  rw [hW0] at hW1
  have HW1 := hide hW1
  clear hW1 hW0 hbox hs0 hvb hrb
  have HR := hide (fun (w1 : World) (hb1 : Below w.heap.size w w1) => (h.below hb1).more hb1.size)
  cases hv : valid24 v r.top r.bottom with
  | false =>
    have hg : colsT v r = [] := by unfold colsT; rw [hv]; rfl
    rw [hg]
    have HG := hide (gutters24_no W1 A c v r.top r.bottom (HR.out W1 hB1) ht hv)
    have k := hvb1.cells
    have q := hrb1.cells
    rw [← HW1.out] at k q HG
    obtain ⟨k0, k1, k2, k3, k4, k5⟩ := k
    obtain ⟨r0, r1, r2, r3, r4, r5, r6, r7⟩ := q
    clear h hg hv
    unfold Vw.val at HG ⊢
    unfold Rg.val
    go_enter Tryd.func16, Tryd.ntmps16
    go_wp2_with (first
      | (go_at_call 23; refine HG.out.mono ?_; rintro e w2 ⟨rfl, hb2⟩; rw [HW1.out] at hb2)
      | (go_at_call 37; refine (parts24_nil w2).mono ?_; rintro e w3 ⟨rfl, -, hb3⟩)
      | fail)
    have hb13 := hb2.trans (hb3.mono hb2.size)
    have hown := own_below hlit hb13 (Nat.le_refl _)
    have hB3 := hB1.trans (hb13.mono (by omega))
    clear k0 k1 k2 k3 k4 k5 r0 r1 r2 r3 r4 r5 r6 r7 HG hlit HW1 HR hb2 hb3 hb13 hB1 hvb1 hrb1
    go_loopw [5, 7] (fun o i wr => o = .slice (some ⟨w.heap.size + 1 + 1, 0, none⟩) 0 0 ∧ i = .int .i64 0 ∧ wr = w3) (fun _ _ _ => 0)
    case atStart => exact ⟨rfl, rfl, rfl⟩
    case round =>
      obtain ⟨rfl, rfl, rfl⟩ := hrel
      go_wp2
      go_ret
      exact ⟨_, rfl, own_more hown (by omega), hB3⟩
  | true =>
    obtain ⟨hok, W, T, B, e1, e2, e3, e4, e5, e6, e7, e8⟩ := valid24_facts hv
    have hg : colsT v r = colsR v.rows W T B := by unfold colsT; rw [hv, if_pos rfl, e1, e4, e5]; simp
    rw [hg]
    have HG := hide (gutters24_yes W1 A c v W T B (HR.out W1 hB1) ht (by rw [e4, e5] at hv; exact hv) e1 hc)
    obtain ⟨ps, hps⟩ : ∃ ps, partsTo (gut v.rows T B) W = ps := ⟨_, rfl⟩
    have hpl := (partsTo_bd (gut v.rows T B) W).1
    have hcols : colsR v.rows W T B = ps.map (colR v.rows T B) := by unfold colsR; rw [hps]
    rw [hcols]
    rw [hps] at hpl
    have HCell := hide (fun (w1 : World) (hb1 : Below w.heap.size w w1) (i : Nat) (p : Nat × Nat) (hp : ps[i]? = some p) => (show Calls Tryd.prog 13 #[v.val A c, r.val, .int .i64 0, .int .i64 i] w1 fun e w' => e = .returned (.tuple #[.string (cellOf (v.rows[T]?.getD []) p.1 p.2), .int .i64 0]) ∧ Below w1.heap.size w1 w' by
      have := cell24P w1 A c v r 0 i (HR.out w1 hb1) ht hc
      rw [cellT_some hv e1 e4 e5 e6 (by rw [hps]; exact hp)] at this
      exact this))
    obtain ⟨n, hn⟩ : ∃ n, ps.length = n := ⟨_, rfl⟩
    have Hps := hide hps
    have Hn := hide hn
    rw [hn] at hpl
    obtain ⟨F, hF⟩ : ∃ F, gut v.rows T B = F := ⟨_, rfl⟩
    rw [hF] at HG Hps
    obtain ⟨C, hC⟩ : ∃ C, colR v.rows T B = C := ⟨_, rfl⟩
    have HC := hide (fun p => show C p = ⟨4, 0, -1, T, p.1, B, p.2, cellOf (v.rows[T]?.getD []) p.1 p.2⟩ by rw [← hC]; rfl)
    rw [hC]
    have hTb : (T : Int) ≤ 100 := by have := ht.1; omega
    clear hg hcols hps hn hF hC h ht hv hok e1 e7 e8 HR
    obtain ⟨rk, ri, rp, rt, rl, rb, rr, rlb⟩ := r
    dsimp only at e4 e5
    subst e4 e5
    have k := hvb1.cells
    have q := hrb1.cells
    rw [← HW1.out] at k q HG
    dsimp only at q HG HW1
    obtain ⟨k0, k1, k2, k3, k4, k5⟩ := k
    obtain ⟨r0, r1, r2, r3, r4, r5, r6, r7⟩ := q
    unfold Vw.val at HG HCell ⊢
    unfold Rg.val at HCell ⊢
    go_enter Tryd.func16, Tryd.ntmps16
    go_wp2_with (first
      | (go_at_call 23; refine HG.out.mono ?_; rintro e w2 ⟨g, cap, rfl, hown2, hb2⟩; rw [HW1.out] at hb2 hown2; have hcl : ∀ j, j < W → w2.cell? ⟨g, j, none⟩ = some (.bool (F j)) := (fun j hj => by rw [hown2.cellAt j (by omega), bits_get W _ hj]); have HP := hide (parts24P w2 g cap W F (hown2.lt g rfl).2 hcl (by omega)); clear hcl; rw [Hps.out, Hn.out] at HP)
      | (go_at_call 37; refine HP.out.mono ?_; rintro e w3 ⟨vv, rfl, hown3, hb3⟩; obtain ⟨A3, c3, rfl⟩ := own_form hown3)
      | fail)
    have hb13 := hb2.trans (hb3.mono hb2.size)
    have hs2 := hb2.size
    have hown := own_below hlit hb13 (Nat.le_refl _)
    have hB3 := hB1.trans (hb13.mono (by omega))
    have hvb3 := hvb1.below hb13 (by omega)
    have hrb3 := hrb1.below hb13 (by omega)
    obtain ⟨g3, cs, hg3⟩ : ∃ (g3 : Nat) (cs : Array Value), 0 < n → A3 = some ⟨g3, 0, none⟩ ∧ w3.heap[g3]? = some (.cells cs 64 (0, 0)) ∧ ∀ (j : Nat) (u : Value), (ps.flatMap spanV)[j]? = some u → cs[j]? = some u := by
      by_cases h0 : 0 < n
      · obtain ⟨g3, cs, h1⟩ := own_cs hown3 h0
        exact ⟨g3, cs, fun _ => h1⟩
      · exact ⟨0, #[], fun h => absurd h h0⟩
    clear k0 k1 k2 k3 k4 k5 r0 r1 r2 r3 r4 r5 r6 r7 HG HP hlit HW1 hb2 hb3 hb13 hB1 hvb1 hrb1 hown2 hown3
    go_loopw [5, 7] (fun o i wr => ∃ (k g cap : Nat), k ≤ n ∧ i = .int .i64 k ∧ o = .slice (some ⟨g, 0, none⟩) k cap ∧ wr.ownsRow (w.heap.size + 1 + 1) 26 8 o k (((ps.take k).map C).flatMap Rg.enc) ∧ VwBox wr w.heap.size v A c ∧
      RgBox wr (w.heap.size + 1) ⟨rk, ri, rp, T, rl, B, rr, rlb⟩ ∧ Below w.heap.size w wr ∧ (0 < n → wr.heap[g3]? = some (.cells cs 64 (0, 0)))) (fun _ i _ => n - (intOf i).toNat)
    case atStart => exact ⟨0, _, _, Nat.zero_le _, rfl, rfl, hown, hvb3, hrb3, hB3, fun h0 => (hg3 h0).2.1⟩
    case round =>
      clear hown hvb3 hrb3 hB3
      rename World => wo
      obtain ⟨k, g, cap, hk, rfl, rfl, hown, hvb, hrb, hbw, hfar⟩ := hrel
      by_cases hlt : k < n
      · obtain ⟨hA, -, hcs⟩ := hg3 (by omega)
        have Hg3 := hide hg3
        clear hg3
        subst hA
        have hblk := hfar (by omega)
        have hgl : g3 < wo.heap.size := block_lt hblk
        have hgne : g ≠ g3 := own_ne hown hblk (by decide)
        clear hfar
        obtain ⟨p, hp⟩ : ∃ p, ps[k]? = some p := ⟨_, List.getElem?_eq_getElem (by rw [Hn.out]; exact hlt)⟩
        obtain ⟨hc1, hc2⟩ := span_get ps k p hp
        obtain ⟨p1, p2⟩ := p
        have HCl := hide (HCell.out wo hbw k (p1, p2) hp)
        obtain ⟨lb, hlb⟩ : ∃ lb, cellOf (v.rows[T]?.getD []) (p1 : Nat) (p2 : Nat) = lb := ⟨_, rfl⟩
        have HCp := hide (show ((ps.take (k + 1)).map C).flatMap Rg.enc = ((ps.take k).map C).flatMap Rg.enc ++ (⟨4, 0, -1, T, p1, B, p2, lb⟩ : Rg).enc by
          rw [List.take_add_one, hp, ← hlb]
          simp [HC.out])
        dsimp only at HCl hc1 hc2
        rw [hlb] at HCl
        have x4 := (cell_block hblk (k * 2)).trans (hcs _ _ hc1)
        have x5 := (cell_block hblk (k * 2 + 1)).trans (hcs _ _ hc2)
        obtain ⟨k0, k1, k2, k3, k4, k5⟩ := hvb.cells
        obtain ⟨r0, r1, r2, r3, r4, r5, r6, r7⟩ := hrb.cells
        dsimp only at r0 r1 r2 r3 r4 r5 r6 r7
        have hso : w.heap.size + 1 + 1 ≤ wo.heap.size := block_lt hrb
        have hltn : (k : Int) < (n : Int) := by omega
        obtain ⟨xs, hxs⟩ : ∃ xs, ((ps.take k).map C).flatMap Rg.enc = xs := ⟨_, rfl⟩
        rw [hxs] at hown HCp
        have Hblk := hide hblk
        clear hlb hp hc1 hc2 hcs hxs hblk
        go_wp2_with (first
          | (go_at_call 13; refine HCl.out.mono ?_; rintro e w5 ⟨rfl, hb5⟩)
          | fail)
        have hs5 := hb5.size
        have hown5 := own_below hown hb5 (Nat.le_refl _)
        have hvb5 := hvb.below hb5 (by omega)
        have hrb5 := hrb.below hb5 (by omega)
        have hbw5 := hbw.trans (hb5.mono (by omega))
        have y3 := (hb5.cell (p := ⟨w.heap.size + 1, 3, none⟩) (by show w.heap.size + 1 < _; omega)).trans r3
        have y5 := (hb5.cell (p := ⟨w.heap.size + 1, 5, none⟩) (by show w.heap.size + 1 < _; omega)).trans r5
        have z4 := (hb5.cell (p := ⟨g3, k * 2, none⟩) hgl).trans x4
        have z5 := (hb5.cell (p := ⟨g3, k * 2 + 1, none⟩) hgl).trans x5
        have hdr : Below w5.heap.size w5 w5.drew := (Below.refl _ _).drew
        have hownD := own_below hown5 hdr (Nat.le_refl _)
        have hAl : ∀ (o : Obj), Below w5.heap.size w5 (w5.drew.alloc o) := fun o => hdr.alloc hdr.size o
        have hgw := (hownD.lt g rfl).1
        have hq1 : w.heap.size + 1 < w5.heap.size := by omega
        have hq2 : some (w.heap.size + 1) ≠ some g := by simp; omega
        have hq3 : g3 < w5.heap.size := by omega
        have hq4 : some g3 ≠ some g := by simp; omega
        clear k0 k1 k2 k3 k4 k5 r0 r1 r2 r3 r4 r5 r6 r7 x4 x5 HCl hown
        go_region_held3 (fun W2 => W2.cell? ⟨w.heap.size + 1, 3, none⟩ = some (.int .i64 T) ∧ W2.cell? ⟨w.heap.size + 1, 5, none⟩ = some (.int .i64 B) ∧ W2.cell? ⟨g3, k * 2, none⟩ = some (.int .i64 p1) ∧ W2.cell? ⟨g3, k * 2 + 1, none⟩ = some (.int .i64 p2))
          (first | exact hS6 | go_keep)
          ((refine step_app_rg w5.drew (.tmp 31) (.tmp 48) (by rfl) (by rfl) (w.heap.size + 1 + 1) _ k xs (by rfl) hownD (by simp; omega) (by omega) ⟨4, 0, -1, T, p1, B, p2, lb⟩ (by rfl) ?_; intro g6 cap6 w6 hown6 hg6; have hS6 := And.intro (far_cell (hAl _) hg6 ⟨w.heap.size + 1, 3, none⟩ hq1 (hAl _).size hq2 y3) (And.intro (far_cell (hAl _) hg6 ⟨w.heap.size + 1, 5, none⟩ hq1 (hAl _).size hq2 y5) (And.intro (far_cell (hAl _) hg6 ⟨g3, k * 2, none⟩ hq3 (hAl _).size hq4 z4) (far_cell (hAl _) hg6 ⟨g3, k * 2 + 1, none⟩ hq3 (hAl _).size hq4 z5)))))
        have hvb6 : VwBox w6 w.heap.size v A c := far_block (hAl _) hg6 w.heap.size (by omega) (hAl _).size (by simp [Value.ownBlock]; omega) hvb5
        have hrb6 : RgBox w6 (w.heap.size + 1) ⟨rk, ri, rp, T, rl, B, rr, rlb⟩ := far_block (hAl _) hg6 (w.heap.size + 1) hq1 (hAl _).size hq2 hrb5
        have hblk6 := far_block (hAl _) hg6 g3 hq3 (hAl _).size hq4 (block_below Hblk.out hb5 hgl)
        have hbw6 : Below w.heap.size w w6 := below_own (hbw5.trans ((hAl _).mono hbw5.size)) (hownD.alloc _) hg6 (by omega) (by have := (hAl (.cells (⟨4, 0, -1, T, p1, B, p2, lb⟩ : Rg).enc.toArray 26)).size; omega)
        clear hS6 hg6 hownD hown5 hvb5 hrb5 hbw5 y3 y5 z4 z5 hvb hrb hbw
        go_wp2
        go_roundw
        case rel => exact ⟨k + 1, g6, cap6, by omega, by go_num, rfl, own_eq hown6 rfl HCp.out.symm, hvb6, hrb6, hbw6, fun _ => hblk6⟩
        case measure => simp [intOf]; omega
      · obtain rfl : k = n := by omega
        have HAll := hide (show ps.take k = ps by rw [← Hn.out, List.take_length])
        have hlm : (ps.map C).length = k := by rw [List.length_map, Hn.out]
        rw [HAll.out] at hown
        have Hlm := hide hlm
        clear hlm hvb hrb hfar hg3
        go_wp2
        go_ret
        exact ⟨_, rfl, own_more (own_eq hown Hlm.out.symm rfl) (by omega), hbw⟩
end Go.Proofs.YtbbhkibbkecojaaDoor
