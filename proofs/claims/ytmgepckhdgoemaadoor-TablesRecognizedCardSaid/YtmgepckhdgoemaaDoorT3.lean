/- Tables: tables.gutters. -/
import Derived.Test.YtmgepckhdgoemaaDoorT1
namespace Go.Proofs.YtmgepckhdgoemaaDoor
open Go.RowKit

/-- Whether a column of a row is blank. -/
def bk (l : List Gl) (c : Nat) : Bool := (colsOf l)[c]?.getD true
/-- Whether a column is blank in all rows. -/
def allB (ls : List (List Gl)) (c : Nat) : Bool := ls.all fun l => bk l c
def rowsIn (rows : List (List Gl)) (top bottom : Nat) : List (List Gl) := (rows.drop top).take (bottom - top)
def gut (rows : List (List Gl)) (top bottom : Nat) (c : Nat) : Bool := allB (rowsIn rows top bottom) c
def bits (W : Nat) (f : Nat → Bool) : List Bool := (List.range W).map f

theorem blanksOf_eq (l : List Gl) (W : Nat) (h : widthOf l ≤ W) : blanksOf l W = bits W (bk l) := by
  have hl := colsOf_length l
  apply List.ext_getElem?
  intro c
  unfold blanksOf bits bk
  rw [List.getElem?_map]
  by_cases hc : c < W
  · rw [List.getElem?_range hc]
    by_cases h1 : c < (colsOf l).length
    · rw [List.getElem?_append_left h1]; simp [List.getElem?_eq_getElem h1]
    · rw [List.getElem?_append_right (by omega), List.getElem?_replicate, if_pos (by omega)]; simp [List.getElem?_eq_none (Nat.le_of_not_lt h1)]
  · rw [List.getElem?_eq_none (by simp; omega), List.getElem?_eq_none (by simp; omega)]; rfl
theorem bits_length (W : Nat) (f : Nat → Bool) : (bits W f).length = W := by simp [bits]
theorem bits_get (W : Nat) (f : Nat → Bool) {c : Nat} (h : c < W) : ((bits W f).map Value.bool)[c]? = some (.bool (f c)) := by
  unfold bits; rw [List.map_map, List.getElem?_map, List.getElem?_range h]; rfl
theorem bits_set (W : Nat) (f f' : Nat → Bool) (j : Nat) (u : Bool) (h : ∀ c, f' c = if c = j then u else f c) : ((bits W f).map Value.bool).set j (.bool u) = (bits W f').map Value.bool := by
  apply List.ext_getElem?
  intro c
  unfold bits
  rw [List.map_map, List.map_map, List.getElem?_set, List.getElem?_map, List.getElem?_map]
  by_cases hc : c < W
  · rw [List.getElem?_range hc]
    by_cases hj : j = c
    · subst hj; rw [if_pos rfl, if_pos (by simpa using hc)]; simp [h]
    · rw [if_neg hj]; simp [h, Ne.symm hj]
  · by_cases hj : j = c
    · subst hj; rw [if_pos rfl, if_neg (by simpa using hc), List.getElem?_eq_none (by simp; omega)]; rfl
    · rw [if_neg hj]; rw [List.getElem?_eq_none (by simp; omega)]; rfl
theorem bits_congr (W : Nat) {f f' : Nat → Bool} (h : ∀ c, c < W → f c = f' c) : bits W f = bits W f' := by
  unfold bits; exact List.map_congr_left fun c hc => h c (List.mem_range.1 hc)
theorem allB_snoc (ls : List (List Gl)) (k : Nat) (hk : k < ls.length) (c : Nat) : allB (ls.take (k + 1)) c = (allB (ls.take k) c && bk ls[k] c) := all_take_succ _ _ _ hk

theorem own_form1 {w : World} {base : Nat} {e : TypeId} {size : Nat} {v : Value} {n : Nat} {xs : List Value} (h : w.ownsRow base e size v n xs) (hn : 0 < n) :
    ∃ g cap, v = .slice (some ⟨g, 0, none⟩) n cap ∧ base ≤ g ∧ g < w.heap.size := by
  rcases h.2 with ⟨_, h0⟩ | ⟨g, cap, cur, hv, hb, hg, _⟩
  · omega
  · exact ⟨g, cap, hv, hb, block_lt hg⟩
theorem bits_blank0 (W : Nat) : blanksOf [] W = bits W (fun _ => true) := by
  rw [blanksOf_eq [] W (by simp [widthOf])]; exact bits_congr W fun c _ => by simp [bk, colsOf]
theorem rowsIn_length (rows : List (List Gl)) (t b : Nat) (h : b ≤ rows.length) : (rowsIn rows t b).length = b - t := by
  unfold rowsIn; simp; omega
theorem rowsIn_get (rows : List (List Gl)) (t b k : Nat) (h : b ≤ rows.length) (hk : k < b - t) : (rowsIn rows t b)[k]'(by rw [rowsIn_length rows t b h]; exact hk) = rows[t + k]'(by omega) := by
  unfold rowsIn; simp [List.getElem_take, List.getElem_drop]

set_option maxRecDepth 100000 in
set_option maxHeartbeats 4000000 in
theorem guttersP (w : World) (A : Option Addr) (c : Nat) (v : Vw) (W t b : Nat) (h : Rows2 w w.heap.size A v.rows) (ht : v.Tame) (hW : v.width = W) (hW1 : 1 ≤ W) (hW2 : W ≤ 200) (htb : t < b) (hb : b ≤ v.rows.length) (hc : v.rows.length ≤ c)
    (hw : ∀ r ∈ v.rows, widthOf r ≤ W) :
    Calls Tryd.prog 50 #[v.val A c, .int .i64 t, .int .i64 b] w fun e w' => ∃ g cap, e = .returned (.slice (some ⟨g, 0, none⟩) W cap) ∧ w'.ownsRow w.heap.size 4 1 (.slice (some ⟨g, 0, none⟩) W cap) W ((bits W (gut v.rows t b)).map .bool) ∧ Below w.heap.size w w' := by
  have HH := hide h
  have HW := hide hw
  have HTame := hide ht.2
  have hlen := ht.1
  clear h hw ht
  obtain ⟨width, height, rows, row, col, vis⟩ := v
  dsimp only at HH HW HTame hlen hW hb hc ⊢
  subst hW
  unfold Vw.val
  dsimp only
  obtain ⟨ba, off, rfl, hbb, -⟩ := HH.out.get1 (show t < rows.length by omega)
  have Hc := hide hc
  have hB0 := hide (fun w => blanksP w none 0 [] W (Sl.nil rfl) (by simp) (by omega))
  have hbox := (Below.refl w.heap.size w).alloc (Nat.le_refl _) (.cells #[.int .i64 W, .int .i64 height, .slice (some ⟨ba, off, none⟩) rows.length c, .int .i64 row, .int .i64 col, .bool vis] 24)
  go_enter Tryd.func50, Tryd.ntmps50
  go_wp2_with (go_at_call 67; refine (hB0.out _).mono ?_; rintro e w1 ⟨v1, rfl, hown1, hb1⟩; have k2 : w1.cell? ⟨w.heap.size, 2, none⟩ = some (.slice (some ⟨ba, off, none⟩) rows.length c) := (hb1.cell (p := ⟨w.heap.size, 2, none⟩) (by simp)).trans (cell_block (block_new _ _) 2))
  have hown1' := own_eq hown1 (by rw [bits_blank0, bits_length]) (by rw [bits_blank0])
  clear hown1
  obtain ⟨g, cap, rfl, hg1, -⟩ := own_form1 hown1' (by omega)
  have hgb : w.heap.size + 1 ≤ g := by simpa using hg1
  have hRl := hide (rowsIn_length rows t b hb)
  go_loopw [21] (fun i wr => ∃ k : Nat, k ≤ b - t ∧ i = .int .i64 k ∧ wr.ownsRow (w.heap.size + 1) 4 1 (.slice (some ⟨g, 0, none⟩) W cap) W ((bits W (allB ((rowsIn rows t b).take k))).map .bool) ∧
    Below (w.heap.size + 1) (w.alloc (.cells #[.int .i64 W, .int .i64 height, .slice (some ⟨ba, off, none⟩) rows.length c, .int .i64 row, .int .i64 col, .bool vis] 24)) wr) (fun i _ => b - t - (intOf i).toNat)
  case atStart => exact ⟨0, Nat.zero_le _, rfl, own_eq (by simpa using hown1') rfl (by rw [bits_congr W (f := fun _ => true) (f' := allB ((rowsIn rows t b).take 0)) fun c _ => rfl]), by simpa using hb1⟩
  case round =>
    clear hown1' hb1 k2 hg1
    rename World => wo
    obtain ⟨k, hk, rfl, hown, hbr⟩ := hrel
    have k0 : wo.cell? ⟨w.heap.size, 0, none⟩ = some (.int .i64 W) := (hbr.cell (p := ⟨w.heap.size, 0, none⟩) (Nat.lt_succ_self _)).trans (cell_block (block_new _ _) 0)
    have hlw : w.heap.size < wo.heap.size := by have := hbr.size; simp at this; omega
    have hbw := hbox.trans (hbr.mono (Nat.le_succ _))
    have hglt := (hown.lt g rfl).2
    by_cases hlt : k < b - t
    · obtain ⟨b', off', hab, -, A1, c1, d0, d1, d2⟩ := (HH.out.below hbw).get1 (show t + k < rows.length by omega)
      cases hab
      obtain ⟨r, hr⟩ : ∃ r, rows[t + k] = r := ⟨_, rfl⟩
      have hmem : r ∈ rows := by rw [← hr]; exact List.getElem_mem _
      obtain ⟨hrl, -⟩ := HTame.out _ hmem
      have hrw := HW.out _ hmem
      rw [hr, ← Nat.add_assoc] at d0
      rw [hr] at d1 d2
      have hrow := hide (d2.more hbw.size)
      have Hget := hide ((rowsIn_get rows t b k hb hlt).trans hr)
      clear d2 hr
      have hBk := hide (blanksP wo A1 c1 r W hrow.out (by omega) (by omega))
      go_wp2_with (go_at_call 67; refine hBk.out.mono ?_; rintro e w2 ⟨v2, rfl, hown2, hb2⟩; have q0 : w2.cell? ⟨w.heap.size, 0, none⟩ = some (.int .i64 W) := (hb2.cell (p := ⟨w.heap.size, 0, none⟩) hlw).trans k0)
      have hown2' := own_eq hown2 (by rw [blanksOf_eq r W hrw, bits_length]) (by rw [blanksOf_eq r W hrw])
      clear hown2
      obtain ⟨g2, cap2, rfl, hg2, -⟩ := own_form1 hown2' (by omega)
      have hcells : ∀ j, j < W → w2.cell? ⟨g2, j, none⟩ = some (.bool (bk r j)) := fun j hj => by rw [hown2'.cellAt j (by omega), bits_get W _ hj]
      have hownb := own_below hown hb2 (Nat.le_refl _)
      have hbr2 := hbr.trans (hb2.mono hlw)
      have hne : g2 ≠ g := by omega
      have Hcells := hide hcells
      have Hownb := hide hownb
      clear hcells hown2' hownb hown
      go_loopw [31] (fun i wr => ∃ j : Nat, j ≤ W ∧ i = .int .i64 j ∧ wr.ownsRow (w.heap.size + 1) 4 1 (.slice (some ⟨g, 0, none⟩) W cap) W ((bits W (fun c => if c < j then allB ((rowsIn rows t b).take (k + 1)) c else allB ((rowsIn rows t b).take k) c)).map .bool) ∧
        (∀ j, j < W → wr.cell? ⟨g2, j, none⟩ = some (.bool (bk r j))) ∧
        Below (w.heap.size + 1) (w.alloc (.cells #[.int .i64 W, .int .i64 height, .slice (some ⟨ba, off, none⟩) rows.length c, .int .i64 row, .int .i64 col, .bool vis] 24)) wr) (fun i _ => W - (intOf i).toNat)
      case atStart => exact ⟨0, Nat.zero_le _, rfl, by simpa using Hownb.out, Hcells.out, hbr2⟩
      case round =>
        obtain ⟨j, hj, rfl, hownx, hcx, hbx⟩ := hrel
        clear Hcells Hownb
        have HX := hide hcx
        clear hcx
        by_cases hlj : j < W
        · have e0 := hownx.cellAt j (by omega)
          rw [bits_get W _ hlj] at e0
          have f0 := hownx.frozenAt j
          have e1 := HX.out j hlj
          have Hs := hide (allB_snoc (rowsIn rows t b) k (by rw [hRl.out]; exact hlt) j)
          rw [Hget.out] at Hs
          simp only [Nat.lt_irrefl, if_false] at e0
          cases hx : allB ((rowsIn rows t b).take k) j <;> cases hy : bk r j
          all_goals
            rw [hx] at e0
            rw [hy] at e1
            rw [hx, hy] at Hs
            go_wp2
            go_roundw
            case rel =>
              first
                | (obtain ⟨s1, s2⟩ := hownx.stored j (.bool false)
                   refine ⟨j + 1, by omega, by go_num, own_eq s1 rfl (bits_set W _ _ j _ ?_), fun j' hj' => s2.cell (HX.out j' hj') (by simpa using hne), below_own hbx hownx s2 (Nat.le_refl _) (by have := hbx.size; simpa using this)⟩
                   intro c
                   by_cases hcj : c = j
                   · subst hcj; rw [if_pos (Nat.lt_succ_self _), if_pos rfl, Hs.out]; rfl
                   · rw [if_neg hcj]; by_cases h3 : c < j
                     · rw [if_pos (by omega), if_pos h3]
                     · rw [if_neg (by omega), if_neg h3])
                | (obtain ⟨s1, s2⟩ := hownx.stored j (.bool true)
                   refine ⟨j + 1, by omega, by go_num, own_eq s1 rfl (bits_set W _ _ j _ ?_), fun j' hj' => s2.cell (HX.out j' hj') (by simpa using hne), below_own hbx hownx s2 (Nat.le_refl _) (by have := hbx.size; simpa using this)⟩
                   intro c
                   by_cases hcj : c = j
                   · subst hcj; rw [if_pos (Nat.lt_succ_self _), if_pos rfl, Hs.out]; rfl
                   · rw [if_neg hcj]; by_cases h3 : c < j
                     · rw [if_pos (by omega), if_pos h3]
                     · rw [if_neg (by omega), if_neg h3])
            case measure => simp [intOf]; omega
        · go_wp2
          go_roundw
          case rel => exact ⟨k + 1, by omega, by go_num, own_eq hownx rfl (by rw [bits_congr W fun c hc => if_pos (by omega)]), hbx⟩
          case measure => simp [intOf]; omega
    · go_wp2
      go_ret
      refine ⟨g, cap, rfl, own_eq (own_more hown (Nat.le_succ _)) rfl ?_, hbw⟩
      unfold gut
      rw [List.take_of_length_le (by rw [hRl.out]; omega)]
end Go.Proofs.YtmgepckhdgoemaaDoor
