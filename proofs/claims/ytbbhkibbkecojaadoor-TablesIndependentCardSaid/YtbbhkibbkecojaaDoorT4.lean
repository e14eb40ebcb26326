/- Tables: narratorref24.dark, Valid. -/
import Derived.Test.YtbbhkibbkecojaaDoorT3
import Derived.Test.YtbbhkibbkecojaaDoorT2
import Derived.StillTailTactics
namespace Go.Proofs.YtbbhkibbkecojaaDoor
open Go.RowKit

theorem bk_cons (g : Gl) (l : List Gl) (c : Nat) : bk (g :: l) c = if c < glW g then spaceB g else bk l (c - glW g) := by
  unfold bk colsOf
  rw [List.flatMap_cons]
  by_cases h : c < glW g
  · rw [if_pos h, List.getElem?_append_left (by simpa using h), List.getElem?_replicate, if_pos h]; rfl
  · rw [if_neg h, List.getElem?_append_right (by simp; omega)]; simp
theorem idx_bk (l : List Gl) : ∀ c : Nat, (∃ n : Nat, ∃ h : n < l.length, idx l c = n ∧ bk l c = spaceB l[n]) ∨ ((l.length : Int) ≤ idx l c ∧ idx l c ≤ l.length + c ∧ bk l c = true) := by
  induction l with
  | nil => intro c; right; exact ⟨by show (0 : Int) ≤ (c : Int); omega, by show (c : Int) ≤ ((0 : Nat) : Int) + c; omega, rfl⟩
  | cons g l ih =>
    intro c
    by_cases h : c < glW g
    · left
      refine ⟨0, by simp, ?_, ?_⟩
      · show (if (c : Int) < glW g then (0 : Int) else _) = _; rw [if_pos (by omega)]; rfl
      · rw [bk_cons, if_pos h]; rfl
    · have hi : idx (g :: l) c = 1 + idx l ((c - glW g : Nat) : Int) := by
        show (if (c : Int) < glW g then (0 : Int) else _) = _
        rw [if_neg (by omega), show ((c : Int) - glW g) = ((c - glW g : Nat) : Int) by omega]
      rcases ih (c - glW g) with ⟨n, hn, h1, h2⟩ | ⟨h1, h2, h3⟩
      · left
        refine ⟨n + 1, by simpa using hn, by rw [hi, h1]; omega, ?_⟩
        rw [bk_cons, if_neg h, h2]; rfl
      · right
        rw [hi, bk_cons, if_neg h]
        simp only [List.length_cons]
        exact ⟨by omega, by omega, h3⟩

theorem bits_const (W : Nat) (u : Bool) : (bits W fun _ => u).map Value.bool = List.replicate W (.bool u) := by
  unfold bits
  induction W with
  | zero => rfl
  | succ W ih => rw [List.range_succ, List.map_append, List.map_append, ih, List.replicate_succ']; rfl
theorem bits_upto (W : Nat) (A B : Nat → Bool) (j : Nat) {u : Bool} (h : A j = u) : ((bits W fun c => if c < j then A c else B c).map Value.bool).set j (.bool u) = (bits W fun c => if c < j + 1 then A c else B c).map Value.bool :=
  bits_set W _ _ j u fun c => by
    by_cases hcj : c = j
    · subst hcj; rw [if_pos (Nat.lt_succ_self _), if_pos rfl, h]
    · rw [if_neg hcj]
      by_cases h3 : c < j
      · rw [if_pos (by omega), if_pos h3]
      · rw [if_neg (by omega), if_neg h3]

set_option maxHeartbeats 2000000 in
theorem darkP (w : World) (A : Option Addr) (c : Nat) (l : List Gl) (W : Nat) (h : GlRow w w.heap.size A l) (hl : l.length ≤ 1000) (hlc : l.length ≤ c) (hW1 : 1 ≤ W) (hW2 : W ≤ 1000) :
    Calls Tryd.prog 42 #[.slice A l.length c, .int .i64 W] w fun e w' => ∃ g cap, e = .returned (.slice (some ⟨g, 0, none⟩) W cap) ∧ w'.ownsRow w.heap.size 4 1 (.slice (some ⟨g, 0, none⟩) W cap) W ((bits W fun c => !bk l c).map .bool) ∧ Below w.heap.size w w' := by
  have HH := hide h
  clear h
  obtain ⟨ti, hti, htz, htsz, htby⟩ := info_parts el_bool.info
  go_enter Tryd.func42, Tryd.ntmps42
  go_wp2_with (refine wpList_make_full _ rfl (.tmp 8) (.tmp 8) 43 rfl w.heap.size 4 ti (.bool false) 1 Tryd.underlying43 hti htz htsz .i64 .i64 _ _ W rfl rfl rfl rfl (by rw [htby]; omega) (by unfold maxLen; omega) (Nat.le_refl _) ?_; intro w1 hown1 hg1)
  have hb1 : Below w.heap.size w w1 := (Below.refl _ _).grown hg1 (Nat.le_refl _) (by simp)
  have hglt : w.heap.size < w1.heap.size := (hown1.lt _ rfl).2
  clear hti htz htsz htby hg1
  go_loopw [6] (fun i wr => ∃ j : Nat, j ≤ W ∧ i = .int .i64 j ∧ wr.ownsRow w.heap.size 4 1 (.slice (some ⟨w.heap.size, 0, none⟩) W W) W ((bits W fun c => if c < j then !bk l c else false).map .bool) ∧ Below w.heap.size w wr) (fun i _ => W - (intOf i).toNat)
  case atStart => exact ⟨0, Nat.zero_le _, rfl, own_eq hown1 rfl (by rw [show (Value.bool false).cells = #[.bool false] from rfl, toList_madeCells_one, Nat.mul_one, bits_congr W (f' := fun _ => false) fun c _ => by simp, bits_const]), hb1⟩
  case round =>
    clear hown1 hb1 hglt
    obtain ⟨j, hj, rfl, hown, hb⟩ := hrel
    have hgl := (hown.lt _ rfl).2
    by_cases hlj : j < W
    · have e0 := hown.cellAt j (by omega)
      rw [bits_get W _ hlj] at e0
      simp only [Nat.lt_irrefl, if_false] at e0
      have f0 := hown.frozenAt j
      have hrow := (HH.out.below (GlAt.stays _) hb).more hb.size
      obtain ⟨q, hq⟩ : ∃ q, index15 l (j : Int) = q := ⟨_, rfl⟩
      have HP := hide (index15P wr A c l j hrow (by omega) hlc (by omega) (by omega))
      rw [hq] at HP
      have hqi : idx l (j : Int) = q := by rw [← hq]; unfold index15; rw [if_neg (by omega)]
      clear hq
      rcases idx_bk l j with ⟨n, hn, h1, h2⟩ | ⟨h1, h2, h3⟩
      · rw [hqi] at h1
        subst h1
        have H2 := hide h2
        clear h2 hqi
        have Hrow := hide hrow
        clear hrow
        obtain ⟨b, off, rfl, hbb, c0, c1, c2⟩ := Hrow.out.get hn
        have hbne : b ≠ w.heap.size ∨ True := .inr trivial
        have hin : decide ((n : Int) < (l.length : Int)) = true := by simp; omega
        cases hsp : (l[n].text.toList == [32])
        all_goals
          have hsp' : (l[n].text.toList != [32]) = !(l[n].text.toList == [32]) := rfl
          rw [hsp] at hsp'
          have H3 := hide (H2.out.trans hsp)
          go_wp2_with (go_at_call 19; refine HP.out.mono ?_; rintro e w2 ⟨rfl, rfl⟩)
          go_roundw
          case rel =>
            obtain ⟨s1, s2⟩ := hown.stored j (.bool (!bk l j))
            rw [H3.out] at s1 s2
            refine ⟨j + 1, by omega, by go_num, own_eq s1 rfl (bits_upto W (fun c => !bk l c) _ j (by rw [H3.out])), below_own hb hown s2 (Nat.le_refl _) hb.size⟩
          case measure => simp [intOf]; omega
      · rw [hqi] at h1 h2
        have hin : decide (q < (l.length : Int)) = false := by simp; omega
        have H3 := hide h3
        clear h3 hqi
        go_wp2_with (go_at_call 19; refine HP.out.mono ?_; rintro e w2 ⟨rfl, rfl⟩)
        go_roundw
        case rel =>
          obtain ⟨s1, s2⟩ := hown.stored j (.bool (!bk l j))
          rw [H3.out] at s1 s2
          refine ⟨j + 1, by omega, by go_num, own_eq s1 rfl (bits_upto W (fun c => !bk l c) _ j (by rw [H3.out])), below_own hb hown s2 (Nat.le_refl _) hb.size⟩
        case measure => simp [intOf]; omega
    · go_wp2
      go_ret
      exact ⟨_, _, rfl, own_eq hown rfl (by rw [bits_congr W fun c hc => if_pos (by omega)]), hb⟩

def Vw.ok (v : Vw) : Bool := v.err == 0
/-- What the reference calls a valid range. -/
def valid24 (v : Vw) (t b : Int) : Bool := v.ok && validB v.height t b
set_option maxHeartbeats 1000000 in
theorem valid24P (w : World) (A : Option Addr) (c : Nat) (v : Vw) (t b : Int) (h : Rows2 w w.heap.size A v.rows) (ht : v.Tame) :
    Calls Tryd.prog 36 #[v.val A c, .int .i64 t, .int .i64 b] w fun e w' => e = .returned (.bool (valid24 v t b)) ∧ Below w.heap.size w w' := by
  have hbox := (Below.refl w.heap.size w).alloc (Nat.le_refl _) (.cells #[.int .i64 v.width, .int .i64 v.height, .slice A v.rows.length c, .int .i64 v.row, .int .i64 v.col, .bool v.visible] 24)
  have HC := hide (check15 _ A c v ((h.below hbox).more hbox.size) ht)
  clear h
  unfold valid24 validB Vw.ok
  obtain ⟨V, hV⟩ : ∃ V, v.err = V := ⟨_, rfl⟩
  rw [hV] at HC ⊢
  clear hV
  unfold Vw.val at HC ⊢
  cases h0 : (V == 0) <;> cases h1 : decide (0 ≤ t) <;> cases h2 : decide (t < b) <;> cases h3 : decide (b ≤ v.height)
  all_goals
    go_enter Tryd.func36, Tryd.ntmps36
    go_wp2_with (go_at_call 35; refine HC.out.mono ?_; rintro e w1 ⟨rfl, hb1⟩; have k1 : w1.cell? ⟨w.heap.size, 1, none⟩ = some (.int .i64 v.height) := (hb1.cell (p := ⟨w.heap.size, 1, none⟩) (by simp)).trans (cell_block (block_new _ _) 1))
    go_ret
    exact ⟨ret_bool (by simp), hbox.trans (hb1.mono (by simp))⟩
end Go.Proofs.YtbbhkibbkecojaaDoor
