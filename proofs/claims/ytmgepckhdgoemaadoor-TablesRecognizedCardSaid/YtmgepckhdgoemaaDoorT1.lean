/- Tables: columns of a row; tables.blanks, empty, valid. -/
import Derived.Test.YtmgepckhdgoemaaDoorV12
import Derived.Test.YtmgepckhdgoemaaDoorV13
namespace Go.Proofs.YtmgepckhdgoemaaDoor
open Go.RowKit

theorem el_bool : ElemOf Tryd.prog 85 4 (.bool false) 1 1 := ⟨Tryd.underlying85, by kernel_rfl, rfl, by omega, by omega⟩

def spaceB (g : Gl) : Bool := g.text.toList == [32]
def colsOf (l : List Gl) : List Bool := l.flatMap fun g => List.replicate (glW g) (spaceB g)
def blanksOf (l : List Gl) (width : Nat) : List Bool := colsOf l ++ List.replicate (width - widthOf l) true
theorem colsOf_snoc (l : List Gl) (k : Nat) (hk : k < l.length) : colsOf (l.take (k + 1)) = colsOf (l.take k) ++ List.replicate (glW l[k]) (spaceB l[k]) := by
  unfold colsOf; rw [List.take_succ_eq_append_getElem hk, List.flatMap_append]; simp
theorem colsOf_length (l : List Gl) : (colsOf l).length = widthOf l := by
  unfold colsOf widthOf
  induction l with
  | nil => rfl
  | cons g l ih => simp only [List.flatMap_cons, List.length_append, List.length_replicate, List.map_cons, List.sum_cons, ih]

theorem own_new_cell {W W' : World} {o : Obj} {base : Nat} {e : TypeId} {sz n : Nat} {v : Value} {xs : List Value} (hown : W.ownsRow base e sz v n xs) (hg : (W.alloc o).grownBy W' v.ownBlock) {i : Nat} {u : Value}
    (h : (W.alloc o).cell? ⟨W.heap.size, i, none⟩ = some u) : W'.cell? ⟨W.heap.size, i, none⟩ = some u :=
  hg.cell h (by intro e; have := (hown.lt _ e.symm).2; simp at this)

set_option maxHeartbeats 2000000 in
theorem blanksP (w : World) (A : Option Addr) (c : Nat) (l : List Gl) (W : Nat) (h : GlRow w w.heap.size A l) (hl : l.length ≤ 1000) (hW : W ≤ 1000) :
    Calls Tryd.prog 67 #[.slice A l.length c, .int .i64 W] w fun e w' => ∃ v, e = .returned v ∧ w'.ownsRow w.heap.size 4 1 v (blanksOf l W).length ((blanksOf l W).map .bool) ∧ Below w.heap.size w w' := by
  have HH := hide h
  clear h
  go_enter Tryd.func67, Tryd.ntmps67
  obtain ⟨ti, hti, htz, htsz, htby⟩ := info_parts el_bool.info
  go_wp2_with (refine wpList_make_own _ rfl (.const (.int .i64 0)) (.tmp 9) 85 rfl w.heap.size 4 ti (.bool false) 1 Tryd.underlying85 hti htz htsz .i64 .i64 _ W rfl rfl rfl (by rw [htby]; omega) (by unfold maxLen; omega) (Nat.le_refl _) ?_; intro w1 hown1 hg1)
  have hb1 : Below w.heap.size w w1 := (Below.refl _ _).grown hg1 (Nat.le_refl _) (by simp)
  clear hti htz htsz htby hg1
  go_loopw [5, 13] (fun v i wr => ∃ k : Nat, k ≤ l.length ∧ i = .int .i64 k ∧ wr.ownsRow w.heap.size 4 1 v (colsOf (l.take k)).length ((colsOf (l.take k)).map .bool) ∧ Below w.heap.size w wr) (fun _ i _ => l.length - (intOf i).toNat)
  case atStart => exact ⟨0, Nat.zero_le _, rfl, hown1, hb1⟩
  case round =>
    obtain ⟨k, hk, rfl, hown, hb⟩ := hrel
    have hle := widthOf_take_le l k
    have hcl := colsOf_length (l.take k)
    have HCL := hide hcl
    have hcl2 : (colsOf (l.take k)).length ≤ 2000 := by omega
    clear hcl
    have hbs := hb.size
    by_cases hlt : k < l.length
    · obtain ⟨b, off, rfl, hbb, c0, c1, c2⟩ := (HH.out.below (GlAt.stays _) hb).get hlt
      have HS := hide (colsOf_snoc l k hlt)
      obtain ⟨sp, hsp⟩ : ∃ sp, (l[k].text.toList == [32]) = sp := ⟨_, rfl⟩
      have Hsp := hide (show spaceB l[k] = sp from hsp)
      cases hw : l[k].wide with
      | true =>
        have Hw := hide (show glW l[k] = 2 by unfold glW; rw [hw]; rfl)
        rw [hw] at c1
        go_wp2_with (first
          | (at_builtin; refine wpList_app _ (.tmp 20) (.tmp 22) 85 rfl rfl el_bool w.heap.size _ _ _ rfl (hown.alloc _) (by simp; omega) _ 1 1 _ _ rfl (by first | rfl | simp) rfl (by simp [Value.oneCell']) (by omega) ?_; intro v2 w2 hown2 hg2; have kb : w2.cell? ⟨wr.heap.size, 1, none⟩ = some (.bool true) := own_new_cell hown hg2 (cell_block (block_new _ _) 1); have hb2 := below_own (hb.alloc hb.size _) (hown.alloc _) hg2 (Nat.le_refl _) (by simp; omega))
          | (at_builtin; refine wpList_app _ (.tmp 26) (.tmp 28) 85 rfl rfl el_bool w.heap.size _ _ _ rfl hown2 hb2.size _ 1 1 _ _ rfl (by first | rfl | simp) rfl (by simp [Value.oneCell']) (by omega) ?_; intro v3 w3 hown3 hg3; have hb3 := below_own hb2 hown2 hg3 (Nat.le_refl _) hb2.size))
        go_roundw
        case rel => exact ⟨k + 1, by omega, by go_num, own_eq hown3 (by rw [HS.out, Hw.out, Hsp.out]; simp) (by rw [HS.out, Hw.out, Hsp.out]; simp [List.replicate]), hb3⟩
        case measure => simp [intOf]; omega
      | false =>
        have Hw := hide (show glW l[k] = 1 by unfold glW; rw [hw]; rfl)
        rw [hw] at c1
        go_wp2_with (at_builtin; refine wpList_app _ (.tmp 20) (.tmp 22) 85 rfl rfl el_bool w.heap.size _ _ _ rfl (hown.alloc _) (by simp; omega) _ 1 1 _ _ rfl (by first | rfl | simp) rfl (by simp [Value.oneCell']) (by omega) ?_; intro v2 w2 hown2 hg2; have kb : w2.cell? ⟨wr.heap.size, 1, none⟩ = some (.bool false) := own_new_cell hown hg2 (cell_block (block_new _ _) 1); have hb2 := below_own (hb.alloc hb.size _) (hown.alloc _) hg2 (Nat.le_refl _) (by simp; omega))
        go_roundw
        case rel => exact ⟨k + 1, by omega, by go_num, own_eq hown2 (by rw [HS.out, Hw.out, Hsp.out]; simp) (by rw [HS.out, Hw.out, Hsp.out]; simp [List.replicate]), hb2⟩
        case measure => simp [intOf]; omega
    · rw [List.take_of_length_le (by omega)] at hown hcl2 hle HCL
      rename World => wa
      go_wp2
      go_loopw [5] (fun v wr => ∃ j : Nat, j ≤ W - widthOf l ∧ wr.ownsRow w.heap.size 4 1 v ((colsOf l).length + j) ((colsOf l ++ List.replicate j true).map .bool) ∧ Below w.heap.size w wr) (fun v _ => W - lenOf v)
      case atStart => exact ⟨0, Nat.zero_le _, by simpa using hown, hb⟩
      case round =>
        clear hown hb hbs
        obtain ⟨j, hj, hown, hb⟩ := hrel
        have hbs := hb.size
        obtain ⟨A2, c2, rfl⟩ := own_form hown
        cases hd : decide ((((colsOf l).length : Int) + (j : Int)) < (W : Int)) with
        | true =>
          have hd2 := of_decide_eq_true hd
          go_wp2_with (at_builtin; refine wpList_app _ (.tmp 35) (.tmp 36) 85 rfl rfl el_bool w.heap.size _ _ _ rfl hown hbs _ 1 1 _ _ rfl (by first | rfl | simp) rfl (by simp [Value.oneCell']) (by omega) ?_; intro v3 w3 hown3 hg3; have hb3 := below_own hb hown hg3 (Nat.le_refl _) hb.size)
          obtain ⟨A3, c3, rfl⟩ := own_form hown3
          go_roundw
          case rel => exact ⟨j + 1, by have := HCL.out; omega, own_eq hown3 (by omega) (by simp [List.replicate_succ']), hb3⟩
          case measure => simp [lenOf]; omega
        | false =>
          have hd2 := of_decide_eq_false hd
          go_wp2
          go_ret
          refine ⟨_, rfl, own_eq hown ?_ ?_, hb⟩
          · have := HCL.out
            unfold blanksOf; rw [List.length_append, List.length_replicate]; omega
          · have : j = W - widthOf l := by have := HCL.out; omega
            rw [this]; rfl
end Go.Proofs.YtmgepckhdgoemaaDoor
