/- Tables: tables.empty, valid, cell. -/
import Derived.Test.YtmgepckhdgoemaaDoorT1
namespace Go.Proofs.YtmgepckhdgoemaaDoor
open Go.RowKit

def emptyB (l : List Gl) : Bool := l.all spaceB
theorem emptyP (w : World) (A : Option Addr) (c : Nat) (l : List Gl) (h : GlRow w w.heap.size A l) (hl : l.length ≤ 1000) :
    Calls Tryd.prog 48 #[.slice A l.length c] w fun e w' => e = .returned (.bool (emptyB l)) ∧ Below w.heap.size w w' := by
  have HH := hide h
  clear h
  go_enter Tryd.func48, Tryd.ntmps48
  go_wp2
  go_loopw [7] (fun i wr => ∃ k : Nat, k ≤ l.length ∧ i = .int .i64 k ∧ (l.take k).all spaceB = true ∧ Below w.heap.size w wr) (fun i _ => l.length - (intOf i).toNat)
  case atStart => exact ⟨0, Nat.zero_le _, rfl, by simp, Below.refl _ _⟩
  case round =>
    obtain ⟨k, hk, rfl, ha, hb⟩ := hrel
    have Ha := hide ha
    clear ha
    by_cases hlt : k < l.length
    · obtain ⟨b, off, rfl, hbb, c0, c1, c2⟩ := (HH.out.below (GlAt.stays _) hb).get hlt
      cases hsp : (l[k].text.toList == [32]) with
      | true =>
        have hsp' : (l[k].text.toList != [32]) = false := by simp [bne, hsp]
        go_wp2
        go_roundw
        case rel => exact ⟨k + 1, by omega, by go_num, by rw [all_take_succ _ _ _ hlt, Ha.out]; exact hsp, hb.alloc hb.size _⟩
        case measure => simp [intOf]; omega
      | false =>
        have hsp' : (l[k].text.toList != [32]) = true := by simp [bne, hsp]
        go_wp2
        go_ret
        exact ⟨ret_bool (all_not _ _ _ hlt hsp).symm, hb.alloc hb.size _⟩
    · go_wp2
      go_ret
      exact ⟨ret_bool (by have h := Ha.out; rw [List.take_of_length_le (by omega)] at h; exact h.symm), hb⟩

def validB (height top bottom : Int) : Bool := (decide (0 ≤ top) && decide (top < bottom)) && decide (bottom ≤ height)
theorem validTP (w : World) (A : Option Addr) (c : Nat) (v : Vw) (t b : Int) : Calls Tryd.prog 21 #[v.val A c, .int .i64 t, .int .i64 b] w fun e w' => e = .returned (.bool (validB v.height t b)) ∧ Below w.heap.size w w' := by
  unfold Vw.val validB
  cases h1 : decide (0 ≤ t) <;> cases h2 : decide (t < b) <;> cases h3 : decide (b ≤ v.height)
  all_goals
    go_enter Tryd.func21, Tryd.ntmps21
    go_wp2
    go_ret
    exact ⟨ret_bool (by simp), (Below.refl _ _).alloc (Nat.le_refl _) _⟩

/-- One glyph of a cell: the column, the text, the spaces behind it. -/
def cellStep (left right : Int) (st : Nat × ByteArray × ByteArray) (g : Gl) : Nat × ByteArray × ByteArray :=
  (st.1 + glW g, if decide (left ≤ st.1) && decide ((st.1 : Int) < right) then
    (if spaceB g then (if st.2.1.toList == [] then st.2 else (st.2.1, st.2.2 ++ ⟨#[32]⟩)) else (st.2.1 ++ (st.2.2 ++ g.text), ⟨#[]⟩)) else st.2)
def cellSt (l : List Gl) (left right : Int) : Nat × ByteArray × ByteArray := l.foldl (cellStep left right) (0, ⟨#[]⟩, ⟨#[]⟩)
def cellOf (l : List Gl) (left right : Int) : ByteArray := (cellSt l left right).2.1
theorem cellSt_snoc (l : List Gl) (left right : Int) (k : Nat) (hk : k < l.length) : cellSt (l.take (k + 1)) left right = cellStep left right (cellSt (l.take k) left right) l[k] := by
  unfold cellSt; rw [List.take_succ_eq_append_getElem hk, List.foldl_append]; rfl

set_option maxHeartbeats 2000000 in
theorem cellP (w : World) (A : Option Addr) (c : Nat) (l : List Gl) (left right : Int) (h : GlRow w w.heap.size A l) (hl : l.length ≤ 1000) (ht : ∀ g ∈ l, g.text.size ≤ 500) :
    Calls Tryd.prog 22 #[.slice A l.length c, .int .i64 left, .int .i64 right] w fun e w' => e = .returned (.string (cellOf l left right)) ∧ Below w.heap.size w w' := by
  have HH := hide h
  have HT := hide ht
  clear h ht
  go_enter Tryd.func22, Tryd.ntmps22
  go_wp2
  go_loopw [7, 8, 9, 14] (fun s p n i wr => ∃ (k m : Nat) (S SP : ByteArray), k ≤ l.length ∧ i = .int .i64 k ∧ n = .int .i64 m ∧ s = .string S ∧ p = .string SP ∧ cellSt (l.take k) left right = (m, S, SP) ∧ m ≤ 2 * k ∧ S.size + SP.size ≤ 501 * k ∧ Below w.heap.size w wr) (fun _ _ _ i _ => l.length - (intOf i).toNat)
  case atStart => exact ⟨0, 0, ⟨#[]⟩, ⟨#[]⟩, Nat.zero_le _, rfl, rfl, rfl, rfl, rfl, by omega, by simp [ByteArray.size], Below.refl _ _⟩
  case round =>
    obtain ⟨k, m, S, SP, hk, rfl, rfl, rfl, rfl, hst, hm, hsz, hb⟩ := hrel
    have Hst := hide hst
    clear hst
    by_cases hlt : k < l.length
    · obtain ⟨b, off, rfl, hbb, c0, c1, c2⟩ := (HH.out.below (GlAt.stays _) hb).get hlt
      have hgt := HT.out _ (List.getElem_mem hlt)
      have HS := hide (cellSt_snoc l left right k hlt)
      rw [Hst.out] at HS
      have hcat1 : SP.size + l[k].text.size ≤ 9223372036854775807 := by omega
      have hcat2 : S.size + (SP.size + l[k].text.size) ≤ 9223372036854775807 := by omega
      have hg1 := glW_pos l[k]
      have hg2 := glW_le l[k]
      have hgw : glW l[k] = if l[k].wide then 2 else 1 := rfl
      have Hgw := hide hgw
      clear hgw
      cases hw : l[k].wide <;> cases h1 : decide (left ≤ (m : Int)) <;> cases h2 : decide ((m : Int) < right) <;> cases hsp : (l[k].text.toList == [32]) <;> cases hs0 : (S.toList == [])
      all_goals
        rw [hw] at c1
        have hsp' : (l[k].text.toList != [32]) = !(l[k].text.toList == [32]) := rfl
        rw [hsp] at hsp'
        go_wp2
        go_roundw
        case rel =>
          refine ⟨k + 1, m + glW l[k], _, _, by omega, by go_num, int_eq (by have := Hgw.out; simp [hw] at this; omega), rfl, rfl, ?_, by omega, ?_, hb.alloc hb.size _⟩
          · rw [HS.out]; unfold cellStep spaceB; simp only [hsp, h1, h2, hs0]; rfl
          · first | omega | (simp only [ByteArray.size_append, ByteArray.size_mk']; simp; omega)
        case measure => simp [intOf]; omega
    · go_wp2
      go_ret
      have h2 := Hst.out
      rw [List.take_of_length_le (by omega)] at h2
      refine ⟨?_, hb⟩
      unfold cellOf; rw [h2]; rfl
end Go.Proofs.YtmgepckhdgoemaaDoor
