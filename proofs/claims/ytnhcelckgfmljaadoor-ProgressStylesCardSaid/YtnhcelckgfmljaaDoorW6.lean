/- progress.ascii, narratorref27.text, progress.last. -/
import Derived.Test.YtnhcelckgfmljaaDoorW5
import Derived.Test.YtnhcelckgfmljaaDoorPr4
import Derived.Test.YtnhcelckgfmljaaDoorBb
namespace Go.Proofs.YtnhcelckgfmljaaDoor
open Go.RowKit Go.Shelf

theorem size_one (t : ByteArray) (h : t.size = 1) : t.toList = [t[0]] := by
  rw [ByteArray.toList_eq]
  have hl : t.data.toList.length = 1 := h
  match hd : t.data.toList, hl with
  | [x], _ =>
    have : t.data.toList[0]? = some t[0] := sget t 0 (by omega)
    rw [hd] at this
    simp at this
    rw [this]
theorem asc_no1 (t : ByteArray) (wd : Bool) (st : Int) (h : t.size ≠ 1) : ascC ⟨t, wd, st⟩ = 0 := by
  unfold ascC
  dsimp only
  split
  · rename_i c hc
    have : t.toList.length = 1 := by rw [hc]; rfl
    rw [ByteArray.toList_eq] at this
    exact absurd this h
  · rfl
theorem asc_yes (t : ByteArray) (wd : Bool) (st : Int) (h : t.size = 1) (h1 : t[0].toNat < 128) (h2 : wd = false) (h3 : st ≠ 3) : ascC ⟨t, wd, st⟩ = t[0] := by
  unfold ascC; dsimp only; rw [size_one t h]; exact if_pos ⟨h1, h2, h3⟩
theorem asc_no2 (t : ByteArray) (wd : Bool) (st : Int) (h : t.size = 1) (hn : ¬ (t[0].toNat < 128 ∧ wd = false ∧ st ≠ 3)) : ascC ⟨t, wd, st⟩ = 0 := by
  unfold ascC; dsimp only; rw [size_one t h]; exact if_neg hn
theorem ascL_snoc (l : List Gl) (k : Nat) (h : k < l.length) : ascL (l.take (k + 1)) = ascL (l.take k) ++ [ascC l[k]] := by
  unfold ascL; rw [List.take_succ_eq_append_getElem h, List.map_append]; rfl

/-- The ways through the test of a glyph. -/
def AscWays (t : ByteArray) (wd : Bool) (st : Int) : Prop :=
  (((t.size : Int) == 1) = false ∧ ascC ⟨t, wd, st⟩ = 0) ∨
  (∃ h : t.size = 1, ((t.size : Int) == 1) = true ∧ decide ((t[0].toNat : Int) < 128) = false ∧ ascC ⟨t, wd, st⟩ = 0) ∨
  (∃ h : t.size = 1, ((t.size : Int) == 1) = true ∧ decide ((t[0].toNat : Int) < 128) = true ∧ wd = true ∧ ascC ⟨t, wd, st⟩ = 0) ∨
  (∃ h : t.size = 1, ((t.size : Int) == 1) = true ∧ decide ((t[0].toNat : Int) < 128) = true ∧ wd = false ∧ (st == 3) = true ∧ ascC ⟨t, wd, st⟩ = 0) ∨
  (∃ h : t.size = 1, ((t.size : Int) == 1) = true ∧ decide ((t[0].toNat : Int) < 128) = true ∧ wd = false ∧ (st == 3) = false ∧ ascC ⟨t, wd, st⟩ = t[0])
theorem ascWays (t : ByteArray) (wd : Bool) (st : Int) : AscWays t wd st := by
  unfold AscWays
  by_cases h : t.size = 1
  · have h' : ((t.size : Int) == 1) = true := by rw [h]; rfl
    by_cases h1 : t[0].toNat < 128
    · have h1' : decide ((t[0].toNat : Int) < 128) = true := by simp; omega
      cases wd with
      | true => exact .inr (.inr (.inl ⟨h, h', h1', rfl, asc_no2 _ _ _ h (by simp)⟩))
      | false =>
        by_cases h3 : st = 3
        · exact .inr (.inr (.inr (.inl ⟨h, h', h1', rfl, by simp [h3], asc_no2 _ _ _ h (by simp [h3])⟩)))
        · exact .inr (.inr (.inr (.inr ⟨h, h', h1', rfl, by simp [h3], asc_yes _ _ _ h h1 rfl h3⟩)))
    · exact .inr (.inl ⟨h, h', by simp; omega, asc_no2 _ _ _ h (by simp [h1])⟩)
  · exact .inl ⟨by rw [beq_eq_false_iff_ne]; omega, asc_no1 _ _ _ h⟩

set_option maxRecDepth 100000 in
set_option maxHeartbeats 2000000 in
theorem asciiP (w : World) (A : Option Addr) (c : Nat) (l : List Gl) (h : GlRow w w.heap.size A l) (hl : l.length ≤ 1000) :
    Calls Tryd.prog 23 #[.slice A l.length c] w fun e w' => e = .returned (.string ⟨(ascL l).toArray⟩) ∧ Below w.heap.size w w' := by
  have HH := hide h
  clear h
  obtain ⟨n, hn⟩ : ∃ n, l.length = n := ⟨_, rfl⟩
  have Hn := hide hn
  rw [hn] at hl ⊢
  clear hn
  go_enter Tryd.func23, Tryd.ntmps23
  go_wp2
  go_loopw [9] (fun i wr => ∃ k : Nat, k ≤ n ∧ i = .int .i64 k ∧ Lib.IsBuilderF 67 5 w.heap.size w.heap.size (Lib.byteCells (ascL (l.take k))) wr ∧ Below w.heap.size w wr) (fun i _ => n - (intOf i).toNat)
  case atStart => exact ⟨0, Nat.zero_le _, rfl, Lib.IsBuilderF.of (Lib.fresh_isBuilder 67 5 w), (Below.refl _ w).alloc (Nat.le_refl _) _⟩
  case round =>
    rename World => wo
    obtain ⟨k, hk, rfl, hI, hb⟩ := hrel
    have hs := hb.size
    have hl3 := ascL_len (l.take k)
    rw [List.length_take, Hn.out, Nat.min_eq_left hk] at hl3
    by_cases hlt : k < n
    · have hkl : k < l.length := by rw [Hn.out]; exact hlt
      obtain ⟨bk, off, rfl, hbb, c0, c1, c2⟩ := (HH.out.below (GlAt.stays _) hb).get hkl
      have HS := hide (ascL_snoc l k hkl)
      have Hl3 := hide hl3
      have hI2 := hI.alloc (.cells #[.string l[k].text, .bool l[k].wide, .int .i64 l[k].style] 31)
      have hb2 := hb.alloc hs (.cells #[.string l[k].text, .bool l[k].wide, .int .i64 l[k].style] 31)
      have hs2 := hb2.size
      obtain ⟨⟨t, wd, st⟩, hx⟩ : ∃ x, l[k] = x := ⟨_, rfl⟩
      rw [hx] at c0 c1 c2 HS hI2 hb2 hs2
      clear hx hl3 hI
      dsimp only at c0 c1 c2 hI2 hb2 hs2
      rcases ascWays t wd st with ⟨h1, ha⟩ | ⟨h0, h1, h2, ha⟩ | ⟨h0, h1, h2, rfl, ha⟩ | ⟨h0, h1, h2, rfl, h4, ha⟩ | ⟨h0, h1, h2, rfl, h4, ha⟩
      all_goals
        rw [ha] at HS
        clear ha
        have Hb2 := hide hb2
        go_wp2_with (first
          | (go_at_call 31; refine (Any.Builder_WriteByte_k laysWriteByte writeByteX w.heap.size w.heap.size _ _ _ hI2 (by rw [Lib.byteCells_length, Hl3.out]; omega) hs2).mono ?_; rintro e w2 ⟨rfl, hh1, b1, k1⟩)
          | fail)
        go_roundw
        case rel => exact ⟨k + 1, by omega, by go_num, by rw [HS.out, Lib.byteCells_append]; exact Or.inr hh1, Hb2.out.trans b1⟩
        case measure => simp [intOf]; omega
    · obtain rfl : k = n := by omega
      clear hl3
      have HT := hide (show l.take k = l by rw [← Hn.out, List.take_length])
      go_wp2_with (go_at_call 32; refine (Any.Builder_String_any_k laysString stringX w.heap.size w.heap.size _ _ hI hs).mono ?_; rintro e w2 ⟨rfl, _, b1, _⟩)
      go_ret
      exact ⟨by rw [HT.out]; rfl, hb.trans b1⟩

theorem el_int : ElemOf Tryd.prog 72 3 (.int .i64 0) 1 8 := ⟨Tryd.underlying72, by kernel_rfl, rfl, by omega, by omega⟩
set_option maxHeartbeats 1000000 in
theorem lastP (w : World) (g : Nat) (a b : Nat) (c0 : w.cell? ⟨g, 0, none⟩ = some (.int .i64 a)) (c1 : w.cell? ⟨g, 1, none⟩ = some (.int .i64 b)) :
    Calls Tryd.prog 24 #[.slice (some ⟨g, 0, none⟩) 2 2] w fun e w' => e = .returned (.int .i64 ((max a b : Nat) : Int)) ∧ w = w' := by
  go_enter Tryd.func24, Tryd.ntmps24
  go_wp2
  go_loop [3, 8] (fun m i => ∃ k : Nat, k ≤ 2 ∧ i = .int .i64 k ∧ ∃ x : Int, m = .int .i64 x ∧ x = (if k = 0 then -1 else if k = 1 then (a : Int) else ((max a b : Nat) : Int))) (fun _ i => 2 - (intOf i).toNat)
  case atStart => exact ⟨0, by omega, rfl, _, rfl, rfl⟩
  case round =>
    obtain ⟨k, hk, rfl, x, rfl, hx⟩ := hrel
    rcases (show k = 0 ∨ k = 1 ∨ k = 2 by omega) with rfl | rfl | rfl
    · simp at hx
      subst hx
      go_wp2
      go_round
      case rel => exact ⟨1, by omega, by go_num, _, rfl, by simp; omega⟩
      case measure => simp [intOf]
    · simp at hx
      subst hx
      go_wp2
      go_round
      case rel => exact ⟨2, by omega, by go_num, _, rfl, by simp; omega⟩
      case measure => simp [intOf]
    · simp at hx
      have Hx := hide hx
      clear hx
      go_wp2
      go_ret
      exact ⟨ret_int Hx.out, rfl⟩
end Go.Proofs.YtnhcelckgfmljaaDoor
