/- Chapter 45: clipping.cut. -/
import Derived.Test.YtmloijhdibicdaaDoorK3
import Derived.Test.YtmloijhdibicdaaDoorK11
namespace Go.Proofs.YtmloijhdibicdaaDoor
open Go.RowKit Go.Shelf

/-- What one glyph adds, and the ways to it. -/
theorem cutWays (left right col : Nat) (g : Gl) (K : List UInt8) (h : (if left ≤ col ∧ col < right then g.text.data.toList else if g.wide = true ∧ col + 1 = left then [32] else []) = K) :
    (decide (left ≤ col) = true ∧ decide (col < right) = true ∧ K = g.text.data.toList) ∨ (decide (left ≤ col) = true ∧ decide (col < right) = false ∧ ((col : Int) + 1 == (left : Int)) = false ∧ K = []) ∨
    (decide (left ≤ col) = false ∧ g.wide = true ∧ ((col : Int) + 1 == (left : Int)) = true ∧ K = [32]) ∨ (decide (left ≤ col) = false ∧ g.wide = true ∧ ((col : Int) + 1 == (left : Int)) = false ∧ K = []) ∨ (decide (left ≤ col) = false ∧ g.wide = false ∧ K = []) := by
  subst h
  by_cases h1 : left ≤ col
  · by_cases h2 : col < right
    · exact .inl ⟨by simp [h1], by simp [h2], by rw [if_pos ⟨h1, h2⟩]⟩
    · exact .inr (.inl ⟨by simp [h1], by simp [h2], by rw [beq_eq_false_iff_ne]; omega, by rw [if_neg (by omega), if_neg (by omega)]⟩)
  · rw [if_neg (by omega)]
    cases hw : g.wide with
    | false => exact .inr (.inr (.inr (.inr ⟨by simp [h1], rfl, by simp⟩)))
    | true =>
      by_cases h3 : col + 1 = left
      · exact .inr (.inr (.inl ⟨by simp [h1], rfl, by rw [beq_iff_eq]; omega, by simp [h3]⟩))
      · exact .inr (.inr (.inr (.inl ⟨by simp [h1], rfl, by rw [beq_eq_false_iff_ne]; omega, by simp [h3]⟩)))

set_option maxRecDepth 100000 in
set_option maxHeartbeats 1000000 in
theorem cutP (w : World) (A : Option Addr) (c : Nat) (l : List Gl) (left right : Nat) (h : GlRow w w.heap.size A l) (hl : l.length ≤ 140) (hz : ∀ g ∈ l, g.text.size ≤ 40) :
    Calls Tryd.prog 62 #[.slice A l.length c, .int .i64 left, .int .i64 right] w fun e w' => e = .returned (.string (cutB left right l)) ∧ Below w.heap.size w w' := by
  have HH := hide h
  have Hz := hide hz
  obtain ⟨n, hn⟩ : ∃ n, l.length = n := ⟨_, rfl⟩
  have Hn := hide hn
  rw [hn] at hl ⊢
  clear hn h hz
  go_enter Tryd.func62, Tryd.ntmps62
  go_wp2
  go_loopw [8, 13] (fun o i wr => ∃ k : Nat, k ≤ n ∧ i = .int .i64 k ∧ o = .int .i64 ((widthOf (l.take k) : Nat) : Int) ∧ Lib.IsBuilderF 97 5 w.heap.size w.heap.size (Lib.byteCells (cutL left right 0 (l.take k))) wr ∧ w.heap.size < wr.heap.size ∧ Below w.heap.size w wr) (fun _ i _ => n - (intOf i).toNat)
  case atStart => exact ⟨0, Nat.zero_le _, rfl, rfl, Lib.IsBuilderF.of (Lib.fresh_isBuilder 97 5 w), by simp, (Below.refl _ w).alloc (Nat.le_refl _) _⟩
  case round =>
    rename World => wo
    obtain ⟨k, hk, rfl, rfl, hI, hgt, hb⟩ := hrel
    have hs := hb.size
    by_cases hlt : k < n
    · have hkl : k < l.length := by rw [Hn.out]; exact hlt
      have hkI : (k : Int) < (n : Int) := by omega
      obtain ⟨bk, off, rfl, hbb, c0, c1, c2⟩ := (HH.out.below (GlAt.stays _) hb).get hkl
      have hcs := cutL_size left right 40 (by omega) (l.take k) 0 (fun g hg => Hz.out g (List.mem_of_mem_take hg))
      rw [List.length_take, Hn.out, Nat.min_eq_left hk] at hcs
      have HS := hide (cutL_snoc left right l k hkl)
      have hws := widthOf_snoc l k hkl
      have hwl := widthOf_take_le l k
      rw [Hn.out] at hwl
      have hgz := Hz.out _ (List.getElem_mem hkl)
      have hI2 := hI.alloc (.cells #[.string l[k].text, .bool l[k].wide, .int .i64 l[k].style] 42)
      have hb2 := hb.alloc hs (.cells #[.string l[k].text, .bool l[k].wide, .int .i64 l[k].style] 42)
      have hs2 := hb2.size
      obtain ⟨K, hK⟩ : ∃ K, (if left ≤ widthOf (l.take k) ∧ widthOf (l.take k) < right then l[k].text.data.toList else if l[k].wide = true ∧ widthOf (l.take k) + 1 = left then [32] else []) = K := ⟨_, rfl⟩
      have hways := cutWays left right _ _ K hK
      rw [hK] at HS
      obtain ⟨⟨t, wd, st⟩, hx⟩ : ∃ x, l[k] = x := ⟨_, rfl⟩
      rw [hx] at c0 c1 c2 hI2 hb2 hs2 hways hws hgz
      obtain ⟨col, hcol⟩ : ∃ col, widthOf (l.take k) = col := ⟨_, rfl⟩
      rw [hcol] at hways hws hwl ⊢
      obtain ⟨CL, hCL⟩ : ∃ CL, cutL left right 0 (l.take k) = CL := ⟨_, rfl⟩
      rw [hCL] at HS hI2 hcs
      have Hws := hide hws
      clear hx hI hK hcol hCL hws
      dsimp only at c0 c1 c2 hI2 hb2 hs2 hways hgz
      have hcols : (Lib.byteCells CL).length ≤ 100000 := by rw [Lib.byteCells_length]; omega
      have Hb2 := hide hb2
      rcases hways with ⟨a1, a2, rfl⟩ | ⟨a1, a2, a3, rfl⟩ | ⟨a1, rfl, a3, rfl⟩ | ⟨a1, rfl, a3, rfl⟩ | ⟨a1, rfl, rfl⟩
      · cases wd with
        | true =>
          go_wp2_with (first
            | (go_at_call 49; refine (Any.Builder_WriteString_k laysWriteString writeStringX w.heap.size w.heap.size _ t _ hI2 (by omega) hs2).mono ?_; rintro e w2 ⟨rfl, hh1, b1, k1⟩; have hX := k1 _ _ (block_new wo (.cells #[.string t, .bool true, .int .i64 st] 42)) (by intro h; have := Option.some.inj h; omega) (by intro c fz h; cases h); have g1 := cell_block hX 1; have hs3 := b1.size)
            | fail)
          go_roundw
          case rel => exact ⟨k + 1, by omega, by go_num, int_eq (by rw [Hws.out]; simp [glW]; omega), by rw [HS.out, Lib.byteCells_append]; exact Or.inr hh1, by simp at hs3; omega, Hb2.out.trans b1⟩
          case measure => simp [intOf]; omega
        | false =>
          go_wp2_with (first
            | (go_at_call 49; refine (Any.Builder_WriteString_k laysWriteString writeStringX w.heap.size w.heap.size _ t _ hI2 (by omega) hs2).mono ?_; rintro e w2 ⟨rfl, hh1, b1, k1⟩; have hX := k1 _ _ (block_new wo (.cells #[.string t, .bool false, .int .i64 st] 42)) (by intro h; have := Option.some.inj h; omega) (by intro c fz h; cases h); have g1 := cell_block hX 1; have hs3 := b1.size)
            | fail)
          go_roundw
          case rel => exact ⟨k + 1, by omega, by go_num, int_eq (by rw [Hws.out]; simp [glW]), by rw [HS.out, Lib.byteCells_append]; exact Or.inr hh1, by simp at hs3; omega, Hb2.out.trans b1⟩
          case measure => simp [intOf]; omega
      · cases wd with
        | true =>
          go_wp2
          go_roundw
          case rel => exact ⟨k + 1, by omega, by go_num, int_eq (by rw [Hws.out]; simp [glW]; omega), by rw [HS.out, List.append_nil]; exact hI2, by simp; omega, Hb2.out⟩
          case measure => simp [intOf]; omega
        | false =>
          go_wp2
          go_roundw
          case rel => exact ⟨k + 1, by omega, by go_num, int_eq (by rw [Hws.out]; simp [glW]), by rw [HS.out, List.append_nil]; exact hI2, by simp; omega, Hb2.out⟩
          case measure => simp [intOf]; omega
      · · go_wp2_with (first
            | (go_at_call 91; refine (Any.Builder_WriteByte_k laysWriteByte writeByteX w.heap.size w.heap.size _ _ _ hI2 (by omega) hs2).mono ?_; rintro e w2 ⟨rfl, hh1, b1, k1⟩; have hX := k1 _ _ (block_new wo (.cells #[.string t, .bool true, .int .i64 st] 42)) (by intro h; have := Option.some.inj h; omega) (by intro c fz h; cases h); have g1 := cell_block hX 1; have hs3 := b1.size)
            | fail)
          go_roundw
          case rel => exact ⟨k + 1, by omega, by go_num, int_eq (by rw [Hws.out]; simp [glW]; omega), by rw [HS.out, Lib.byteCells_append]; exact Or.inr hh1, by simp at hs3; omega, Hb2.out.trans b1⟩
          case measure => simp [intOf]; omega
      · · go_wp2
          go_roundw
          case rel => exact ⟨k + 1, by omega, by go_num, int_eq (by rw [Hws.out]; simp [glW]; omega), by rw [HS.out, List.append_nil]; exact hI2, by simp; omega, Hb2.out⟩
          case measure => simp [intOf]; omega
      · · go_wp2
          go_roundw
          case rel => exact ⟨k + 1, by omega, by go_num, int_eq (by rw [Hws.out]; simp [glW]), by rw [HS.out, List.append_nil]; exact hI2, by simp; omega, Hb2.out⟩
          case measure => simp [intOf]; omega
    · obtain rfl : k = n := by omega
      have HT := hide (show l.take k = l by rw [← Hn.out, List.take_length])
      have hcs := cutL_size left right 40 (by omega) (l.take k) 0 (fun g hg => Hz.out g (List.mem_of_mem_take hg))
      rw [List.length_take, Hn.out, Nat.min_self] at hcs
      have hsz : (⟨(cutL left right 0 (l.take k)).toArray⟩ : ByteArray).size ≤ 9223372036854775807 := by show (cutL left right 0 (l.take k)).toArray.size ≤ _; simp; omega
      go_wp2_with (first
        | (go_at_call 50; refine (Any.Builder_String_any_k laysString stringX w.heap.size w.heap.size _ _ hI hs).mono ?_; rintro e w2 ⟨rfl, _, b1, _⟩)
        | (go_at_call 29; refine (Any.strings_TrimRight_one laysTrimRight _ 32 (by decide) w2 hsz).mono ?_; rintro e w3 ⟨rfl, rfl⟩)
        | fail)
      go_ret
      exact ⟨by rw [HT.out]; rfl, hb.trans b1⟩
end Go.Proofs.YtmloijhdibicdaaDoor
