/- Dots: the walks of the laws DotsRoundTrip, DotsCanonical, DotsUnicode, DotsPairs. -/
import Derived.Test.YtjgbflkjbehgaaaDoorD4
import Derived.Shelf.Vars
namespace Go.Proofs.YtjgbflkjbehgaaaDoor
open Go.RowKit Go.Shelf

theorem Mx.shaped {w : World} (h : w.ShapedOpen Tryd.prog) : Mx w := by
  have hc := cell_of_shapedOpen_int (P := Tryd.prog) (g := 0) (t := 3) (zero := #[.int .i64 0]) (k := .i64) h (of_decide_eq_true (by kernel_rfl)) (by kernel_rfl) rfl (by kernel_rfl) (by kernel_rfl) Tryd.underlying3
  obtain ⟨m, hm⟩ := hc
  exact ⟨World.block_lt_of_cell? w ⟨0, 0, none⟩ hm, m, hm⟩

set_option maxHeartbeats 1000000 in
theorem roundTripP (w : World) (hm : Mx w) (c : Nat) (hc : c < 256) : Calls Tryd.prog 4 #[.int .u8 c] w fun e w' => e = .returned (.bool true) ∧ Below w.heap.size w w' := by
  have H1 := hide (formatP w c hc)
  have H2 := hide (fun w1 (hb : Below w.heap.size w w1) => parseP w1 (fmtB c) (by have := fmtB_size c hc; omega) (hm.below hb))
  simp only [show parseR (fmtB c) = (c, 0) by rw [parseR_list]; exact parseRL_fmt c hc] at H2
  have H3 := hide (fun w1 (hb : Below w.heap.size w w1) => awakeP w1 (hm.below hb))
  clear hm
  go_enter Tryd.func4, Tryd.ntmps4
  go_wp2_with fail
  refine H1.out.mono ?_
  rintro e w1 ⟨rfl, hb1⟩
  go_wp2_with fail
  refine (H2.out _ hb1).mono ?_
  rintro e w2 ⟨rfl, hb2⟩
  have hb := hb1.trans (hb2.mono hb1.size)
  go_wp2_with fail
  refine (H3.out _ hb).mono ?_
  rintro e w3 ⟨rfl, hb3⟩
  go_wp2_with fail
  go_ret
  exact ⟨rfl, hb.trans (hb3.mono hb.size)⟩

theorem parse_ways (s : ByteArray) : (parseR s).1 < 256 ∧ ((parseR s).2 = 0 ∧ (fmtB (parseR s).1).toList = s.toList ∨ parseR s = (0, 3)) := by
  unfold parseR
  cases h : ((fmtB (orAll s)).toList == s.toList) with
  | true => rw [if_pos rfl]; exact ⟨orAll_lt s, .inl ⟨rfl, eq_of_beq h⟩⟩
  | false => exact ⟨by simp, .inr rfl⟩

set_option maxHeartbeats 1000000 in
theorem canonicalP (w : World) (hm : Mx w) (s : ByteArray) (hs : s.size ≤ maxLen) : Calls Tryd.prog 5 #[.string s] w fun e w' => e = .returned (.bool true) ∧ Below w.heap.size w w' := by
  unfold maxLen at hs
  have H3 := hide (fun w1 (hb : Below w.heap.size w w1) => awakeP w1 (hm.below hb))
  have H0 := hide (awakeP w hm)
  by_cases h40 : s.size ≤ 40
  · have H1 := hide (parseP w s (by omega) hm)
    obtain ⟨hlt, h | h⟩ := parse_ways s
    · obtain ⟨c, hc⟩ : ∃ c, (parseR s).1 = c := ⟨_, rfl⟩
      rw [hc] at hlt h H1
      rw [h.1] at H1
      have H2 := hide (fun w1 => formatP w1 c hlt)
      have heq : ((fmtB c).toList == s.toList) = true := by rw [h.2]; simp
      obtain ⟨f, hf⟩ : ∃ f, fmtB c = f := ⟨_, rfl⟩
      rw [hf] at H2 heq
      clear hm h hc hf
      go_enter Tryd.func5, Tryd.ntmps5
      go_wp2_with fail
      refine H1.out.mono ?_
      rintro e w1 ⟨rfl, hb1⟩
      go_wp2_with fail
      refine (H2.out _).mono ?_
      rintro e w2 ⟨rfl, hb2⟩
      have hb := hb1.trans (hb2.mono hb1.size)
      go_wp2_with fail
      refine (H3.out _ hb).mono ?_
      rintro e w3 ⟨rfl, hb3⟩
      go_wp2_with fail
      go_ret
      exact ⟨rfl, hb.trans (hb3.mono hb.size)⟩
    · rw [h] at H1
      clear hm h hlt
      go_enter Tryd.func5, Tryd.ntmps5
      go_wp2_with fail
      refine H1.out.mono ?_
      rintro e w1 ⟨rfl, hb1⟩
      go_wp2_with fail
      refine (H3.out _ hb1).mono ?_
      rintro e w3 ⟨rfl, hb3⟩
      go_wp2_with fail
      go_ret
      exact ⟨rfl, hb1.trans (hb3.mono hb1.size)⟩
  · clear hm H3
    go_enter Tryd.func5, Tryd.ntmps5
    go_wp2_with fail
    refine H0.out.mono ?_
    rintro e w1 ⟨rfl, hb1⟩
    go_wp2_with fail
    go_ret
    exact ⟨rfl, hb1⟩

set_option maxRecDepth 100000 in
set_option maxHeartbeats 1000000 in
theorem unicodeP (w : World) (hm : Mx w) (c : Nat) (hc : c < 256) (r : Int) (h1 : -2147483648 ≤ r) (h2 : r ≤ 2147483647) : Calls Tryd.prog 9 #[.int .u8 c, .int .i32 r] w fun e w' => e = .returned (.bool true) ∧ Below w.heap.size w w' := by
  have H0 := hide (awakeP w hm)
  have H1 := hide (runeP w c hc)
  have H2 := hide (cellP w (10240 + (c : Int)) (by omega) (by omega))
  rw [if_pos (by omega), show (10240 : Int) + (c : Int) - 10240 = (c : Int) by omega] at H2
  have H3 := hide (cellP w r h1 h2)
  by_cases h : 10240 ≤ r ∧ r ≤ 10495
  · rw [if_pos h] at H3
    obtain ⟨k, hk⟩ : ∃ k : Nat, r - 10240 = k := ⟨(r - 10240).toNat, by omega⟩
    obtain rfl : r = 10240 + (k : Int) := by omega
    rw [hk] at H3
    have H4 := hide (runeP w k (by omega))
    clear hm hk
    go_enter Tryd.func9, Tryd.ntmps9
    go_wp2_with fail
    refine H1.out.mono ?_
    rintro e w1 ⟨rfl, rfl⟩
    go_wp2_with fail
    refine H2.out.mono ?_
    rintro e w1 ⟨rfl, rfl⟩
    go_wp2_with fail
    refine H3.out.mono ?_
    rintro e w1 ⟨rfl, rfl⟩
    go_wp2_with fail
    refine H1.out.mono ?_
    rintro e w1 ⟨rfl, rfl⟩
    go_wp2_with fail
    refine H4.out.mono ?_
    rintro e w1 ⟨rfl, rfl⟩
    go_wp2_with fail
    refine H0.out.mono ?_
    rintro e w1 ⟨rfl, hb⟩
    go_wp2_with fail
    go_ret
    exact ⟨rfl, hb⟩
  · rw [if_neg h] at H3
    by_cases hlo : r < 10240
    all_goals
      have hlo' : r < 10240 ∨ 10495 < r := by omega
      clear hm
      go_enter Tryd.func9, Tryd.ntmps9
      go_wp2_with fail
      refine H1.out.mono ?_
      rintro e w1 ⟨rfl, rfl⟩
      go_wp2_with fail
      refine H2.out.mono ?_
      rintro e w1 ⟨rfl, rfl⟩
      go_wp2_with fail
      refine H3.out.mono ?_
      rintro e w1 ⟨rfl, rfl⟩
      go_wp2_with fail
      refine H1.out.mono ?_
      rintro e w1 ⟨rfl, rfl⟩
      go_wp2_with fail
      refine H0.out.mono ?_
      rintro e w1 ⟨rfl, hb⟩
      go_wp2_with fail
      go_ret
      exact ⟨rfl, hb⟩
end Go.Proofs.YtjgbflkjbehgaaaDoor
