/- Dots: dots.Rune, dots.Cell, dots.Parse. -/
import Derived.Test.YtjgbflkjbehgaaaDoorD2
namespace Go.Proofs.YtjgbflkjbehgaaaDoor
open Go.RowKit Go.Shelf

theorem runeP (w : World) (c : Nat) (hc : c < 256) : Calls Tryd.prog 18 #[.int .u8 c] w fun e w' => e = .returned (.int .i32 (10240 + (c : Int))) ∧ w = w' := by
  go_enter Tryd.func18, Tryd.ntmps18
  go_wp2
  go_ret
  exact ⟨rfl, rfl⟩

theorem cellP (w : World) (r : Int) (h1 : -2147483648 ≤ r) (h2 : r ≤ 2147483647) : Calls Tryd.prog 17 #[.int .i32 r] w fun e w' => e = .returned (.tuple (if 10240 ≤ r ∧ r ≤ 10495 then #[.int .u8 (r - 10240), .bool true] else #[.int .u8 0, .bool false])) ∧ w = w' := by
  by_cases h : 10240 ≤ r
  · by_cases h' : r ≤ 10495
    · rw [if_pos ⟨h, h'⟩]
      go_enter Tryd.func17, Tryd.ntmps17
      go_wp2
      go_ret2
      exact ⟨rfl, rfl⟩
    · rw [if_neg (by omega)]
      go_enter Tryd.func17, Tryd.ntmps17
      go_wp2
      go_ret2
      exact ⟨rfl, rfl⟩
  · rw [if_neg (by omega)]
    go_enter Tryd.func17, Tryd.ntmps17
    go_wp2
    go_ret2
    exact ⟨rfl, rfl⟩

/-- The library's variable MaxLen holds an int. -/
def Mx (w : World) : Prop := 0 < w.heap.size ∧ ∃ m : Int, w.cell? ⟨0, 0, none⟩ = some (.int .i64 m)
theorem Mx.below {w w' : World} (h : Mx w) (hb : Below w.heap.size w w') : Mx w' :=
  ⟨Nat.lt_of_lt_of_le h.1 hb.size, let ⟨m, hm⟩ := h.2; ⟨m, (hb.cell (p := ⟨_, 0, none⟩) h.1).trans hm⟩⟩

/-- The parts of a string between hyphens. -/
def partsB (s : ByteArray) : List ByteArray := Lib.splitB ⟨#[45]⟩ 0 (Lib.countB s ⟨#[45]⟩) s
def orL (c : Nat) (l : List UInt8) : Nat := match l with
  | [b] => if 49 ≤ b.toNat ∧ b.toNat ≤ 56 then c ||| 2 ^ (b.toNat - 49) else c
  | _ => c
def orAll (s : ByteArray) : Nat := (partsB s).foldl (fun c p => orL c p.data.toList) 0
theorem orL_lt (c : Nat) (hc : c < 256) (l : List UInt8) : orL c l < 256 := by
  unfold orL
  split
  · rename_i b
    split
    · rename_i h
      have : (2 : Nat) ^ (b.toNat - 49) < 2 ^ 8 := Nat.pow_lt_pow_right (by omega) (by omega)
      exact Nat.or_lt_two_pow (n := 8) hc this
    · exact hc
  · exact hc
theorem orFold_lt : ∀ (l : List ByteArray) (c : Nat), c < 256 → l.foldl (fun c p => orL c p.data.toList) c < 256
  | [], _, h => h
  | _ :: l, c, h => orFold_lt l _ (orL_lt c h _)
theorem orAll_lt (s : ByteArray) : orAll s < 256 := orFold_lt _ 0 (by omega)
theorem or_all : ∀ c : Nat, c < 256 → ∀ j : Nat, j < 8 → bits .or .u8 (c : Int) (2 ^ j % 256) = ((c ||| 2 ^ j : Nat) : Int) := by decide +kernel
theorem or_one (c j : Nat) (hc : c < 256) (hj : j < 8) : bits .or .u8 (c : Int) (2 ^ j % 256) = ((c ||| 2 ^ j : Nat) : Int) := or_all c hc j hj
/-- What Parse returns. -/
def parseR (s : ByteArray) : Nat × Int := if (fmtB (orAll s)).toList == s.toList then (orAll s, 0) else (0, 3)

set_option maxHeartbeats 2000000 in
theorem parseP (w : World) (s : ByteArray) (hs : s.size ≤ 1000) (hm : Mx w) :
    Calls Tryd.prog 12 #[.string s] w fun e w' => e = .returned (.tuple #[.int .u8 (parseR s).1, .int .i64 (parseR s).2]) ∧ Below w.heap.size w w' := by
  obtain ⟨hm0, m, hm1⟩ := hm
  have HS := hide (Any.strings_Split laysSplit (by kernel_rfl) s ⟨#[45]⟩ m w (by omega) hm1 (by decide))
  clear hm1
  obtain ⟨ps, hps⟩ : ∃ ps, partsB s = ps := ⟨_, rfl⟩
  obtain ⟨n, hn⟩ : ∃ n, Lib.countB s ⟨#[45]⟩ = n := ⟨_, rfl⟩
  have hpl : ps.length = n + 1 := by rw [← hps, ← hn]; exact Lib.splitB_all _ (by decide) 0 _ s rfl
  have hnl : n ≤ s.size := by rw [← hn]; exact Lib.countB_le _ (by decide) _ s (Nat.le_refl _)
  have hps2 := hps
  unfold partsB at hps2
  rw [hn] at HS hps2
  rw [hps2] at HS
  have horA : orAll s = ps.foldl (fun c p => orL c p.data.toList) 0 := by unfold orAll; rw [hps]
  have HorA := hide horA
  have Hpl := hide hpl
  clear hps hps2 hn hpl horA
  go_enter Tryd.func12, Tryd.ntmps12
  go_wp2_with (go_at_call 20; refine HS.out.mono ?_; rintro e w1 ⟨rfl, rfl⟩)
  have hcell : ∀ k x, ps[k]? = some x → (w.alloc (.cells (ps.map Value.string).toArray (laysSplit_ren.t 9))).cell? ⟨w.heap.size, k, none⟩ = some (.string x) := fun k x hx => by
    rw [cell_block (block_new _ _) k]
    simp [hx]
  have HC := hide hcell
  clear hcell
  go_loop [4, 10] (fun c i => ∃ k : Nat, k ≤ n + 1 ∧ i = .int .i64 k ∧ c = .int .u8 ((ps.take k).foldl (fun c p => orL c p.data.toList) 0 : Nat)) (fun _ i => n + 1 - (intOf i).toNat)
  case atStart => exact ⟨0, Nat.zero_le _, rfl, rfl⟩
  case round =>
    obtain ⟨k, hk, rfl, rfl⟩ := hrel
    have hlt256 := orFold_lt (ps.take k) 0 (by omega)
    obtain ⟨c, hc⟩ : ∃ c, (ps.take k).foldl (fun c p => orL c p.data.toList) 0 = c := ⟨_, rfl⟩
    by_cases hlt : k < n + 1
    · have hkl : k < ps.length := by rw [Hpl.out]; exact hlt
      have hst : (ps.take (k + 1)).foldl (fun c p => orL c p.data.toList) 0 = orL c ps[k].data.toList := by
        rw [List.take_succ_eq_append_getElem hkl, List.foldl_append, hc]; rfl
      have hx := HC.out k ps[k] (List.getElem?_eq_getElem hkl)
      obtain ⟨p, hp⟩ : ∃ p, ps[k] = p := ⟨_, rfl⟩
      rw [hp] at hst hx
      rw [hc] at hlt256
      have Hst := hide hst
      have Hc := hide hc
      clear hst hc hp
      by_cases h1 : p.size = 1
      · have h0 : 0 < p.size := by omega
        have hs1 : ((p.size : Int) == 1) = true := by simp; omega
        have hbs : p[0].toNat < 256 := p[0].toNat_lt
        have hor : orL c p.data.toList = if 49 ≤ p[0].toNat ∧ p[0].toNat ≤ 56 then c ||| 2 ^ (p[0].toNat - 49) else c := by
          obtain ⟨b, rfl⟩ := Lib.one_byte p h1
          rfl
        have Hor := hide hor
        clear hor h1
        have hov := or_one c (p[0].toNat - 49) hlt256
        have Hov := hide hov
        clear hov
        by_cases hb1 : 49 ≤ p[0].toNat
        · by_cases hb2 : p[0].toNat ≤ 56
          · rw [Hc.out]
            go_wp2
            go_round
            case rel => exact ⟨k + 1, by omega, by go_num, by rw [Hst.out, Hor.out, if_pos ⟨hb1, hb2⟩]; exact int_eq (Hov.out (by omega))⟩
            case measure => simp [intOf]; omega
          · rw [Hc.out]
            go_wp2
            go_round
            case rel => exact ⟨k + 1, by omega, by go_num, by rw [Hst.out, Hor.out, if_neg (fun h => hb2 h.2)]⟩
            case measure => simp [intOf]; omega
        · rw [Hc.out]
          go_wp2
          go_round
          case rel => exact ⟨k + 1, by omega, by go_num, by rw [Hst.out, Hor.out, if_neg (fun h => hb1 h.1)]⟩
          case measure => simp [intOf]; omega
      · have hs1 : ((p.size : Int) == 1) = false := by simp; omega
        have hor : orL c p.data.toList = c := by
          unfold orL
          split
          · rename_i b hb
            have : p.data.toList.length = 1 := by rw [hb]; rfl
            exact absurd this h1
          · rfl
        have Hor := hide hor
        clear hor h1
        rw [Hc.out]
        go_wp2
        go_round
        case rel => exact ⟨k + 1, by omega, by go_num, by rw [Hst.out, Hor.out]⟩
        case measure => simp [intOf]; omega
    · obtain rfl : k = n + 1 := by omega
      have hall : orAll s = c := by rw [HorA.out, ← hc, List.take_of_length_le (by rw [Hpl.out]; exact Nat.le_refl _)]
      rw [hc] at hlt256
      have hF := hide (fun w1 => formatP w1 c hlt256)
      have hB0 : Below w.heap.size w (w.alloc (.cells (ps.map Value.string).toArray (laysSplit_ren.t 9))) := (Below.refl _ w).alloc (Nat.le_refl _) _
      have hpr : parseR s = if (fmtB c).toList == s.toList then (c, 0) else (0, 3) := by unfold parseR; rw [hall]
      rw [hc]
      obtain ⟨f, hf⟩ : ∃ f, fmtB c = f := ⟨_, rfl⟩
      rw [hf] at hF hpr
      clear hall hc hf
      cases heq : (f.toList == s.toList) with
      | true =>
        rw [heq, if_pos rfl] at hpr
        have Hpr := hide hpr
        have hne : (f.toList != s.toList) = false := by simp [bne, heq]
        clear hpr
        go_wp2_with (go_at_call 14; refine (hF.out _).mono ?_; rintro e w2 ⟨rfl, hb2⟩)
        go_ret2
        exact ⟨by rw [Hpr.out]; rfl, hB0.trans (hb2.mono (by simp))⟩
      | false =>
        rw [heq, if_neg (by simp)] at hpr
        have Hpr := hide hpr
        have hne : (f.toList != s.toList) = true := by simp [bne, heq]
        clear hpr
        go_wp2_with (go_at_call 14; refine (hF.out _).mono ?_; rintro e w2 ⟨rfl, hb2⟩)
        go_ret2
        exact ⟨by rw [Hpr.out]; rfl, hB0.trans (hb2.mono (by simp))⟩
end Go.Proofs.YtjgbflkjbehgaaaDoor
