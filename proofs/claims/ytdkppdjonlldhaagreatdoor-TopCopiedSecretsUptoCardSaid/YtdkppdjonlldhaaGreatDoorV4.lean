/- narratorref01.Encode: the bytes of characters. -/
import Derived.Test.YtdkppdjonlldhaaGreatDoorV3
import Derived.Lib.MapLaws
namespace Go.Proofs.YtdkppdjonlldhaaGreatDoor
open Go.RowKit

abbrev RnRow (w : World) (B : Nat) (A : Option Addr) (l : List Int) : Prop := Sl (One (Value.int .i32)) 1 w B A l
theorem el_rune : ElemOf Tryz.prog 83 21 (.int .i32 0) 1 4 := ⟨Tryz.underlying83, by kernel_rfl, rfl, by decide, by decide⟩

def encs (l : List Int) : List UInt8 := l.flatMap Lib.encodeRune
theorem encs_snoc (l : List Int) (k : Nat) (hk : k < l.length) : encs (l.take (k + 1)) = encs (l.take k) ++ Lib.encodeRune l[k] := by
  unfold encs; rw [List.take_succ_eq_append_getElem hk, List.flatMap_append]; simp
theorem enc_len (r : Int) : (Lib.encodeRune r).length ≤ 4 := by unfold Lib.encodeRune; rw [List.length_map]; exact (Lib.encodeRuneZ_length r).2
theorem encs_len (l : List Int) : (encs l).length ≤ 4 * l.length := by
  unfold encs
  induction l with
  | nil => simp
  | cons x l ih => have := enc_len x; simp only [List.flatMap_cons, List.length_append, List.length_cons]; omega
theorem enc_cells (r : Int) : (Lib.encodeRune r).map byteV = (Lib.encodeRuneZ r).map (Value.int .u8) := by
  unfold Lib.encodeRune byteV
  rw [List.map_map]
  refine List.map_congr_left fun x hx => ?_
  obtain ⟨h0, h1⟩ := Lib.encodeRuneZ_byte r x hx
  simp only [Function.comp_apply]
  congr 1
  have : x.toNat < 256 := by omega
  simp [Nat.toUInt8, UInt8.toNat_ofNat', Nat.mod_eq_of_lt this]
  omega

theorem encs_step {w' : World} {B : Nat} {v' : Value} {e : TypeId} {l : List Int} {k n m : Nat} (hk : k < l.length) {news : List Value} (hnews : news = (Lib.encodeRuneZ l[k]).map (Value.int .u8)) (hn : n = (encs (l.take k)).length) (hm : m = news.length)
    (h : w'.ownsRow B e 1 v' (n + m) ((encs (l.take k)).map byteV ++ news)) : w'.ownsRow B e 1 v' (encs (l.take (k + 1))).length ((encs (l.take (k + 1))).map byteV) := by
  rw [encs_snoc l k hk, List.map_append, enc_cells, ← hnews, List.length_append]
  have : (Lib.encodeRune l[k]).length = m := by rw [hm, hnews, List.length_map]; unfold Lib.encodeRune; rw [List.length_map]
  rw [this, ← hn]
  exact h

set_option maxRecDepth 100000 in
set_option maxHeartbeats 1000000 in
theorem encode01 (w : World) (A : Option Addr) (c : Nat) (l : List Int) (h : RnRow w w.heap.size A l) (hl : l.length ≤ 8000000) (hr : ∀ r ∈ l, -2147483648 ≤ r ∧ r ≤ 2147483647) :
    Calls Tryz.prog 66 #[.slice A l.length c] w fun e w' => e = .returned (.string ⟨(encs l).toArray⟩) ∧ Below w.heap.size w w' := by
  have HR := hide hr
  have HH := hide h
  clear hr h
  go_enter Tryz.func66, Tryz.ntmps66
  go_wp2
  go_loopw [3, 4] (fun v i wr => ∃ k : Nat, k ≤ l.length ∧ i = .int .i64 k ∧ wr.ownsRow w.heap.size 5 1 v (encs (l.take k)).length ((encs (l.take k)).map byteV) ∧ Below w.heap.size w wr) (fun _ i _ => l.length - (intOf i).toNat)
  case atStart => exact ⟨0, Nat.zero_le _, rfl, by simpa [encs] using own_lit w w.heap.size 5 1 0 #[] (Nat.le_refl _) (by omega) rfl, (Below.refl _ _).alloc (Nat.le_refl _) _⟩
  case round =>
    obtain ⟨k, hk, rfl, hown, hbel⟩ := hrel
    by_cases hlt : k < l.length
    · obtain ⟨b, off, rfl, hb, hc⟩ := HH.out.get1 hlt
      have hcell := (hbel.cell (p := ⟨b, off + k, none⟩) hb).trans hc
      obtain ⟨r1, r2⟩ := HR.out _ (List.getElem_mem hlt)
      have hlen := encs_len (l.take k)
      rw [List.length_take] at hlen
      have hlen2 : (encs (l.take k)).length ≤ 32000000 := by omega
      clear hlen hc
      have hbase := hbel.size
      by_cases hbad : l[k] < 0 ∨ (55296 ≤ l[k] ∧ l[k] ≤ 57343) ∨ 1114111 < l[k]
      · have E := hide (Lib.encodeRuneZ_bad hbad)
        rcases hbad with hbad | ⟨hbad1, hbad2⟩ | hbad
        all_goals
          go_wp2_with (at_builtin; refine wpList_app _ (.tmp 77) (.tmp 91) 73 rfl rfl el_byte w.heap.size _ _ _ rfl hown hbase _ 3 3 _ _ rfl (by first | rfl | simp) rfl (by simp [Value.oneCell']) (by omega) ?_; intro v' w1 hown1 hg1)
          go_roundw
          case rel => exact ⟨k + 1, by omega, by go_num, encs_step hlt (by rw [E.out]; rfl) rfl rfl hown1, below_own hbel hown hg1 (Nat.le_refl _) hbase⟩
          case measure => simp [intOf]; omega
      · rcases (show (0 ≤ l[k] ∧ l[k] ≤ 127) ∨ (128 ≤ l[k] ∧ l[k] ≤ 2047) ∨ ((2048 ≤ l[k] ∧ l[k] < 55296) ∨ (57343 < l[k] ∧ l[k] ≤ 65535)) ∨ (65536 ≤ l[k] ∧ l[k] ≤ 1114111) by omega) with ⟨g1, g2⟩ | ⟨g1, g2⟩ | g | ⟨g1, g2⟩
        · have E := hide (Lib.encodeRuneZ_one g1 g2)
          go_wp2_with (at_builtin; refine wpList_app _ (.tmp 55) (.tmp 58) 73 rfl rfl el_byte w.heap.size _ _ _ rfl hown hbase _ 1 1 _ _ rfl (by first | rfl | simp) rfl (by simp [Value.oneCell']) (by omega) ?_; intro v' w1 hown1 hg1)
          go_roundw
          case rel => exact ⟨k + 1, by omega, by go_num, encs_step hlt (by rw [E.out]; rfl) rfl rfl hown1, below_own hbel hown hg1 (Nat.le_refl _) hbase⟩
          case measure => simp [intOf]; omega
        · have E := hide (Lib.encodeRuneZ_two g1 g2)
          go_wp2_with (at_builtin; refine wpList_app _ (.tmp 63) (.tmp 72) 73 rfl rfl el_byte w.heap.size _ _ _ rfl hown hbase _ 2 2 _ _ rfl (by first | rfl | simp) rfl (by simp [Value.oneCell']) (by omega) ?_; intro v' w1 hown1 hg1)
          go_roundw
          case rel => exact ⟨k + 1, by omega, by go_num, encs_step hlt (by rw [E.out]; rfl) rfl rfl hown1, below_own hbel hown hg1 (Nat.le_refl _) hbase⟩
          case measure => simp [intOf]; omega
        · have E := hide (Lib.encodeRuneZ_three g)
          rcases g with ⟨g1, g2⟩ | ⟨g1, g2⟩
          all_goals
            go_wp2_with (at_builtin; refine wpList_app _ (.tmp 77) (.tmp 91) 73 rfl rfl el_byte w.heap.size _ _ _ rfl hown hbase _ 3 3 _ _ rfl (by first | rfl | simp) rfl (by simp [Value.oneCell']) (by omega) ?_; intro v' w1 hown1 hg1)
            go_roundw
            case rel => exact ⟨k + 1, by omega, by go_num, encs_step hlt (by rw [E.out]; rfl) rfl rfl hown1, below_own hbel hown hg1 (Nat.le_refl _) hbase⟩
            case measure => simp [intOf]; omega
        · have E := hide (Lib.encodeRuneZ_four g1 g2)
          go_wp2_with (at_builtin; refine wpList_app _ (.tmp 31) (.tmp 50) 73 rfl rfl el_byte w.heap.size _ _ _ rfl hown hbase _ 4 4 _ _ rfl (by first | rfl | simp) rfl (by simp [Value.oneCell']) (by omega) ?_; intro v' w1 hown1 hg1)
          go_roundw
          case rel => exact ⟨k + 1, by omega, by go_num, encs_step hlt (by rw [E.out]; rfl) rfl rfl hown1, below_own hbel hown hg1 (Nat.le_refl _) hbase⟩
          case measure => simp [intOf]; omega
    · have e0 : l.take k = l := List.take_of_length_le (by omega)
      go_wp2_with (refine wpList_str _ (.tmp 93) 73 9 5 rfl rfl Tryz.underlying73 Tryz.underlying5 Tryz.underlying9 w.heap.size _ (encs (l.take k)) rfl hown ?_)
      go_ret
      exact ⟨rfl, hbel⟩
end Go.Proofs.YtdkppdjonlldhaaGreatDoor
