/- narratorref45.bare. -/
import Derived.Test.YtmloijhdibicdaaDoorApp2
import Derived.Lib.TrimByte
namespace Go.Proofs.YtmloijhdibicdaaDoor
open Go.RowKit

theorem bare_last (t : ByteArray) (m : Nat) (hm : t.size = m + 1) (h : m < t.size) : t.data.toList = t.data.toList.take m ++ [t[m]] := by
  have hl : t.data.toList.length = m + 1 := hm
  have : t.data.toList.take (m + 1) = t.data.toList := List.take_of_length_le (by omega)
  rw [List.take_succ_eq_append_getElem (by omega)] at this
  exact this.symm
theorem bare_drop (t : ByteArray) (m : Nat) (hm : t.size = m + 1) (h : m < t.size) (hc : t[m] = 32) : Lib.trimRightB (t.extract 0 m).data.toList 32 = Lib.trimRightB t.data.toList 32 := by
  rw [Lib.extract_upto]
  conv => rhs; rw [bare_last t m hm h, hc]
  unfold Lib.trimRightB
  rw [List.reverse_append]
  rfl
theorem bare_stop (t : ByteArray) (m : Nat) (hm : t.size = m + 1) (h : m < t.size) (hc : t[m] ≠ 32) : Lib.trimRightB t.data.toList 32 = t.data.toList := by
  conv => lhs; rw [bare_last t m hm h]
  unfold Lib.trimRightB
  rw [List.reverse_append]
  show (List.dropWhile _ (t[m] :: (List.take m t.data.toList).reverse)).reverse = _
  rw [List.dropWhile_cons, if_neg (by simp [hc]), List.reverse_cons, List.reverse_reverse, ← bare_last t m hm h]
theorem bare_size1 (t : ByteArray) (m : Nat) (h : m < t.size) : (t.extract 0 m).size < t.size := by rw [ByteArray.size_extract]; omega
theorem bare_size (t : ByteArray) (m : Nat) (h : m < t.size) : (t.extract 0 m).size ≤ t.size := Nat.le_of_lt (bare_size1 t m h)
theorem cutUp (s : ByteArray) (j : Nat) (h : j ≤ s.size) (w : World) : (Instr.slice 9 (.string s) none (some (.int .i64 (j : Int))) none).run Tryd.prog w = .ok (.string (s.extract 0 j)) w := by
  have := run_slice_string_to_if (P := Tryd.prog) (w := w) 9 s .i64 (j : Int) Tryd.underlying9
  rw [this]
  simp [h]

set_option maxRecDepth 100000 in
set_option maxHeartbeats 400000 in
theorem bareP (w : World) (s : ByteArray) (hs : s.size ≤ 1000000) : Calls Tryd.prog 63 #[.string s] w fun e w' => e = .returned (.string ⟨(Lib.trimRightB s.data.toList 32).toArray⟩) ∧ w = w' := by
  obtain ⟨R, hR⟩ : ∃ R, Lib.trimRightB s.data.toList 32 = R := ⟨_, rfl⟩
  rw [hR]
  have HR := hide hR
  clear hR
  go_enter Tryd.func63, Tryd.ntmps63
  go_wp2
  go_loop [0] (fun v => ∃ t : ByteArray, v = .string t ∧ t.size ≤ 1000000 ∧ Lib.trimRightB t.data.toList 32 = R) (fun v => Lib.strSize v)
  case atStart => exact ⟨s, rfl, hs, HR.out⟩
  case round =>
    obtain ⟨t, rfl, hz, ht⟩ := hrel
    have HT := hide ht
    clear ht
    by_cases h0 : t.size = 0
    · have hE := hide (show t = ⟨R.toArray⟩ by rw [← HT.out]; rcases t with ⟨⟨l⟩⟩; have : l = [] := List.eq_nil_of_length_eq_zero h0; subst this; rfl)
      have hn : ¬ (0 : Int) < (t.size : Int) := by omega
      clear h0
      go_wp2
      go_ret
      exact ⟨congrArg (fun x => Ending.returned (Value.string x)) hE.out, rfl⟩
    · obtain ⟨m, hm⟩ : ∃ m, t.size = m + 1 := ⟨t.size - 1, by omega⟩
      have hlt : m < t.size := by omega
      have hix : (t.size : Int) - 1 = (m : Int) := by omega
      have hpos : (0 : Int) < (t.size : Int) := by omega
      have hcut := cutUp t m (by omega)
      have HM := hide hm
      clear hm h0
      by_cases hc : t[m] = 32
      · have hc8 : ((t[m].toNat : Int) == 32) = true := by rw [hc]; rfl
        have HD := hide (bare_drop t m HM.out hlt hc)
        clear hc
        go_wp2
        go_round
        case rel => exact ⟨_, rfl, Nat.le_trans (bare_size t m hlt) hz, by rw [HD.out, HT.out]⟩
        case measure => rw [Lib.strSize_string, Lib.strSize_string]; have := bare_size1 t m hlt; omega
      · have hc8 : ((t[m].toNat : Int) == 32) = false := by simp; intro h; apply hc; exact UInt8.toNat_inj.1 (by simpa using (by omega : t[m].toNat = 32))
        have HD := hide (bare_stop t m HM.out hlt hc)
        clear hc
        go_wp2
        go_ret
        exact ⟨congrArg (fun x => Ending.returned (Value.string x)) (by rw [← HT.out, HD.out]), rfl⟩
end Go.Proofs.YtmloijhdibicdaaDoor
