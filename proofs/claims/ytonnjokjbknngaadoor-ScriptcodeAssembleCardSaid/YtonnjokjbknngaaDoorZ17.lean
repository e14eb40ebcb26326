/- The walk of the law ScriptcodeDecode. -/
import Derived.Test.YtonnjokjbknngaaDoorZ12
import Derived.Test.YtonnjokjbknngaaDoorZ16
namespace Go.Proofs.YtonnjokjbknngaaDoor
open Go.RowKit Go.Lib Go.Shelf

theorem decG_short : ∀ (f : Nat) (s : List UInt8) (acc : List Ins), acc.length ≤ 500 → (decG f s acc).2.length ≤ 500
  | 0, _, _, _ => by simp [decG]
  | f + 1, [], acc, h => by
    unfold decG
    split
    · exact h
    · simp
  | f + 1, b :: t, acc, h => by
    unfold decG
    split
    · simp
    · split
      · simp
      · split
        · simp
        · exact decG_short f _ _ (by simp; omega)
theorem decC_short (s : List UInt8) : (decC s).2.length ≤ 500 := decG_short _ _ _ (by simp)

set_option maxRecDepth 100000 in
set_option maxHeartbeats 1000000 in
theorem decodeLawP (w : World) (s : ByteArray) (hm : Mx w) : Calls Tryd.prog 4 #[.string s] w fun e w' => e = .returned (.bool true) ∧ Below w.heap.size w w' := by
  have HA := hide (fun (W : World) (hb : Below w.heap.size w W) => awakeP W (hm.below hb))
  have hrf := Below.refl w.heap.size w
  by_cases hz : 1000 < s.size
  · have hzI : (1000 : Int) < (s.size : Int) := by omega
    have HA0 := hide (HA.out w hrf)
    clear HA hm hz
    go_enter Tryd.func4, Tryd.ntmps4
    go_wp2_with (go_at_call 11; refine HA0.out.mono ?_; rintro e w1 ⟨rfl, hb1⟩)
    go_ret
    exact ⟨rfl, hb1⟩
  have hz2 : s.size ≤ 1000 := by omega
  have hD := decP w s (by omega)
  have hR := fun W => decR W s (by omega)
  have hls := decC_short s.data.toList
  obtain ⟨E, l, hEl⟩ : ∃ E l, decC s.data.toList = (E, l) := ⟨_, _, rfl⟩
  unfold DecRet at hD hR
  rw [hEl] at hD hls
  simp only [hEl] at hR
  dsimp only at hD hls
  obtain ⟨n, hn⟩ : ∃ n, l.length = n := ⟨_, rfl⟩
  have HS := hide (fun (W : World) (A A' : Option Addr) (c c' : Nat) (h : InsRow W W.heap.size A l) (h' : InsRow W W.heap.size A' l) => sameP W A A' c c' l (by omega) h h')
  rw [hn] at HS
  have HD := hide hD
  have HR := hide hR
  have Hn := hide hn
  clear hm hz hD hR hEl hn hls
  go_enter Tryd.func4, Tryd.ntmps4
  go_wp2_with (first
    | (go_at_call 15; (with_reducible refine HD.out.mono ?_); rintro e w1 ⟨v, rfl, hown, hb1⟩; obtain ⟨A1, c1, rfl, -, hr1⟩ := InsRow.of_own hown; rw [Hn.out]; have Hr1 := hide hr1; have Hb1 := hide hb1; clear hown hr1 hb1)
    | (go_at_call 16; (with_reducible refine (HR.out w1).mono ?_); rintro e w2 ⟨v2, rfl, hown2, hb2⟩; obtain ⟨A2, c2, rfl, -, hr2⟩ := InsRow.of_own hown2; rw [Hn.out]; have Hr2 := hide hr2; have Hb2 := hide hb2; clear hown2 hr2 hb2)
    | (go_at_call 14; (with_reducible refine (HS.out w2 A1 A2 c1 c2 ((Hr1.out.below (InsAt.stays _) Hb2.out).more Hb2.out.size) Hr2.out).mono ?_); rintro e w3 ⟨rfl, hb3⟩; have Hb3 := hide ((Hb1.out.trans (Hb2.out.mono Hb1.out.size)).trans (hb3.mono (Nat.le_trans Hb1.out.size Hb2.out.size))); clear hb3)
    | (go_at_call 11; refine (HA.out _ Hb3.out).mono ?_; rintro e w4 ⟨rfl, hb4⟩)
    | fail)
  go_ret
  exact ⟨rfl, Hb3.out.trans (hb4.mono Hb3.out.size)⟩
end Go.Proofs.YtonnjokjbknngaaDoor
