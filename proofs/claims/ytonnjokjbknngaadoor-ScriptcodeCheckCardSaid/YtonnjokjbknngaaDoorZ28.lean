/- The walk of the law ScriptcodeRoundTrips. -/
import Derived.Test.YtonnjokjbknngaaDoorZ27
import Derived.Test.YtonnjokjbknngaaDoorZ19
import Derived.Test.YtonnjokjbknngaaDoorZ14
namespace Go.Proofs.YtonnjokjbknngaaDoor
open Go.RowKit Go.Lib Go.Shelf

theorem disFrom_len (L : List Ins) : ∀ (r : List Ins) (i : Nat), i + r.length ≤ 1000 → (∀ x ∈ r, 0 ≤ x.op ∧ x.op ≤ 20 ∧ -999999999 ≤ x.arg ∧ x.arg ≤ 999999999) → (disFrom L i r).length ≤ 28 * r.length + 7
  | [], i, hi, _ => by unfold disFrom; have := labL_len L i (by simpa using hi); simp; omega
  | x :: r, i, hi, h => by
    simp only [List.length_cons] at hi
    have ih := disFrom_len L r (i + 1) (by omega) (fun y hy => h y (by simp [hy]))
    obtain ⟨h1, h2, h3, h4⟩ := h x (by simp)
    have a1 := labL_len L i (by omega)
    have a2 := opW_len x.op h1 h2
    have a3 := argL_len h3 h4
    unfold disFrom
    simp only [List.length_append, List.length_cons, List.length_nil]
    omega
theorem disB_len {l : List Ins} (h : codeErr l = 0) : (disB l).length ≤ 20000 := by
  unfold codeErr at h
  have hlen : l.length ≤ 500 := by
    by_cases h1 : 500 < l.length
    · rw [if_pos h1] at h; cases h
    · omega
  rw [if_neg (by omega)] at h
  have := disFrom_len l l 0 (by omega) (fun x hx => by
    obtain ⟨k, hk⟩ := List.mem_iff_getElem?.1 hx
    obtain ⟨i1, i2, i3, i4⟩ := ins_ok_op (errFrom_ok h k x hk)
    refine ⟨i1, i2, ?_, ?_⟩
    · have : -999999999 ≤ loA x.op (0 + k) := by unfold loA; repeat' split
                                                 all_goals omega
      omega
    · have : hiA x.op l.length ≤ 999999999 := by unfold hiA; repeat' split
                                                 all_goals omega
      omega)
  unfold disB
  omega
theorem InsRow.on {w W : World} {A : Option Addr} {l : List Ins} (h : InsRow w w.heap.size A l) (hb : Below w.heap.size w W) : InsRow W W.heap.size A l := (h.below (InsAt.stays _) hb).more hb.size

set_option maxRecDepth 100000 in
set_option maxHeartbeats 2000000 in
theorem roundTripsLawP (w : World) (A : Option Addr) (c : Nat) (l : List Ins) (h : InsRow w w.heap.size A l) (hm : Mx w) (hT : Pow w) :
    Calls Tryd.prog 9 #[.slice A l.length c] w fun e w' => e = .returned (.bool true) ∧ Below w.heap.size w w' := by
  have HA := hide (fun (W : World) (hb : Below w.heap.size w W) => awakeP W (hm.below hb))
  have hrf := Below.refl w.heap.size w
  have HC := hide (checkP w A c l h)
  by_cases hz : 200 < l.length
  · obtain ⟨n, hn⟩ : ∃ n, l.length = n := ⟨_, rfl⟩
    rw [hn] at hz ⊢
    have hzI : (200 : Int) < (n : Int) := by omega
    have HA0 := hide (HA.out w hrf)
    clear HA HC hm hT h hn hz
    go_enter Tryd.func9, Tryd.ntmps9
    go_wp2_with (go_at_call 11; refine HA0.out.mono ?_; rintro e w1 ⟨rfl, hb1⟩)
    go_ret
    exact ⟨rfl, hb1⟩
  by_cases he : codeErr l = 0
  · have HD := hide (fun (W : World) (hb : Below w.heap.size w W) => disasmP W A c l (h.on hb) (hT.below hb))
    rw [he, if_pos rfl] at HD
    have HE := hide (fun (W : World) (hb : Below w.heap.size w W) => encodeP W A c l (h.on hb))
    rw [he, if_pos rfl] at HE
    rw [he] at HC
    obtain ⟨SD, hSD⟩ : ∃ s : ByteArray, (⟨(disB l).toArray⟩ : ByteArray) = s := ⟨_, rfl⟩
    have HAs := hide (fun (W : World) (hb : Below w.heap.size w W) => asmK W SD (disB l) (by rw [← hSD]) (by have := disB_len he; omega) (hm.below hb) (asm_dis he))
    obtain ⟨SE, hSE⟩ : ∃ s : ByteArray, (⟨(encFrom 0 l).toArray⟩ : ByteArray) = s := ⟨_, rfl⟩
    have hSEl : SE.data.toList = encFrom 0 l := by rw [← hSE]
    have hSEz : SE.size ≤ 100000 := by
      have h1 : SE.size = (encFrom 0 l).length := by rw [← hSEl]; rfl
      have := encFrom_len l 0
      omega
    have HDc := hide (fun (W : World) => decP W SE hSEz)
    unfold DecRet at HDc
    simp only [hSEl, dec_enc46 he] at HDc
    rw [hSD] at HD
    rw [hSE] at HE
    have Hh := hide (fun (W : World) (hb : Below w.heap.size w W) => h.on hb)
    have HSm := hide (fun (W : World) (A1 A2 : Option Addr) (c1 c2 : Nat) (h1 : InsRow W W.heap.size A1 l) (h2 : InsRow W W.heap.size A2 l) => sameP W A1 A2 c1 c2 l (by omega) h1 h2)
    obtain ⟨n, hn⟩ : ∃ n, l.length = n := ⟨_, rfl⟩
    have Hn := hide hn
    rw [hn] at HC HD HE HSm hz ⊢
    have hz' : n ≤ 200 := by omega
    clear hm hT h he hSD hSE hSEl hSEz hn hz
    go_enter Tryd.func9, Tryd.ntmps9
    go_wp2_with (first
      | (go_at_call 11; (with_reducible refine (HA.out w7 Hb7.out).mono ?_); rintro e w8 ⟨rfl, hb8⟩)
      | (go_at_call 14; (with_reducible refine (HSm.out w6 A5 A c5 c (Hr5.out.on Hs6.out) (Hh.out w6 Hb6.out)).mono ?_); rintro e w7 ⟨rfl, hb7⟩; have Hb7 := hide (Hb6.out.trans (hb7.mono Hb6.out.size)); clear hb7)
      | (go_at_call 14; (with_reducible refine (HSm.out w5 A3 A c3 c (Hr3.out.on Hs5.out) (Hh.out w5 Hb5.out)).mono ?_); rintro e w6 ⟨rfl, hb6⟩; have Hb6 := hide (Hb5.out.trans (hb6.mono Hb5.out.size)); have Hs6 := hide hb6; clear hb6)
      | (go_at_call 15; (with_reducible refine (HDc.out w4).mono ?_); rintro e w5 ⟨v5, rfl, hown5, hb5⟩; obtain ⟨A5, c5, rfl, -, hr5⟩ := InsRow.of_own hown5; rw [Hn.out]; have Hr5 := hide hr5; have Hb5 := hide (Hb4.out.trans (hb5.mono Hb4.out.size)); have Hs5 := hide (Hs4.out.trans (hb5.mono Hs4.out.size)); clear hown5 hr5 hb5)
      | (go_at_call 17; (with_reducible refine (HE.out w3 Hb3.out).mono ?_); rintro e w4 ⟨rfl, hb4⟩; have Hb4 := hide (Hb3.out.trans (hb4.mono Hb3.out.size)); have Hs4 := hide hb4; clear hb4)
      | (go_at_call 12; (with_reducible refine (HAs.out w2 Hb2.out).mono ?_); rintro e w3 ⟨v3, rfl, hown3, hb3⟩; obtain ⟨A3, c3, rfl, -, hr3⟩ := InsRow.of_own hown3; rw [Hn.out]; have Hr3 := hide hr3; have Hb3 := hide (Hb2.out.trans (hb3.mono Hb2.out.size)); clear hown3 hr3 hb3)
      | (go_at_call 23; (with_reducible refine (HD.out w1 Hb1.out).mono ?_); rintro e w2 ⟨rfl, hb2⟩; have Hb2 := hide (Hb1.out.trans (hb2.mono Hb1.out.size)); clear hb2)
      | (go_at_call 22; (with_reducible refine HC.out.mono ?_); rintro e w1 ⟨rfl, hb1⟩; have Hb1 := hide hb1; clear hb1)
      | fail)
    go_ret
    exact ⟨rfl, Hb7.out.trans (hb8.mono Hb7.out.size)⟩
  · obtain ⟨n, hn⟩ : ∃ n, l.length = n := ⟨_, rfl⟩
    obtain ⟨E, hE⟩ : ∃ e, codeErr l = e := ⟨_, rfl⟩
    rw [hE] at HC he
    rw [hn] at HC hz ⊢
    have hq : (E != 0) = true := by simpa using he
    have hz' : n ≤ 200 := by omega
    clear hm hT h he hn hE hz
    go_enter Tryd.func9, Tryd.ntmps9
    go_wp2_with (first
      | (go_at_call 11; (with_reducible refine (HA.out w1 Hb1.out).mono ?_); rintro e w8 ⟨rfl, hb8⟩)
      | (go_at_call 22; (with_reducible refine HC.out.mono ?_); rintro e w1 ⟨rfl, hb1⟩; have Hb1 := hide hb1; clear hb1)
      | fail)
    go_ret
    exact ⟨rfl, Hb1.out.trans (hb8.mono Hb1.out.size)⟩
end Go.Proofs.YtonnjokjbknngaaDoor
