/- narratorref14.Encode, a character. -/
import Derived.Test.YtpilpchijmappaaDoorH14
namespace Go.Proofs.YtpilpchijmappaaDoor
open Go.RowKit

set_option maxRecDepth 100000 in
set_option maxHeartbeats 2000000 in
theorem encode14C (w : World) (k : Key) (m : Md) (hok : keyErr k = 0) (g0 : k.nm = []) :
    Calls Tryd.prog 13 #[k.val, m.val] w fun e w' => e = .returned (.tuple #[.string ⟨(keyEnc m.app m.nl k).toArray⟩, .int .i64 0]) ∧ Below w.heap.size w w' := by
  obtain ⟨W0, hW0, hbox, hs0, hk, hm⟩ := boxKM w k m
  have HK := hide (fun w1 (hb : Below W0.heap.size W0 w1) => And.intro (hk.below hb (by omega)).cells (hm.below hb (by omega)).cells)
  have HC := hide (fun w1 => check14 w1 k)
  rw [hok] at HC
  have HM := hide (fun w1 => number14 w1 k)
  obtain ⟨N, hN⟩ : ∃ N, modNum k.control k.alt k.shift = N := ⟨_, rfl⟩
  rw [hN] at HM
  have HL := hide (fun w1 => letter14 w1 k.name)
  have HTl := hide (fun w1 => tilde14 w1 k.name)
  have hch : charB k = true := by
    rw [keyErr_char g0] at hok
    split at hok
    · assumption
    · cases hok
  have HT := keyEnc_char (app := m.app) (nl := m.nl) g0
  obtain ⟨R, hR⟩ : ∃ R, keyEnc m.app m.nl k = R := ⟨_, rfl⟩
  rw [hR] at HT ⊢
  have hz := encChar_pos k
  obtain ⟨⟨k0, k1, k2, k3, k4⟩, m0, m1, m2, m3, m4, m5, m6, m7, m8, m9, m10⟩ := HK.out W0 (Below.refl _ _)
  have Hbox := hide hbox
  have Hs0 := hide hs0
  obtain ⟨nm, r, c, a, s⟩ := k
  obtain ⟨ins, nl, app, org, wrp, vis, alt, con, s0, s1, sh⟩ := m
  have hW0s : W0.heap.size = w.heap.size + 1 + 1 := hs0
  clear hbox hk hm hs0 hN hok hR
  unfold charB at hch
  dsimp only [Key.nm] at *
  obtain rfl := ba_of g0
  rw [show letB (⟨[].toArray⟩ : ByteArray).data.toList = ⟨#[]⟩ from rfl] at HL
  rw [show tilN (⟨[].toArray⟩ : ByteArray).data.toList = 0 from rfl] at HTl
  unfold Key.val at HC HM ⊢
  unfold Md.val
  dsimp only at HC HM ⊢
  have HTT := hide HT
  clear HT g0
  have HOwn := hide (fun (W : World) (hb : Below W0.heap.size W0 W) (x : Int) => own_lit W w.heap.size 5 1 1 #[.int .u8 x] (by have := hb.size; omega) (by omega) rfl)
  clear hW0s
  subst hW0
  cases c with
  | true =>
    simp only [if_true, Bool.and_eq_true, decide_eq_true_iff] at hch
    obtain ⟨-, ⟨⟨h1, h2⟩, -⟩, -⟩ := hch
    obtain ⟨n, rfl⟩ : ∃ n : Nat, r = 96 + (n : Int) := ⟨(r - 96).toNat, by omega⟩
    have HR := hide (show encChar (96 + (n : Int)) true = [n.toUInt8] by unfold encChar; rw [if_pos rfl, show (96 + (n : Int) - 96).toNat = n by omega])
    have hn1 : 1 ≤ n := by omega
    have hn2 : n ≤ 26 := by omega
    have HNE := hide (show [Value.int .u8 (96 + (n : Int) - 97 + 1)] = ([n.toUInt8].map fun b => Value.int .u8 b.toNat) by
      have : n.toUInt8.toNat = n := by simp [Nat.toUInt8]; omega
      simp [this]; omega)
    have hcat : (⟨#[27]⟩ : ByteArray).size + (⟨[n.toUInt8].toArray⟩ : ByteArray).size ≤ 9223372036854775807 := by
      have h1 : (⟨#[27]⟩ : ByteArray).size = 1 := rfl
      have h2 : (⟨[n.toUInt8].toArray⟩ : ByteArray).size = 1 := rfl
      omega
    cases a
    all_goals
      go_enter Tryd.func13, Tryd.ntmps13
      go_wp2_with (first
        | (go_at_call 15; refine (HC.out _).mono ?_; rintro e w1 ⟨rfl, hb1⟩; obtain ⟨⟨x0, x1, x2, x3, x4⟩, y0, y1, y2, y3, y4, y5, y6, y7, y8, y9, y10⟩ := HK.out w1 hb1)
        | (go_at_call 21; refine (HM.out _).mono ?_; rintro e w2 ⟨rfl, hb2'⟩; have hb2 := hb1.trans (hb2'.mono hb1.size); obtain ⟨⟨z0, z1, z2, z3, z4⟩, v0, v1, v2, v3, v4, v5, v6, v7, v8, v9, v10⟩ := HK.out w2 hb2)
        | (go_at_call 22; refine (HL.out _).mono ?_; rintro e w3 ⟨rfl, hb3'⟩; have hb3 := hb2.trans (hb3'.mono hb2.size); obtain ⟨⟨a0, a1, a2, a3, a4⟩, b0, b1, b2, b3, b4, b5, b6, b7, b8, b9, b10⟩ := HK.out w3 hb3)
        | (go_at_call 24; refine (HTl.out _).mono ?_; rintro e w4 ⟨rfl, hb4'⟩; have hb4 := hb3.trans (hb4'.mono hb3.size); obtain ⟨⟨c0, c1, c2, c3, c4⟩, d0, d1, d2, d3, d4, d5, d6, d7, d8, d9, d10⟩ := HK.out w4 hb4; have HO := hide (own_eq (HOwn.out w4 hb4 (96 + (n : Int) - 97 + 1)) (show 1 = [n.toUInt8].length from rfl) HNE.out); have hb5 := hb4.alloc hb4.size (.cells #[.int .u8 (96 + (n : Int) - 97 + 1)] 5); obtain ⟨⟨f0, f1, f2, f3, f4⟩, g0, g1, g2, g3, g4, g5, g6, g7, g8, g9, g10⟩ := HK.out _ hb5)
        | (refine wpList_str _ (.tmp 107) 36 9 5 rfl rfl Tryd.underlying36 Tryd.underlying5 Tryd.underlying9 w.heap.size _ [n.toUInt8] rfl HO.out ?_)
        | fail)
      go_ret2
      exact ⟨congrArg (fun x => Ending.returned (.tuple #[Value.string x, .int .i64 0])) (by rw [HTT.out, HR.out]; exact ba_ext rfl), Hbox.out.trans (hb5.mono Hbox.out.size)⟩
  | false =>
    simp only [Bool.false_eq_true, if_false, Bool.and_eq_true] at hch
    have hg : GoodR r := by have := hch.2; unfold printB at this; simp at this; exact this.1
    unfold GoodR at hg
    have HR := hide (show encChar r false = encs [r] by unfold encChar encs; rw [if_neg (by simp)]; simp)
    have hz2 : (encs [r]).length ≤ 4 := by rw [← HR.out]; exact hz.2
    obtain ⟨S, hS⟩ : ∃ S : ByteArray, (⟨(encs [r]).toArray⟩ : ByteArray) = S := ⟨_, rfl⟩
    have hSz : S.size ≤ 4 := by rw [← hS]; simpa [ByteArray.size] using hz2
    have HS := hide (show encs [r] = S.data.toList by rw [← hS])
    have HS2 := hide hS
    have hcat : (⟨#[27]⟩ : ByteArray).size + S.size ≤ 9223372036854775807 := by have : (⟨#[27]⟩ : ByteArray).size = 1 := rfl; omega
    have hcat1 : 1 + S.size ≤ 9223372036854775807 := by omega
    have hr1 : -2147483648 ≤ r ∧ r ≤ 2147483647 := by omega
    have HE := hide (fun (W : World) (A : Option Addr) (cc : Nat) (h : RnRow W W.heap.size A [r]) => (show Calls Tryd.prog 25 #[.slice A 1 cc] W fun e w' => e = .returned (.string S) ∧ Below W.heap.size W w' from by
      have := encode01 W A cc [r] h (by simp) (fun x hx => by rw [List.mem_singleton] at hx; rw [hx]; exact hr1)
      rw [hS] at this
      exact this))
    clear hch hg hz hz2 hS hr1 HOwn
    cases a
    all_goals
      go_enter Tryd.func13, Tryd.ntmps13
      go_wp2_with (first
        | (go_at_call 15; refine (HC.out _).mono ?_; rintro e w1 ⟨rfl, hb1⟩; obtain ⟨⟨x0, x1, x2, x3, x4⟩, y0, y1, y2, y3, y4, y5, y6, y7, y8, y9, y10⟩ := HK.out w1 hb1)
        | (go_at_call 21; refine (HM.out _).mono ?_; rintro e w2 ⟨rfl, hb2'⟩; have hb2 := hb1.trans (hb2'.mono hb1.size); obtain ⟨⟨z0, z1, z2, z3, z4⟩, v0, v1, v2, v3, v4, v5, v6, v7, v8, v9, v10⟩ := HK.out w2 hb2)
        | (go_at_call 22; refine (HL.out _).mono ?_; rintro e w3 ⟨rfl, hb3'⟩; have hb3 := hb2.trans (hb3'.mono hb2.size); obtain ⟨⟨a0, a1, a2, a3, a4⟩, b0, b1, b2, b3, b4, b5, b6, b7, b8, b9, b10⟩ := HK.out w3 hb3)
        | (go_at_call 24; refine (HTl.out _).mono ?_; rintro e w4 ⟨rfl, hb4'⟩; have hb4 := hb3.trans (hb4'.mono hb3.size); obtain ⟨⟨c0, c1, c2, c3, c4⟩, d0, d1, d2, d3, d4, d5, d6, d7, d8, d9, d10⟩ := HK.out w4 hb4; obtain ⟨A5, c5, hv5, -, hsl⟩ := Sl.of_own1 (f := Value.int .i32) (l := [r]) (own_lit w4 w4.heap.size 21 1 1 #[.int .i32 r] (Nat.le_refl _) (by omega) rfl); cases hv5; have hb5 := hb4.alloc hb4.size (.cells #[.int .i32 r] 21); have HE2 := hide (HE.out _ _ 1 hsl); clear hsl)
        | (go_at_call 25; refine HE2.out.mono ?_; rintro e w6 ⟨rfl, hb6'⟩; have hb6 := hb5.trans (hb6'.mono hb5.size); obtain ⟨⟨f0, f1, f2, f3, f4⟩, g0, g1, g2, g3, g4, g5, g6, g7, g8, g9, g10⟩ := HK.out w6 hb6)
        | fail)
      go_ret2
      exact ⟨congrArg (fun x => Ending.returned (.tuple #[Value.string x, .int .i64 0])) (by rw [HTT.out, HR.out, HS.out]; exact ba_ext (by simp)), Hbox.out.trans (hb6.mono Hbox.out.size)⟩
end Go.Proofs.YtpilpchijmappaaDoor
