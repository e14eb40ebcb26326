/- keyinput.bare. -/
import Derived.Test.YtpilpchijmappaaDoorH5
namespace Go.Proofs.YtpilpchijmappaaDoor
open Go.RowKit

/-- The bytes of a key that has neither a letter nor a number, without Alt. -/
def bareS (nl : Bool) (k : Key) : List UInt8 :=
  if k.nm = [] then encChar k.rune k.control else if k.nm = nTab then [9] else if k.nm = nEnter then (if nl then [13, 10] else [13]) else if k.nm = nEscape then [27] else if k.nm = nBack then [127] else []
theorem utf8_enc {r : Int} (h : GoodR r) : Utf8.encode r = ⟨(Lib.encodeRune r).toArray⟩ := by
  unfold GoodR at h
  have hv : Utf8.valid r = true := by unfold Utf8.valid; simp; omega
  unfold Utf8.encode Lib.encodeRune
  simp only [hv, if_true]
  rcases (show (0 ≤ r ∧ r ≤ 127) ∨ (128 ≤ r ∧ r ≤ 2047) ∨ ((2048 ≤ r ∧ r < 55296) ∨ (57343 < r ∧ r ≤ 65535)) ∨ (65536 ≤ r ∧ r ≤ 1114111) by omega) with ⟨g1, g2⟩ | ⟨g1, g2⟩ | g | ⟨g1, g2⟩
  · rw [if_pos (by omega), Lib.encodeRuneZ_one g1 g2]
    simp [Nat.toUInt8]
  · rw [if_neg (by omega), if_pos (by omega), Lib.encodeRuneZ_two g1 g2]
    have e1 : (192 + r / 64).toNat = 192 + r.toNat / 64 := by omega
    have e2 : (128 + r % 64).toNat = 128 + r.toNat % 64 := by omega
    simp [e1, e2, Nat.toUInt8]
  · rw [if_neg (by omega), if_neg (by omega), if_pos (by omega), Lib.encodeRuneZ_three g]
    have e1 : (224 + r / 4096).toNat = 224 + r.toNat / 4096 := by omega
    have e2 : (128 + r / 64 % 64).toNat = 128 + r.toNat / 64 % 64 := by omega
    have e3 : (128 + r % 64).toNat = 128 + r.toNat % 64 := by omega
    simp [e1, e2, e3, Nat.toUInt8]
  · rw [if_neg (by omega), if_neg (by omega), if_neg (by omega), Lib.encodeRuneZ_four g1 g2]
    have e1 : (240 + r / 262144).toNat = 240 + r.toNat / 262144 := by omega
    have e2 : (128 + r / 4096 % 64).toNat = 128 + r.toNat / 4096 % 64 := by omega
    have e3 : (128 + r / 64 % 64).toNat = 128 + r.toNat / 64 % 64 := by omega
    have e4 : (128 + r % 64).toNat = 128 + r.toNat % 64 := by omega
    simp [e1, e2, e3, e4, Nat.toUInt8]

set_option maxRecDepth 100000 in
set_option maxHeartbeats 1000000 in
theorem bareP (w : World) (k : Key) (m : Md) (hok : keyErr k = 0) : Calls Tryd.prog 19 #[k.val, m.val] w fun e w' => e = .returned (.string ⟨(bareS m.nl k).toArray⟩) ∧ Below w.heap.size w w' := by
  obtain ⟨W0, hW0, hbox, hs0, hk, hm⟩ := boxKM w k m
  obtain ⟨k0, k1, k2, k3, k4⟩ := hk.cells
  obtain ⟨m0, m1, m2, m3, m4, m5, m6, m7, m8, m9, m10⟩ := hm.cells
  have Hbox := hide hbox
  obtain ⟨nm, r, c, a, s⟩ := k
  obtain ⟨ins, nl, app, org, wrp, vis, alt, con, z0, z1, sh⟩ := m
  have HOwn := hide (fun (x : Int) => (show (W0.alloc (.cells #[.int .u8 x] 5)).ownsRow w.heap.size 5 1 (.slice (some ⟨w.heap.size + 1 + 1, 0, none⟩) 1 1) 1 [.int .u8 x] by have := own_lit W0 w.heap.size 5 1 1 #[.int .u8 x] (by omega) (by omega) rfl; rw [hs0] at this; exact this))
  have HBx := hide (fun (x : Int) => (Below.refl w.heap.size w).trans (hbox.alloc (by omega) (.cells #[.int .u8 x] 5)))
  clear hbox hk hm hs0
  subst hW0
  unfold Key.val
  unfold Md.val
  have Hd := hide (show bareS nl ⟨nm, r, c, a, s⟩ = (if nm.data.toList = [] then encChar r c else if nm.data.toList = nTab then [9] else if nm.data.toList = nEnter then (if nl then [13, 10] else [13]) else if nm.data.toList = nEscape then [27] else if nm.data.toList = nBack then [127] else []) from rfl)
  dsimp only [Key.nm] at *
  obtain ⟨R, hR⟩ : ∃ R, bareS nl ⟨nm, r, c, a, s⟩ = R := ⟨_, rfl⟩
  rw [hR] at Hd ⊢
  clear hR
  by_cases g0 : nm.data.toList = []
  · obtain rfl := ba_of g0
    have hch : charB ⟨⟨[].toArray⟩, r, c, a, s⟩ = true := by
      rw [keyErr_char rfl] at hok
      split at hok
      · assumption
      · cases hok
    unfold charB at hch
    dsimp only at hch
    have HD := Hd.out
    rw [if_pos rfl] at HD
    clear Hd g0 hok
    cases c with
    | true =>
      simp only [if_true, Bool.and_eq_true, decide_eq_true_iff] at hch
      obtain ⟨-, ⟨⟨h1, h2⟩, -⟩, -⟩ := hch
      obtain ⟨n, rfl⟩ : ∃ n : Nat, r = 96 + (n : Int) := ⟨(r - 96).toNat, by omega⟩
      have HR := hide (HD.trans (show encChar (96 + (n : Int)) true = [n.toUInt8] by unfold encChar; rw [if_pos rfl, show (96 + (n : Int) - 96).toNat = n by omega]))
      clear HD
      have hn1 : 1 ≤ n := by omega
      have hn2 : n ≤ 26 := by omega
      have HNE := hide (show [Value.int .u8 (96 + (n : Int) - 97 + 1)] = ([n.toUInt8].map fun b => Value.int .u8 b.toNat) by
        have : n.toUInt8.toNat = n := by simp [Nat.toUInt8]; omega
        simp [this]; omega)
      have HO := hide (own_eq (HOwn.out (96 + (n : Int) - 97 + 1)) (show 1 = [n.toUInt8].length from rfl) HNE.out)
      go_enter Tryd.func19, Tryd.ntmps19
      go_wp2_with (refine wpList_str _ (.tmp 16) 36 9 5 rfl rfl Tryd.underlying36 Tryd.underlying5 Tryd.underlying9 w.heap.size _ [n.toUInt8] rfl HO.out ?_)
      go_ret
      exact ⟨congrArg (fun x => Ending.returned (Value.string x)) (by rw [HR.out]), HBx.out _⟩
    | false =>
      simp only [Bool.false_eq_true, if_false, Bool.and_eq_true] at hch
      have hg : GoodR r := by have := hch.2; unfold printB at this; simp at this; exact this.1
      have HR := hide (HD.trans (show encChar r false = Lib.encodeRune r by unfold encChar; rw [if_neg (by simp)]))
      have HU := hide (utf8_enc hg)
      clear HD hch hg
      go_enter Tryd.func19, Tryd.ntmps19
      go_wp2
      go_ret
      exact ⟨congrArg (fun x => Ending.returned (Value.string x)) (by rw [HU.out, HR.out]), Hbox.out⟩
  have HD := Hd.out
  rw [if_neg g0] at HD
  have t0 := str_no g0
  clear Hd hok g0
  by_cases g1 : nm.data.toList = nTab
  · obtain rfl := ba_of g1
    have HR := hide (HD.trans (if_pos rfl))
    clear HD t0 g1
    go_enter Tryd.func19, Tryd.ntmps19
    go_wp2
    go_ret
    exact ⟨congrArg (fun x => Ending.returned (Value.string x)) (by rw [HR.out]), Hbox.out⟩
  rw [if_neg g1] at HD
  have t1 := str_no g1
  unfold nTab at t1
  clear g1
  by_cases g1 : nm.data.toList = nEnter
  · obtain rfl := ba_of g1
    have HR := hide (HD.trans (if_pos rfl))
    clear HD t0 g1 t1
    cases nl
    all_goals
      go_enter Tryd.func19, Tryd.ntmps19
      go_wp2
      go_ret
      exact ⟨congrArg (fun x => Ending.returned (Value.string x)) (by rw [HR.out]; rfl), Hbox.out⟩
  rw [if_neg g1] at HD
  have t2 := str_no g1
  unfold nEnter at t2
  clear g1
  by_cases g1 : nm.data.toList = nEscape
  · obtain rfl := ba_of g1
    have HR := hide (HD.trans (if_pos rfl))
    clear HD t0 g1 t1 t2
    go_enter Tryd.func19, Tryd.ntmps19
    go_wp2
    go_ret
    exact ⟨congrArg (fun x => Ending.returned (Value.string x)) (by rw [HR.out]), Hbox.out⟩
  rw [if_neg g1] at HD
  have t3 := str_no g1
  unfold nEscape at t3
  clear g1
  by_cases g1 : nm.data.toList = nBack
  · obtain rfl := ba_of g1
    have HR := hide (HD.trans (if_pos rfl))
    clear HD t0 g1 t1 t2 t3
    go_enter Tryd.func19, Tryd.ntmps19
    go_wp2
    go_ret
    exact ⟨congrArg (fun x => Ending.returned (Value.string x)) (by rw [HR.out]), Hbox.out⟩
  rw [if_neg g1] at HD
  have t4 := str_no g1
  unfold nBack at t4
  have HR := hide HD
  clear g1 HD
  go_enter Tryd.func19, Tryd.ntmps19
  go_wp2
  go_ret
  exact ⟨congrArg (fun x => Ending.returned (Value.string x)) (by rw [HR.out]), Hbox.out⟩
end Go.Proofs.YtpilpchijmappaaDoor
