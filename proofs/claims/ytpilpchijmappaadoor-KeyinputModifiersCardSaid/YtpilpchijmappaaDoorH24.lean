/- keyinput.single. -/
import Derived.Test.YtpilpchijmappaaDoorH23
import Derived.Test.YtpilpchijmappaaDoorH6
namespace Go.Proofs.YtpilpchijmappaaDoor
open Go.RowKit

def singleV (s : List UInt8) : Key × Nat := (singleL s).getD (zeroKey, 0)
theorem singleV_ctl {s t : List UInt8} {b : UInt8} (hs : s = b :: t) (hb : 1 ≤ b.toNat ∧ b.toNat ≤ 26) : singleV s = if keyErr (ctlKey b) = 0 then (ctlKey b, 1) else (zeroKey, 0) := by
  subst hs
  unfold singleV singleL
  dsimp only
  rw [if_pos hb]
  by_cases h : charB (ctlKey b) = true
  · rw [if_pos h, if_pos ((keyErr_ctl b).2 h)]; rfl
  · rw [if_neg h, if_neg (fun h' => h ((keyErr_ctl b).1 h'))]; rfl
theorem singleV_rune {s t : List UInt8} {b : UInt8} (hs : s = b :: t) (hb : ¬ (1 ≤ b.toNat ∧ b.toNat ≤ 26)) : singleV s = if ((Lib.decodeL s).1 ≠ 65533 ∨ 1 < (Lib.decodeL s).2) ∧ keyErr (runeKey (Lib.decodeL s).1) = 0 then (runeKey (Lib.decodeL s).1, (Lib.decodeL s).2) else (zeroKey, 0) := by
  subst hs
  unfold singleV singleL
  dsimp only
  rw [if_neg hb]
  simp only [keyErr_rune]
  split <;> rfl

theorem KeyBox.free {w : World} {b : Nat} {k : Key} (h : KeyBox w b k) : w.frozen? ⟨b, 0, none⟩ = false ∧ w.frozen? ⟨b, 1, none⟩ = false ∧ w.frozen? ⟨b, 2, none⟩ = false ∧ w.frozen? ⟨b, 3, none⟩ = false ∧ w.frozen? ⟨b, 4, none⟩ = false :=
  ⟨frozen_block h 0, frozen_block h 1, frozen_block h 2, frozen_block h 3, frozen_block h 4⟩
theorem KeyBox.alloc {w : World} {b : Nat} {k : Key} (h : KeyBox w b k) (o : Obj) : KeyBox (w.alloc o) b k := block_alloc h o
theorem keyBox_new (w : World) (k : Key) : KeyBox (w.alloc (.cells #[.string k.name, .int .i32 k.rune, .bool k.control, .bool k.alt, .bool k.shift] 23)) w.heap.size k := block_new w _
/-- Two boxes of keys, one behind the other. -/
theorem boxKK (w : World) (k k' : Key) : ∃ W, W = (w.alloc (.cells #[.string k.name, .int .i32 k.rune, .bool k.control, .bool k.alt, .bool k.shift] 23)).alloc (.cells #[.string k'.name, .int .i32 k'.rune, .bool k'.control, .bool k'.alt, .bool k'.shift] 23) ∧
    Below w.heap.size w W ∧ W.heap.size = w.heap.size + 1 + 1 ∧ KeyBox W w.heap.size k ∧ KeyBox W (w.heap.size + 1) k' := by
  obtain ⟨W1, h1, hb1, hs1, hk⟩ := boxK w k
  subst h1
  refine ⟨_, rfl, hb1.alloc hb1.size _, by simp, block_alloc hk _, ?_⟩
  have := block_new (w.alloc (.cells #[.string k.name, .int .i32 k.rune, .bool k.control, .bool k.alt, .bool k.shift] 23)) (.cells #[.string k'.name, .int .i32 k'.rune, .bool k'.control, .bool k'.alt, .bool k'.shift] 23)
  rw [World.size_alloc] at this
  exact this

theorem ret_key {k k' : Key} {n n' : Int} (h1 : k = k') (h2 : n = n') : Ending.returned (.tuple #[k.val, .int .i64 n]) = .returned (.tuple #[k'.val, .int .i64 n']) := by rw [h1, h2]

set_option maxRecDepth 100000 in
set_option maxHeartbeats 1000000 in
theorem singleP (w : World) (s : ByteArray) (hP : Pow w) (hT : Tabs w) : Calls Tryd.prog 31 #[.string s] w fun e w' => e = .returned (.tuple #[(singleV s.data.toList).1.val, .int .i64 (singleV s.data.toList).2]) ∧ Below w.heap.size w w' := by
  have hrf := Below.refl w.heap.size w
  match hs : s.data.toList with
  | [] =>
    obtain rfl := ba_of hs
    clear hs
    go_enter Tryd.func31, Tryd.ntmps31
    go_wp2
    exact bodyPost_ret (v := .tuple #[zeroKey.val, .int .i64 0]) (by simp [results, Tryd.results31, go_sem, zeroKey, Key.val]) rfl ⟨rfl, hrf.alloc (Nat.le_refl _) _⟩
  | b :: t =>
    have hp0 : 0 < s.size := by show 0 < s.data.toList.length; rw [hs]; simp
    have hz0 : (0 : Int) < (s.size : Int) := by omega
    have hse : (s.toList == []) = false := by rw [ByteArray.toList_eq, hs]; rfl
    have hs0 : s[0]'hp0 = b := by rw [get_at, hs]; rfl
    have l0 := b.toNat_lt
    have hC := hide (fun W k (hb : Below w.heap.size w W) => checkP W k (hP.below hb))
    have hD := hide (fun W (hb : Below w.heap.size w W) => decodeRuneP s W (hT.below hb) (by rw [hs]; simp))
    have HV := hide hs
    by_cases hb : 1 ≤ b.toNat ∧ b.toNat ≤ 26
    · have HR := hide (singleV_ctl hs hb)
      obtain ⟨g1, g2⟩ := hb
      have hctl : (⟨⟨#[]⟩, 97 + (b.toNat : Int) - 1, true, false, false⟩ : Key) = ctlKey b := key_ext rfl (by show (97 : Int) + (b.toNat : Int) - 1 = 96 + b.toNat; omega) rfl rfl rfl
      have HCt := hide hctl
      have hC2 := hide (fun W hb => hC.out W ⟨⟨#[]⟩, 97 + (b.toNat : Int) - 1, true, false, false⟩ hb)
      rw [show keyErr ⟨⟨#[]⟩, 97 + (b.toNat : Int) - 1, true, false, false⟩ = keyErr (ctlKey b) by rw [hctl]] at hC2
      clear hctl hs hP hT hC hD
      obtain ⟨W2, hW2, hbox, hs2, hz, hk⟩ := boxKK w zeroKey ⟨⟨#[]⟩, 97 + (b.toNat : Int) - 1, true, false, false⟩
      have HK := hide (fun W (hb : Below W2.heap.size W2 W) => And.intro (hz.below hb (by omega)) (hk.below hb (by omega)))
      have Hbox := hide hbox
      have hr2 := Below.refl W2.heap.size W2
      clear hz hk hbox hs2
      subst hW2
      dsimp only [zeroKey] at *
      by_cases hok : keyErr (ctlKey b) = 0
      · rw [hok] at hC2
        rw [if_pos hok] at HR
        unfold Key.val at hC2
        clear hok
        go_enter Tryd.func31, Tryd.ntmps31
        go_wp2_with (go_at_call 14; with_reducible refine (hC2.out _ Hbox.out).mono ?_; rintro e w1 ⟨rfl, hb1⟩; obtain ⟨kz, kk⟩ := HK.out w1 hb1; obtain ⟨z0, z1, z2, z3, z4⟩ := kz.cells; obtain ⟨x0, x1, x2, x3, x4⟩ := kk.cells; obtain ⟨f0, f1, f2, f3, f4⟩ := kz.free; have Kz := hide kz; clear kz kk)
        refine bodyPost_ret (v := .tuple #[.agg #[.string ⟨#[]⟩, .int .i32 (97 + (b.toNat : Int) - 1), .bool true, .bool false, .bool false], .int .i64 1]) (by simp [results, Tryd.results31, go_sem, z0, z1, z2, z3, z4]) rfl ⟨?_, ?_⟩
        · rw [HV.out] at HR
          rw [HR.out, ← HCt.out]; rfl
        · exact (((((Hbox.out.trans (hb1.mono Hbox.out.size)).setCell (Nat.le_refl _) _).setCell (Nat.le_refl _) _).setCell (Nat.le_refl _) _).setCell (Nat.le_refl _) _).setCell (Nat.le_refl _) _
      · obtain ⟨E, hE⟩ : ∃ E, keyErr (ctlKey b) = E := ⟨_, rfl⟩
        rw [hE] at hC2 hok
        rw [hE, if_neg hok] at HR
        have hne : (E != 0) = true := by simpa using hok
        unfold Key.val at hC2
        clear hok hE HCt
        go_enter Tryd.func31, Tryd.ntmps31
        go_wp2_with (go_at_call 14; with_reducible refine (hC2.out _ Hbox.out).mono ?_; rintro e w1 ⟨rfl, hb1⟩; obtain ⟨kz, kk⟩ := HK.out w1 hb1; obtain ⟨z0, z1, z2, z3, z4⟩ := kz.cells; obtain ⟨f0, f1, f2, f3, f4⟩ := kz.free; clear kz kk)
        refine bodyPost_ret (v := .tuple #[.agg #[.string ⟨#[]⟩, .int .i32 0, .bool false, .bool false, .bool false], .int .i64 0]) (by simp [results, Tryd.results31, go_sem, z0, z1, z2, z3, z4]) rfl ⟨?_, ?_⟩
        · rw [HV.out] at HR
          rw [HR.out]; rfl
        · exact (((((Hbox.out.trans (hb1.mono Hbox.out.size)).setCell (Nat.le_refl _) _).setCell (Nat.le_refl _) _).setCell (Nat.le_refl _) _).setCell (Nat.le_refl _) _).setCell (Nat.le_refl _) _
    · have HR := singleV_rune hs hb
      obtain ⟨R, hR⟩ : ∃ R, (Lib.decodeL s.data.toList).1 = R := ⟨_, rfl⟩
      obtain ⟨K, hK⟩ : ∃ K, (Lib.decodeL s.data.toList).2 = K := ⟨_, rfl⟩
      rw [hR, hK] at HR
      rw [hR, hK] at hD
      obtain ⟨W1, hW1, hbox, hs1, hz⟩ := boxK w zeroKey
      have Hbox := hide hbox
      have HK := hide (fun W (hb : Below W1.heap.size W1 W) => hz.below hb (by omega))
      have hr1 := Below.refl W1.heap.size W1
      have hC2 := hide (fun W (hb : Below W1.heap.size W1 W) => hC.out W (runeKey R) (hbox.trans (hb.mono hbox.size)))
      have hD2 := hide (hD.out W1 hbox)
      have HNK := hide (fun W => keyBox_new W (runeKey R))
      obtain ⟨E, hE⟩ : ∃ E, keyErr (runeKey R) = E := ⟨_, rfl⟩
      rw [hE] at hC2 HR
      rw [hs] at HR
      have HRR := hide HR
      clear hs hP hT hC hD hR hK hE HR hz hbox hs1
      subst hW1
      unfold Key.val at hC2
      dsimp only [zeroKey, runeKey] at hC2 HK Hbox hr1 hD2 HNK ⊢
      have hcase : (b.toNat < 1) ∨ (1 ≤ b.toNat ∧ 26 < b.toNat) := by omega
      clear hb
      have hq : (((R : Int) != 65533) = true ∧ (R ≠ 65533 ∨ 1 < K)) ∨ (((R : Int) != 65533) = false ∧ (decide ((1 : Int) < (K : Int)) = true ∧ (R ≠ 65533 ∨ 1 < K))) ∨ (((R : Int) != 65533) = false ∧ (decide ((1 : Int) < (K : Int)) = false ∧ ¬ (R ≠ 65533 ∨ 1 < K))) := by
        by_cases h1 : R = 65533
        · by_cases h2 : 1 < K
          · exact .inr (.inl ⟨by rw [h1]; rfl, decide_eq_true (by omega), .inr h2⟩)
          · exact .inr (.inr ⟨by rw [h1]; rfl, decide_eq_false (by omega), by omega⟩)
        · exact .inl ⟨by rw [bne_iff_ne]; omega, .inl h1⟩
      rcases hq with ⟨q1, hc⟩ | ⟨q1, q2, hc⟩ | ⟨q1, q2, hc⟩
      case inr.inr =>
        have HRz := hide (HRR.out.trans (if_neg fun h => hc h.1))
        clear hc HRR
        rcases hcase with hc | ⟨hc1, hc2⟩
        all_goals
          go_enter Tryd.func31, Tryd.ntmps31
          go_wp2_with (first
            | (go_at_call 48; with_reducible refine hD2.out.mono ?_; rintro e w1 ⟨rfl, hb1⟩; have k1 := (HK.out w1 hb1).alloc (.cells #[.string ⟨#[]⟩, .int .i32 R, .bool false, .bool false, .bool false] 23); obtain ⟨z0, z1, z2, z3, z4⟩ := k1.cells; obtain ⟨f0, f1, f2, f3, f4⟩ := k1.free; have Hb1 := hide hb1; clear k1 hb1)
            | fail)
          refine bodyPost_ret (v := .tuple #[.agg #[.string ⟨#[]⟩, .int .i32 0, .bool false, .bool false, .bool false], .int .i64 0]) (by simp [results, Tryd.results31, go_sem, z0, z1, z2, z3, z4]) rfl ⟨by rw [HRz.out]; rfl, ?_⟩
          exact (((((((Hbox.out.trans (Hb1.out.mono Hbox.out.size)).alloc (Nat.le_trans Hbox.out.size Hb1.out.size) _)).setCell (Nat.le_refl _) _).setCell (Nat.le_refl _) _).setCell (Nat.le_refl _) _).setCell (Nat.le_refl _) _).setCell (Nat.le_refl _) _
      all_goals
        have HRy : singleV (b :: t) = (if E = 0 then ((runeKey R, K) : Key × Nat) else (zeroKey, 0)) := by
          rw [HRR.out]
          by_cases hE : E = 0
          · rw [if_pos ⟨hc, hE⟩, if_pos hE]
          · rw [if_neg (fun h => hE h.2), if_neg hE]
        clear hc HRR
        by_cases hE : E = 0
        · have HRz := hide (HRy.trans (if_pos hE))
          subst hE
          clear HRy
          rcases hcase with hc | ⟨hc1, hc2⟩
          all_goals
            go_enter Tryd.func31, Tryd.ntmps31
            go_wp2_with (first
              | (go_at_call 14; with_reducible refine (hC2.out _ Hb2.out).mono ?_; rintro e w3 ⟨rfl, hb3⟩; have hb3' := Hb2.out.trans (hb3.mono Hb2.out.size); obtain ⟨z0, z1, z2, z3, z4⟩ := (HK.out w3 hb3').cells; obtain ⟨f0, f1, f2, f3, f4⟩ := (HK.out w3 hb3').free; obtain ⟨x0, x1, x2, x3, x4⟩ := (Hkk.out.below hb3 (by simp)).cells; have Hb3 := hide hb3'; clear hb3 hb3')
              | (go_at_call 48; with_reducible refine hD2.out.mono ?_; rintro e w1 ⟨rfl, hb1⟩; have k1 := (HK.out w1 hb1).alloc (.cells #[.string ⟨#[]⟩, .int .i32 R, .bool false, .bool false, .bool false] 23); have hb2 := hb1.alloc hb1.size (.cells #[.string ⟨#[]⟩, .int .i32 R, .bool false, .bool false, .bool false] 23); have kk := HNK.out w1; obtain ⟨x0, x1, x2, x3, x4⟩ := kk.cells; obtain ⟨z0, z1, z2, z3, z4⟩ := k1.cells; have Hkk := hide kk; have Hb2 := hide hb2; have Hb1 := hide hb1; clear k1 hb1 hb2 kk)
              | fail)
            refine bodyPost_ret (v := .tuple #[.agg #[.string ⟨#[]⟩, .int .i32 R, .bool false, .bool false, .bool false], .int .i64 K]) (by simp [results, Tryd.results31, go_sem, z0, z1, z2, z3, z4]) rfl ⟨by rw [HRz.out]; rfl, ?_⟩
            exact ((((((Hbox.out.trans (Hb3.out.mono Hbox.out.size))).setCell (Nat.le_refl _) _).setCell (Nat.le_refl _) _).setCell (Nat.le_refl _) _).setCell (Nat.le_refl _) _).setCell (Nat.le_refl _) _
        · have HRz := hide (HRy.trans (if_neg hE))
          have hne : (E == 0) = false := by simpa using hE
          clear HRy hE
          rcases hcase with hc | ⟨hc1, hc2⟩
          all_goals
            go_enter Tryd.func31, Tryd.ntmps31
            go_wp2_with (first
              | (go_at_call 14; with_reducible refine (hC2.out _ Hb2.out).mono ?_; rintro e w3 ⟨rfl, hb3⟩; have hb3' := Hb2.out.trans (hb3.mono Hb2.out.size); obtain ⟨z0, z1, z2, z3, z4⟩ := (HK.out w3 hb3').cells; obtain ⟨f0, f1, f2, f3, f4⟩ := (HK.out w3 hb3').free; obtain ⟨x0, x1, x2, x3, x4⟩ := (Hkk.out.below hb3 (by simp)).cells; have Hb3 := hide hb3'; clear hb3 hb3')
              | (go_at_call 48; with_reducible refine hD2.out.mono ?_; rintro e w1 ⟨rfl, hb1⟩; have k1 := (HK.out w1 hb1).alloc (.cells #[.string ⟨#[]⟩, .int .i32 R, .bool false, .bool false, .bool false] 23); have hb2 := hb1.alloc hb1.size (.cells #[.string ⟨#[]⟩, .int .i32 R, .bool false, .bool false, .bool false] 23); have kk := HNK.out w1; obtain ⟨x0, x1, x2, x3, x4⟩ := kk.cells; obtain ⟨z0, z1, z2, z3, z4⟩ := k1.cells; have Hkk := hide kk; have Hb2 := hide hb2; have Hb1 := hide hb1; clear k1 hb1 hb2 kk)
              | fail)
            refine bodyPost_ret (v := .tuple #[.agg #[.string ⟨#[]⟩, .int .i32 0, .bool false, .bool false, .bool false], .int .i64 0]) (by simp [results, Tryd.results31, go_sem, z0, z1, z2, z3, z4]) rfl ⟨by rw [HRz.out]; rfl, ?_⟩
            exact ((((((Hbox.out.trans (Hb3.out.mono Hbox.out.size))).setCell (Nat.le_refl _) _).setCell (Nat.le_refl _) _).setCell (Nat.le_refl _) _).setCell (Nat.le_refl _) _).setCell (Nat.le_refl _) _
end Go.Proofs.YtpilpchijmappaaDoor
