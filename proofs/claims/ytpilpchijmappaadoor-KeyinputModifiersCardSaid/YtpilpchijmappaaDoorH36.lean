/- The walk of the law KeyinputModifiers. -/
import Derived.Test.YtpilpchijmappaaDoorH25
import Derived.Test.YtpilpchijmappaaDoorH11
import Derived.Test.YtpilpchijmappaaDoorH8
import Derived.Test.YtpilpchijmappaaDoorH16
import Derived.Deep.DeepCutAuto
namespace Go.Proofs.YtpilpchijmappaaDoor
open Go.RowKit

theorem blk_set {w : World} {b i : Nat} {cs : Array Value} {t : TypeId} {fr : Nat × Nat} (h : w.heap[b]? = some (.cells cs t fr)) (u : Value) : (w.setCell ⟨b, i, none⟩ u).heap[b]? = some (.cells (cs.setIfInBounds i u) t fr) := by
  simp [World.setCell, Array.getElem?_modify, h]
theorem KeyBox.lt {w : World} {b : Nat} {k : Key} (h : KeyBox w b k) : b < w.heap.size := block_lt h
def numKey (i : Nat) (c a s : Bool) : Key := toKey (keyNames.getD i [], c, a, s)
theorem num_facts : ∀ i : Fin 10, ∀ c a s : Bool, keyErr (numKey i.val c a s) = 0 ∧ 3 ≤ (keyEnc false false (numKey i.val c a s)).length ∧ (modNum c a s = 1 → (keyEnc false false (numKey i.val c a s)).length ≤ 4) ∧
    (modNum c a s ≠ 1 → (keyEnc false false (numKey i.val c a s)).length = 6 ∧ (keyEnc false false (numKey i.val c a s)).getD 3 0 = 59 ∧ ((keyEnc false false (numKey i.val c a s)).getD 4 0).toNat = 48 + modNum c a s) := by decide +kernel
theorem chr_print : ∀ q : Fin 26, printB (97 + (q.val : Int)) = true := by decide +kernel
def chrKey (r : Int) (c a : Bool) : Key := ⟨⟨#[]⟩, r, c, a, false⟩
theorem chr_ok {q : Nat} (hq : q < 26) (c a : Bool) (h : c = true → 97 + (q : Int) ≠ 105 ∧ 97 + (q : Int) ≠ 109) : keyErr (chrKey (97 + (q : Int)) c a) = 0 := by
  unfold keyErr
  rw [if_pos (show (chrKey (97 + (q : Int)) c a).nm = [] from rfl)]
  rw [if_pos]
  unfold charB chrKey
  cases c with
  | true =>
    obtain ⟨h1, h2⟩ := h rfl
    simp
    omega
  | false => simpa using chr_print ⟨q, hq⟩
theorem chr_no (q : Nat) (a : Bool) (h : 97 + (q : Int) = 105 ∨ 97 + (q : Int) = 109) : keyErr (chrKey (97 + (q : Int)) true a) = 1 := by
  unfold keyErr
  rw [if_pos (show (chrKey (97 + (q : Int)) true a).nm = [] from rfl)]
  rw [if_neg]
  unfold charB chrKey
  simp
  omega
theorem chr_enc0 (r : Int) (c : Bool) (app nl : Bool) (h : keyErr (chrKey r c false) = 0) : encT app nl (chrKey r c false) = ⟨(encChar r c).toArray⟩ := by
  unfold encT
  rw [if_pos h, keyEnc_char rfl]
  rfl
theorem chr_enc1 (r : Int) (c : Bool) (app nl : Bool) (h : keyErr (chrKey r c true) = 0) : encT app nl (chrKey r c true) = ⟨(27 :: encChar r c).toArray⟩ := by
  unfold encT
  rw [if_pos h, keyEnc_char rfl]
  rfl

set_option maxRecDepth 100000 in
set_option maxHeartbeats 2000000 in
theorem modifiersLawP (w : World) (i : Nat) (hi : i < 256) (s a c : Bool) (hP : Pow w) : Calls Tryd.prog 6 #[.int .u8 i, .bool s, .bool a, .bool c] w fun e w' => e = .returned (.bool true) ∧ Below w.heap.size w w' := by
  have hrf := Below.refl w.heap.size w
  have HA := hide (fun w1 (hb : Below w.heap.size w w1) => awakeP w1 (hP.below hb))
  have HE := hide (fun w1 k m (hb : Below w.heap.size w w1) => encodeP w1 k m (hP.below hb))
  have HC := hide (fun w1 k (hb : Below w.heap.size w w1) => checkP w1 k (hP.below hb))
  have HN := hide (namesP w hP)
  unfold NamesRow at HN
  have h10 : i % 10 < 26 := by omega
  obtain ⟨NM, hNM⟩ : ∃ N : ByteArray, ⟨(keyNames.getD (i % 10) []).toArray⟩ = N := ⟨_, rfl⟩
  have Hname := hide (fun (W : World) base g cc (h : W.ownsRow base 9 1 (.slice (some ⟨g, 0, none⟩) 26 cc) 26 (keyNames.map nameV)) => name_cell h10 h)
  rw [hNM] at Hname
  obtain ⟨hok1, hlen1, hlen2, hlen3⟩ := num_facts ⟨i % 10, by omega⟩ c a s
  dsimp only at hok1 hlen1 hlen2 hlen3
  have hnk : numKey (i % 10) c a s = ⟨NM, 0, c, a, s⟩ := by rw [← hNM]; rfl
  rw [hnk] at hok1 hlen1 hlen2 hlen3
  obtain ⟨T1, hT1⟩ : ∃ T, encT false false ⟨NM, 0, c, a, s⟩ = T := ⟨_, rfl⟩
  have hT1l : T1.data.toList = keyEnc false false ⟨NM, 0, c, a, s⟩ := by rw [← hT1]; unfold encT; rw [if_pos hok1]
  have hT1s : (keyEnc false false ⟨NM, 0, c, a, s⟩).length = T1.size := by rw [← hT1l]; rfl
  rw [hT1s] at hlen1 hlen2 hlen3
  rw [← hT1l] at hlen3
  have HE1 := hide (fun w1 hb => HE.out w1 ⟨NM, 0, c, a, s⟩ ⟨false, false, false, false, false, false, false, false, 0, 0, 0⟩ hb)
  dsimp only at HE1
  rw [hok1, hT1] at HE1
  have HNK := hide (fun W => keyBox_new W ⟨NM, 0, c, a, s⟩)
  obtain ⟨N, hN⟩ : ∃ n, 48 + modNum c a s = n := ⟨_, rfl⟩
  have hbd : 1 ≤ modNum c a s ∧ modNum c a s ≤ 8 := modNum_bd c a s
  have HTest := hide (show (N = 49 ∧ 3 ≤ T1.size ∧ T1.size ≤ 4) ∨ (49 < N ∧ N ≤ 56 ∧ T1.size = 6 ∧ T1.data.toList.getD 3 0 = 59 ∧ (T1.data.toList.getD 4 0).toNat = N) by
    by_cases h : modNum c a s = 1
    · exact .inl ⟨by omega, hlen1, hlen2 h⟩
    · obtain ⟨q1, q2, q3⟩ := hlen3 h
      exact .inr ⟨by omega, by omega, q1, q2, by omega⟩)
  obtain ⟨N1, hN1⟩ : ∃ n, 49 + (if s then 1 else 0) = n := ⟨_, rfl⟩
  obtain ⟨N2, hN2⟩ : ∃ n, N1 + (if a then 2 else 0) = n := ⟨_, rfl⟩
  have hN3 : N2 + (if c then 4 else 0) = N := by rw [← hN2, ← hN1, ← hN]; unfold modNum; omega
  have HN1 := hide hN1
  have HN2 := hide hN2
  have HN3 := hide hN3
  have hb1' : N1 ≤ 50 := by rw [← hN1]; split <;> omega
  have hb2' : N2 ≤ 52 := by rw [← hN2]; split <;> omega
  unfold Key.val Md.val at HE1
  dsimp only at HE1 HNK
  clear hP hNM hok1 hlen1 hlen2 hlen3 hnk hT1 hT1l hT1s hN1 hN2 hN3 hN hbd h10
  go_enter Tryd.func6, Tryd.ntmps6
  go_upto_if 34 with (first
    | (go_at_call 16; refine HN.out.mono ?_; rintro e w1 ⟨g, cc, rfl, hown, hb1⟩; have nm := Hname.out _ _ _ _ hown; have Hb2 := hide (hb1.alloc hb1.size (.cells #[.string NM, .int .i32 0, .bool c, .bool a, .bool s] 23)); clear hown hb1)
    | fail)
  go_cut [11] (fun v wx => v = .int .u8 (N1 : Int) ∧ wx = w1.alloc (.cells #[.string NM, .int .i32 0, .bool c, .bool a, .bool s] 23))
  case first =>
    cases s
    all_goals
      go_wp2_with fail
      go_meet
      case rel => exact ⟨by rw [← HN1.out]; rfl, rfl⟩
  case rest =>
    obtain ⟨rfl, rfl⟩ := hcut
    go_upto_if 37 with fail
    go_cut [11] (fun v wx => v = .int .u8 (N2 : Int) ∧ wx = w1.alloc (.cells #[.string NM, .int .i32 0, .bool c, .bool a, .bool s] 23))
    case first =>
      cases a
      all_goals
        go_wp2_with fail
        go_meet
        case rel => exact ⟨by rw [← HN2.out]; rfl, rfl⟩
    case rest =>
      obtain ⟨rfl, rfl⟩ := hcut
      go_upto_if 40 with fail
      go_cut [11] (fun v wx => v = .int .u8 (N : Int) ∧ wx = w1.alloc (.cells #[.string NM, .int .i32 0, .bool c, .bool a, .bool s] 23))
      case first =>
        cases c
        all_goals
          go_wp2_with fail
          go_meet
          case rel => exact ⟨by rw [← HN3.out]; rfl, rfl⟩
      case rest =>
        obtain ⟨rfl, rfl⟩ := hcut
        obtain ⟨y0, y1, y2, y3, y4⟩ := (HNK.out w1).cells
        go_upto_region 13 with (first
          | (go_at_call 12; with_reducible refine (HE1.out _ Hb2.out).mono ?_; rintro e w3 ⟨rfl, hb3⟩; have Hb3 := hide (Hb2.out.trans (hb3.mono Hb2.out.size)); clear hb3)
          | fail)
        go_cut [84] (fun v wx => v = .bool false ∧ wx = w3)
        case first =>
          rcases HTest.out with ⟨h1, h2, h3⟩ | ⟨h1, h2, h3, h4, h5⟩
          · have q1 : ¬ (T1.size : Int) < 3 := by omega
            have q2 : ¬ (49 : Int) < (N : Int) := by omega
            have q3 : ((N : Int) == 49) = true := by rw [h1]; rfl
            have q4 : decide ((4 : Int) < (T1.size : Int)) = false := decide_eq_false (by omega)
            have q5 : decide ((49 : Int) < (N : Int)) = false := decide_eq_false (by omega)
            clear h1 h2 h3
            go_wp2_with fail
            go_meet
            case rel => exact ⟨rfl, rfl⟩
          · have q1 : ¬ (T1.size : Int) < 3 := by omega
            have q2 : (49 : Int) < (N : Int) := by omega
            have q3 : ((N : Int) == 49) = false := by rw [beq_eq_false_iff_ne]; omega
            have q4 : ((T1.size : Int) != 6) = false := by rw [h3]; rfl
            have p3 : 3 < T1.size := by omega
            have p4 : 4 < T1.size := by omega
            have p3' : (3 : Int) < (T1.size : Int) := by omega
            have p4' : (4 : Int) < (T1.size : Int) := by omega
            have q6 : T1[3]'p3 = 59 := (get_at T1 3 p3).trans h4
            have q7 : ((T1[4]'p4).toNat : Int) = (N : Int) := by rw [get_at T1 4 p4]; omega
            clear h1 h2 h3 h4 h5
            go_wp2_with fail
            go_meet
            case rel => exact ⟨rfl, rfl⟩
        case rest =>
          obtain ⟨rfl, rfl⟩ := hcut
          have hR : (97 + (i : Int) % 26) = 97 + ((i % 26 : Nat) : Int) := by omega
          have hq26 : i % 26 < 26 := by omega
          have hz97 : 97 ≤ 97 + (i : Int) % 26 := by omega
          have hz122 : 97 + (i : Int) % 26 ≤ 122 := by omega
          obtain ⟨U, hU⟩ : ∃ U : ByteArray, Utf8.encode (97 + (i : Int) % 26) = U := ⟨_, rfl⟩
          have hUe : U = ⟨(Lib.encodeRune (97 + (i : Int) % 26)).toArray⟩ := by rw [← hU]; exact utf8_enc (by unfold GoodR; omega)
          have hUs : U.size ≤ 4 := by rw [hUe]; simpa [ByteArray.size] using enc_len (97 + (i : Int) % 26)
          have hcat : (⟨#[27]⟩ : ByteArray).size + U.size ≤ 9223372036854775807 := by have : (⟨#[27]⟩ : ByteArray).size = 1 := rfl; omega
          have hcat1 : 1 + U.size ≤ 9223372036854775807 := by omega
          clear HE1 HNK HN Hname HTest HN1 HN2 HN3 y0 y1 y2 y3 y4 nm Hb2
          cases c with
          | false =>
            have hk := chr_ok hq26 false false (fun h => by cases h)
            have hka := chr_ok hq26 false true (fun h => by cases h)
            have HE2 := hide (fun w1 hb => HE.out w1 (chrKey (97 + (i : Int) % 26) false false) ⟨false, false, false, false, false, false, false, false, 0, 0, 0⟩ hb)
            have HE3 := hide (fun w1 hb => HE.out w1 (chrKey (97 + (i : Int) % 26) false true) ⟨false, false, false, false, false, false, false, false, 0, 0, 0⟩ hb)
            dsimp only at HE2 HE3
            rw [← hR] at hk hka
            have e2 : encT false false (chrKey (97 + (i : Int) % 26) false false) = U := by rw [chr_enc0 _ _ _ _ hk, hUe]; rfl
            have e3 : encT false false (chrKey (97 + (i : Int) % 26) false true) = ⟨#[27]⟩ ++ U := by rw [chr_enc1 _ _ _ _ hka, hUe]; exact ba_ext (by simp [encChar])
            rw [hk, e2] at HE2
            rw [hka, e3] at HE3
            have HNK := hide (fun W => keyBox_new W (chrKey (97 + (i : Int) % 26) false false))
            unfold Key.val Md.val chrKey at HE2 HE3
            unfold chrKey at HNK
            dsimp only at HE2 HE3 HNK
            clear hk hka e2 e3 hUe hR
            have Hba := hide (Hb3.out.alloc Hb3.out.size (.cells #[.string ⟨#[]⟩, .int .i32 (97 + (i : Int) % 26), .bool false, .bool false, .bool false] 23))
            have HS := hide (fun W (h : KeyBox W wc.heap.size ⟨⟨#[]⟩, 97 + (i : Int) % 26, false, false, false⟩) => (show KeyBox (W.setCell ⟨wc.heap.size, 3, none⟩ (.bool true)) wc.heap.size ⟨⟨#[]⟩, 97 + (i : Int) % 26, false, true, false⟩ from by simpa [KeyBox] using blk_set (i := 3) h (.bool true)))
            have Hb3s := hide Hb3.out.size
            go_wp2_with (first
              | (go_at_call 12; with_reducible refine (HE2.out _ Hba.out).mono ?_; rintro e w5 ⟨rfl, hb5⟩; have k5 := (HNK.out wc).below hb5 (by simp); obtain ⟨z0, z1, z2, z3, z4⟩ := k5.cells; obtain ⟨f0, f1, f2, f3, f4⟩ := k5.free; have K6 := hide (HS.out w5 k5); have hb5' := Hba.out.trans (hb5.mono Hba.out.size); have Hb6 := hide (hb5'.setCell Hb3s.out (p := ⟨wc.heap.size, 3, none⟩) (.bool true)); have Hlt6 := hide (show wc.heap.size < (w5.setCell ⟨wc.heap.size, 3, none⟩ (.bool true)).heap.size from KeyBox.lt K6.out); clear k5 hb5 hb5')
              | (go_at_call 12; with_reducible refine (HE3.out _ Hb6.out).mono ?_; rintro e w7 ⟨rfl, hb7⟩; have k7 := K6.out.below hb7 Hlt6.out; obtain ⟨v0, v1, v2, v3, v4⟩ := k7.cells; have Hb7 := hide (Hb6.out.trans (hb7.mono Hb6.out.size)); clear hb7 k7)
              | (go_at_call 11; refine (HA.out _ Hb7.out).mono ?_; rintro e w9 ⟨rfl, hb9⟩)
              | fail)
            go_ret
            exact ⟨rfl, Hb7.out.trans (hb9.mono Hb7.out.size)⟩
          | true =>
            have HS := hide (fun (W : World) (h : KeyBox W wc.heap.size ⟨⟨#[]⟩, 97 + (i : Int) % 26, true, false, false⟩) => (show KeyBox (W.setCell ⟨wc.heap.size, 3, none⟩ (.bool true)) wc.heap.size ⟨⟨#[]⟩, 97 + (i : Int) % 26, true, true, false⟩ from by simpa [KeyBox] using blk_set (i := 3) h (.bool true)))
            have HNK := hide (fun W => keyBox_new W (chrKey (97 + (i : Int) % 26) true false))
            unfold chrKey at HNK
            dsimp only at HNK
            have Hba := hide (Hb3.out.alloc Hb3.out.size (.cells #[.string ⟨#[]⟩, .int .i32 (97 + (i : Int) % 26), .bool true, .bool false, .bool false] 23))
            have Hb3s := hide Hb3.out.size
            by_cases hbad : 97 + ((i % 26 : Nat) : Int) = 105 ∨ 97 + ((i % 26 : Nat) : Int) = 109
            · have hk := chr_no (i % 26) false hbad
              rw [← hR] at hk hbad
              have HC2 := hide (fun w1 hb => HC.out w1 (chrKey (97 + (i : Int) % 26) true false) hb)
              rw [hk] at HC2
              unfold Key.val chrKey at HC2
              dsimp only at HC2
              have hq : ((97 + (i : Int) % 26 == 105) = true) ∨ ((97 + (i : Int) % 26 == 105) = false ∧ (97 + (i : Int) % 26 == 109) = true) := by
                rcases hbad with h | h
                · left; rw [h]; rfl
                · right; rw [h]; exact ⟨rfl, rfl⟩
              clear hk hbad hUe hR hU
              rcases hq with h1 | ⟨h1, h2⟩
              all_goals
                go_wp2_with (first
                  | (go_at_call 14; with_reducible refine (HC2.out _ Hba.out).mono ?_; rintro e w5 ⟨rfl, hb5⟩; have hb5' := Hba.out.trans (hb5.mono Hba.out.size))
                  | (go_at_call 11; refine (HA.out _ hb5').mono ?_; rintro e w9 ⟨rfl, hb9⟩)
                  | fail)
                go_ret
                exact ⟨rfl, hb5'.trans (hb9.mono hb5'.size)⟩
            · have hk := chr_ok hq26 true false (fun _ => ⟨fun h => hbad (.inl h), fun h => hbad (.inr h)⟩)
              have hka := chr_ok hq26 true true (fun _ => ⟨fun h => hbad (.inl h), fun h => hbad (.inr h)⟩)
              have h1 : (97 + (i : Int) % 26 == 105) = false := by rw [beq_eq_false_iff_ne, hR]; exact fun h => hbad (.inl h)
              have h2 : (97 + (i : Int) % 26 == 109) = false := by rw [beq_eq_false_iff_ne, hR]; exact fun h => hbad (.inr h)
              obtain ⟨x8, hx8⟩ : ∃ x : UInt8, ((1 + i % 26 : Nat)).toUInt8 = x := ⟨_, rfl⟩
              have hx8n : x8.toNat = 1 + i % 26 := by rw [← hx8]; simp [Nat.toUInt8]; omega
              have HNE := hide (show [Value.int .u8 (1 + (i : Int) % 26)] = ([x8].map fun b => Value.int .u8 b.toNat) by simp [hx8n])
              have hec : encChar (97 + (i : Int) % 26) true = [x8] := by unfold encChar; rw [if_pos rfl, ← hx8, show (97 + (i : Int) % 26 - 96).toNat = 1 + i % 26 by omega]
              have HE2 := hide (fun w1 hb => HE.out w1 (chrKey (97 + (i : Int) % 26) true false) ⟨false, false, false, false, false, false, false, false, 0, 0, 0⟩ hb)
              have HE3 := hide (fun w1 hb => HE.out w1 (chrKey (97 + (i : Int) % 26) true true) ⟨false, false, false, false, false, false, false, false, 0, 0, 0⟩ hb)
              dsimp only at HE2 HE3
              rw [← hR] at hk hka
              have e2 : encT false false (chrKey (97 + (i : Int) % 26) true false) = ⟨#[x8]⟩ := by rw [chr_enc0 _ _ _ _ hk, hec]
              have e3 : encT false false (chrKey (97 + (i : Int) % 26) true true) = ⟨#[27]⟩ ++ ⟨#[x8]⟩ := by rw [chr_enc1 _ _ _ _ hka, hec]; rfl
              rw [hk, e2] at HE2
              rw [hka, e3] at HE3
              unfold Key.val Md.val chrKey at HE2 HE3
              dsimp only at HE2 HE3
              have hcat2 : (⟨#[27]⟩ : ByteArray).size + (⟨#[x8]⟩ : ByteArray).size ≤ 9223372036854775807 := (show 1 + 1 ≤ 9223372036854775807 by decide)
              clear hk hka e2 e3 hUe hR hbad hec hx8 hx8n hcat hcat1
              go_wp2_with (first
                | (go_at_call 12; with_reducible refine (HE2.out _ Hba.out).mono ?_; rintro e w5 ⟨rfl, hb5⟩; have k5 := (HNK.out wc).below hb5 (by simp); obtain ⟨z0, z1, z2, z3, z4⟩ := k5.cells; obtain ⟨f0, f1, f2, f3, f4⟩ := k5.free; have K6 := hide (HS.out w5 k5); have hb5' := Hba.out.trans (hb5.mono Hba.out.size); have Hb6 := hide (hb5'.setCell Hb3s.out (p := ⟨wc.heap.size, 3, none⟩) (.bool true)); have Hlt6 := hide (show wc.heap.size < (w5.setCell ⟨wc.heap.size, 3, none⟩ (.bool true)).heap.size from KeyBox.lt K6.out); clear k5 hb5 hb5')
                | (go_at_call 12; with_reducible refine (HE3.out _ Hb6.out).mono ?_; rintro e w7 ⟨rfl, hb7⟩; have k7 := K6.out.below hb7 Hlt6.out; obtain ⟨v0, v1, v2, v3, v4⟩ := k7.cells; have hb7' := Hb6.out.trans (hb7.mono Hb6.out.size); have Hb7 := hide (hb7'.alloc hb7'.size (.cells #[.int .u8 (1 + (i : Int) % 26)] 5)); have HOw := hide (own_eq (own_lit w7 w.heap.size 5 1 1 #[.int .u8 (1 + (i : Int) % 26)] hb7'.size (by omega) rfl) (show 1 = [x8].length from rfl) HNE.out); clear hb7 k7 hb7')
                | (go_at_call 11; refine (HA.out _ Hb7.out).mono ?_; rintro e w9 ⟨rfl, hb9⟩)
                | (refine wpList_str _ (.tmp 130) 36 9 5 rfl rfl Tryd.underlying36 Tryd.underlying5 Tryd.underlying9 w.heap.size _ [x8] rfl HOw.out ?_)
                | fail)
              go_ret
              exact ⟨rfl, Hb7.out.trans (hb9.mono Hb7.out.size)⟩
end Go.Proofs.YtpilpchijmappaaDoor
