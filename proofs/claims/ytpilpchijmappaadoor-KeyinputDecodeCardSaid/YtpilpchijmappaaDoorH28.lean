/- keyinput.Decode: the walk. -/
import Derived.Test.YtpilpchijmappaaDoorH27
namespace Go.Proofs.YtpilpchijmappaaDoor
open Go.RowKit

theorem decRet_yes {app nl : Bool} {l : List UInt8} {k : Key} {n : Nat} (h : decP app nl l = (k, n)) (hn : 0 < n) : DecRet app nl l (.returned (.tuple #[k.val, .int .i64 (n : Int), .int .i64 0])) := by
  unfold DecRet decErr
  rw [h]
  rw [if_pos hn]
theorem decRet_no {app nl : Bool} {l : List UInt8} {b : Bool} (h : (decP app nl l).2 = 0) (hb : shortB app nl l = b) : DecRet app nl l (.returned (.tuple #[zeroKey.val, .int .i64 0, .int .i64 (if b then 4 else 3)])) := by
  unfold DecRet decErr
  rw [decP_zero h, hb]
  rfl
/-- What a search's state is: the key found, how long, whether more bytes could make one. -/
structure DecSt (w : World) (B b7 : Nat) (m : Md) (k : Key) : Prop where
  best : KeyBox w b7 k
  modes : MdBox w B m
  res : KeyBox w (B + 1) zeroKey
  lo : B + 2 ≤ b7
  hi : b7 < w.heap.size
theorem DecSt.below {w w' : World} {B b7 : Nat} {m : Md} {k : Key} (h : DecSt w B b7 m k) (hb : Below w.heap.size w w') : DecSt w' B b7 m k :=
  ⟨h.best.below hb h.hi, h.modes.below hb (by have := h.lo; have := h.hi; omega), h.res.below hb (by have := h.lo; have := h.hi; omega), h.lo, Nat.lt_of_lt_of_le h.hi hb.size⟩
theorem DecSt.alloc {w : World} {B b7 : Nat} {m : Md} {k : Key} (h : DecSt w B b7 m k) (o : Obj) : DecSt (w.alloc o) B b7 m k := h.below ((Below.refl _ w).alloc (Nat.le_refl _) o)
theorem DecSt.store {w : World} {B b7 : Nat} {m : Md} {k : Key} (h : DecSt w B b7 m k) (k' : Key) : DecSt (setKey w b7 k') B b7 m k' :=
  ⟨h.best.set k', setKey_far h.modes (by have := h.lo; omega) k', setKey_far h.res (by have := h.lo; omega) k', h.lo, by rw [setKey_size]; exact h.hi⟩

def HeadRel (B b7 : Nat) (w0 : World) (m : Md) (h : Key × Nat) (s8 : Value) (wx : World) : Prop := s8 = .int .i64 (h.2 : Int) ∧ DecSt wx B b7 m h.1 ∧ Below B w0 wx

theorem headRel_mk {B b7 : Nat} {w0 wx : World} {m : Md} {k : Key} {n : Nat} {s8 : Value} (h1 : s8 = .int .i64 (n : Int)) (h2 : DecSt wx B b7 m k) (h3 : Below B w0 wx) : HeadRel B b7 w0 m (k, n) s8 wx := ⟨h1, h2, h3⟩

set_option maxRecDepth 100000 in
set_option maxHeartbeats 2000000 in
theorem decodeKP (w : World) (s : ByteArray) (m : Md) (hP : Pow w) (hT : Tabs w) (hsz : s.size ≤ 1000) : Calls Tryd.prog 17 #[.string s, m.val] w fun e w' => DecRet m.app m.nl s.data.toList e ∧ Below w.heap.size w w' := by
  have hrf := Below.refl w.heap.size w
  have HS := hide (fun W (x : ByteArray) (hb : Below w.heap.size w W) => singleP W x (hP.below hb) (hT.below hb))
  have HE := hide (fun W k (hb : Below w.heap.size w W) => encodeP W k m (hP.below hb))
  have HF := hide (fun W (hb : Below w.heap.size w W) => fullRune W s (hT.below hb))
  have HA := hide (fun W (hb : Below w.heap.size w W) => allP W (hP.below hb))
  have HC := hide (fun W => cutPrefixP s ⟨#[27]⟩ W)
  obtain ⟨l, hl⟩ : ∃ l, s.data.toList = l := ⟨_, rfl⟩
  have hlen : l.length = s.size := by rw [← hl]; rfl
  rw [hl] at HC HF ⊢
  have Hl := hide hl
  obtain ⟨W0, hW0, hbox0, hs0, hm0⟩ : ∃ W, W = w.alloc (.cells #[.bool m.ins, .bool m.nl, .bool m.app, .bool m.org, .bool m.wrap, .bool m.vis, .bool m.alt, .bool m.con, .int .u8 m.s0, .int .u8 m.s1, .int .i64 m.sh] 26) ∧ Below w.heap.size w W ∧ W.heap.size = w.heap.size + 1 ∧ MdBox W w.heap.size m := ⟨_, rfl, hrf.alloc (Nat.le_refl _) _, by simp, block_new w _⟩
  obtain ⟨W1, hW1, hbox1, hs1, hz1⟩ := boxK W0 zeroKey
  have hm1 : MdBox W1 w.heap.size m := hm0.below hbox1 (by omega)
  rw [hs0] at hz1 hs1
  have hB1 := hbox0.trans (hbox1.mono (by omega))
  obtain ⟨K1, hK1⟩ : ∃ K, (singleV l).1 = K := ⟨_, rfl⟩
  obtain ⟨n1, hn1⟩ : ∃ n, (singleV l).2 = n := ⟨_, rfl⟩
  have hbd1 : n1 ≤ 1000 := by have := (singleV_ok l).1; omega
  have HS1 := hide (HS.out W1 s hB1)
  rw [hl, hK1, hn1] at HS1
  have HSt := hide (fun W (hb : Below W1.heap.size W1 W) => (show DecSt (W.alloc (.cells #[.string K1.name, .int .i32 K1.rune, .bool K1.control, .bool K1.alt, .bool K1.shift] 23)) w.heap.size W.heap.size m K1 from
    ⟨keyBox_new W K1, (hm1.below hb (by omega) : MdBox W _ m) |> fun h => block_alloc h _, (hz1.below hb (by omega)).alloc _, by have := hb.size; omega, by simp⟩))
  have Hbel := hide (fun W (hb : Below W1.heap.size W1 W) => hB1.trans (hb.mono hB1.size))
  obtain ⟨RS, hRS⟩ : ∃ R : ByteArray, ⟨(Lib.trimPrefix l [27]).toArray⟩ = R := ⟨_, rfl⟩
  obtain ⟨IS, hIS⟩ : ∃ b : Bool, ([27] : List UInt8).isPrefixOf l = b := ⟨_, rfl⟩
  have HC2 := hide (fun W => (show Calls Tryd.prog 32 #[.string s, .string ⟨#[27]⟩] W fun e w' => e = .returned (.tuple #[.string RS, .bool IS]) ∧ W = w' from by have := HC.out W; rw [← hRS, ← hIS]; exact this))
  have HIS := hide hIS
  have HRS := hide hRS
  have HK1 := hide (show singleV l = (K1, n1) by rw [← hK1, ← hn1])
  have Hlen := hide hlen
  have hl1000 : l.length ≤ 1000 := by omega
  obtain ⟨nm1, r1, c1, a1, sh1⟩ := K1
  clear hP hT hl hlen hsz hbox0 hs0 hm0 hbox1 hz1 hs1 hm1 hB1 hK1 hn1 HC hRS hIS
  subst hW1
  subst hW0
  unfold Key.val at HS1
  dsimp only [zeroKey] at HS1 HSt Hbel
  obtain ⟨ins, nl, app, org, wrp, vis, alt, con, y0, y1, ysh⟩ := m
  unfold Md.val at HE ⊢
  dsimp only at HE HSt HS1 Hbel ⊢
  go_enter Tryd.func17, Tryd.ntmps17
  go_upto_if 28 with (first
    | (go_at_call 31; with_reducible refine HS1.out.mono ?_; rintro e w2 ⟨rfl, hb2⟩; have st2 := HSt.out w2 hb2; have hbw2 := (Hbel.out w2 hb2).alloc (Hbel.out w2 hb2).size (.cells #[.string nm1, .int .i32 r1, .bool c1, .bool a1, .bool sh1] 23); have St2 := hide st2; have Hbw2 := hide hbw2; have Hbw2s := hide ((Hbel.out w2 hb2).size); clear st2 hbw2 hb2)
    | (go_at_call 32; with_reducible refine (HC2.out _).mono ?_; rintro e wq ⟨rfl, rfl⟩)
    | fail)
  go_cut [8] (HeadRel w.heap.size w2.heap.size w ⟨ins, nl, app, org, wrp, vis, alt, con, y0, y1, ysh⟩ (headP l))
  case first =>
    cases IS with
    | false =>
      go_wp2_with fail
      go_meet
      case rel =>
        have hh : headP l = singleV l := headP_plain fun t ht => by
          have := (esc_prefix l).2 ⟨t, ht⟩
          rw [HIS.out] at this
          cases this
        refine ⟨by rw [hh, HK1.out], ?_, Hbw2.out⟩
        rw [hh, HK1.out]
        exact St2.out
    | true =>
      obtain ⟨tl, htl⟩ := (esc_prefix l).1 HIS.out
      have hRl : RS.data.toList = tl := by
        rw [← HRS.out, htl]
        simp [Lib.trimPrefix, Lib.hasPrefix, List.isPrefixOf]
      have hz : ((⟨nm1, r1, c1, a1, sh1⟩ : Key), n1) = (zeroKey, 0) := by rw [← HK1.out, htl, singleV_esc]
      obtain ⟨K2, hK2⟩ : ∃ K, (singleV tl).1 = K := ⟨_, rfl⟩
      obtain ⟨n2, hn2⟩ : ∃ n, (singleV tl).2 = n := ⟨_, rfl⟩
      have hbd2 : n2 ≤ 1000 := by have := (singleV_ok tl).1; rw [htl] at hl1000; simp at hl1000; omega
      have HS2 := hide (fun W (hb : Below w.heap.size w W) => HS.out W RS hb)
      rw [hRl, hK2, hn2] at HS2
      have HHd := hide (show headP l = if 0 < n2 then (withAlt K2, n2 + 1) else (zeroKey, 0) by rw [htl, headP_esc, hK2, hn2])
      have Hz := hide hz
      obtain ⟨nm2, r2, c2, a2, sh2⟩ := K2
      unfold Key.val at HS2
      dsimp only at HS2
      clear hRl hz hK2 hn2 htl
      by_cases hpos : 0 < n2
      · have hposI : (0 : Int) < (n2 : Int) := by omega
        go_wp2_with (first
          | (go_at_call 31; with_reducible refine (HS2.out _ Hbw2.out).mono ?_; rintro e w4 ⟨rfl, hb4⟩; have st4 := St2.out.below hb4; have Hbw4 := hide (Hbw2.out.trans (hb4.mono Hbw2.out.size)); have st5 := st4.alloc (.cells #[.string nm2, .int .i32 r2, .bool c2, .bool true, .bool sh2] 23); obtain ⟨z0, z1, z2, z3, z4⟩ := st5.best.cells; obtain ⟨f0, f1, f2, f3, f4⟩ := st5.best.free; have St5 := hide st5; clear st4 st5 hb4)
          | fail)
        go_meet
        case rel =>
          rw [HHd.out, if_pos hpos]
          exact headRel_mk (k := ⟨nm2, r2, c2, true, sh2⟩) (n := n2 + 1) (int_eq (by omega)) (St5.out.store ⟨nm2, r2, c2, true, sh2⟩) (setKey_below (Hbw4.out.alloc Hbw4.out.size _) Hbw2s.out ⟨nm2, r2, c2, true, sh2⟩)
      · have hposI : decide ((0 : Int) < (n2 : Int)) = false := decide_eq_false (by omega)
        go_wp2_with (first
          | (go_at_call 31; with_reducible refine (HS2.out _ Hbw2.out).mono ?_; rintro e w4 ⟨rfl, hb4⟩; have st4 := St2.out.below hb4; have Hbw4 := hide (Hbw2.out.trans (hb4.mono Hbw2.out.size)); have st5 := st4.alloc (.cells #[.string nm2, .int .i32 r2, .bool c2, .bool a2, .bool sh2] 23); have St5 := hide st5; clear st4 st5 hb4)
          | fail)
        go_meet
        case rel =>
          have hzz := Hz.out
          simp only [Prod.mk.injEq] at hzz
          refine ⟨?_, ?_, Hbw4.out.alloc Hbw4.out.size _⟩
          · rw [HHd.out, if_neg hpos, hzz.2]
          · rw [HHd.out, if_neg hpos]
            have := St5.out
            rw [hzz.1] at this
            exact this
  case rest =>
    obtain ⟨rfl, hst, hbc⟩ := hcut
    have Hst := hide hst
    have Hbc := hide hbc
    obtain ⟨b7, hb7⟩ : ∃ b, w2.heap.size = b := ⟨_, rfl⟩
    rw [hb7] at Hst ⊢
    clear hst hbc HS HSt Hbel HS1 HC2 HIS HRS HK1 St2 Hbw2 Hbw2s hbd1 hb7
    obtain ⟨wa, rfl⟩ : ∃ wa : World, wa = wc := ⟨_, rfl⟩
    obtain ⟨FB, hFB⟩ : ∃ b, fullB l = b := ⟨_, rfl⟩
    have HFB := hide (show (!FB) = begB l by rw [← hFB]; exact full_beg l)
    rw [hFB] at HF
    clear hFB
    go_upto_region 8 with fail
    go_cut [13] (fun s13 wx => s13 = .bool (begB l) ∧ Below wa.heap.size wa wx)
    case first =>
      by_cases h0 : l = []
      · have t0 : (s.toList == []) = true := by rw [ByteArray.toList_eq, Hl.out, h0]; rfl
        have HB0 := hide (show true = begB l by rw [h0]; rfl)
        clear h0
        go_wp2_with fail
        go_meet
        case rel => exact ⟨congrArg Value.bool HB0.out, Below.refl _ _⟩
      · have t0 : (s.toList == []) = false := by rw [ByteArray.toList_eq, Hl.out]; simpa using h0
        clear h0
        go_wp2_with (first
          | (go_at_call 33; with_reducible refine (HF.out _ Hbc.out).mono ?_; rintro e w5 ⟨rfl, hb5⟩; have Hb5 := hide hb5; clear hb5)
          | fail)
        go_meet
        case rel => exact ⟨congrArg Value.bool HFB.out, Hb5.out⟩
    case rest =>
      obtain ⟨rfl, hb5⟩ := hcut
      have Hst2 := hide (Hst.out.below hb5)
      have Hbc2 := hide (Hbc.out.trans (hb5.mono Hbc.out.size))
      clear Hst Hbc hb5 HF HFB
      obtain ⟨NL, hNL⟩ : ∃ n, namedKeys.length = n := ⟨_, rfl⟩
      have hNL2 : NL ≤ 208 := by rw [← hNL]; exact named_le
      have HNL := hide hNL
      have HA2 := hide (HA.out wc Hbc2.out)
      unfold KeysRow at HA2
      rw [hNL] at HA2
      clear HA hNL
      go_wp2_with (first
        | (go_at_call 34; with_reducible refine HA2.out.mono ?_; rintro e w6 ⟨g, cc, rfl, hg1, hg2, hkeys, hb6⟩; have Hst3 := hide (Hst2.out.below hb6); have Hkeys := hide hkeys; have Hbw6 := hide (Hbc2.out.trans (hb6.mono Hbc2.out.size)); have hbg : b7 < g := Nat.lt_of_lt_of_le Hst2.out.hi hg1; have Hg6 := hide hg2; clear hkeys hb6 hg1 hg2)
        | fail)
      go_loopw [49, 8, 13] (fun i n sh wr => ∃ j : Nat, j ≤ NL ∧ i = .int .i64 j ∧ n = .int .i64 ((foldTo app nl l j).2 : Int) ∧ sh = .bool (shTo app nl l j) ∧ DecSt wr w.heap.size b7 ⟨ins, nl, app, org, wrp, vis, alt, con, y0, y1, ysh⟩ (foldTo app nl l j).1 ∧ KeysAt wr g ∧ g < wr.heap.size ∧ Below w.heap.size w wr) (fun i _ _ _ => NL - (intOf i).toNat)
      case atStart => exact ⟨0, Nat.zero_le _, rfl, by simp [foldTo], by simp [shTo], by simpa [foldTo] using Hst3.out, Hkeys.out, Hg6.out, Hbw6.out⟩
      case round =>
        obtain ⟨j, hj, rfl, rfl, rfl, hst, hkeys, hgl, hbr⟩ := hrel
        have Hgl := hide hgl
        clear hgl
        have Hst := hide hst
        have Hks := hide hkeys
        have HM := hide (foldTo_le app nl l j)
        clear Hst3 Hkeys Hbw6 Hst2 Hbc2 HA2 hst
        by_cases hlt : j < NL
        · have hjI : (j : Int) < NL := by omega
          obtain ⟨K, hK⟩ : ∃ K, namedKeys[j]? = some K := ⟨_, List.getElem?_eq_getElem (by rw [HNL.out]; exact hlt)⟩
          have hk0 := named_valid K (List.mem_of_getElem? hK)
          have hF := foldTo_succ (app := app) (nl := nl) (l := l) hK
          have hG := shTo_succ (app := app) (nl := nl) (l := l) hK
          obtain ⟨k0, k1, k2, k3, k4⟩ := Hks.out j K hK
          obtain ⟨m0, m1, m2, m3, m4, m5, m6, m7, m8, m9, m10⟩ := (Hst.out.alloc (.cells #[.string K.name, .int .i32 K.rune, .bool K.control, .bool K.alt, .bool K.shift] 23)).modes.cells
          have HNK := hide (fun W => keyBox_new W K)
          have Hba := hide (hbr.alloc hbr.size (.cells #[.string K.name, .int .i32 K.rune, .bool K.control, .bool K.alt, .bool K.shift] 23))
          have hT0 : encT app nl K = ⟨(keyEnc app nl K).toArray⟩ := by unfold encT; rw [if_pos hk0]
          have HEk := hide (fun W hb => HE.out W K hb)
          rw [hk0] at HEk
          obtain ⟨T, hT⟩ : ∃ T, encT app nl K = T := ⟨_, rfl⟩
          rw [hT] at HEk hT0
          have hTl : T.data.toList = keyEnc app nl K := by rw [hT0]
          have hTs : (keyEnc app nl K).length = T.size := by rw [← hTl]; rfl
          have HP1 := hide (fun W => hasPrefixP s T W)
          have HP2 := hide (fun W => hasPrefixP T s W)
          rw [Hl.out, hTl] at HP1 HP2
          unfold bestStep at hF
          rw [hTs] at hF
          obtain ⟨P1, hP1⟩ : ∃ b, (keyEnc app nl K).isPrefixOf l = b := ⟨_, rfl⟩
          obtain ⟨P2, hP2⟩ : ∃ b, l.isPrefixOf (keyEnc app nl K) = b := ⟨_, rfl⟩
          obtain ⟨SH, hSH⟩ : ∃ b, shTo app nl l j = b := ⟨_, rfl⟩
          obtain ⟨⟨KB, M⟩, hKB⟩ : ∃ x, foldTo app nl l j = x := ⟨_, rfl⟩
          rw [hP1] at HP1 hF
          rw [hP2] at HP2 hG
          rw [hSH] at hG ⊢
          rw [hKB] at hF HM Hst ⊢
          dsimp only at hF HM Hst ⊢
          have HF := hide hF
          have HG := hide hG
          obtain ⟨nm, r, c, a, sh2⟩ := K
          unfold Key.val at HEk
          dsimp only at HEk HNK Hba m0 m1 m2 m3 m4 m5 m6 m7 m8 m9 m10 k0 k1 k2 k3 k4
          clear hK hk0 hF hG hT0 hTl hTs hT hP1 hP2 hSH hKB HE
          cases P1 with
          | true =>
            by_cases hM : M < T.size
            · have hMI : (M : Int) < (T.size : Int) := by omega
              have hMd : decide (M < T.size) = true := decide_eq_true hM
              have HFF := hide (HF.out.trans (by rw [hMd]; rfl) : foldTo app nl l (j + 1) = (⟨nm, r, c, a, sh2⟩, T.size))
              clear HF hM
              cases SH
              all_goals
                go_wp2_with (first
                | (go_at_call 12; with_reducible refine (HEk.out _ (hbr.alloc hbr.size _)).mono ?_; rintro e w7 ⟨rfl, hb7⟩; have st7 := (Hst.out.alloc (.cells #[.string nm, .int .i32 r, .bool c, .bool a, .bool sh2] 23)).below hb7; obtain ⟨x0, x1, x2, x3, x4⟩ := ((HNK.out wr).below hb7 (by simp)).cells; obtain ⟨z0, z1, z2, z3, z4⟩ := st7.best.cells; obtain ⟨f0, f1, f2, f3, f4⟩ := st7.best.free; have St7 := hide st7; have Hb7 := hide (Hba.out.trans (hb7.mono Hba.out.size)); have Hk7 := hide ((Hks.out.below ((Below.refl _ wr).alloc (Nat.le_refl _) (.cells #[.string nm, .int .i32 r, .bool c, .bool a, .bool sh2] 23)) Hgl.out).below hb7 (by have := Hgl.out; simp; omega)); have Hg7 := hide (Nat.lt_of_lt_of_le (show g < _ from Nat.lt_of_lt_of_le Hgl.out (show wr.heap.size ≤ _ by simp)) hb7.size); clear st7 hb7)
                | (go_at_call 35; with_reducible refine (HP2.out _).mono ?_; rintro e wq ⟨rfl, rfl⟩)
                | (go_at_call 35; with_reducible refine (HP1.out _).mono ?_; rintro e wq ⟨rfl, rfl⟩)
                | fail)
                go_roundw
                case rel =>
                  refine ⟨j + 1, by omega, by go_num, by rw [HFF.out], by rw [HG.out]; rfl, ?_, setKey_keys Hk7.out (by omega) ⟨nm, r, c, a, sh2⟩, by have := Hg7.out; simpa [World.setCell] using this, setKey_below Hb7.out (Nat.le_trans (by omega) St7.out.lo) ⟨nm, r, c, a, sh2⟩⟩
                  rw [HFF.out]
                  exact St7.out.store ⟨nm, r, c, a, sh2⟩
                case measure => simp [intOf]; omega
            · have hMI : ¬ (M : Int) < (T.size : Int) := by omega
              have hMd : decide (M < T.size) = false := decide_eq_false hM
              have HFF := hide (HF.out.trans (by rw [hMd]; rfl) : foldTo app nl l (j + 1) = (KB, M))
              clear HF hM
              cases SH
              all_goals
                go_wp2_with (first
                | (go_at_call 12; with_reducible refine (HEk.out _ (hbr.alloc hbr.size _)).mono ?_; rintro e w7 ⟨rfl, hb7⟩; have st7 := (Hst.out.alloc (.cells #[.string nm, .int .i32 r, .bool c, .bool a, .bool sh2] 23)).below hb7; obtain ⟨x0, x1, x2, x3, x4⟩ := ((HNK.out wr).below hb7 (by simp)).cells; obtain ⟨z0, z1, z2, z3, z4⟩ := st7.best.cells; obtain ⟨f0, f1, f2, f3, f4⟩ := st7.best.free; have St7 := hide st7; have Hb7 := hide (Hba.out.trans (hb7.mono Hba.out.size)); have Hk7 := hide ((Hks.out.below ((Below.refl _ wr).alloc (Nat.le_refl _) (.cells #[.string nm, .int .i32 r, .bool c, .bool a, .bool sh2] 23)) Hgl.out).below hb7 (by have := Hgl.out; simp; omega)); have Hg7 := hide (Nat.lt_of_lt_of_le (show g < _ from Nat.lt_of_lt_of_le Hgl.out (show wr.heap.size ≤ _ by simp)) hb7.size); clear st7 hb7)
                | (go_at_call 35; with_reducible refine (HP2.out _).mono ?_; rintro e wq ⟨rfl, rfl⟩)
                | (go_at_call 35; with_reducible refine (HP1.out _).mono ?_; rintro e wq ⟨rfl, rfl⟩)
                | fail)
                go_roundw
                case rel => exact ⟨j + 1, by omega, by go_num, by rw [HFF.out], by rw [HG.out]; rfl, by rw [HFF.out]; exact St7.out, Hk7.out, Hg7.out, Hb7.out⟩
                case measure => simp [intOf]; omega
          | false =>
            have HFF := hide (HF.out.trans (by rfl) : foldTo app nl l (j + 1) = (KB, M))
            clear HF
            cases SH
            all_goals
              go_wp2_with (first
                | (go_at_call 12; with_reducible refine (HEk.out _ (hbr.alloc hbr.size _)).mono ?_; rintro e w7 ⟨rfl, hb7⟩; have st7 := (Hst.out.alloc (.cells #[.string nm, .int .i32 r, .bool c, .bool a, .bool sh2] 23)).below hb7; obtain ⟨x0, x1, x2, x3, x4⟩ := ((HNK.out wr).below hb7 (by simp)).cells; obtain ⟨z0, z1, z2, z3, z4⟩ := st7.best.cells; obtain ⟨f0, f1, f2, f3, f4⟩ := st7.best.free; have St7 := hide st7; have Hb7 := hide (Hba.out.trans (hb7.mono Hba.out.size)); have Hk7 := hide ((Hks.out.below ((Below.refl _ wr).alloc (Nat.le_refl _) (.cells #[.string nm, .int .i32 r, .bool c, .bool a, .bool sh2] 23)) Hgl.out).below hb7 (by have := Hgl.out; simp; omega)); have Hg7 := hide (Nat.lt_of_lt_of_le (show g < _ from Nat.lt_of_lt_of_le Hgl.out (show wr.heap.size ≤ _ by simp)) hb7.size); clear st7 hb7)
                | (go_at_call 35; with_reducible refine (HP2.out _).mono ?_; rintro e wq ⟨rfl, rfl⟩)
                | (go_at_call 35; with_reducible refine (HP1.out _).mono ?_; rintro e wq ⟨rfl, rfl⟩)
                | fail)
              go_roundw
              case rel => exact ⟨j + 1, by omega, by go_num, by rw [HFF.out], by rw [HG.out]; rfl, by rw [HFF.out]; exact St7.out, Hk7.out, Hg7.out, Hb7.out⟩
              case measure => simp [intOf]; omega
        · obtain rfl : j = NL := by omega
          have hF : foldTo app nl l j = decP app nl l := by rw [← HNL.out]; exact foldTo_all _ _ _
          have hG : shTo app nl l j = shortB app nl l := by rw [← HNL.out]; exact shTo_all _ _ _
          rw [hF] at Hst ⊢
          rw [hG]
          obtain ⟨⟨KB, M⟩, hKB⟩ : ∃ x, decP app nl l = x := ⟨_, rfl⟩
          obtain ⟨SB, hSB⟩ : ∃ b, shortB app nl l = b := ⟨_, rfl⟩
          rw [hKB] at Hst ⊢
          rw [hSB]
          dsimp only at Hst ⊢
          obtain ⟨z0, z1, z2, z3, z4⟩ := Hst.out.best.cells
          obtain ⟨q0, q1, q2, q3, q4⟩ := Hst.out.res.cells
          obtain ⟨f0, f1, f2, f3, f4⟩ := Hst.out.res.free
          have HKB := hide hKB
          have HSB := hide hSB
          clear hF hG hKB hSB
          by_cases hM : 0 < M
          · have hMI : (0 : Int) < (M : Int) := by omega
            have HMM := hide hM
            clear hM
            go_wp2
            exact bodyPost_ret (v := .tuple #[.agg #[.string KB.name, .int .i32 KB.rune, .bool KB.control, .bool KB.alt, .bool KB.shift], .int .i64 (M : Int), .int .i64 0]) (by simp [results, Tryd.results17, go_sem, q0, q1, q2, q3, q4]) rfl ⟨decRet_yes HKB.out HMM.out, setKey_below hbr (by omega) KB⟩
          · have hMI : ¬ (0 : Int) < (M : Int) := by omega
            have HM0 := hide (show (decP app nl l).2 = 0 by rw [HKB.out]; show M = 0; omega)
            clear hM
            cases SB with
            | true =>
              go_wp2
              exact bodyPost_ret (v := .tuple #[.agg #[.string ⟨#[]⟩, .int .i32 0, .bool false, .bool false, .bool false], .int .i64 0, .int .i64 4]) (by simp [results, Tryd.results17, go_sem, q0, q1, q2, q3, q4]) rfl ⟨decRet_no HM0.out HSB.out, setKey_below hbr (by omega) zeroKey⟩
            | false =>
              go_wp2
              exact bodyPost_ret (v := .tuple #[.agg #[.string ⟨#[]⟩, .int .i32 0, .bool false, .bool false, .bool false], .int .i64 0, .int .i64 3]) (by simp [results, Tryd.results17, go_sem, q0, q1, q2, q3, q4]) rfl ⟨decRet_no HM0.out HSB.out, setKey_below hbr (by omega) zeroKey⟩
end Go.Proofs.YtpilpchijmappaaDoor
