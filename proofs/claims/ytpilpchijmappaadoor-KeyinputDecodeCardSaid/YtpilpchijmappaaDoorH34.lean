/- narratorref14.Decode: the walk. -/
import Derived.Test.YtpilpchijmappaaDoorH33
namespace Go.Proofs.YtpilpchijmappaaDoor
open Go.RowKit

set_option maxRecDepth 100000 in
set_option maxHeartbeats 3000000 in
theorem decode14KP (w : World) (s : ByteArray) (m : Md) (hsz : s.size ≤ 1000) : Calls Tryd.prog 18 #[.string s, m.val] w fun e w' => DecRet m.app m.nl s.data.toList e ∧ Below w.heap.size w w' := by
  have hrf := Below.refl w.heap.size w
  have HE := hide (fun W k => encode14 W k m)
  have HN := hide (fun W => named14 W)
  have HCh := hide (fun W (x : ByteArray) (h : x.size ≤ 1000) => character14 W x h)
  obtain ⟨l, hl⟩ : ∃ l, s.data.toList = l := ⟨_, rfl⟩
  have hlen : l.length = s.size := by rw [← hl]; rfl
  rw [hl]
  have Hl := hide hl
  have Hlen := hide hlen
  have hl1000 : l.length ≤ 1000 := by omega
  have Hsz := hide hsz
  obtain ⟨W0, hW0, hbox0, hs0, hm0⟩ : ∃ W, W = w.alloc (.cells #[.bool m.ins, .bool m.nl, .bool m.app, .bool m.org, .bool m.wrap, .bool m.vis, .bool m.alt, .bool m.con, .int .u8 m.s0, .int .u8 m.s1, .int .i64 m.sh] 26) ∧ Below w.heap.size w W ∧ W.heap.size = w.heap.size + 1 ∧ MdBox W w.heap.size m := ⟨_, rfl, hrf.alloc (Nat.le_refl _) _, by simp, block_new w _⟩
  obtain ⟨W2, hW2, hbox2, hs2, hz1, hz2⟩ := boxKK W0 zeroKey zeroKey
  have hst0 : DecSt W2 w.heap.size (w.heap.size + 2) m zeroKey := ⟨by rw [hs0] at hz2; exact hz2, hm0.below hbox2 (by omega), by rw [hs0] at hz1; exact hz1, by omega, by omega⟩
  have Hst0 := hide hst0
  have hbw0 := hbox0.trans (hbox2.mono (by omega))
  have Hbw0 := hide hbw0
  have Hsz2 := hide (show W2.heap.size = w.heap.size + 3 by omega)
  obtain ⟨B0, hB0⟩ : ∃ b : Bool, decide (l = []) = b := ⟨_, rfl⟩
  have t0 : (s.toList == []) = B0 := by
    rw [ByteArray.toList_eq, hl, ← hB0, Bool.eq_iff_iff]; simp
  have HB0 := hide hB0
  clear hl hlen hsz hbox0 hs0 hm0 hbox2 hs2 hz1 hz2 hst0 hbw0 hB0
  subst hW2
  subst hW0
  obtain ⟨ins, nl, app, org, wrp, vis, alt, con, y0, y1, ysh⟩ := m
  unfold Md.val at HE ⊢
  dsimp only at HE Hst0 Hbw0 Hsz2 ⊢
  dsimp only [zeroKey] at Hbw0 Hsz2 Hst0
  obtain ⟨NL, hNL⟩ : ∃ n, namedKeys.length = n := ⟨_, rfl⟩
  have hNL2 : NL ≤ 208 := by rw [← hNL]; exact named_le
  have HNL := hide hNL
  unfold KeysRow at HN
  rw [hNL] at HN
  clear hNL
  go_enter Tryd.func18, Tryd.ntmps18
  go_wp2_with (first
    | (go_at_call 36; with_reducible refine (HN.out _).mono ?_; rintro e w6 ⟨g, cc, rfl, hg1, hg2, hkeys, hb6⟩; have Hst3 := hide (Hst0.out.below hb6); have Hkeys := hide hkeys; have Hbw6 := hide (Hbw0.out.trans (hb6.mono Hbw0.out.size)); have hbg : w.heap.size + 2 < g := Nat.lt_of_lt_of_le Hst0.out.hi hg1; have Hg6 := hide hg2; clear hkeys hb6 hg1 hg2)
    | fail)
  go_loopw [11, 8, 9] (fun i n sh wr => ∃ j : Nat, j ≤ NL ∧ i = .int .i64 j ∧ n = .int .i64 ((foldR app nl l j).2 : Int) ∧ sh = .bool (shR app nl l j) ∧ DecSt wr w.heap.size (w.heap.size + 2) ⟨ins, nl, app, org, wrp, vis, alt, con, y0, y1, ysh⟩ (foldR app nl l j).1 ∧ KeysAt wr g ∧ g < wr.heap.size ∧ Below w.heap.size w wr) (fun i _ _ _ => NL - (intOf i).toNat)
  case atStart => exact ⟨0, Nat.zero_le _, rfl, by simp [foldR], by simp [shR, HB0.out], by simpa [foldR, zeroKey] using Hst3.out, Hkeys.out, Hg6.out, Hbw6.out⟩
  case round =>
    obtain ⟨j, hj, rfl, rfl, rfl, hst, hkeys, hgl, hbr⟩ := hrel
    have Hgl := hide hgl
    clear hgl
    have Hst := hide hst
    have Hks := hide hkeys
    have HM := hide (foldR_le app nl l j)
    clear Hst3 Hkeys Hbw6 Hst0 Hbw0 hst Hg6 Hsz2
    by_cases hlt : j < NL
    · have hjI : (j : Int) < NL := by omega
      obtain ⟨K, hK⟩ : ∃ K, namedKeys[j]? = some K := ⟨_, List.getElem?_eq_getElem (by rw [HNL.out]; exact hlt)⟩
      have hk0 := named_valid K (List.mem_of_getElem? hK)
      have hF := foldR_succ (app := app) (nl := nl) (l := l) hK
      have hG := shR_succ (app := app) (nl := nl) (l := l) hK
      have Hkat := hide (fun W (h : KeysAt W g) => h j K hK)
      obtain ⟨k0, k1, k2, k3, k4⟩ := Hks.out j K hK
      have hgl2 := Hgl.out
      have x0 := Held.cell k0 hgl2
      have x1 := Held.cell k1 hgl2
      have x2 := Held.cell k2 hgl2
      have x3 := Held.cell k3 hgl2
      have x4 := Held.cell k4 hgl2
      have hml : w.heap.size < wr.heap.size := by have := Hst.out.hi; omega
      obtain ⟨m0, m1, m2, m3, m4, m5, m6, m7, m8, m9, m10⟩ := Hst.out.modes.cells
      have v0 := Held.cell m0 hml
      have v1 := Held.cell m1 hml
      have v2 := Held.cell m2 hml
      have v3 := Held.cell m3 hml
      have v4 := Held.cell m4 hml
      have v5 := Held.cell m5 hml
      have v6 := Held.cell m6 hml
      have v7 := Held.cell m7 hml
      have v8 := Held.cell m8 hml
      have v9 := Held.cell m9 hml
      have v10 := Held.cell m10 hml
      have hT0 : encT app nl K = ⟨(keyEnc app nl K).toArray⟩ := by unfold encT; rw [if_pos hk0]
      have HEk := hide (fun W => HE.out W K)
      rw [hk0] at HEk
      obtain ⟨T, hT⟩ : ∃ T, encT app nl K = T := ⟨_, rfl⟩
      rw [hT] at HEk hT0
      have hTl : T.data.toList = keyEnc app nl K := by rw [hT0]
      have hTs : (keyEnc app nl K).length = T.size := by rw [← hTl]; rfl
      have HP1 := hide (fun W => starts14 W s T)
      have HP2 := hide (fun W => starts14 W T s)
      rw [Hl.out, hTl] at HP1 HP2
      unfold bestStep at hF
      rw [hTs] at hF
      obtain ⟨P1, hP1⟩ : ∃ b, (keyEnc app nl K).isPrefixOf l = b := ⟨_, rfl⟩
      obtain ⟨P2, hP2⟩ : ∃ b, l.isPrefixOf (keyEnc app nl K) = b := ⟨_, rfl⟩
      obtain ⟨SH, hSH⟩ : ∃ b, shR app nl l j = b := ⟨_, rfl⟩
      obtain ⟨⟨KB, M⟩, hKB⟩ : ∃ x, foldR app nl l j = x := ⟨_, rfl⟩
      rw [hP1] at HP1 hF
      rw [hP2] at HP2 hG
      rw [hSH] at hG ⊢
      rw [hKB] at hF HM Hst ⊢
      dsimp only at hF HM Hst ⊢
      have HF := hide hF
      have HG := hide hG
      obtain ⟨nm, r, c, a, sh2⟩ := K
      unfold Key.val at HEk
      unfold KeyAt at Hkat
      dsimp only at HEk Hkat x0 x1 x2 x3 x4 v0 v1 v2 v3 v4 v5 v6 v7 v8 v9 v10
      have HSt7 := hide (fun W (hb : Below wr.heap.size wr W) => Hst.out.below hb)
      have HKs7 := hide (fun W (hb : Below wr.heap.size wr W) => Hks.out.below hb Hgl.out)
      have HBw7 := hide (fun W (hb : Below wr.heap.size wr W) => And.intro (hbr.trans (hb.mono hbr.size)) (Nat.lt_of_lt_of_le Hgl.out hb.size))
      clear hK hk0 hF hG hT0 hTl hTs hT hP1 hP2 hSH hKB HE k0 k1 k2 k3 k4 m0 m1 m2 m3 m4 m5 m6 m7 m8 m9 m10 hgl2 hml
      go_upto_region 6 with fail
      go_cut [12] (fun s12 wx => s12 = .string T ∧ Below wr.heap.size wr wx)
      case first =>
        refine wp_region_held_lit (by kernel_rfl) (by kernel_rfl) ?_
        repeat go_big_quiet_step ((go_at_call 13; exact held_call _ fun W hW => HEk.out W))
        refine wpQuiet_nil ?_
        intro w7 hb7
        go_wp2_with fail
        go_meet
        case rel => exact ⟨rfl, hb7⟩
      case rest =>
        obtain ⟨rfl, hb7⟩ := hcut
        clear x0 x1 x2 x3 x4 v0 v1 v2 v3 v4 v5 v6 v7 v8 v9 v10
        obtain ⟨wa, rfl⟩ : ∃ wa : World, wa = wc := ⟨_, rfl⟩
        have St7 := hide (HSt7.out _ hb7)
        have Hk7 := hide (HKs7.out _ hb7)
        have Hb7 := hide (HBw7.out _ hb7)
        obtain ⟨k0, k1, k2, k3, k4⟩ := Hkat.out _ Hk7.out
        obtain ⟨z0, z1, z2, z3, z4⟩ := St7.out.best.cells
        obtain ⟨f0, f1, f2, f3, f4⟩ := St7.out.best.free
        clear Hst hb7
        cases P1 with
        | true =>
          by_cases hM : M < T.size
          · have hMI : (M : Int) < (T.size : Int) := by omega
            have hMd : decide (M < T.size) = true := decide_eq_true hM
            have HFF := hide (HF.out.trans (by rw [hMd]; rfl) : foldR app nl l (j + 1) = (⟨nm, r, c, a, sh2⟩, T.size))
            clear HF hM
            cases SH
            all_goals
              go_wp2_with (first
                | (go_at_call 37; with_reducible refine (HP2.out _).mono ?_; rintro e wq ⟨rfl, rfl⟩)
                | (go_at_call 37; with_reducible refine (HP1.out _).mono ?_; rintro e wq ⟨rfl, rfl⟩)
                | fail)
              go_roundw
              case rel =>
                refine ⟨j + 1, by omega, by go_num, by rw [HFF.out], by rw [HG.out]; rfl, ?_, setKey_keys Hk7.out (by omega) ⟨nm, r, c, a, sh2⟩, by have := Hb7.out.2; simpa [World.setCell] using this, setKey_below Hb7.out.1 (by omega) ⟨nm, r, c, a, sh2⟩⟩
                rw [HFF.out]
                exact St7.out.store ⟨nm, r, c, a, sh2⟩
              case measure => simp [intOf]; omega
          · have hMI : ¬ (M : Int) < (T.size : Int) := by omega
            have hMd : decide (M < T.size) = false := decide_eq_false hM
            have HFF := hide (HF.out.trans (by rw [hMd]; rfl) : foldR app nl l (j + 1) = (KB, M))
            clear HF hM
            cases SH
            all_goals
              go_wp2_with (first
                | (go_at_call 37; with_reducible refine (HP2.out _).mono ?_; rintro e wq ⟨rfl, rfl⟩)
                | (go_at_call 37; with_reducible refine (HP1.out _).mono ?_; rintro e wq ⟨rfl, rfl⟩)
                | fail)
              go_roundw
              case rel => exact ⟨j + 1, by omega, by go_num, by rw [HFF.out], by rw [HG.out]; rfl, by rw [HFF.out]; exact St7.out, Hk7.out, Hb7.out.2, Hb7.out.1⟩
              case measure => simp [intOf]; omega
        | false =>
          have HFF := hide (HF.out.trans (by rfl) : foldR app nl l (j + 1) = (KB, M))
          clear HF
          cases SH
          all_goals
            go_wp2_with (first
                | (go_at_call 37; with_reducible refine (HP2.out _).mono ?_; rintro e wq ⟨rfl, rfl⟩)
                | (go_at_call 37; with_reducible refine (HP1.out _).mono ?_; rintro e wq ⟨rfl, rfl⟩)
                | fail)
            go_roundw
            case rel => exact ⟨j + 1, by omega, by go_num, by rw [HFF.out], by rw [HG.out]; rfl, by rw [HFF.out]; exact St7.out, Hk7.out, Hb7.out.2, Hb7.out.1⟩
            case measure => simp [intOf]; omega
    · obtain rfl : j = NL := by omega
      have hR : (shR app nl l j || decide ((charL l).2 < 0)) = shortB app nl l := by rw [← HNL.out]; exact shR_all _ _ _
      have hD : over (altL l) (over (singleL l) (foldR app nl l j)) = decP app nl l := by rw [← HNL.out]; exact foldR_all _ _ _
      obtain ⟨⟨KB, M⟩, hKB⟩ : ∃ x, foldR app nl l j = x := ⟨_, rfl⟩
      obtain ⟨SH, hSH⟩ : ∃ b, shR app nl l j = b := ⟨_, rfl⟩
      obtain ⟨SB, hSB⟩ : ∃ b, shortB app nl l = b := ⟨_, rfl⟩
      have hov := char_over l (KB, M)
      have hbd1 := charL_bd l
      have HCs := hide (fun W => HCh.out W s Hsz.out)
      rw [Hl.out] at HCs
      obtain ⟨⟨K1, n1⟩, hK1⟩ : ∃ x, charL l = x := ⟨_, rfl⟩
      rw [hK1] at HCs hov hbd1 hR
      rw [hKB] at hD HM Hst ⊢
      rw [hSH] at hR ⊢
      rw [hSB] at hR
      have hbd1' : n1 ≤ 1000 := by have : n1 ≤ (l.length : Int) := hbd1; omega
      have Hov := hide hov
      have HD := hide hD
      have HR := hide hR
      have HSB := hide hSB
      have HNK := hide (fun W => keyBox_new W K1)
      have Hbr := hide hbr
      obtain ⟨nm, r, c, a, sh2⟩ := K1
      unfold Key.val at HCs
      dsimp only at HCs HM Hst Hov HNK HR hbd1 ⊢
      clear hov hD hR hSB hK1 hSH hKB HE HN hkeys Hks Hgl hbd1 hbr HNL HB0
      go_upto_if 65 with (first
        | (go_at_call 38; with_reducible refine (HCs.out _).mono ?_; rintro e w7 ⟨rfl, hb7⟩; have st7 := (Hst.out.below hb7).alloc (.cells #[.string nm, .int .i32 r, .bool c, .bool a, .bool sh2] 23); have bw7 := (Hbr.out.trans (hb7.mono Hbr.out.size)); have St7 := hide st7; have Hbw7 := hide (bw7.alloc bw7.size (.cells #[.string nm, .int .i32 r, .bool c, .bool a, .bool sh2] 23)); obtain ⟨x0, x1, x2, x3, x4⟩ := (HNK.out w7).cells; obtain ⟨z0, z1, z2, z3, z4⟩ := st7.best.cells; obtain ⟨f0, f1, f2, f3, f4⟩ := st7.best.free; clear st7 bw7 hb7)
        | fail)
      go_cut [8] (HeadRel w.heap.size (w.heap.size + 2) w ⟨ins, nl, app, org, wrp, vis, alt, con, y0, y1, ysh⟩ (over (singleL l) (KB, M)))
      case first =>
        by_cases hlt : (M : Int) < n1
        · have HX := hide (Hov.out.trans (if_pos hlt))
          clear Hov
          go_wp2_with fail
          go_meet
          case rel =>
            rw [HX.out]
            exact headRel_int (by omega) (St7.out.store ⟨nm, r, c, a, sh2⟩) (setKey_below Hbw7.out (by omega) ⟨nm, r, c, a, sh2⟩)
        · have HX := hide (Hov.out.trans (if_neg hlt))
          clear Hov
          go_wp2_with fail
          go_meet
          case rel =>
            rw [HX.out]
            exact headRel_mk rfl St7.out Hbw7.out
      case rest =>
        obtain ⟨rfl, hst, hbc⟩ := hcut
        obtain ⟨⟨KC, MC⟩, hKC⟩ : ∃ x, over (singleL l) (KB, M) = x := ⟨_, rfl⟩
        have HKC := hide hKC
        rw [hKC] at hst ⊢
        have hD := HD.out
        rw [hKC] at hD
        have HD := hide hD
        have Hst8 := hide hst
        have Hbc := hide hbc
        dsimp only at Hst8 ⊢
        clear hst hbc hKC hD Hov St7 Hbw7 x0 x1 x2 x3 x4 z0 z1 z2 z3 z4 f0 f1 f2 f3 f4 HM HNK Hst Hbr HCs
        obtain ⟨wa, rfl⟩ : ∃ wa : World, wa = wc := ⟨_, rfl⟩
        go_upto_region 15 with fail
        go_cut [9] (fun s9 wx => s9 = .bool SB ∧ wx = wa)
        case first =>
          cases SH with
          | true =>
            have HRt := hide (show true = SB by rw [← HR.out]; rfl)
            go_wp2_with fail
            go_meet
            case rel => exact ⟨congrArg Value.bool HRt.out, rfl⟩
          | false =>
            have HRt := hide (show decide (n1 < 0) = SB by rw [← HR.out]; rfl)
            go_wp2_with fail
            go_meet
            case rel => exact ⟨congrArg Value.bool HRt.out, rfl⟩
        case rest =>
          obtain ⟨rfl, rfl⟩ := hcut
          obtain ⟨IS, hIS⟩ : ∃ b : Bool, ([27] : List UInt8).isPrefixOf l = b := ⟨_, rfl⟩
          have HIS := hide hIS
          obtain ⟨wb, hwb⟩ : ∃ wb : World, wb = wc := ⟨_, rfl⟩
          rw [← hwb] at Hst8 Hbc ⊢
          clear hwb hIS
          go_upto_region 16 with fail
          go_cut [80] (fun s80 wx => s80 = .bool IS ∧ wx = wb)
          case first =>
            match hl2 : l with
            | [] =>
              have hs0 : ¬ (0 : Int) < (s.size : Int) := by have := Hlen.out; simp at this; omega
              obtain rfl : false = IS := HIS.out
              clear hl2
              go_wp2_with fail
              go_meet
              case rel => exact ⟨rfl, rfl⟩
            | b :: t =>
              have hp0 : 0 < s.size := by have := Hlen.out; simp at this; omega
              have hz0 : (0 : Int) < (s.size : Int) := by omega
              have hs0 : s[0]'hp0 = b := by rw [get_at, Hl.out]; rfl
              have hq : ((b.toNat : Int) == 27) = IS := by
                rw [← HIS.out, Bool.eq_iff_iff, beq_iff_eq]
                simp only [List.isPrefixOf, Bool.and_true, beq_iff_eq]
                constructor
                · intro h; exact (UInt8.toNat_inj.1 (by show b.toNat = 27; omega)).symm
                · intro h; rw [← h]; rfl
              clear hl2
              go_wp2_with fail
              go_meet
              case rel => exact ⟨rfl, rfl⟩
          case rest =>
            obtain ⟨rfl, rfl⟩ := hcut
            obtain ⟨wd, hwd⟩ : ∃ wd : World, wd = wc := ⟨_, rfl⟩
            rw [← hwd] at Hst8 Hbc ⊢
            clear hwd
            go_upto_if 80 with fail
            go_cut [8] (HeadRel w.heap.size (w.heap.size + 2) w ⟨ins, nl, app, org, wrp, vis, alt, con, y0, y1, ysh⟩ (over (altL l) (KC, MC)))
            case first =>
              cases IS with
              | false =>
                go_wp2_with fail
                go_meet
                case rel =>
                  rw [alt_plain (fun t ht => by have := (esc_prefix l).2 ⟨t, ht⟩; rw [HIS.out] at this; cases this)]
                  exact headRel_mk rfl Hst8.out Hbc.out
              | true =>
                obtain ⟨tl, htl⟩ := (esc_prefix l).1 HIS.out
                have hp1 : 1 ≤ s.size := by have := Hlen.out; rw [htl] at this; simp at this; omega
                have hz1 : (1 : Int) ≤ (s.size : Int) := by omega
                have hRl : (s.extract 1 s.size).data.toList = tl := by rw [drop_ext, Hl.out, htl]; rfl
                have HCs := hide (fun W => HCh.out W (s.extract 1 s.size) (by simp [ByteArray.size_extract]; have := Hsz.out; omega))
                rw [hRl] at HCs
                have hov := alt_over tl (KC, MC)
                rw [← htl] at hov
                have hbd2 := charL_bd tl
                have htl2 : tl.length ≤ 1000 := by rw [htl] at hl1000; simp at hl1000; omega
                obtain ⟨⟨K2, n2⟩, hK2⟩ : ∃ x, charL tl = x := ⟨_, rfl⟩
                rw [hK2] at HCs hov hbd2
                have hbd2' : n2 ≤ 1000 := by have : n2 ≤ (tl.length : Int) := hbd2; omega
                have Hov := hide hov
                have HNK := hide (fun W => keyBox_new W ⟨K2.name, K2.rune, K2.control, true, K2.shift⟩)
                obtain ⟨nm2, r2, c2, a2, sh2⟩ := K2
                unfold Key.val at HCs
                dsimp only at HCs Hov HNK
                clear hov hK2 hRl htl hbd2
                by_cases hc1 : 0 < n2
                · by_cases hc2 : (MC : Int) < n2 + 1
                  · have HX := hide (Hov.out.trans (if_pos ⟨hc1, hc2⟩))
                    clear Hov
                    go_wp2_with (first
                      | (go_at_call 38; with_reducible refine (HCs.out _).mono ?_; rintro e w9 ⟨rfl, hb9⟩; have st9 := (Hst8.out.below hb9).alloc (.cells #[.string nm2, .int .i32 r2, .bool c2, .bool true, .bool sh2] 23); have bw9 := (Hbc.out.trans (hb9.mono Hbc.out.size)); have St9 := hide st9; have Hbw9 := hide (bw9.alloc bw9.size (.cells #[.string nm2, .int .i32 r2, .bool c2, .bool true, .bool sh2] 23)); obtain ⟨z0, z1, z2, z3, z4⟩ := st9.best.cells; obtain ⟨f0, f1, f2, f3, f4⟩ := st9.best.free; clear st9 bw9 hb9)
                      | fail)
                    go_meet
                    case rel =>
                      rw [HX.out]
                      exact headRel_int (by omega) (St9.out.store ⟨nm2, r2, c2, true, sh2⟩) (setKey_below Hbw9.out (by omega) ⟨nm2, r2, c2, true, sh2⟩)
                  · have HX := hide (Hov.out.trans (if_neg (fun h => hc2 h.2)))
                    clear Hov
                    go_wp2_with (first
                      | (go_at_call 38; with_reducible refine (HCs.out _).mono ?_; rintro e w9 ⟨rfl, hb9⟩; have st9 := (Hst8.out.below hb9).alloc (.cells #[.string nm2, .int .i32 r2, .bool c2, .bool a2, .bool sh2] 23); have bw9 := (Hbc.out.trans (hb9.mono Hbc.out.size)); have St9 := hide st9; have Hbw9 := hide (bw9.alloc bw9.size (.cells #[.string nm2, .int .i32 r2, .bool c2, .bool a2, .bool sh2] 23)); clear st9 bw9 hb9)
                      | fail)
                    go_meet
                    case rel =>
                      rw [HX.out]
                      exact headRel_mk rfl St9.out Hbw9.out
                · have HX := hide (Hov.out.trans (if_neg (fun h => hc1 h.1)))
                  clear Hov
                  go_wp2_with (first
                    | (go_at_call 38; with_reducible refine (HCs.out _).mono ?_; rintro e w9 ⟨rfl, hb9⟩; have st9 := (Hst8.out.below hb9).alloc (.cells #[.string nm2, .int .i32 r2, .bool c2, .bool a2, .bool sh2] 23); have bw9 := (Hbc.out.trans (hb9.mono Hbc.out.size)); have St9 := hide st9; have Hbw9 := hide (bw9.alloc bw9.size (.cells #[.string nm2, .int .i32 r2, .bool c2, .bool a2, .bool sh2] 23)); clear st9 bw9 hb9)
                    | fail)
                  go_meet
                  case rel =>
                    rw [HX.out]
                    exact headRel_mk rfl St9.out Hbw9.out
            case rest =>
              obtain ⟨rfl, hst, hbc⟩ := hcut
              rw [HD.out] at hst ⊢
              obtain ⟨⟨KD, MDd⟩, hKD⟩ : ∃ x, decP app nl l = x := ⟨_, rfl⟩
              rw [hKD] at hst ⊢
              dsimp only at hst ⊢
              obtain ⟨z0, z1, z2, z3, z4⟩ := hst.best.cells
              obtain ⟨q0, q1, q2, q3, q4⟩ := hst.res.cells
              obtain ⟨f0, f1, f2, f3, f4⟩ := hst.res.free
              have HKD := hide hKD
              have Hbc2 := hide hbc
              clear hKD hst hbc Hbc Hst8 HD
              by_cases hM : 0 < MDd
              · have hMI : (0 : Int) < (MDd : Int) := by omega
                have HMM := hide hM
                clear hM
                go_wp2
                exact bodyPost_ret (v := .tuple #[.agg #[.string KD.name, .int .i32 KD.rune, .bool KD.control, .bool KD.alt, .bool KD.shift], .int .i64 (MDd : Int), .int .i64 0]) (by simp [results, Tryd.results18, go_sem, q0, q1, q2, q3, q4]) rfl ⟨decRet_yes HKD.out HMM.out, setKey_below Hbc2.out (by omega) KD⟩
              · have hMI : ¬ (0 : Int) < (MDd : Int) := by omega
                have HM0 := hide (show (decP app nl l).2 = 0 by rw [HKD.out]; show MDd = 0; omega)
                clear hM
                cases SB with
                | true =>
                  go_wp2
                  exact bodyPost_ret (v := .tuple #[.agg #[.string ⟨#[]⟩, .int .i32 0, .bool false, .bool false, .bool false], .int .i64 0, .int .i64 4]) (by simp [results, Tryd.results18, go_sem, q0, q1, q2, q3, q4]) rfl ⟨decRet_no HM0.out HSB.out, setKey_below Hbc2.out (by omega) zeroKey⟩
                | false =>
                  go_wp2
                  exact bodyPost_ret (v := .tuple #[.agg #[.string ⟨#[]⟩, .int .i32 0, .bool false, .bool false, .bool false], .int .i64 0, .int .i64 3]) (by simp [results, Tryd.results18, go_sem, q0, q1, q2, q3, q4]) rfl ⟨decRet_no HM0.out HSB.out, setKey_below Hbc2.out (by omega) zeroKey⟩
end Go.Proofs.YtpilpchijmappaaDoor
