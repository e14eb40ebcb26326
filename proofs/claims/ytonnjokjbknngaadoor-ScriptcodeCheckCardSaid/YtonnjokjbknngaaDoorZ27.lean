/- scriptcode.Disassemble. -/
import Derived.Test.YtonnjokjbknngaaDoorZ26
import Derived.Deep.RegionHeld3
import Derived.Deep.DeepCutAuto
namespace Go.Proofs.YtonnjokjbknngaaDoor
open Go.RowKit Go.Maps Go.Lib Go.Shelf

theorem itoa_len {z : Int} (h1 : -999999999 ≤ z) (h2 : z ≤ 999999999) : (itoa z).length ≤ 10 := by
  unfold itoa
  split
  · rw [List.length_cons]
    have := dec_len 8 z.natAbs (by simp; omega)
    omega
  · have := dec_len 8 z.toNat (by simp; omega)
    omega
theorem argL_len {x : Ins} (h1 : -999999999 ≤ x.arg) (h2 : x.arg ≤ 999999999) : (argL x).length ≤ 12 := by
  have hi : (itoa x.arg).length ≤ 10 := by
    unfold itoa
    split
    · rw [List.length_cons]
      have := dec_len 8 x.arg.natAbs (by simp; omega)
      omega
    · have := dec_len 8 x.arg.toNat (by simp; omega)
      omega
  unfold argL
  split
  · simp; omega
  · split
    · simp; omega
    · simp
theorem labL_len (l : List Ins) (i : Nat) (h : i ≤ 1000) : (labL l i).length ≤ 7 := by
  unfold labL labW
  split
  · have := dec_len 3 i (by simp; omega)
    simp; omega
  · simp
theorem opW_len (z : Int) (h0 : 0 ≤ z) (h1 : z ≤ 20) : (opW z).length ≤ 8 := opW_cases h0 h1 (fun z => (opW z).length ≤ 8) (by decide)
theorem ba_cat (a b : ByteArray) : (a ++ b).data.toList = a.data.toList ++ b.data.toList := by simp
theorem itoa_nat (k : Nat) : itoa (k : Int) = decDigits k := by unfold itoa; rw [if_neg (by omega), Int.toNat_natCast]

set_option maxRecDepth 100000 in
set_option maxHeartbeats 3000000 in
theorem disasmP (w : World) (A : Option Addr) (c : Nat) (l : List Ins) (h : InsRow w w.heap.size A l) (hT : Pow w) :
    Calls Tryd.prog 23 #[.slice A l.length c] w fun e w' => e = .returned (.tuple #[.string ⟨(if codeErr l = 0 then disB l else []).toArray⟩, .int .i64 (codeErr l)]) ∧ Below w.heap.size w w' := by
  have HC := hide (checkP w A c l h)
  obtain ⟨E, hE⟩ : ∃ e, codeErr l = e := ⟨_, rfl⟩
  rw [hE] at HC ⊢
  by_cases hz : E = 0
  · subst hz
    rw [if_pos rfl]
    have hok := hE
    unfold codeErr at hok
    have hlen : l.length ≤ 500 := by
      by_cases h1 : 500 < l.length
      · rw [if_pos h1] at hok; cases hok
      · omega
    rw [if_neg (by omega)] at hok
    have Hok := hide (fun k x (hx : l[k]? = some x) => (show insErr l.length k x = 0 by simpa using errFrom_ok hok k x hx))
    obtain ⟨n, hn⟩ : ∃ n, l.length = n := ⟨_, rfl⟩
    rw [hn] at HC hlen Hok ⊢
    have Hn := hide hn
    have Hh := hide h
    have HT := hide hT
    have hmm := @run_makeMap Tryd.prog
    clear h hE hok hn hT
    go_enter Tryd.func23, Tryd.ntmps23
    go_wp2_with (go_at_call 22; refine HC.out.mono ?_; rintro e w1 ⟨rfl, hb1⟩; have Hb1 := hide hb1; clear hb1)
    clear hmm
    go_loopw [18] (fun i wr => ∃ (k m : Nat), k ≤ n ∧ i = .int .i64 k ∧ m ≤ k ∧ wr.ownsMap Tryd.prog 3 (plainElem (H := Unit) Tryd.prog 4) w1.heap.size m (tD (l.take k)) ∧ Below w1.heap.size w1 wr ∧ w1.heap.size < wr.heap.size) (fun i _ => n - (intOf i).toNat)
    case atStart => exact ⟨0, 0, Nat.zero_le _, rfl, Nat.le_refl _, World.ownsMap_made w1 _ _ _, (Below.refl _ _).alloc (Nat.le_refl _) _, by simp⟩
    case round =>
      obtain ⟨k, m, hk, rfl, hmk, hown, hbr, hsz⟩ := hrel
      rename World => wo
      have HB := hide hbr
      have HO := hide hown
      by_cases hlt : k < n
      · have hltI : (k : Int) < (n : Int) := by omega
        have hkl : k < l.length := by rw [Hn.out]; exact hlt
        have htk : l.take (k + 1) = l.take k ++ [l[k]'hkl] := List.take_succ_eq_append_getElem hkl
        have hi := Hok.out k _ (List.getElem?_eq_getElem hkl)
        obtain ⟨b, off, rfl, hb, hc0, hc1⟩ := Hh.out.get hkl
        obtain ⟨x, hx⟩ : ∃ x, l[k]'hkl = x := ⟨_, rfl⟩
        rw [hx] at hc0 hc1 htk hi
        obtain ⟨i1, i2, i3, i4⟩ := ins_ok_op hi
        obtain ⟨op, arg⟩ := x
        dsimp only at hc0 hc1 i1 i2 i3 i4
        have e0 : wo.cell? ⟨b, off + k * 2, none⟩ = some (.int .i64 op) := ((Hb1.out.trans (hbr.mono Hb1.out.size)).cell (p := ⟨b, _, none⟩) hb).trans hc0
        have e1 : wo.cell? ⟨b, off + k * 2 + 1, none⟩ = some (.int .i64 arg) := ((Hb1.out.trans (hbr.mono Hb1.out.size)).cell (p := ⟨b, _, none⟩) hb).trans hc1
        have htd : tD (l.take (k + 1)) = if isJ ⟨op, arg⟩ = true then (tD (l.take k)).put (.int .i64 arg) (.lit (.bool true)) else tD (l.take k) := by
          rw [htk]; exact tFrom_snoc _ _ _
        have hL1 : -999999999 ≤ loA op k := by unfold loA; repeat' split
                                               all_goals omega
        have hH1 : hiA op n ≤ 999999999 := by unfold hiA; repeat' split
                                              all_goals omega
        have hwf : (Lit.int .i64 arg).wf = true := Go.WalkArith.wf_i64 (by omega)
        have Hwf := hide hwf
        have Htd := hide htd
        clear hc0 hc1 hi hx htk htd hwf hown hbr hkl hb i3 i4 hL1 hH1
        by_cases hj : op = 17 ∨ op = 18
        · have HJ := hide (show isJ ⟨op, arg⟩ = true from decide_eq_true hj)
          have hq : (op == 17) = true ∨ ((op == 17) = false ∧ (op == 18) = true) := by
            rcases hj with h | h
            · left; rw [h]; rfl
            · right; rw [h]; exact ⟨rfl, rfl⟩
          clear hj
          rcases hq with hq | ⟨hq, hq2⟩
          all_goals
            go_wp2_with (first
              | (at_mapUpdate; refine wpList_mapUpdate_own _ rfl _ _ _ 84 rfl 3 4 (int_keyed Tryd.underlying3) Tryd.underlying84 _ w1.heap.size m (tD (l.take k)) rfl (HO.out.alloc _) (by unfold maxLen; omega) _ _ _ rfl rfl (keyOf_int_mk Tryd.underlying3 Hwf.out) _ [] (plainElem_bool Tryd.underlying4 true) ?_; intro w3 hown3 hg3; have HO3 := hide hown3; have HG3 := hide hg3; clear hown3 hg3)
              | fail)
            go_roundw
            case rel => exact ⟨k + 1, m + 1, by omega, by go_num, by omega, by rw [Htd.out, if_pos HJ.out]; exact HO3.out, (HB.out.alloc (Nat.le_of_lt hsz) _).grown HG3.out (by simp; omega) (fun j hj => by cases hj; exact Nat.le_refl _), Nat.lt_of_lt_of_le hsz (Nat.le_trans (by simp) HG3.out.size)⟩
            case measure => simp [intOf]; omega
        · have HJ := hide (show ¬ isJ ⟨op, arg⟩ = true by unfold isJ; simpa using hj)
          have q1 : (op == 17) = false := by rw [beq_eq_false_iff_ne]; omega
          have q2 : (op == 18) = false := by rw [beq_eq_false_iff_ne]; omega
          clear hj
          go_wp2
          go_roundw
          case rel => exact ⟨k + 1, m, by omega, by go_num, by omega, by rw [Htd.out, if_neg HJ.out]; exact HO.out.alloc _, HB.out.alloc (Nat.le_of_lt hsz) _, by simp; omega⟩
          case measure => simp [intOf]; omega
      · obtain rfl : k = n := by omega
        rw [List.take_of_length_le (by rw [Hn.out]; exact Nat.le_refl _)] at hown
        have HOm := hide hown
        clear hown hbr HO
        have HBo := hide (Hb1.out.trans (HB.out.mono Hb1.out.size))
        have hbld : Bld (wo.alloc (.cells #[.pointer none, .slice none 0 0] 74)) wo.heap.size [] := IsBuilderF.of (fresh_isBuilder 74 5 wo)
        have Hbld := hide hbld
        clear hbld
        go_wp2
        go_loopw [37] (fun i wr => ∃ (q : Nat) (done : List UInt8), q ≤ k ∧ i = .int .i64 q ∧ done ++ disFrom l q (l.drop q) = disB l ∧ done.length ≤ q * 40 ∧ Bld wr wo.heap.size done ∧ Below wo.heap.size wo wr) (fun i _ => k + 1 - (intOf i).toNat)
        case atStart => exact ⟨0, [], Nat.zero_le _, rfl, rfl, Nat.le_refl _, Hbld.out, (Below.refl _ _).alloc (Nat.le_refl _) _⟩
        case round =>
          clear Hbld
          obtain ⟨q, done, hq, rfl, hdone, hdl, hbld, hbr⟩ := hrel
          rename World => wp
          have hlook := t_look (map_block HOm.out (hbr.block _ hsz)) q (by omega)
          have HDn := hide hdone
          have HBr := hide hbr
          have Hbd := hide hbld
          have HTp := hide (fun W (hb : Below wo.heap.size wo W) => HT.out.below (HBo.out.trans (hb.mono HBo.out.size)))
          have HIt := hide (fun W z h1 h2 (hb : Below wo.heap.size wo W) => itoaP W z h1 h2 (HTp.out W hb))
          obtain ⟨D0, hD0⟩ : ∃ s : ByteArray, (⟨(Lib.itoa (q : Int)).toArray⟩ : ByteArray) = s := ⟨_, rfl⟩
          have hD0l : D0.data.toList = decDigits q := by rw [← hD0, itoa_nat]
          have hD0z : D0.size ≤ 4 := by
            have h1 : D0.size = (decDigits q).length := by rw [← hD0l]; rfl
            have := dec_len 3 q (by simp; omega)
            omega
          obtain ⟨T, hT⟩ : ∃ t, isT l q = t := ⟨_, rfl⟩
          have HLb := hide (show labL l q = if T = true then labW q ++ [58, 10] else [] by unfold labL; rw [hT])
          have HL7 := hide (labL_len l q (by omega))
          have HIq := hide (fun W (hb : Below wo.heap.size wo W) => HIt.out W (q : Int) (by omega) (by omega) hb)
          rw [hD0] at HIq
          rw [hT] at hlook
          have HD0l := hide hD0l
          have hdz : done.length ≤ 20000 := by omega
          have hq5 : q ≤ 500 := by omega
          clear hT hdone hbr hbld hD0 hD0l
          go_upto_if 42 with fail
          go_cut [] from 38 to 88 (fun wx => Bld wx wo.heap.size (done ++ labL l q) ∧ Below wo.heap.size wo wx)
          case first =>
            cases T with
            | false =>
              clear hlook
              go_wp2
              go_meet
              case rel => exact ⟨by rw [HLb.out, if_neg (by decide), List.append_nil]; exact Hbd.out, HBr.out⟩
            | true =>
              clear hlook
              have Hz0 := hide (show done.length + (({ data := #[108] } : ByteArray) ++ D0 ++ { data := #[58, 10] }).size ≤ 1000000 by
                rw [ByteArray.size_append, ByteArray.size_append, show (({ data := #[108] } : ByteArray)).size = 1 from rfl, show (({ data := #[58, 10] } : ByteArray)).size = 2 from rfl]; omega)
              go_wp2_with (first
                | (go_at_call 49; (with_reducible refine (HIq.out wp HBr.out).mono ?_); rintro e w4 ⟨rfl, hb4⟩; have Hb4 := hide hb4; clear hb4)
                | (go_at_call 45; (with_reducible refine (writeP w4 wo.heap.size done _ (bld_below Hbd.out Hb4.out) Hz0.out).mono ?_); rintro e w5 ⟨rfl, hb5, hbl5⟩; have Hb5 := hide hb5; have Hbl5 := hide hbl5; clear hb5 hbl5)
                | fail)
              go_meet
              case rel => exact ⟨by
                  rw [HLb.out, if_pos trivial]
                  have e : (({ data := #[108] } : ByteArray) ++ D0 ++ { data := #[58, 10] }).data.toList = labW q ++ [58, 10] := by
                    rw [ba_cat, ba_cat, HD0l.out]; rfl
                  rw [← e]; exact Hb5.out, HBr.out.trans ((Hb4.out.mono (by exact HBr.out.size)).trans (Hbl5.out.mono (by omega)))⟩
          case rest =>
            obtain ⟨hbc, hbrc⟩ := hcut
            have Hbc := hide hbc
            have HBc := hide hbrc
            obtain ⟨D, hD⟩ : ∃ d, done ++ labL l q = d := ⟨_, rfl⟩
            have hDz : D.length ≤ 20010 := by rw [← hD, List.length_append]; have := HL7.out; omega
            have hDl : D.length ≤ q * 40 + 7 := by rw [← hD, List.length_append]; have := HL7.out; omega
            have hdn := HDn.out
            rw [hD] at Hbc
            clear hbc hbrc hlook HIq HD0l hD0z HLb HL7 Hbd HBr HDn hdz hdl D0
            by_cases hqk : q = k
            · have HR := hide (show D = disB l by
                rw [← hdn, List.drop_of_length_le (by rw [Hn.out]; omega), ← hD]; rfl)
              obtain rfl : k = q := hqk.symm
              clear hdn hD
              go_wp2_with (first
                | (go_at_call 47; (with_reducible refine (stringP wc wo.heap.size D Hbc.out).mono ?_); rintro e w5 ⟨rfl, hbl5⟩)
                | fail)
              go_ret2
              exact ⟨by rw [← HR.out]; rfl, HBo.out.trans ((HBc.out.trans hbl5).mono HBo.out.size)⟩
            have hlt : q < k := by omega
            have hltI : (q : Int) < (k : Int) := by omega
            have hkl : q < l.length := by rw [Hn.out]; exact hlt
            have hi := Hok.out q _ (List.getElem?_eq_getElem hkl)
            have hdr := List.drop_eq_getElem_cons hkl
            obtain ⟨b, off, rfl, hb, hc0, hc1⟩ := Hh.out.get hkl
            obtain ⟨x, hx⟩ : ∃ x, l[q]'hkl = x := ⟨_, rfl⟩
            rw [hx] at hc0 hc1 hi hdr
            obtain ⟨i1, i2, i3, i4⟩ := ins_ok_op hi
            obtain ⟨op, arg⟩ := x
            dsimp only at hc0 hc1 i1 i2 i3 i4
            have ha1 : -999999999 ≤ arg := by
              have : -999999999 ≤ loA op q := by unfold loA; repeat' split
                                                 all_goals omega
              omega
            have ha2 : arg ≤ 999999999 := by
              have : hiA op k ≤ 999999999 := by unfold hiA; repeat' split
                                                all_goals omega
              omega
            have hal := argL_len (x := ⟨op, arg⟩) ha1 ha2
            have hol := opW_len op i1 i2
            rw [hdr] at hdn
            unfold disFrom at hdn
            dsimp only at hdn
            obtain ⟨o, rfl⟩ : ∃ o : Nat, op = (o : Int) := ⟨op.toNat, by omega⟩
            have ho : o < 21 := by omega
            have hoI : (o : Int) < 21 := by omega
            have hol2 : o < opNames.length := ho
            have hN0 : opW (o : Int) = opNames[o]'hol2 := by unfold opW; rw [Int.toNat_natCast, List.getD_eq_getElem?_getD, List.getElem?_eq_getElem hol2]; rfl
            obtain ⟨S0, hS0⟩ : ∃ s : ByteArray, (⟨(opW (o : Int)).toArray⟩ : ByteArray) = s := ⟨_, rfl⟩
            have hS0l : S0.data.toList = opW (o : Int) := by rw [← hS0]
            have hS0z : S0.size ≤ 8 := by
              have h1 : S0.size = (opW (o : Int)).length := by rw [← hS0l]; rfl
              omega
            have HS0l := hide hS0l
            have HNc := hide (fun (W : World) (base g c' : Nat) (h : W.ownsRow base 9 1 (.slice (some ⟨g, 0, none⟩) 21 c') 21 (opNames.map strV)) => (h.cellAt o (by omega)).trans (show (opNames.map strV)[o]? = some (.string S0) by rw [List.getElem?_map, List.getElem?_eq_getElem hol2, ← hN0, ← hS0]; rfl))
            have HS := hide (fun (W : World) (hbw : Below wo.heap.size wo W) => (show W.cell? ⟨b, off + q * 2, none⟩ = some (.int .i64 o) ∧ W.cell? ⟨b, off + q * 2 + 1, none⟩ = some (.int .i64 arg) from
              ⟨((HBo.out.trans (hbw.mono HBo.out.size)).cell (p := ⟨b, _, none⟩) hb).trans hc0, ((HBo.out.trans (hbw.mono HBo.out.size)).cell (p := ⟨b, _, none⟩) hb).trans hc1⟩))
            have HNx := hide (show D ++ opW (o : Int) ++ argL ⟨o, arg⟩ ++ [10] ++ disFrom l (q + 1) (l.drop (q + 1)) = disB l by
              rw [← hdn, ← hD]; simp only [List.append_assoc])
            have Hlen := hide (show (D ++ opW (o : Int) ++ argL ⟨o, arg⟩ ++ [10]).length ≤ (q + 1) * 40 by
              simp only [List.length_append, List.length_singleton]; omega)
            have Hal := hide hal
            have hDz2 : (D ++ opW (o : Int)).length ≤ 20020 := by rw [List.length_append]; omega
            obtain ⟨DA, hDA⟩ : ∃ s : ByteArray, (⟨(Lib.itoa arg).toArray⟩ : ByteArray) = s := ⟨_, rfl⟩
            have hDAl : DA.data.toList = itoa arg := by rw [← hDA]
            have hDAz : DA.size ≤ 10 := by
              have h1 : DA.size = (itoa arg).length := by rw [← hDAl]; rfl
              have := itoa_len ha1 ha2
              omega
            have HIa := hide (fun W (hb : Below wo.heap.size wo W) => HIt.out W arg ha1 ha2 hb)
            rw [hDA] at HIa
            have HDAl := hide hDAl
            have hd0 := HBc.out.drew
            have HSz := hide (show D.length + S0.size ≤ 1000000 by omega)
            have hcw := (HS.out _ HBc.out).1
            clear hi hdr hc0 hc1 hx hkl hb i1 i2 i3 i4 hal hol hdn hol2 hN0 hS0 hS0l hDA hDAl hD hqk hDl HIt
            go_upto_region 18 with fail
            go_cut [] from 38 to 88 (fun wx => Bld wx wo.heap.size (D ++ opW (o : Int)) ∧ Below wo.heap.size wo wx)
            case first =>
              go_region_law (first
                | (go_simp; go_at_call 45; (with_reducible refine (writeP w4 wo.heap.size D S0 Hb4.out HSz.out).mono ?_); rintro e w5 ⟨rfl, hbd5, hbl5⟩; have hb5 := hide (hbN.out.trans hbl5); have Hbd5 := hide hbd5; clear hbd5 hbl5)
                | (go_simp; go_at_call 27; refine (namesP _).mono ?_; rintro e w4 ⟨g', c', rfl, hown4, hbF⟩; have hbN := hide (hd0.trans (hbF.mono hd0.size)); have hnc := HNc.out _ _ _ _ hown4; have hc4 := (HS.out _ hbN.out).1; have Hb4 := hide (bld_below Hbc.out ((Below.refl wc.heap.size wc).drew.trans hbF)); clear hown4 hbF)
                | fail)
              all_goals
                go_wp2_with fail
                go_meet
                case rel => exact ⟨by rw [← HS0l.out]; exact Hbd5.out, hb5.out⟩
            case rest =>
              obtain ⟨hbd, hbw⟩ := hcut
              have Hb := hide hbd
              have Hw := hide hbw
              obtain ⟨k0, k1⟩ := HS.out wc hbw
              have Hnl := hide (show (D ++ opW (o : Int) ++ argL ⟨o, arg⟩).length + ({ data := #[10] } : ByteArray).size ≤ 1000000 by
                rw [List.length_append]; show _ + 1 ≤ _; have := Hal.out; omega)
              clear hbd hbw HNc HBc Hbc hd0 hcw HSz HS0l hS0z
              have hop : o = 1 ∨ ((o : Int) == 1) = false ∧ (o = 17 ∨ o = 18) ∨ o ≠ 1 ∧ o ≠ 17 ∧ o ≠ 18 := by
                by_cases h : o = 1
                · exact .inl h
                · by_cases h2 : o = 17 ∨ o = 18
                  · exact .inr (.inl ⟨by rw [beq_eq_false_iff_ne]; omega, h2⟩)
                  · exact .inr (.inr ⟨h, by omega, by omega⟩)
              rcases hop with hop | ⟨q1, hop⟩ | ⟨o1, o2, o3⟩
              · have HA := hide (show argL ⟨o, arg⟩ = (({ data := #[32] } : ByteArray) ++ DA).data.toList by
                  rw [ba_cat, HDAl.out]; unfold argL; rw [if_pos (by dsimp only; omega)]; rfl)
                have HzA := hide (show (D ++ opW (o : Int)).length + (({ data := #[32] } : ByteArray) ++ DA).size ≤ 1000000 by
                  have h1 : (argL ⟨o, arg⟩).length = (({ data := #[32] } : ByteArray) ++ DA).size := by rw [HA.out]; rfl
                  rw [← h1]; have := Hal.out; omega)
                have hq : ((o : Int) == 1) = true := by rw [beq_iff_eq]; omega
                clear hop Hal HDAl
                all_goals
                  go_wp2_with (first
                    | (go_at_call 45; (with_reducible refine (writeP w6 wo.heap.size (D ++ opW (o : Int) ++ argL ⟨o, arg⟩) _ Hb6.out Hnl.out).mono ?_); rintro e w7 ⟨rfl, hb7, hbl7⟩; have Hb7 := hide hb7; have Hw7 := hide (Hw6.out.trans hbl7); clear hb7 hbl7)
                    | (go_at_call 45; (with_reducible refine (writeP w5 wo.heap.size (D ++ opW (o : Int)) _ Hb5.out HzA.out).mono ?_); rintro e w6 ⟨rfl, hb6, hbl6⟩; have Hb6 : Hid (Bld w6 wo.heap.size (D ++ opW (o : Int) ++ argL ⟨o, arg⟩)) := hide (by rw [HA.out]; exact hb6); have Hw6 := hide (Hw5.out.trans hbl6); clear hb6 hbl6)
                    | (go_at_call 49; (with_reducible refine (HIa.out wc Hw.out).mono ?_); rintro e w5 ⟨rfl, hb5⟩; have Hb5 := hide (bld_below Hb.out hb5); have Hw5 := hide (Hw.out.trans (hb5.mono Hw.out.size)); clear hb5)
                    | fail)
                  go_roundw
                  case rel => exact ⟨q + 1, D ++ opW (o : Int) ++ argL ⟨o, arg⟩ ++ [10], by omega, by go_num, HNx.out, Hlen.out, Hb7.out, Hw7.out⟩
                  case measure => simp [intOf]; omega
              · have HA := hide (show argL ⟨o, arg⟩ = (({ data := #[32, 108] } : ByteArray) ++ DA).data.toList by
                  rw [ba_cat, HDAl.out]; unfold argL; rw [if_neg (by dsimp only; omega), if_pos (by dsimp only; omega)]; rfl)
                have HzA := hide (show (D ++ opW (o : Int)).length + (({ data := #[32, 108] } : ByteArray) ++ DA).size ≤ 1000000 by
                  have h1 : (argL ⟨o, arg⟩).length = (({ data := #[32, 108] } : ByteArray) ++ DA).size := by rw [HA.out]; rfl
                  rw [← h1]; have := Hal.out; omega)
                have hq : ((o : Int) == 17) = true ∨ (((o : Int) == 17) = false ∧ ((o : Int) == 18) = true) := by
                  rcases hop with h | h
                  · left; rw [h]; rfl
                  · right; rw [h]; exact ⟨rfl, rfl⟩
                clear hop Hal HDAl
                rcases hq with hq | ⟨hq, hq2⟩
                all_goals
                  go_wp2_with (first
                    | (go_at_call 45; (with_reducible refine (writeP w6 wo.heap.size (D ++ opW (o : Int) ++ argL ⟨o, arg⟩) _ Hb6.out Hnl.out).mono ?_); rintro e w7 ⟨rfl, hb7, hbl7⟩; have Hb7 := hide hb7; have Hw7 := hide (Hw6.out.trans hbl7); clear hb7 hbl7)
                    | (go_at_call 45; (with_reducible refine (writeP w5 wo.heap.size (D ++ opW (o : Int)) _ Hb5.out HzA.out).mono ?_); rintro e w6 ⟨rfl, hb6, hbl6⟩; have Hb6 : Hid (Bld w6 wo.heap.size (D ++ opW (o : Int) ++ argL ⟨o, arg⟩)) := hide (by rw [HA.out]; exact hb6); have Hw6 := hide (Hw5.out.trans hbl6); clear hb6 hbl6)
                    | (go_at_call 49; (with_reducible refine (HIa.out wc Hw.out).mono ?_); rintro e w5 ⟨rfl, hb5⟩; have Hb5 := hide (bld_below Hb.out hb5); have Hw5 := hide (Hw.out.trans (hb5.mono Hw.out.size)); clear hb5)
                    | fail)
                  go_roundw
                  case rel => exact ⟨q + 1, D ++ opW (o : Int) ++ argL ⟨o, arg⟩ ++ [10], by omega, by go_num, HNx.out, Hlen.out, Hb7.out, Hw7.out⟩
                  case measure => simp [intOf]; omega
              · have HA := hide (show argL ⟨o, arg⟩ = [] by unfold argL; rw [if_neg (by dsimp only; omega), if_neg (by dsimp only; omega)])
                have Hb6 : Hid (Bld wc wo.heap.size (D ++ opW (o : Int) ++ argL ⟨o, arg⟩)) := hide (by rw [HA.out, List.append_nil]; exact Hb.out)
                have q1 : ((o : Int) == 1) = false := by rw [beq_eq_false_iff_ne]; omega
                have q2 : ((o : Int) == 17) = false := by rw [beq_eq_false_iff_ne]; omega
                have q3 : ((o : Int) == 18) = false := by rw [beq_eq_false_iff_ne]; omega
                clear o1 o2 o3 HA Hal HDAl
                go_wp2_with (first
                  | (go_at_call 45; (with_reducible refine (writeP wc wo.heap.size (D ++ opW (o : Int) ++ argL ⟨o, arg⟩) _ Hb6.out Hnl.out).mono ?_); rintro e w7 ⟨rfl, hb7, hbl7⟩; have Hb7 := hide hb7; have Hw7 := hide (Hw.out.trans hbl7); clear hb7 hbl7)
                  | fail)
                go_roundw
                case rel => exact ⟨q + 1, D ++ opW (o : Int) ++ argL ⟨o, arg⟩ ++ [10], by omega, by go_num, HNx.out, Hlen.out, Hb7.out, Hw7.out⟩
                case measure => simp [intOf]; omega
  · rw [if_neg hz]
    have hq : (E != 0) = true := by simpa using hz
    clear h hE hz
    go_enter Tryd.func23, Tryd.ntmps23
    go_wp2_with (go_at_call 22; refine HC.out.mono ?_; rintro e w1 ⟨rfl, hb1⟩)
    go_ret2
    exact ⟨rfl, hb1⟩
end Go.Proofs.YtonnjokjbknngaaDoor
