/- The reference's Disassemble. -/
import Derived.Test.YtonnjokjbknngaaDoorZ29
import Derived.Test.YtonnjokjbknngaaDoorZ27
import Derived.Test.YtonnjokjbknngaaDoorZ15
import Derived.Deep.DeepCutAuto
namespace Go.Proofs.YtonnjokjbknngaaDoor
open Go.RowKit Go.Maps Go.Lib Go.Shelf

theorem isT_snoc (l : List Ins) (x : Ins) (i : Nat) : isT (l ++ [x]) i = (isT l i || (isJ x && decide (x.arg = (i : Int)))) := by simp [isT]

set_option maxRecDepth 100000 in
set_option maxHeartbeats 3000000 in
theorem disasmR (w : World) (A : Option Addr) (c : Nat) (l : List Ins) (h : InsRow w w.heap.size A l) :
    Calls Tryd.prog 25 #[.slice A l.length c] w fun e w' => e = .returned (.tuple #[.string ⟨(if codeErr l = 0 then disB l else []).toArray⟩, .int .i64 (codeErr l)]) ∧ Below w.heap.size w w' := by
  have HC := hide (checkR w A c l h)
  obtain ⟨E, hE⟩ : ∃ e, codeErr l = e := ⟨_, rfl⟩
  rw [hE] at HC ⊢
  by_cases hz : E = 0
  · subst hz
    rw [if_pos rfl]
    have hok := hE
    unfold codeErr at hok
    have hlen : l.length ≤ 500 := by
      by_cases h1 : 500 < l.length
      · rw [if_pos h1] at hok; cases hok
      · omega
    rw [if_neg (by omega)] at hok
    have Hok := hide (fun k x (hx : l[k]? = some x) => (show insErr l.length k x = 0 by simpa using errFrom_ok hok k x hx))
    obtain ⟨n, hn⟩ : ∃ n, l.length = n := ⟨_, rfl⟩
    rw [hn] at HC hlen Hok ⊢
    have Hn := hide hn
    have Hh := hide h
    clear h hE hok hn
    go_enter Tryd.func25, Tryd.ntmps25
    go_wp2_with (go_at_call 29; refine HC.out.mono ?_; rintro e w1 ⟨rfl, hb1⟩; have Hb1 := hide hb1; clear hb1)
    go_loopw [5, 6] (fun o i wr => ∃ (q : Nat) (done : List UInt8), q ≤ n ∧ i = .int .i64 q ∧ o = .string ⟨done.toArray⟩ ∧ done ++ disFrom l q (l.drop q) = disB l ∧ done.length ≤ q * 40 ∧ Below w1.heap.size w1 wr) (fun _ i _ => n + 1 - (intOf i).toNat)
    case atStart => exact ⟨0, [], Nat.zero_le _, rfl, rfl, rfl, Nat.le_refl _, Below.refl _ _⟩
    case round =>
      obtain ⟨q, done, hq, rfl, rfl, hdone, hdl, hbr⟩ := hrel
      rename World => wo
      have HDn := hide hdone
      have HB := hide hbr
      have HS := hide (fun (W : World) (hbw : Below w1.heap.size w1 W) (k : Nat) (hk : k < l.length) => (show ∃ b off, A = some ⟨b, off, none⟩ ∧ W.cell? ⟨b, off + k * 2, none⟩ = some (.int .i64 (l[k]'hk).op) ∧ W.cell? ⟨b, off + k * 2 + 1, none⟩ = some (.int .i64 (l[k]'hk).arg) from by
        obtain ⟨b, off, hA, hb, hc0, hc1⟩ := Hh.out.get hk
        exact ⟨b, off, hA, ((Hb1.out.trans (hbw.mono Hb1.out.size)).cell (p := ⟨b, _, none⟩) hb).trans hc0, ((Hb1.out.trans (hbw.mono Hb1.out.size)).cell (p := ⟨b, _, none⟩) hb).trans hc1⟩))
      obtain ⟨DS, hDS⟩ : ∃ s : ByteArray, (⟨done.toArray⟩ : ByteArray) = s := ⟨_, rfl⟩
      have hDl : DS.data.toList = done := by rw [← hDS]
      have hDz : DS.size ≤ 20000 := by
        have h1 : DS.size = DS.data.toList.length := rfl
        rw [h1, hDl]; omega
      have HDl := hide hDl
      have Hdl := hide hdl
      rw [hDS]
      have hq5 : q ≤ 500 := by omega
      have hqn : (q : Int) ≤ (n : Int) := by omega
      clear hdone hbr hdl hDS hDl
      go_wp2
      go_loop [7, 8] (fun t i => ∃ j : Nat, j ≤ n ∧ i = .int .i64 j ∧ t = .bool (isT (l.take j) q)) (fun _ i => n - (intOf i).toNat)
      case atStart => exact ⟨0, Nat.zero_le _, rfl, rfl⟩
      case round =>
        obtain ⟨j, hj, rfl, rfl⟩ := hrel
        by_cases hlt : j < n
        · have hltI : (j : Int) < (n : Int) := by omega
          have hkl : j < l.length := by rw [Hn.out]; exact hlt
          obtain ⟨b, off, rfl, e0, e1⟩ := HS.out wo HB.out j hkl
          have htk : l.take (j + 1) = l.take j ++ [l[j]'hkl] := List.take_succ_eq_append_getElem hkl
          obtain ⟨x, hx⟩ : ∃ x, l[j]'hkl = x := ⟨_, rfl⟩
          rw [hx] at e0 e1 htk
          have HT := hide (show isT (l.take (j + 1)) q = (isT (l.take j) q || (jumpB x.op && decide (x.arg = (q : Int)))) by rw [htk]; exact isT_snoc _ _ _)
          obtain ⟨op, arg⟩ := x
          dsimp only at e0 e1 HT
          have HJ := hide (jumpP wo op)
          obtain ⟨J, hJ⟩ : ∃ J, jumpB op = J := ⟨_, rfl⟩
          obtain ⟨T, hT⟩ : ∃ T, isT (l.take j) q = T := ⟨_, rfl⟩
          rw [hJ] at HJ HT
          rw [hT] at HT ⊢
          clear htk hx hkl hJ hT
          cases T with
          | true =>
            go_wp2
            exact ⟨⟨j + 1, by omega, by go_num, by rw [HT.out]; rfl⟩, by simp [intOf]; omega⟩
          | false =>
            cases J with
            | false =>
              go_wp2_with (go_at_call 35; (with_reducible refine HJ.out.mono ?_); rintro e w4 ⟨rfl, rfl⟩)
              exact ⟨⟨j + 1, by omega, by go_num, by rw [HT.out]; rfl⟩, by simp [intOf]; omega⟩
            | true =>
              go_wp2_with (go_at_call 35; (with_reducible refine HJ.out.mono ?_); rintro e w4 ⟨rfl, rfl⟩)
              exact ⟨⟨j + 1, by omega, by go_num, by rw [HT.out]; first | rfl | simp⟩, by simp [intOf]; omega⟩
        · obtain rfl : j = n := by omega
          rw [List.take_of_length_le (by rw [Hn.out]; exact Nat.le_refl _)]
          obtain ⟨D0, hD0⟩ : ∃ s : ByteArray, (⟨(Lib.itoa (q : Int)).toArray⟩ : ByteArray) = s := ⟨_, rfl⟩
          have hD0l : D0.data.toList = decDigits q := by rw [← hD0, itoa_nat]
          have hD0z : D0.size ≤ 4 := by
            have h1 : D0.size = (decDigits q).length := by rw [← hD0l]; rfl
            have := dec_len 3 q (by simp; omega)
            omega
          obtain ⟨T, hT⟩ : ∃ t, isT l q = t := ⟨_, rfl⟩
          have HLb := hide (show labL l q = if T = true then labW q ++ [58, 10] else [] by unfold labL; rw [hT])
          have HL7 := hide (labL_len l q (by omega))
          have HIq := hide (fun W => decimalR W (q : Int) (by omega) (by omega))
          rw [hD0] at HIq
          rw [hT]
          have HD0l := hide hD0l
          obtain ⟨D, hD⟩ : ∃ d, done ++ labL l q = d := ⟨_, rfl⟩
          have HD := hide hD
          have hDz0 : D.length ≤ 20010 := by rw [← hD, List.length_append]; have := HL7.out; have := Hdl.out; omega
          have hDl0 : D.length ≤ q * 40 + 7 := by rw [← hD, List.length_append]; have := HL7.out; have := Hdl.out; omega
          obtain ⟨D1, hD1⟩ : ∃ s : ByteArray, (⟨D.toArray⟩ : ByteArray) = s := ⟨_, rfl⟩
          have hD1l : D1.data.toList = D := by rw [← hD1]
          have hD1z : D1.size ≤ 20010 := by
            have h1 : D1.size = D1.data.toList.length := rfl
            rw [h1, hD1l]; exact hDz0
          have HD1l := hide hD1l
          have Hl0 := hide hDl0
          clear hT hD0 hD0l hD hD1 hD1l hDz0 hDl0 hqn
          go_upto_if 44 with fail
          go_cut [5] from 20 to 96 (fun s wx => s = .string D1 ∧ wx = wo)
          case first =>
            cases T with
            | false =>
              have HR := hide (show DS = D1 by apply ba_of; rw [HD1l.out, ← HD.out, HLb.out, if_neg (by decide), HDl.out, List.append_nil])
              go_wp2
              go_meet
              case rel => exact ⟨by rw [HR.out], rfl⟩
            | true =>
              have HR := hide (show DS ++ ({ data := #[108] } : ByteArray) ++ D0 ++ ({ data := #[58, 10] } : ByteArray) = D1 by
                apply ba_of
                rw [HD1l.out, ← HD.out, HLb.out, if_pos rfl, ba_cat, ba_cat, ba_cat, HDl.out, HD0l.out]
                unfold labW
                simp)
              go_wp2_with (go_at_call 51; (with_reducible refine (HIq.out _).mono ?_); rintro e w4 ⟨rfl, rfl⟩)
              go_meet
              case rel => exact ⟨by rw [HR.out], rfl⟩
          case rest =>
            obtain ⟨rfl, rfl⟩ := hcut
            have hdn := HDn.out
            clear HIq HD0l hD0z HLb HL7 HDn HDl hDz Hdl
            by_cases hqk : q = j
            · have HR := hide (show D1 = ⟨(disB l).toArray⟩ by
                apply ba_of
                rw [HD1l.out, ← hdn, List.drop_of_length_le (by rw [Hn.out]; omega), ← HD.out]; rfl)
              obtain rfl : j = q := hqk.symm
              clear hdn
              go_wp2
              go_ret2
              exact ⟨by rw [← HR.out]; rfl, Hb1.out.trans (HB.out.mono Hb1.out.size)⟩
            have hltq : q < j := by omega
            have hltI : (q : Int) < (j : Int) := by omega
            have hkl : q < l.length := by rw [Hn.out]; exact hltq
            have hi := Hok.out q _ (List.getElem?_eq_getElem hkl)
            have hdr := List.drop_eq_getElem_cons hkl
            obtain ⟨b, off, rfl, hb, hc0, hc1⟩ := Hh.out.get hkl
            obtain ⟨x, hx⟩ : ∃ x, l[q]'hkl = x := ⟨_, rfl⟩
            rw [hx] at hc0 hc1 hi hdr
            obtain ⟨i1, i2, i3, i4⟩ := ins_ok_op hi
            obtain ⟨op, arg⟩ := x
            dsimp only at hc0 hc1 i1 i2 i3 i4
            have ha1 : -999999999 ≤ arg := by
              have : -999999999 ≤ loA op q := by unfold loA; repeat' split
                                                 all_goals omega
              omega
            have ha2 : arg ≤ 999999999 := by
              have : hiA op j ≤ 999999999 := by unfold hiA; repeat' split
                                                all_goals omega
              omega
            have hal := argL_len (x := ⟨op, arg⟩) ha1 ha2
            have hol := opW_len op i1 i2
            rw [hdr] at hdn
            unfold disFrom at hdn
            dsimp only at hdn
            obtain ⟨o, rfl⟩ : ∃ o : Nat, op = (o : Int) := ⟨op.toNat, by omega⟩
            have ho : o < 21 := by omega
            have hoI : (o : Int) < 21 := by omega
            have hol2 : o < opNames.length := ho
            have hN0 : opW (o : Int) = opNames[o]'hol2 := by unfold opW; rw [Int.toNat_natCast, List.getD_eq_getElem?_getD, List.getElem?_eq_getElem hol2]; rfl
            obtain ⟨S0, hS0⟩ : ∃ s : ByteArray, (⟨(opW (o : Int)).toArray⟩ : ByteArray) = s := ⟨_, rfl⟩
            have hS0l : S0.data.toList = opW (o : Int) := by rw [← hS0]
            have hS0z : S0.size ≤ 8 := by
              have h1 : S0.size = (opW (o : Int)).length := by rw [← hS0l]; rfl
              omega
            have HS0l := hide hS0l
            have HNc := hide (fun (W : World) (base g c' : Nat) (h : W.ownsRow base 9 1 (.slice (some ⟨g, 0, none⟩) 21 c') 21 (opNames.map strV)) => (h.cellAt o (by omega)).trans (show (opNames.map strV)[o]? = some (.string S0) by rw [List.getElem?_map, List.getElem?_eq_getElem hol2, ← hN0, ← hS0]; rfl))
            have HSq := hide (fun (W : World) (hbw : Below w1.heap.size w1 W) => (show W.cell? ⟨b, off + q * 2, none⟩ = some (.int .i64 o) ∧ W.cell? ⟨b, off + q * 2 + 1, none⟩ = some (.int .i64 arg) from
              ⟨((Hb1.out.trans (hbw.mono Hb1.out.size)).cell (p := ⟨b, _, none⟩) hb).trans hc0, ((Hb1.out.trans (hbw.mono Hb1.out.size)).cell (p := ⟨b, _, none⟩) hb).trans hc1⟩))
            have HNx := hide (show D ++ opW (o : Int) ++ argL ⟨o, arg⟩ ++ [10] ++ disFrom l (q + 1) (l.drop (q + 1)) = disB l by
              rw [← hdn, ← HD.out]; simp only [List.append_assoc])
            have Hlen := hide (show (D ++ opW (o : Int) ++ argL ⟨o, arg⟩ ++ [10]).length ≤ (q + 1) * 40 by
              have := Hl0.out
              simp only [List.length_append, List.length_singleton]; omega)
            obtain ⟨DA, hDA⟩ : ∃ s : ByteArray, (⟨(Lib.itoa arg).toArray⟩ : ByteArray) = s := ⟨_, rfl⟩
            have hDAl : DA.data.toList = itoa arg := by rw [← hDA]
            have hDAz : DA.size ≤ 10 := by
              have h1 : DA.size = (itoa arg).length := by rw [← hDAl]; rfl
              have := itoa_len ha1 ha2
              omega
            have HIa := hide (fun W => decimalR W arg ha1 ha2)
            rw [hDA] at HIa
            have HDAl := hide hDAl
            have hd0 := HB.out.drew
            have hcw := (HSq.out _ HB.out).1
            obtain ⟨D2, hD2⟩ : ∃ s : ByteArray, D1 ++ S0 = s := ⟨_, rfl⟩
            have hD2l : D2.data.toList = D ++ opW (o : Int) := by rw [← hD2, ba_cat, HD1l.out, hS0l]
            have hD2z : D2.size ≤ 20020 := by rw [← hD2, ByteArray.size_append]; omega
            have HD2l := hide hD2l
            have HD2 := hide hD2
            clear hi hdr hc0 hc1 hx hkl hb i1 i2 i3 i4 hal hol hdn hol2 hN0 hS0 hS0l hDA hDAl hqk Hl0 hD2 hD2l ha1 ha2 HD Hok Hh HS
            have hnb : ¬ 9223372036854775807 < D1.size + S0.size := by omega
            have hnb2 : (9223372036854775807 < D1.size + S0.size) = False := eq_false hnb
            go_upto_region 16 with fail
            go_cut [5] from 20 to 96 (fun s wx => s = .string D2 ∧ Below w1.heap.size w1 wx)
            case first =>
              go_region_law (first
                | (go_simp; go_at_call 28; refine (names46 _).mono ?_; rintro e w4 ⟨g', c', rfl, hown4, hbF⟩; have hbN := hide (hd0.trans (hbF.mono hd0.size)); have hnc := HNc.out _ _ _ _ hown4; have hc4 := (HSq.out _ hbN.out).1; clear hown4 hbF)
                | fail)
              all_goals
                go_wp2_with fail
                go_meet
                case rel => exact ⟨by rw [HD2.out], hbN.out⟩
            case rest =>
              obtain ⟨rfl, hbw⟩ := hcut
              have Hw := hide hbw
              obtain ⟨k0, k1⟩ := HSq.out wc hbw
              have HJ := hide (fun W => jumpP W (o : Int))
              clear hbw HNc HS0l hd0 hcw hS0z HB HD1l HD2
              have hop : o = 1 ∨ ((o : Int) == 1) = false ∧ (o = 17 ∨ o = 18) ∨ o ≠ 1 ∧ o ≠ 17 ∧ o ≠ 18 := by
                by_cases h : o = 1
                · exact .inl h
                · by_cases h2 : o = 17 ∨ o = 18
                  · exact .inr (.inl ⟨by rw [beq_eq_false_iff_ne]; omega, h2⟩)
                  · exact .inr (.inr ⟨h, by omega, by omega⟩)
              rcases hop with hop | ⟨q1, hop⟩ | ⟨o1, o2, o3⟩
              · have HA := hide (show argL ⟨o, arg⟩ = (({ data := #[32] } : ByteArray) ++ DA).data.toList by
                  rw [ba_cat, HDAl.out]; unfold argL; rw [if_pos (by dsimp only; omega)]; rfl)
                have HJb := hide (show jumpB (o : Int) = false by subst hop; rfl)
                have Hfin := hide (show (D2 ++ ({ data := #[32] } : ByteArray) ++ DA ++ ({ data := #[10] } : ByteArray)) = ⟨(D ++ opW (o : Int) ++ argL ⟨o, arg⟩ ++ [10]).toArray⟩ by
                  apply ba_of
                  rw [ba_cat, ba_cat, ba_cat, HD2l.out, HA.out, ba_cat]; simp)
                have hq : ((o : Int) == 1) = true := by rw [beq_iff_eq]; omega
                clear hop HA HDAl
                go_wp2_with (first
                    | (go_at_call 51; (with_reducible refine (HIa.out _).mono ?_); rintro e w5 ⟨rfl, rfl⟩)
                    | (go_at_call 35; (with_reducible refine (HJ.out _).mono ?_); rintro e w4 ⟨rfl, rfl⟩; rw [HJb.out])
                    | fail)
                go_roundw
                case rel => exact ⟨q + 1, D ++ opW (o : Int) ++ argL ⟨o, arg⟩ ++ [10], by omega, by go_num, by rw [← Hfin.out], HNx.out, Hlen.out, Hw.out⟩
                case measure => simp [intOf]; omega
              · have HA := hide (show argL ⟨o, arg⟩ = (({ data := #[32, 108] } : ByteArray) ++ DA).data.toList by
                  rw [ba_cat, HDAl.out]; unfold argL; rw [if_neg (by dsimp only; omega), if_pos (by dsimp only; omega)]; rfl)
                have HJb := hide (show jumpB (o : Int) = true by rcases hop with h | h <;> (subst h; rfl))
                have Hfin := hide (show (D2 ++ ({ data := #[32, 108] } : ByteArray) ++ DA ++ ({ data := #[10] } : ByteArray)) = ⟨(D ++ opW (o : Int) ++ argL ⟨o, arg⟩ ++ [10]).toArray⟩ by
                  apply ba_of
                  rw [ba_cat, ba_cat, ba_cat, HD2l.out, HA.out, ba_cat]; simp)
                skip
                clear hop HA HDAl
                go_wp2_with (first
                    | (go_at_call 51; (with_reducible refine (HIa.out _).mono ?_); rintro e w5 ⟨rfl, rfl⟩)
                    | (go_at_call 35; (with_reducible refine (HJ.out _).mono ?_); rintro e w4 ⟨rfl, rfl⟩; rw [HJb.out])
                    | fail)
                go_roundw
                case rel => exact ⟨q + 1, D ++ opW (o : Int) ++ argL ⟨o, arg⟩ ++ [10], by omega, by go_num, by rw [← Hfin.out], HNx.out, Hlen.out, Hw.out⟩
                case measure => simp [intOf]; omega
              · have HA := hide (show argL ⟨o, arg⟩ = [] by unfold argL; rw [if_neg (by dsimp only; omega), if_neg (by dsimp only; omega)])
                have q1 : ((o : Int) == 1) = false := by rw [beq_eq_false_iff_ne]; omega
                have HJb := hide (show jumpB (o : Int) = false by unfold jumpB; rw [decide_eq_false (by omega)])
                have Hfin := hide (show (D2 ++ ({ data := #[10] } : ByteArray)) = ⟨(D ++ opW (o : Int) ++ argL ⟨o, arg⟩ ++ [10]).toArray⟩ by
                  apply ba_of
                  rw [ba_cat, HD2l.out, HA.out]; simp)
                clear o1 o2 o3 HA HDAl
                go_wp2_with (first
                  | (go_at_call 35; (with_reducible refine (HJ.out _).mono ?_); rintro e w4 ⟨rfl, rfl⟩; rw [HJb.out])
                  | fail)
                go_roundw
                case rel => exact ⟨q + 1, D ++ opW (o : Int) ++ argL ⟨o, arg⟩ ++ [10], by omega, by go_num, by rw [← Hfin.out], HNx.out, Hlen.out, Hw.out⟩
                case measure => simp [intOf]; omega
  · rw [if_neg hz]
    have hq : (E != 0) = true := by simpa using hz
    clear h hE hz
    go_enter Tryd.func25, Tryd.ntmps25
    go_wp2_with (go_at_call 29; refine HC.out.mono ?_; rintro e w1 ⟨rfl, hb1⟩)
    go_ret2
    exact ⟨rfl, hb1⟩
end Go.Proofs.YtonnjokjbknngaaDoor
