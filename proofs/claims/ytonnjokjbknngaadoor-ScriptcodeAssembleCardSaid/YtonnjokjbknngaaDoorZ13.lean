/- scriptcode.Decode. -/
import Derived.Test.YtonnjokjbknngaaDoorZ11
import Derived.Test.YtonnjokjbknngaaDoorZ6
import Derived.Laws.BitsAllLaws
import Derived.Laws.BitsLemmas
namespace Go.Proofs.YtonnjokjbknngaaDoor
open Go.RowKit Go.Lib Go.Shelf

set_option maxRecDepth 100000 in
theorem ofInt_i64 (a : Nat) (ha : a < 9223372036854775808) : (BitVec.ofInt 64 (a : Int)).toNat = a := by
  rw [BitVec.ofInt_natCast, BitVec.toNat_ofNat]; exact Nat.mod_eq_of_lt (by omega)
set_option maxRecDepth 100000 in
theorem i64_or_nat (a b : Nat) (ha : a < 9223372036854775808) (hb : b < 9223372036854775808) : bits .or .i64 (a : Int) (b : Int) = ((a ||| b : Nat) : Int) := by
  have hx : a ||| b < 2 ^ 63 := Nat.or_lt_two_pow (by omega) (by omega)
  show IntKind.i64.wrap ((BitVec.ofInt 64 (a : Int) ||| BitVec.ofInt 64 (b : Int)).toNat : Int) = _
  rw [BitVec.toNat_or, ofInt_i64 a ha, ofInt_i64 b hb, IntKind.wrap_i64]
  omega
set_option maxRecDepth 100000 in
theorem or_byte (V x : Nat) (hv : V < 16777216) (hx : x < 256) : bits .or .i64 ((V : Int) * 256) (x : Int) = ((256 * V + x : Nat) : Int) := by
  rw [show (V : Int) * 256 = ((V * 256 : Nat) : Int) by simp, i64_or_nat _ _ (by omega) (by omega)]
  have h := Nat.shiftLeft_add_eq_or_of_lt (i := 8) (b := x) (by omega) V
  rw [Nat.shiftLeft_eq] at h
  rw [show V * 256 = V * 2 ^ 8 by omega, ← h]
  omega
/-- What Decode's call comes to. -/
def DecRet (w : World) (s : List UInt8) (e : Ending) (w' : World) : Prop := ∃ v, e = .returned (.tuple #[v, .int .i64 (decC s).1]) ∧ OwnIns w' w.heap.size v (decC s).2 ∧ Below w.heap.size w w'
theorem decRet_err {w w' : World} {s : List UInt8} {er : Int} (h : decC s = (er, [])) (hb : Below w.heap.size w w') : DecRet w s (.returned (.tuple #[.slice none 0 0, .int .i64 er])) w' := by
  refine ⟨.slice none 0 0, by rw [h], ?_, hb⟩
  rw [h]
  exact World.ownsRow_nil _ _ _ _
theorem decRet_ok {w w' : World} {s : List UInt8} {v : Value} {l : List Ins} (h : decC s = (0, l)) (hown : OwnIns w' w.heap.size v l) (hb : Below w.heap.size w w') : DecRet w s (.returned (.tuple #[v, .int .i64 0])) w' := by
  refine ⟨v, by rw [h], ?_, hb⟩
  rw [h]
  exact hown
theorem decG_nil (f : Nat) (acc : List Ins) : decG (f + 1) [] acc = if codeErr acc = 0 then (0, acc) else (codeErr acc, []) := rfl
theorem decG_cons (f : Nat) (b : UInt8) (t : List UInt8) (acc : List Ins) : decG (f + 1) (b :: t) acc = if acc.length = 500 then (5, []) else if 20 < b.toNat then (9, []) else if t.length < szN b.toNat then (4, [])
    else decG f (t.drop (szN b.toNat)) (acc ++ [⟨b.toNat, (valBE (t.take (szN b.toNat)) : Int) + loA b.toNat acc.length⟩]) := rfl

set_option maxRecDepth 100000 in
set_option maxHeartbeats 3000000 in
theorem decP (w : World) (s : ByteArray) (hs : s.size ≤ 100000) : Calls Tryd.prog 15 #[.string s] w (DecRet w s.data.toList) := by
  have hown0 : OwnIns w w.heap.size (.slice none 0 0) [] := World.ownsRow_nil _ _ _ _
  go_enter Tryd.func15, Tryd.ntmps15
  go_wp2
  go_loopw [0, 4] (fun sv v wr => ∃ (sr : ByteArray) (acc : List Ins) (f : Nat), sv = .string sr ∧ sr.size ≤ 100000 ∧ sr.size < f ∧ acc.length ≤ 500 ∧ decC s.data.toList = decG f sr.data.toList acc ∧ OwnIns wr w.heap.size v acc ∧ Below w.heap.size w wr) (fun sv _ _ => match sv with | .string sr => sr.size | _ => 0)
  case atStart => exact ⟨s, [], s.size + 1, rfl, hs, Nat.lt_succ_self _, by simp, rfl, hown0, Below.refl _ _⟩
  case round =>
    clear hown0 hs
    obtain ⟨sr, acc, f, rfl, hs, hf, hal, hdec, hown, hbr⟩ := hrel
    rename World => wo
    obtain ⟨f, rfl⟩ : ∃ g, f = g + 1 := ⟨f - 1, by omega⟩
    have HO := hide hown
    have HB := hide hbr
    have hwo : w.heap.size ≤ wo.heap.size := hbr.size
    obtain ⟨D, hD⟩ : ∃ d, sr.data.toList = d := ⟨_, rfl⟩
    have hDl : D.length = sr.size := by rw [← hD]; rfl
    rw [hD] at hdec
    clear hown hbr
    obtain ⟨n, hn⟩ : ∃ n, acc.length = n := ⟨_, rfl⟩
    match D, hD, hDl, hdec with
    | [], hD, _, hdec =>
      obtain rfl := ba_of hD
      rw [decG_nil] at hdec
      have hr := HO.out
      obtain ⟨A1, c1, rfl, -, hr1⟩ := InsRow.of_own hr
      have HC := hide (checkP wo A1 c1 acc hr1)
      have Hdec := hide hdec
      obtain ⟨E, hE⟩ : ∃ e, codeErr acc = e := ⟨_, rfl⟩
      rw [hE] at HC Hdec
      rw [hn] at HC
      clear hdec hr hr1 hD hE
      rw [hn]
      by_cases hz : E = 0
      · subst hz
        have HR := hide (show decC s.data.toList = (0, acc) from Hdec.out)
        have HO2 := hide (fun (W : World) (hb : Below wo.heap.size wo W) => own_below HO.out hb (Nat.le_refl _))
        have Hn := hide hn
        rw [hn] at HO2
        clear hn
        go_wp2_with (go_at_call 22; refine HC.out.mono ?_; rintro e w1 ⟨rfl, hb1⟩)
        go_ret2
        exact decRet_ok HR.out (by have := HO2.out w1 hb1; rw [← Hn.out] at this; rw [← Hn.out]; exact this) (HB.out.trans (hb1.mono hwo))
      · have HR := hide (show decC s.data.toList = (E, []) by rw [Hdec.out, if_neg hz])
        have hq : (E != 0) = true := by simpa using hz
        clear hz hn
        go_wp2_with (go_at_call 22; refine HC.out.mono ?_; rintro e w1 ⟨rfl, hb1⟩)
        go_ret2
        exact decRet_err HR.out (HB.out.trans (hb1.mono hwo))
    | b :: t, hD, hDl, hdec =>
      have hp0 : 0 < sr.size := by rw [← hDl]; simp
      have hpI : (0 : Int) < (sr.size : Int) := by omega
      have hb0 : sr[0]'hp0 = b := by rw [get_at, hD]; rfl
      have q1 : (sr.toList == []) = false := by rw [ByteArray.toList_eq, hD]; rfl
      have q1' : (sr.toList != []) = true := by rw [bne, q1]; rfl
      have htl : sr.size = t.length + 1 := by rw [← hDl]; simp
      have l0 := b.toNat_lt
      rw [decG_cons] at hdec
      obtain ⟨A1, c1, rfl⟩ := own_form HO.out
      have HO2 := hide (fun (W : World) (hb : Below wo.heap.size wo W) => own_below HO.out hb (Nat.le_refl _))
      have HSz := hide (fun W => sizeP W b.toNat)
      obtain ⟨SZ, hSZ⟩ : ∃ z, szN b.toNat = z := ⟨_, rfl⟩
      have hs4 := szN_le b.toNat
      rw [hSZ] at hdec hs4
      simp only [hSZ] at HSz
      have HBa := hide (fun W => baseP W b.toNat n (by omega))
      have hL1 : -999999999 ≤ loA b.toNat n ∧ loA b.toNat n ≤ 501 := by unfold loA; repeat' split
                                                                        all_goals omega
      rw [hn] at hdec
      obtain ⟨L, hL⟩ : ∃ x, loA b.toNat n = x := ⟨_, rfl⟩
      rw [hL] at hdec hL1
      simp only [hL] at HBa
      have hD2 := hD
      have Hdec := hide hdec
      have HD := hide hD
      have Hn := hide hn
      rw [hn] at hal HO HO2 ⊢
      have htl1 : sr.size ≤ t.length + 1 := by omega
      have htl2 : t.length + 1 ≤ sr.size := by omega
      clear htl hdec hD hDl hL hSZ hD2 hn
      by_cases h5 : n = 500
      · have HR := hide (show decC s.data.toList = (5, []) by rw [Hdec.out, if_pos h5])
        have q5 : ((n : Int) == 500) = true := by rw [h5]; rfl
        clear h5
        go_wp2
        go_ret2
        exact decRet_err HR.out HB.out
      have q5 : ((n : Int) == 500) = false := by rw [beq_eq_false_iff_ne]; omega
      have h499 : n ≤ 499 := by omega
      by_cases h20 : 20 < b.toNat
      · have HR := hide (show decC s.data.toList = (9, []) by rw [Hdec.out, if_neg h5, if_pos h20])
        have h21 : (21 : Int) ≤ (b.toNat : Int) := by omega
        have h21n : 21 ≤ b.toNat := h20
        clear h5 h20
        go_wp2_with (first | (go_at_call 27; refine (namesP _).mono ?_; rintro e w2 ⟨g', c', rfl, -, hbF⟩) | fail)
        go_ret2
        exact decRet_err HR.out (HB.out.trans (hbF.mono hwo))
      have h21 : (b.toNat : Int) < 21 := by omega
      have h21n : b.toNat < 21 := by omega
      by_cases h4 : t.length < SZ
      · have HR := hide (show decC s.data.toList = (4, []) by rw [Hdec.out, if_neg h5, if_neg h20, if_pos h4])
        have h4' : (sr.size : Int) ≤ (SZ : Int) := by omega
        have h4n : sr.size ≤ SZ := by omega
        clear h5 h20 h4
        go_wp2_with (first | (go_at_call 27; refine (namesP _).mono ?_; rintro e w2 ⟨g', c', rfl, -, hbF⟩) | (go_at_call 37; refine (HSz.out _).mono ?_; rintro e w3 ⟨rfl, rfl⟩) | fail)
        go_ret2
        exact decRet_err HR.out (HB.out.trans (hbF.mono hwo))
      have h4' : (SZ : Int) < (sr.size : Int) := by omega
      have h4n : SZ < sr.size := by omega
      have hdec2 := Hdec.out
      rw [if_neg h5, if_neg h20, if_neg h4] at hdec2
      have h4s : SZ ≤ t.length := by omega
      obtain ⟨T1, hT1⟩ : ∃ x, sr.extract 1 (1 + SZ) = x := ⟨_, rfl⟩
      obtain ⟨R1, hR1⟩ : ∃ x, sr.extract (1 + SZ) sr.size = x := ⟨_, rfl⟩
      have hT1l : T1.data.toList = t.take SZ := by rw [← hT1, Lib.extract_data, HD.out, show 1 + SZ - 1 = SZ by omega]; rfl
      have hR1l : R1.data.toList = t.drop SZ := by rw [← hR1, Lib.extract_to_end, HD.out, Nat.add_comm]; rfl
      have hR1z : R1.size = t.length - SZ := by
        have : R1.size = (t.drop SZ).length := by rw [← hR1l]; rfl
        rw [this, List.length_drop]
      have hT1z : T1.size = SZ := by
        have : T1.size = (t.take SZ).length := by rw [← hT1l]; rfl
        rw [this, List.length_take]; omega
      have hsl1 : ∀ W : World, (Instr.slice 9 (.string sr) (some (.int .i64 1)) (some (.int .i64 (1 + (SZ : Int)))) none).run Tryd.prog W = .ok (.string T1) W := fun W => by
        rw [run_slice_string (P := Tryd.prog) (w := W) 9 sr .i64 .i64 1 (1 + (SZ : Int)) Tryd.underlying9 (by omega) (by omega) (by omega), ← hT1]
        rw [show (1 + (SZ : Int)).toNat = 1 + SZ by omega]; rfl
      have hsl2 : ∀ W : World, (Instr.slice 9 (.string sr) (some (.int .i64 (1 + (SZ : Int)))) none none).run Tryd.prog W = .ok (.string R1) W := fun W => by
        rw [run_slice_string_from_if (P := Tryd.prog) (w := W) 9 sr .i64 (1 + (SZ : Int)) Tryd.underlying9, if_pos ⟨by omega, by omega⟩, show (1 + (SZ : Int)).toNat = 1 + SZ by omega, hR1]
      rw [← hR1l, ← hT1l] at hdec2
      have Hdec2 := hide hdec2
      have HT1l := hide hT1l
      have HT1z := hide hT1z
      clear h5 h20 h4 hdec2 Hdec hT1 hR1 hT1l hR1l hT1z
      go_wp2_with (first
        | (go_at_call 27; refine (namesP _).mono ?_; rintro e w2 ⟨g', c', rfl, -, hbF⟩; have HbF := hide hbF; clear hbF)
        | (go_at_call 37; refine (HSz.out _).mono ?_; rintro e w3 ⟨rfl, rfl⟩)
        | (refine wpList_bytes _ (.tmp 34) 9 64 5 rfl (by rfl) Tryd.underlying9 Tryd.underlying64 Tryd.underlying5 T1 (by rfl) SZ HT1z.out ?_; intro w4 bb cc hb4 hbb hcells hcc; have Hb4 := hide hb4; have Hcells := hide hcells; clear hb4 hcells)
        | fail)
      have htk : ∀ j (hj : j < SZ), valBE (T1.data.toList.take (j + 1)) = 256 * valBE (T1.data.toList.take j) + (T1[j]'(by rw [HT1z.out]; exact hj)).toNat := fun j hj => by
        have hjl : j < T1.data.toList.length := by show j < T1.size; rw [HT1z.out]; exact hj
        rw [List.take_succ_eq_append_getElem hjl, valBE_snoc]
        rfl
      have Htk := hide htk
      have Hvl := hide (fun j (hj : j ≤ 3) => (show valBE (T1.data.toList.take j) < 16777216 by
        have h1 := valBE_lt (T1.data.toList.take j)
        have h2 : (T1.data.toList.take j).length ≤ 3 := by rw [List.length_take]; omega
        have h3 : 256 ^ (T1.data.toList.take j).length ≤ 256 ^ 3 := Nat.pow_le_pow_right (by omega) h2
        have h4 : 256 ^ 3 = 16777216 := by decide
        omega))
      clear htk
      go_loop [6, 37] (fun nv i => ∃ j : Nat, j ≤ SZ ∧ i = .int .i64 j ∧ nv = .int .i64 (valBE (T1.data.toList.take j) : Nat)) (fun _ i => SZ - (intOf i).toNat)
      case atStart => exact ⟨0, Nat.zero_le _, rfl, rfl⟩
      case round =>
        obtain ⟨j, hj, rfl, rfl⟩ := hrel
        by_cases hlt : j < SZ
        · have hltI : (j : Int) < (SZ : Int) := by omega
          have hjT : j < T1.size := by rw [HT1z.out]; exact hlt
          have hc := Hcells.out j hjT
          have hs := Htk.out j hlt
          have hv := Hvl.out j (by omega)
          obtain ⟨x, hx⟩ : ∃ x, T1[j]'hjT = x := ⟨_, rfl⟩
          rw [hx] at hc hs
          have lx := x.toNat_lt
          have Hs := hide hs
          obtain ⟨V, hV⟩ : ∃ v, valBE (T1.data.toList.take j) = v := ⟨_, rfl⟩
          rw [hV] at hv Hs ⊢
          clear hs hx hV
          have HV := hide (or_byte V x.toNat hv (by omega))
          go_wp2
          exact ⟨⟨j + 1, by omega, by go_num, by rw [HV.out, Hs.out]⟩, by simp [intOf]; omega⟩
        · obtain rfl : j = SZ := by omega
          rw [List.take_of_length_le (by show T1.size ≤ j; rw [HT1z.out]; exact Nat.le_refl _)]
          have hVb : valBE T1.data.toList < 4294967296 := by
            have h1 := valBE_lt T1.data.toList
            have h2 : T1.data.toList.length ≤ 4 := by show T1.size ≤ 4; rw [HT1z.out]; exact hs4
            have h3 : 256 ^ T1.data.toList.length ≤ 256 ^ 4 := Nat.pow_le_pow_right (by omega) h2
            have h4 : 256 ^ 4 = 4294967296 := by decide
            omega
          obtain ⟨V, hV⟩ : ∃ v, valBE T1.data.toList = v := ⟨_, rfl⟩
          have hd := Hdec2.out
          rw [hV] at hVb hd ⊢
          have Hd := hide hd
          have hbw4 := HbF.out.trans (Hb4.out.mono HbF.out.size)
          have HO4 := hide (HO2.out w4 hbw4)
          have HB4 := hide (HB.out.trans (hbw4.mono hwo))
          have hw4 : w.heap.size ≤ w4.heap.size := HB4.out.size
          clear hd hV Hdec2 Htk Hvl hbw4 HO2 Hcells HT1z HbF Hb4 HB
          go_wp2_with (first
            | (go_at_call 38; refine (HBa.out _).mono ?_; rintro e w5 ⟨rfl, rfl⟩)
            | (go_at_call 37; refine (HSz.out _).mono ?_; rintro e w6 ⟨rfl, rfl⟩)
            | (at_builtin; refine wpList_app _ (.tmp 47) (.tmp 56) 23 rfl (by rfl) el_ins w.heap.size (.slice A1 n c1) n _ (by rfl) HO4.out hw4 #[.int .i64 b.toNat, .int .i64 ((V : Int) + L)] 1 1 41 _ (by rfl) rfl rfl (by simp [Value.oneCell']) (by omega) ?_; intro v7 w7 hown7 hg7; have HO7 := hide hown7; have HG7 := hide hg7; clear hown7 hg7)
            | fail)
          have hbl := HB4.out.grown HG7.out hw4 (fun j hj => (HO4.out.lt j hj).1)
          refine ⟨⟨R1, acc ++ [⟨b.toNat, (V : Int) + L⟩], f, rfl, by omega, by omega, by rw [List.length_append, Hn.out]; simp; omega, Hd.out, ?_, hbl⟩, by dsimp only; omega⟩
          exact own_eq HO7.out (by rw [List.length_append, Hn.out]; rfl) (by simp [Ins.enc])
end Go.Proofs.YtonnjokjbknngaaDoor
