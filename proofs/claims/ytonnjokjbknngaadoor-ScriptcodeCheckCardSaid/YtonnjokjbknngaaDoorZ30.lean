/- The reference's Encode. -/
import Derived.Test.YtonnjokjbknngaaDoorZ29
import Derived.Test.YtonnjokjbknngaaDoorZ15
namespace Go.Proofs.YtonnjokjbknngaaDoor
open Go.RowKit Go.Lib Go.Shelf

set_option maxRecDepth 100000 in
set_option maxHeartbeats 3000000 in
theorem encodeR (w : World) (A : Option Addr) (c : Nat) (l : List Ins) (h : InsRow w w.heap.size A l) :
    Calls Tryd.prog 24 #[.slice A l.length c] w fun e w' => e = .returned (.tuple #[.string ⟨(if codeErr l = 0 then encFrom 0 l else []).toArray⟩, .int .i64 (codeErr l)]) ∧ Below w.heap.size w w' := by
  have HC := hide (checkR w A c l h)
  obtain ⟨E, hE⟩ : ∃ e, codeErr l = e := ⟨_, rfl⟩
  rw [hE] at HC ⊢
  by_cases hz : E = 0
  · subst hz
    rw [if_pos rfl]
    have hok := hE
    unfold codeErr at hok
    have hlen : l.length ≤ 500 := by
      by_cases h1 : 500 < l.length
      · rw [if_pos h1] at hok; cases hok
      · omega
    rw [if_neg (by omega)] at hok
    have Hok := hide (fun k x (hx : l[k]? = some x) => (show insErr l.length k x = 0 by simpa using errFrom_ok hok k x hx))
    obtain ⟨n, hn⟩ : ∃ n, l.length = n := ⟨_, rfl⟩
    rw [hn] at HC hlen Hok ⊢
    have Hn := hide hn
    have Hh := hide h
    clear h hE hok hn
    go_enter Tryd.func24, Tryd.ntmps24
    go_wp2_with (go_at_call 29; refine HC.out.mono ?_; rintro e w1 ⟨rfl, hb1⟩; have Hb1 := hide hb1; clear hb1)
    go_loopw [5, 6] (fun o i wr => ∃ k : Nat, k ≤ n ∧ i = .int .i64 k ∧ o = .string ⟨(encFrom 0 (l.take k)).toArray⟩ ∧ Below w1.heap.size w1 wr) (fun _ i _ => n - (intOf i).toNat)
    case atStart => exact ⟨0, Nat.zero_le _, rfl, rfl, Below.refl _ _⟩
    case round =>
      obtain ⟨k, hk, rfl, rfl, hbr⟩ := hrel
      rename World => wo
      have HB := hide hbr
      by_cases hlt : k < n
      · have hltI : (k : Int) < (n : Int) := by omega
        have hkl : k < l.length := by rw [Hn.out]; exact hlt
        have htk : l.take (k + 1) = l.take k ++ [l[k]'hkl] := List.take_succ_eq_append_getElem hkl
        have hi := Hok.out k _ (List.getElem?_eq_getElem hkl)
        obtain ⟨b, off, rfl, hb, hc0, hc1⟩ := Hh.out.get hkl
        obtain ⟨x, hx⟩ : ∃ x, l[k]'hkl = x := ⟨_, rfl⟩
        rw [hx] at hc0 hc1 htk hi
        obtain ⟨i1, i2, i3, i4⟩ := ins_ok_op hi
        obtain ⟨op, arg⟩ := x
        dsimp only at hc0 hc1 i1 i2 i3 i4
        obtain ⟨ob, rfl⟩ : ∃ ob : Nat, op = ob := ⟨op.toNat, by omega⟩
        have henc : encFrom 0 (l.take (k + 1)) = encFrom 0 (l.take k) ++ encI k ⟨ob, arg⟩ := by
          rw [htk, encFrom_snoc, List.length_take, Nat.zero_add, Nat.min_eq_left (by omega)]
        unfold encI at henc
        dsimp only at henc
        rw [Int.toNat_natCast] at henc
        have ha1 : -999999999 ≤ arg := by
          have : -999999999 ≤ loA ob k := by unfold loA; repeat' split
                                             all_goals omega
          omega
        have ha2 : arg ≤ 999999999 := by
          have : hiA ob n ≤ 999999999 := by unfold hiA; repeat' split
                                            all_goals omega
          omega
        have HS := hide (fun (W : World) (hbw : Below w1.heap.size w1 W) => (show W.cell? ⟨b, off + k * 2, none⟩ = some (.int .i64 ob) ∧ W.cell? ⟨b, off + k * 2 + 1, none⟩ = some (.int .i64 arg) from
          ⟨((Hb1.out.trans (hbw.mono Hb1.out.size)).cell (p := ⟨b, _, none⟩) hb).trans hc0, ((Hb1.out.trans (hbw.mono Hb1.out.size)).cell (p := ⟨b, _, none⟩) hb).trans hc1⟩))
        obtain ⟨e0, e1⟩ := HS.out wo hbr
        have hpl := encFrom_len (l.take k) 0
        rw [List.length_take] at hpl
        obtain ⟨PS, hPS⟩ : ∃ s : ByteArray, (⟨(encFrom 0 (l.take k)).toArray⟩ : ByteArray) = s := ⟨_, rfl⟩
        have hPl : PS.data.toList = encFrom 0 (l.take k) := by rw [← hPS]
        have hPz : PS.size ≤ 2500 := by
          have h1 : PS.size = (encFrom 0 (l.take k)).length := by rw [← hPl]; rfl
          omega
        have hb1l : beB 1 ob = [ob.toUInt8] := by
          rw [beB_step]
          have : ob / 256 ^ 0 % 256 = ob := by rw [Nat.pow_zero, Nat.div_one]; omega
          rw [this]; rfl
        obtain ⟨S1, hS1⟩ : ∃ s : ByteArray, (⟨(beB 1 ob).toArray⟩ : ByteArray) = s := ⟨_, rfl⟩
        have hS1l : S1.data.toList = [ob.toUInt8] := by rw [← hS1, hb1l]
        have hS1z : S1.size ≤ 1 := by
          have h1 : S1.size = S1.data.toList.length := rfl
          rw [h1, hS1l]; simp
        have HB1 := hide (show ∀ W : World, Calls Tryd.prog 50 #[.int .i64 ob, .int .i64 1] W fun e w' => e = .returned (.string S1) ∧ Below W.heap.size W w' from fun W => by
          rw [← hS1]; exact bytesR W ob 1 (by omega) (by omega))
        have HJ := hide (fun W => jumpP W (ob : Int))
        rw [hPS]
        rw [← hPl, ← List.singleton_append, ← hS1l] at henc
        have hob : ob ≤ 20 := by omega
        have hop : ob = 1 ∨ ((ob : Int) == 1) = false ∧ (ob = 17 ∨ ob = 18) ∨ ob ≠ 1 ∧ ob ≠ 17 ∧ ob ≠ 18 := by
          by_cases h : ob = 1
          · exact .inl h
          · by_cases h2 : ob = 17 ∨ ob = 18
            · exact .inr (.inl ⟨by rw [beq_eq_false_iff_ne]; omega, h2⟩)
            · exact .inr (.inr ⟨h, by omega, by omega⟩)
        have hk5 : k ≤ 500 := by omega
        clear hc0 hc1 hx htk hi hkl hb hbr hpl hPS hPl hS1 hS1l hb1l i1 i2
        rcases hop with hop | ⟨q1, hop⟩ | ⟨o1, o2, o3⟩
        · have hq : ((ob : Int) == 1) = true := by rw [beq_iff_eq]; omega
          have hlo : loA ob k = -999999999 := by unfold loA; rw [if_pos (by omega)]
          have hsz : szN ob = 4 := by unfold szN; rw [if_pos hop]
          have hjb : jumpB (ob : Int) = false := by subst hop; rfl
          obtain ⟨M, hM⟩ : ∃ M : Nat, arg + 999999999 = (M : Int) := ⟨(arg + 999999999).toNat, by omega⟩
          rw [hlo, hsz, show (arg - -999999999).toNat = M by omega] at henc
          obtain ⟨S2, hS2⟩ : ∃ s : ByteArray, (⟨(beB 4 M).toArray⟩ : ByteArray) = s := ⟨_, rfl⟩
          have hS2l : S2.data.toList = beB 4 M := by rw [← hS2]
          have hS2z : S2.size ≤ 4 := by
            have h1 : S2.size = S2.data.toList.length := rfl
            rw [h1, hS2l, beB_len]; omega
          have HB2 := hide (show ∀ W : World, Calls Tryd.prog 50 #[.int .i64 (arg + 999999999), .int .i64 4] W fun e w' => e = .returned (.string S2) ∧ Below W.heap.size W w' from fun W => by
            rw [hM, ← hS2]; exact bytesR W M 4 (by omega) (by omega))
          rw [← hS2l] at henc
          have Henc := hide (show PS ++ S1 ++ S2 = ⟨(encFrom 0 (l.take (k + 1))).toArray⟩ by apply ba_of; rw [henc, ba_cat2, ba_cat2, List.append_assoc])
          have HJb := hide hjb
          clear hop hlo hsz henc hS2 hS2l hM i3 i4 hjb
          go_wp2_with (first
            | (go_at_call 50; (with_reducible refine (HB2.out w2).mono ?_); rintro e w3 ⟨rfl, hb3⟩; have hb3' := hide (Hw2.out.trans (hb3.mono Hw2.out.size)); obtain ⟨f0, f1⟩ := HS.out w3 hb3'.out; clear hb3)
            | (go_at_call 50; (with_reducible refine (HB1.out wo).mono ?_); rintro e w2 ⟨rfl, hb2⟩; have Hw2 := hide (HB.out.trans (hb2.mono HB.out.size)); obtain ⟨g0, g1⟩ := HS.out w2 Hw2.out; clear hb2)
            | (go_at_call 35; (with_reducible refine (HJ.out _).mono ?_); rintro e w4 ⟨rfl, rfl⟩; rw [HJb.out])
            | fail)
          go_roundw
          case rel => exact ⟨k + 1, by omega, by go_num, by rw [← Henc.out], hb3'.out⟩
          case measure => simp [intOf]; omega
        · have hlo : loA ob k = (k : Int) + 1 := by
            unfold loA
            rw [if_neg (by omega), if_pos (by omega)]
          have hsz : szN ob = 2 := by unfold szN; rw [if_neg (by omega), if_pos hop]
          have hjb : jumpB (ob : Int) = true := by rcases hop with h | h <;> (subst h; rfl)
          have hhi : hiA ob n ≤ n := by
            unfold hiA
            rw [if_neg (by omega), if_pos (by omega)]; omega
          obtain ⟨M, hM⟩ : ∃ M : Nat, arg - (k : Int) - 1 = (M : Int) := ⟨(arg - (k : Int) - 1).toNat, by omega⟩
          rw [hlo, hsz, show (arg - ((k : Int) + 1)).toNat = M by omega] at henc
          obtain ⟨S2, hS2⟩ : ∃ s : ByteArray, (⟨(beB 2 M).toArray⟩ : ByteArray) = s := ⟨_, rfl⟩
          have hS2l : S2.data.toList = beB 2 M := by rw [← hS2]
          have hS2z : S2.size ≤ 4 := by
            have h1 : S2.size = S2.data.toList.length := rfl
            rw [h1, hS2l, beB_len]; omega
          have HB2 := hide (show ∀ W : World, Calls Tryd.prog 50 #[.int .i64 (arg - (k : Int) - 1), .int .i64 2] W fun e w' => e = .returned (.string S2) ∧ Below W.heap.size W w' from fun W => by
            rw [hM, ← hS2]; exact bytesR W M 2 (by omega) (by omega))
          rw [← hS2l] at henc
          have Henc := hide (show PS ++ S1 ++ S2 = ⟨(encFrom 0 (l.take (k + 1))).toArray⟩ by apply ba_of; rw [henc, ba_cat2, ba_cat2, List.append_assoc])
          have HJb := hide hjb
          clear hop hlo hsz henc hS2 hS2l hM i3 i4 hjb hhi
          go_wp2_with (first
            | (go_at_call 50; (with_reducible refine (HB2.out w2).mono ?_); rintro e w3 ⟨rfl, hb3⟩; have hb3' := hide (Hw2.out.trans (hb3.mono Hw2.out.size)); clear hb3)
            | (go_at_call 50; (with_reducible refine (HB1.out wo).mono ?_); rintro e w2 ⟨rfl, hb2⟩; have Hw2 := hide (HB.out.trans (hb2.mono HB.out.size)); obtain ⟨g0, g1⟩ := HS.out w2 Hw2.out; clear hb2)
            | (go_at_call 35; (with_reducible refine (HJ.out _).mono ?_); rintro e w4 ⟨rfl, rfl⟩; rw [HJb.out])
            | fail)
          go_roundw
          case rel => exact ⟨k + 1, by omega, by go_num, by rw [← Henc.out], hb3'.out⟩
          case measure => simp [intOf]; omega
        · have hq : ((ob : Int) == 1) = false := by rw [beq_eq_false_iff_ne]; omega
          have hsz : szN ob = 0 := by unfold szN; rw [if_neg o1, if_neg (by omega)]
          have hjb : jumpB (ob : Int) = false := by
            unfold jumpB
            first | (rw [decide_eq_false (by omega)]) | (simp; omega)
          rw [hsz] at henc
          have Henc := hide (show PS ++ S1 = ⟨(encFrom 0 (l.take (k + 1))).toArray⟩ by apply ba_of; rw [henc, ba_cat2]; simp [beB])
          have HJb := hide hjb
          clear o1 o2 o3 hsz henc i3 i4 hjb
          go_wp2_with (first
            | (go_at_call 50; (with_reducible refine (HB1.out wo).mono ?_); rintro e w2 ⟨rfl, hb2⟩; have Hw2 := hide (HB.out.trans (hb2.mono HB.out.size)); obtain ⟨g0, g1⟩ := HS.out w2 Hw2.out; clear hb2)
            | (go_at_call 35; (with_reducible refine (HJ.out _).mono ?_); rintro e w4 ⟨rfl, rfl⟩; rw [HJb.out])
            | fail)
          go_roundw
          case rel => exact ⟨k + 1, by omega, by go_num, by rw [← Henc.out], Hw2.out⟩
          case measure => simp [intOf]; omega
      · obtain rfl : k = n := by omega
        rw [List.take_of_length_le (by rw [Hn.out]; exact Nat.le_refl _)]
        clear hbr
        go_wp2
        go_ret2
        exact ⟨rfl, Hb1.out.trans (HB.out.mono Hb1.out.size)⟩
  · rw [if_neg hz]
    have hq : (E != 0) = true := by simpa using hz
    clear h hE hz
    go_enter Tryd.func24, Tryd.ntmps24
    go_wp2_with (go_at_call 29; refine HC.out.mono ?_; rintro e w1 ⟨rfl, hb1⟩)
    go_ret2
    exact ⟨rfl, hb1⟩
end Go.Proofs.YtonnjokjbknngaaDoor
