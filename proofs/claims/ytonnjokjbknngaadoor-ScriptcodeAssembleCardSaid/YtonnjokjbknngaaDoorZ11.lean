/- The reference's Same; scriptcode.Encode. -/
import Derived.Test.YtonnjokjbknngaaDoorZ10
import Derived.Test.YtonnjokjbknngaaDoorZ7b
import Derived.Deep.AppendLies
import Derived.IntWalk
import Derived.Deep.RegionLaw
namespace Go.Proofs.YtonnjokjbknngaaDoor
open Go.RowKit Go.Lib Go.Shelf

set_option maxRecDepth 100000 in
set_option maxHeartbeats 2000000 in
/-- Equal scripts are the same. -/
theorem sameP (w : World) (A A' : Option Addr) (c c' : Nat) (l : List Ins) (hz : l.length ≤ 100000) (h : InsRow w w.heap.size A l) (h' : InsRow w w.heap.size A' l) :
    Calls Tryd.prog 14 #[.slice A l.length c, .slice A' l.length c'] w fun e w' => e = .returned (.bool true) ∧ Below w.heap.size w w' := by
  have hrf := Below.refl w.heap.size w
  obtain ⟨n, hn⟩ : ∃ n, l.length = n := ⟨_, rfl⟩
  rw [hn] at hz ⊢
  have Hn := hide hn
  have Hh := hide h
  have Hh' := hide h'
  clear h h' hn
  go_enter Tryd.func14, Tryd.ntmps14
  go_wp2
  go_loopw [5] (fun i wr => ∃ k : Nat, k ≤ n ∧ i = .int .i64 k ∧ Below w.heap.size w wr) (fun i _ => n - (intOf i).toNat)
  case atStart => exact ⟨0, Nat.zero_le _, rfl, hrf⟩
  case round =>
    obtain ⟨k, hk, rfl, hbr⟩ := hrel
    rename World => wo
    have HB := hide hbr
    by_cases hlt : k < n
    · have hltI : (k : Int) < (n : Int) := by omega
      have hk0 : (0 : Int) ≤ (k : Int) := by omega
      have hkl : k < l.length := by rw [Hn.out]; exact hlt
      obtain ⟨b, off, rfl, hb, hc0, hc1⟩ := Hh.out.get hkl
      obtain ⟨b', off', rfl, hb', hc0', hc1'⟩ := Hh'.out.get hkl
      obtain ⟨x, hx⟩ : ∃ x, l[k]'hkl = x := ⟨_, rfl⟩
      rw [hx] at hc0 hc1 hc0' hc1'
      obtain ⟨op, arg⟩ := x
      dsimp only at hc0 hc1 hc0' hc1'
      have e0 : wo.cell? ⟨b, off + k * 2, none⟩ = some (.int .i64 op) := (hbr.cell (p := ⟨b, _, none⟩) hb).trans hc0
      have e1 : wo.cell? ⟨b, off + k * 2 + 1, none⟩ = some (.int .i64 arg) := (hbr.cell (p := ⟨b, _, none⟩) hb).trans hc1
      have e0' : wo.cell? ⟨b', off' + k * 2, none⟩ = some (.int .i64 op) := (hbr.cell (p := ⟨b', _, none⟩) hb').trans hc0'
      have e1' : wo.cell? ⟨b', off' + k * 2 + 1, none⟩ = some (.int .i64 arg) := (hbr.cell (p := ⟨b', _, none⟩) hb').trans hc1'
      clear hc0 hc1 hc0' hc1' hx hbr hkl hb hb'
      go_wp2
      go_quiet (fail)
      go_wp2
      go_roundw
      case rel => exact ⟨k + 1, by omega, by go_num, below_drewN' HB.out _⟩
      case measure => simp [intOf]; omega
    · obtain rfl : k = n := by omega
      clear hbr
      go_wp2
      go_ret
      exact ⟨rfl, HB.out⟩

abbrev OwnBy (w : World) (B : Nat) (v : Value) (bs : List UInt8) : Prop := w.ownsRow B 5 1 v bs.length (bs.map fun b => Value.int .u8 b.toNat)
theorem el_u8 : ElemOf Tryd.prog 64 5 (.int .u8 0) 1 1 := ⟨Tryd.underlying64, by kernel_rfl, rfl, by decide, by decide⟩
theorem byte_val (n : Nat) : (Value.int .u8 ((n % 256 : Nat) : Int)) = .int .u8 ((n % 256).toUInt8.toNat : Int) := by
  congr 2
  simp [Nat.toUInt8]

theorem shr_byte (M q : Nat) : ((M : Int) / 2 ^ (8 * q) % 256) = (((M / 256 ^ q % 256).toUInt8.toNat : Nat) : Int) := by
  have h1 : (2 : Int) ^ (8 * q) = ((256 ^ q : Nat) : Int) := by rw [Int.pow_mul]; simp
  have h2 : (M / 256 ^ q % 256).toUInt8.toNat = M / 256 ^ q % 256 := by simp [Nat.toUInt8]
  rw [h1, h2]
  simp
theorem beB_step (k n : Nat) : beB (k + 1) n = (n / 256 ^ k % 256).toUInt8 :: beB k n := rfl

set_option maxRecDepth 100000 in
set_option maxHeartbeats 3000000 in
theorem encodeP (w : World) (A : Option Addr) (c : Nat) (l : List Ins) (h : InsRow w w.heap.size A l) :
    Calls Tryd.prog 17 #[.slice A l.length c] w fun e w' => e = .returned (.tuple #[.string ⟨(if codeErr l = 0 then encFrom 0 l else []).toArray⟩, .int .i64 (codeErr l)]) ∧ Below w.heap.size w w' := by
  have HC := hide (checkP w A c l h)
  obtain ⟨E, hE⟩ : ∃ e, codeErr l = e := ⟨_, rfl⟩
  rw [hE] at HC ⊢
  by_cases hz : E = 0
  · subst hz
    rw [if_pos rfl]
    have hok := hE
    unfold codeErr at hok
    have hlen : l.length ≤ 500 := by
      by_cases h1 : 500 < l.length
      · rw [if_pos h1] at hok; cases hok
      · omega
    rw [if_neg (by omega)] at hok
    have Hok := hide (errFrom_ok hok)
    obtain ⟨n, hn⟩ : ∃ n, l.length = n := ⟨_, rfl⟩
    rw [hn] at HC hlen Hok ⊢
    have Hn := hide hn
    have Hh := hide h
    clear h hE hok hn
    go_enter Tryd.func17, Tryd.ntmps17
    go_wp2_with (go_at_call 22; refine HC.out.mono ?_; rintro e w1 ⟨rfl, hb1⟩; have Hb1 := hide hb1; clear hb1)
    have hown0 : OwnBy w1 w1.heap.size (.slice none 0 0) [] := World.ownsRow_nil _ _ _ _
    go_loopw [17, 5] (fun i o wr => ∃ k : Nat, k ≤ n ∧ i = .int .i64 k ∧ OwnBy wr w1.heap.size o (encFrom 0 (l.take k)) ∧ Below w1.heap.size w1 wr) (fun i _ _ => n - (intOf i).toNat)
    case atStart => exact ⟨0, Nat.zero_le _, rfl, hown0, Below.refl _ _⟩
    case round =>
      clear hown0
      obtain ⟨k, hk, rfl, hown, hbr⟩ := hrel
      rename World => wo
      have HB := hide hbr
      by_cases hlt : k < n
      · have hltI : (k : Int) < (n : Int) := by omega
        have hkl : k < l.length := by rw [Hn.out]; exact hlt
        have htk : l.take (k + 1) = l.take k ++ [l[k]'hkl] := List.take_succ_eq_append_getElem hkl
        have hi := Hok.out k _ (List.getElem?_eq_getElem hkl)
        rw [Nat.zero_add] at hi
        obtain ⟨b, off, rfl, hb, hc0, hc1⟩ := Hh.out.get hkl
        obtain ⟨x, hx⟩ : ∃ x, l[k]'hkl = x := ⟨_, rfl⟩
        rw [hx] at hc0 hc1 htk hi
        obtain ⟨i1, i2, i3, i4⟩ := ins_ok_op hi
        have hsp := ins_span hi hlen
        obtain ⟨op, arg⟩ := x
        dsimp only at hc0 hc1 i1 i2 i3 i4 hsp
        obtain ⟨ob, rfl⟩ : ∃ ob : Nat, op = ob := ⟨op.toNat, by omega⟩
        have henc : encFrom 0 (l.take (k + 1)) = encFrom 0 (l.take k) ++ encI k ⟨ob, arg⟩ := by
          rw [htk, encFrom_snoc, List.length_take, Nat.zero_add, Nat.min_eq_left (by omega)]
        unfold encI at henc
        dsimp only at henc
        rw [Int.toNat_natCast] at henc hsp
        have hL1 : -999999999 ≤ loA ob k ∧ loA ob k ≤ 501 := by unfold loA; repeat' split
                                                                all_goals omega
        have hH1 : hiA ob n ≤ 999999999 := by unfold hiA; repeat' split
                                              all_goals omega
        have HBa := hide (fun W => baseP W ob k (by omega))
        obtain ⟨L, hL⟩ : ∃ x, loA ob k = x := ⟨_, rfl⟩
        rw [hL] at i3 henc hsp hL1
        simp only [hL] at HBa
        obtain ⟨M, hM⟩ : ∃ M : Nat, arg - L = M := ⟨(arg - L).toNat, by omega⟩
        rw [hM, Int.toNat_natCast] at henc hsp
        have hargU : arg ≤ 999999999 := by omega
        have HSz := hide (fun W => sizeP W ob)
        have hs4 := szN_le ob
        obtain ⟨SZ, hSZ⟩ : ∃ z, szN ob = z := ⟨_, rfl⟩
        rw [hSZ] at henc hsp hs4
        simp only [hSZ] at HSz
        obtain ⟨pre, hpre⟩ : ∃ p, encFrom 0 (l.take k) = p := ⟨_, rfl⟩
        rw [hpre] at henc hown
        have hplen : pre.length ≤ 2500 := by
          rw [← hpre]
          have := encFrom_len (l.take k) 0
          rw [List.length_take] at this; omega
        have hob : ob ≤ 20 := by omega
        have e0 : wo.cell? ⟨b, off + k * 2, none⟩ = some (.int .i64 (ob : Int)) := ((Hb1.out.trans (hbr.mono Hb1.out.size)).cell (p := ⟨b, _, none⟩) hb).trans hc0
        have e1 : wo.cell? ⟨b, off + k * 2 + 1, none⟩ = some (.int .i64 arg) := ((Hb1.out.trans (hbr.mono Hb1.out.size)).cell (p := ⟨b, _, none⟩) hb).trans hc1
        have HO := hide hown
        have Henc := hide henc
        have Hsp := hide hsp
        have HM := hide hM
        have hwo : w1.heap.size ≤ wo.heap.size := hbr.size
        clear hc0 hc1 hi hx htk hL hSZ hpre henc hsp i4 hH1 hown hbr hM hkl hb
        obtain ⟨A5, c5, rfl⟩ := own_form HO.out
        have hbx := block_new wo (.cells #[.int .i64 (ob : Int), .int .i64 arg] 41)
        have HO2 := hide (HO.out.alloc (.cells #[.int .i64 (ob : Int), .int .i64 arg] 41))
        have Hbw2 := hide (HB.out.alloc hwo (.cells #[.int .i64 (ob : Int), .int .i64 arg] 41))
        have Hne := hide (row_ne HO2.out hbx (by intro a b he; cases he))
        have Hbx := hide hbx
        clear hbx
        have hwo1 : w1.heap.size ≤ wo.heap.size + 1 := by omega
        have hb256 : ((ob : Int)) < 256 := by omega
        go_wp2_with (first
          | (at_builtin; refine wpList_app _ (.tmp 22) (.tmp 26) 64 rfl (by rfl) el_u8 w1.heap.size (.slice A5 pre.length c5) pre.length _ (by rfl) HO2.out (by simp; omega) #[.int .u8 ob] 1 1 5 _ (by rfl) (by simp) rfl (by simp [Value.oneCell']) (by omega) ?_; intro v3 w3 hown3 hg3; have HO3 := hide hown3; have HG3 := hide hg3; clear hown3 hg3)
          | fail)
        have hbx3 := (HG3.out.block _ (block_lt Hbx.out) Hne.out).trans Hbx.out
        have x0 := cell_block hbx3 0
        have x1 := cell_block hbx3 1
        have Hb3 := hide (Hbw2.out.grown HG3.out (by simp; omega) (fun j hj => (HO2.out.lt j hj).1))
        have hs3 : w1.heap.size ≤ w3.heap.size := Hb3.out.size
        have e2 : IntKind.i64.wrap (arg - L) = (M : Int) := by rw [IntWalk.i64_in _ (by omega)]; exact HM.out
        clear hbx3 e0 e1
        go_quiet ((go_at_call 38; exact Calls.quiet_of_same ((HBa.out _).mono fun e w' h => ⟨h.1, h.2.symm⟩)))
        clear e2
        have HSz2 := hide (fun j => HSz.out (w3.drewN j))
        go_wp2_with (first | (go_at_call 37; refine (HSz2.out _).mono ?_; rintro e w4 ⟨rfl, rfl⟩) | fail)
        obtain ⟨P1, hP1⟩ : ∃ p, pre ++ [ob.toUInt8] = p := ⟨_, rfl⟩
        have hown4 : OwnBy (w3.drewN nq) w1.heap.size v3 P1 := by
          rw [← hP1]
          refine own_eq (n := pre.length + 1) HO3.out (by simp) ?_
          simp only [List.map_append, List.map_cons, List.map_nil]
          congr 3
          have : ob.toUInt8.toNat = ob := by simp [Nat.toUInt8]; omega
          rw [this]
        have hP1l : P1.length ≤ 2501 := by rw [← hP1]; simp; omega
        have Henc2 := hide (show encFrom 0 (l.take (k + 1)) = P1 ++ beB SZ M by rw [Henc.out, ← hP1]; simp)
        have hb4 := below_drewN' Hb3.out nq
        obtain ⟨wq, hwq⟩ : ∃ wq, w3.drewN nq = wq := ⟨_, rfl⟩
        rw [hwq] at hown4 hb4 ⊢
        have hMb : M < 4294967296 := by
          have h1 := Hsp.out
          have h2 : 256 ^ SZ ≤ 256 ^ 4 := Nat.pow_le_pow_right (by omega) hs4
          have h3 : 256 ^ 4 = 4294967296 := by decide
          omega
        clear hwq hP1 x0 x1 HSz2 HSz HBa Hb3 HO3 HG3 HO2 Hbw2 Hne Hbx HM Hsp Henc HO HB
        go_loopw [9, 5] (fun kk o wr => ∃ (j : Nat) (done : List UInt8), j ≤ SZ ∧ kk = .int .i64 ((j : Int) - 1) ∧ OwnBy wr w1.heap.size o (P1 ++ done) ∧ done ++ beB j M = beB SZ M ∧ done.length + j ≤ 4 ∧ Below w1.heap.size w1 wr) (fun kk _ _ => (intOf kk + 1).toNat)
        case atStart => exact ⟨SZ, [], Nat.le_refl _, rfl, by rw [List.append_nil]; exact hown4, rfl, by simpa using hs4, hb4⟩
        case round =>
          clear hown4 hb4
          obtain ⟨j, done, hj, rfl, hown, hdone, hdl, hbr⟩ := hrel
          rename World => wp
          have HO := hide hown
          have HB := hide hbr
          have Hd := hide hdone
          clear hown hbr hdone
          by_cases hj0 : j = 0
          · subst hj0
            have hE2 := Henc2.out
            have hd2 := Hd.out
            rw [show beB 0 M = [] from rfl, List.append_nil] at hd2
            rw [← hd2] at hE2
            have HE := hide hE2
            clear hE2 hd2
            rw [show ((0 : Nat) : Int) - 1 = -1 by omega]
            go_wp2
            go_roundw
            case rel => exact ⟨k + 1, by omega, by go_num, by rw [HE.out]; exact HO.out, HB.out⟩
            case measure => simp [intOf]; omega
          · obtain ⟨q, rfl⟩ : ∃ q, j = q + 1 := ⟨j - 1, by omega⟩
            have Hs := hide (beB_step q M)
            rw [show ((q + 1 : Nat) : Int) - 1 = (q : Int) by omega]
            obtain ⟨A6, c6, rfl⟩ := own_form HO.out
            have hpd : (P1 ++ done).length ≤ 2505 := by rw [List.length_append]; omega
            have hwp : w1.heap.size ≤ wp.heap.size := HB.out.size
            go_wp2_with (first
              | (at_builtin; refine wpList_app _ (.tmp 43) (.tmp 49) 64 rfl (by rfl) el_u8 w1.heap.size (.slice A6 (P1 ++ done).length c6) (P1 ++ done).length _ (by rfl) HO.out hwp #[.int .u8 ((M : Int) / 2 ^ (8 * q) % 256)] 1 1 5 _ (by rfl) rfl rfl (by simp [Value.oneCell']) (by omega) ?_; intro v7 w7 hown7 hg7; have HO7 := hide hown7; have HG7 := hide hg7; clear hown7 hg7)
              | fail)
            go_roundw
            case rel =>
              refine ⟨q, done ++ [(M / 256 ^ q % 256).toUInt8], by omega, rfl, ?_, ?_, by simp; omega, HB.out.grown HG7.out hwp (fun j hj => (HO.out.lt j hj).1)⟩
              · refine own_eq HO7.out (by simp; omega) ?_
                rw [shr_byte]
                simp
              · rw [← Hd.out, Hs.out]; simp
            case measure => simp [intOf]
      · obtain rfl : k = n := by omega
        rw [List.take_of_length_le (by rw [Hn.out]; exact Nat.le_refl _)] at hown
        have HO := hide hown
        obtain ⟨B, hB⟩ : ∃ b, encFrom 0 l = b := ⟨_, rfl⟩
        rw [hB] at HO
        have HBq := hide hB
        clear hown hbr hB
        go_wp2_with (refine wpList_str _ (.tmp 52) 64 9 5 rfl (by rfl) Tryd.underlying64 Tryd.underlying5 Tryd.underlying9 w1.heap.size _ B (by rfl) HO.out ?_)
        go_ret2
        exact ⟨by rw [HBq.out]; rfl, Hb1.out.trans (HB.out.mono Hb1.out.size)⟩
  · rw [if_neg hz]
    have hq : (E != 0) = true := by simpa using hz
    clear h hE hz
    go_enter Tryd.func17, Tryd.ntmps17
    go_wp2_with (go_at_call 22; refine HC.out.mono ?_; rintro e w1 ⟨rfl, hb1⟩)
    go_ret2
    exact ⟨rfl, hb1⟩
end Go.Proofs.YtonnjokjbknngaaDoor
