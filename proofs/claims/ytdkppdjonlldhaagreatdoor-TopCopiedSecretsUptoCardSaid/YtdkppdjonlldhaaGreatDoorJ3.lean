/- Joined: SP9, SP10, SP11. -/
import Derived.Test.YtdkppdjonlldhaaGreatDoorJ2
import Derived.Shelf.Slices.Equal
import Derived.Test.YtdkppdjonlldhaaGreatDoorTail
import Derived.Shelf.Strings.Fields
import Derived.Deep.MidRow
import Derived.Laws.CopyOwn
/- Numbers in words: numwords.Number, numwords.Prefix. -/
namespace Go.Proofs.YtdkppdjonlldhaaGreatDoor
open Go.RowKit Go.Maps Go.Shelf

def laysEq_ren : Go.Shelf.Ren := ⟨fun | 193 => 113 | n => n, fun | 0 => 0 | 3 => 3 | 4 => 4 | 9 => 9 | 31 => 51 | n => n, fun | n => n⟩
theorem laysEq : Go.Proofs.Lays.n193 Tryz.prog laysEq_ren := { mixed := by kernel_rfl, f193 := Tryz.func113.trans (congrArg some (by kernel_rfl)), t0 := Tryz.underlying0, a0 := Tryz.isAgg0, z0 := Tryz.sizeOf0, v0 := Tryz.zeroValue0, t3 := Tryz.underlying3, a3 := Tryz.isAgg3, z3 := Tryz.sizeOf3, v3 := Tryz.zeroValue3, t4 := Tryz.underlying4, a4 := Tryz.isAgg4, z4 := Tryz.sizeOf4, v4 := Tryz.zeroValue4, t9 := Tryz.underlying9, a9 := Tryz.isAgg9, z9 := Tryz.sizeOf9, v9 := Tryz.zeroValue9, t31 := Tryz.underlying51, a31 := Tryz.isAgg51, z31 := Tryz.sizeOf51, v31 := Tryz.zeroValue51 }

theorem below_drewN {B : Nat} {w w1 : World} (h : Below B w w1) (n : Nat) : Below B w (w1.drewN n) := h.trans ⟨rfl, rfl, rfl, Nat.le_refl _, fun _ _ => rfl⟩
theorem strV_inj {a b : Wd} (h : (⟨a.toArray⟩ : ByteArray) = ⟨b.toArray⟩) : a = b := by
  have := congrArg (fun x : ByteArray => x.data.toList) h; simpa using this
theorem row_cells {w : World} {B b off : Nat} {l : List Wd} (h : StrRow w B (some ⟨b, off, none⟩) l) (h0 : 0 < l.length) : ∀ j, j < (l.map fun s => (⟨s.toArray⟩ : ByteArray)).length → w.cell? ⟨b, off + j, none⟩ = some (.string ((l.map fun s => (⟨s.toArray⟩ : ByteArray)).getD j ByteArray.empty)) := fun j hj => by
  rw [List.length_map] at hj
  rw [strs_cells h h0 j (strV l[j]) (by rw [List.getElem?_map, List.getElem?_eq_getElem hj]; rfl)]
  rw [List.getD_eq_getElem?_getD, List.getElem?_map, List.getElem?_eq_getElem hj]; rfl
set_option maxRecDepth 100000 in
theorem equalP (w : World) (A1 A2 : Option Addr) (n c m d : Nat) (xs ys : List Wd) (hx : xs.length = n) (hy : ys.length = m) (h1 : StrRow w w.heap.size A1 xs) (h2 : StrRow w w.heap.size A2 ys) (hn : n ≤ 1000000000) (hm : m ≤ 1000000000) :
    Calls Tryz.prog 113 #[.slice A1 n c, .slice A2 m d] w fun e w' => e = .returned (.bool (decide (xs = ys))) ∧ Below w.heap.size w w' := by
  by_cases hnm : n = m
  · subst hnm
    by_cases h0 : n = 0
    · subst h0
      have ex : xs = [] := List.eq_nil_of_length_eq_zero hx
      have ey : ys = [] := List.eq_nil_of_length_eq_zero hy
      subst ex ey
      refine (Any.slices_Equal_string_empty laysEq A1 A2 c 0 d w (by omega)).mono fun e w' ⟨he, hw⟩ => ?_
      subst hw
      exact ⟨by rw [he]; rfl, Below.refl _ _⟩
    · obtain ⟨b1, o1, rfl, -, -⟩ := h1 (by omega)
      obtain ⟨b2, o2, rfl, -, -⟩ := h2 (by omega)
      refine (Any.slices_Equal_string laysEq b1 o1 n c b2 o2 n d (xs.map fun s => (⟨s.toArray⟩ : ByteArray)) (ys.map fun s => (⟨s.toArray⟩ : ByteArray)) w (by simp [hx]) (by simp [hy]) (by omega) (by omega) (row_cells h1 (by omega)) (row_cells h2 (by omega))).mono fun e w' ⟨he, q, hw⟩ => ?_
      subst hw
      refine ⟨?_, below_drewN (Below.refl _ w) q⟩
      rw [he, List.take_of_length_le (by simp [hx]), List.take_of_length_le (by simp [hy])]
      congr 2
      have : (xs.map (fun s => (⟨s.toArray⟩ : ByteArray)) = ys.map fun s => (⟨s.toArray⟩ : ByteArray)) ↔ xs = ys := ⟨fun h => (List.map_inj_right (fun a b h => strV_inj h)).1 h, fun h => by rw [h]⟩
      exact decide_eq_decide.2 this
  · have hne : ((n : Int) != (m : Int)) = true := by rw [bne_iff_ne]; omega
    have hd : decide (xs = ys) = false := decide_eq_false fun h => by subst h; omega
    rw [hd]
    go_enter Tryz.func113, Tryz.ntmps113
    go_wp2
    go_ret
    exact ⟨rfl, Below.refl _ _⟩
theorem wordsI_len {n : Int} {ws : List Wd} (h : wordsI n = some ws) : ws.length ≤ 15 := by
  have h14 := numW_len n.natAbs
  unfold wordsI at h
  split at h
  · cases h
  · split at h
    · cases h; rw [List.length_cons]; omega
    · cases h; omega
/-- What Number answers. -/
def NumRet (w : World) (o : Option Int) (e : Ending) (w' : World) : Prop := e = .returned (.tuple #[.int .i64 (o.getD 0), .int .i64 (if o.isSome = true then 0 else 17)]) ∧ Below w.heap.size w w'
theorem numFold_cons {x : Wd} {l : List Wd} {a p : Int} {r : Option (Int × Int)} (h : numStep x a p = r) : numFold (x :: l) a p = match numCap r with | none => none | some (a', p') => numFold l a' p' := by rw [numFold, h]; rfl
theorem numCap_no {a p : Int} (h : 999999999 < p ∨ 999999999 < a) : numCap (some (a, p)) = none := by show (if 999999999 < p ∨ 999999999 < a then none else some (a, p)) = _; rw [if_pos h]
theorem numCap_ok {a p : Int} (h : ¬ (999999999 < p ∨ 999999999 < a)) : numCap (some (a, p)) = some (a, p) := by show (if 999999999 < p ∨ 999999999 < a then none else some (a, p)) = _; rw [if_neg h]
theorem valOf_range {x : Wd} {v : Int} (h : valOf x = some v) : 0 ≤ v ∧ v ≤ 90 := by
  unfold valOf at h
  cases hf : (vocL.take 28).findIdx? (· == x) with
  | none => rw [hf] at h; cases h
  | some i =>
    rw [hf] at h
    have hi : i < 28 := by
      rw [List.findIdx?_eq_some_iff_getElem] at hf
      exact hf.1
    have : v = valN i := by simpa using h.symm
    subst this
    unfold valN; split <;> omega
set_option maxRecDepth 100000 in
set_option maxHeartbeats 4000000 in
theorem numberP (w : World) (A : Option Addr) (n c : Nat) (l : List Wd) (hl : l.length = n) (hn : n ≤ 1000000) (hrow : StrRow w w.heap.size A l) (hsz : ∀ s ∈ l, s.length ≤ 1000000) :
    Calls Tryz.prog 90 #[.slice A n c] w (NumRet w (numF l)) := by
  have hb0 := Below.refl w.heap.size w
  have HVals := hide (fun w => valuesP w)
  by_cases hc : l.length < 1 ∨ 15 < l.length
  · have hR := hide (show numF l = none by unfold numF; rw [if_pos hc])
    rw [hR.out]
    rcases hc with hc | hc
    · obtain rfl : n = 0 := by omega
      go_enter Tryz.func90, Tryz.ntmps90
      go_wp2
      go_ret2
      exact ⟨rfl, hb0⟩
    · have i1 : ((n : Int) == 0) = false := by rw [beq_eq_false_iff_ne]; omega
      have i2 : decide ((15 : Int) < (n : Int)) = true := decide_eq_true (by omega)
      go_enter Tryz.func90, Tryz.ntmps90
      go_wp2
      go_ret2
      exact ⟨rfl, hb0⟩
  have i1 : ((n : Int) == 0) = false := by rw [beq_eq_false_iff_ne]; omega
  have i2 : decide ((15 : Int) < (n : Int)) = false := decide_eq_false (by omega)
  obtain ⟨R, hR⟩ : ∃ R, numF l = R := ⟨_, rfl⟩
  rw [hR]
  obtain ⟨b, off, rfl, hbb, hcell⟩ := hrow (by omega)
  have HRow := hide hrow
  have HCell := hide hcell
  have HSz := hide hsz
  have Hl := hide hl
  have HR := hide (show (match numFold l 0 0 with | none => none | some (a, p) => if wordsI (numVal l a p) = some l then some (numVal l a p) else none) = R by rw [← hR, numF, if_neg hc]; rfl)
  have hn15 : 1 ≤ n ∧ n ≤ 15 := by omega
  clear hrow hcell hsz hR hc hn
  go_enter Tryz.func90, Tryz.ntmps90
  go_wp2_with (first
    | (go_at_call 112; refine (HVals.out _).mono ?_; rintro e w1 ⟨nm, rfl, hM, hb1⟩)
    | fail)
  have HM := hide hM
  have HMk := hide (fun (W2 : World) (hb : Below w1.heap.size w1 W2) => show ValsAt W2 w.heap.size nm 28 from map_block hM (hb.block _ (by obtain ⟨es, clock, h1, -⟩ := hM; exact (Array.getElem?_eq_some_iff.1 h1).1)))
  clear hM HVals HM
  go_loop [5, 6, 25] (fun a p i => ∃ (k : Nat) (za zp : Int), k ≤ n ∧ i = .int .i64 k ∧ a = .int .i64 za ∧ p = .int .i64 zp ∧ 0 ≤ za ∧ za ≤ 999999999 ∧ 0 ≤ zp ∧ zp ≤ 999999999 ∧ numFold l 0 0 = numFold (l.drop k) za zp) (fun _ _ i => n - (intOf i).toNat)
  case atStart => exact ⟨0, 0, 0, Nat.zero_le _, rfl, rfl, rfl, by omega, by omega, by omega, by omega, by rw [List.drop_zero]⟩
  case round =>
    obtain ⟨k, za, zp, hk, rfl, rfl, rfl, ha0, ha1, hp0, hp1, hf⟩ := hrel
    have HF := hide hf
    clear hf
    by_cases hlt : k < n
    · have hkI : (k : Int) < (n : Int) := by omega
      have hkl : k < l.length := by rw [Hl.out]; exact hlt
      have hc0 := HCell.out k _ (List.getElem?_eq_getElem hkl)
      have c0 := (hb1.cell (p := ⟨b, off + k * 1, none⟩) hbb).trans hc0
      rw [Nat.mul_one] at c0
      have HD := hide (List.drop_eq_getElem_cons hkl)
      have HXs := hide (HSz.out _ (List.getElem_mem hkl))
      obtain ⟨X, hX⟩ : ∃ X, l[k] = X := ⟨_, rfl⟩
      unfold strV at c0
      rw [hX] at c0 HD HXs
      have Hkey := hide (skey X HXs.out)
      obtain ⟨S, hS⟩ : ∃ S : ByteArray, (⟨X.toArray⟩ : ByteArray) = S := ⟨_, rfl⟩
      have HSl := hide (show S.toList = X by rw [← hS, ByteArray.toList_eq])
      rw [hS] at c0 Hkey
      clear hc0 hX hS
      have HG := hide (HF.out.trans (congrArg (fun l => numFold l za zp) HD.out))
      clear HF
      by_cases h0 : X = minusW
      · have q0 : (S.toList == [109, 105, 110, 117, 115]) = true := by rw [HSl.out, h0]; rfl
        have HS := hide (numFold_cons (l := l.drop (k + 1)) (show numStep X za zp = some (za, zp) by unfold numStep; rw [if_pos h0]))
        by_cases hcap : 999999999 < zp ∨ 999999999 < za
        · have HN := hide (HR.out.symm.trans (by rw [HG.out, HS.out, numCap_no hcap]))
          rw [HN.out]
          rcases hcap with hcap | hcap
          · have d1 : decide ((999999999 : Int) < zp) = true := decide_eq_true hcap
            go_wp2_with fail
            go_ret2
            exact ⟨rfl, hb1⟩
          · by_cases hcap2 : 999999999 < zp
            · have d1 : decide ((999999999 : Int) < zp) = true := decide_eq_true hcap2
              go_wp2_with fail
              go_ret2
              exact ⟨rfl, hb1⟩
            · have d1 : decide ((999999999 : Int) < zp) = false := decide_eq_false hcap2
              have d2 : decide ((999999999 : Int) < za) = true := decide_eq_true hcap
              go_wp2_with fail
              go_ret2
              exact ⟨rfl, hb1⟩
        · have HN := hide (show numFold l 0 0 = numFold (l.drop (k + 1)) za zp by rw [HG.out, HS.out, numCap_ok hcap])
          have hcap1 : zp ≤ 999999999 := by omega
          have hcap2 : za ≤ 999999999 := by omega
          have d1 : decide ((999999999 : Int) < zp) = false := decide_eq_false (by omega)
          have d2 : decide ((999999999 : Int) < za) = false := decide_eq_false (by omega)
          clear hcap
          go_wp2_with fail
          go_round
          case rel => exact ⟨k + 1, za, zp, by omega, by go_num, by go_num, by go_num, by omega, by omega, by omega, by omega, HN.out⟩
          case measure => simp [intOf]; omega
      have q0 : (S.toList == [109, 105, 110, 117, 115]) = false := by rw [HSl.out]; exact beq_eq_false_iff_ne.2 h0
      by_cases h1 : X = hundredW
      · have q1 : (S.toList == [104, 117, 110, 100, 114, 101, 100]) = true := by rw [HSl.out, h1]; rfl
        have HS := hide (numFold_cons (l := l.drop (k + 1)) (show numStep X za zp = some (za, (zp * 100)) by unfold numStep; rw [if_neg h0, if_pos h1]))
        by_cases hcap : 999999999 < (zp * 100) ∨ 999999999 < za
        · have HN := hide (HR.out.symm.trans (by rw [HG.out, HS.out, numCap_no hcap]))
          rw [HN.out]
          rcases hcap with hcap | hcap
          · have d1 : decide ((999999999 : Int) < (zp * 100)) = true := decide_eq_true hcap
            go_wp2_with fail
            go_ret2
            exact ⟨rfl, hb1⟩
          · by_cases hcap2 : 999999999 < (zp * 100)
            · have d1 : decide ((999999999 : Int) < (zp * 100)) = true := decide_eq_true hcap2
              go_wp2_with fail
              go_ret2
              exact ⟨rfl, hb1⟩
            · have d1 : decide ((999999999 : Int) < (zp * 100)) = false := decide_eq_false hcap2
              have d2 : decide ((999999999 : Int) < za) = true := decide_eq_true hcap
              go_wp2_with fail
              go_ret2
              exact ⟨rfl, hb1⟩
        · have HN := hide (show numFold l 0 0 = numFold (l.drop (k + 1)) za (zp * 100) by rw [HG.out, HS.out, numCap_ok hcap])
          have hcap1 : (zp * 100) ≤ 999999999 := by omega
          have hcap2 : za ≤ 999999999 := by omega
          have d1 : decide ((999999999 : Int) < (zp * 100)) = false := decide_eq_false (by omega)
          have d2 : decide ((999999999 : Int) < za) = false := decide_eq_false (by omega)
          clear hcap
          go_wp2_with fail
          go_round
          case rel => exact ⟨k + 1, za, (zp * 100), by omega, by go_num, by go_num, by go_num, by omega, by omega, by omega, by omega, HN.out⟩
          case measure => simp [intOf]; omega
      have q1 : (S.toList == [104, 117, 110, 100, 114, 101, 100]) = false := by rw [HSl.out]; exact beq_eq_false_iff_ne.2 h1
      by_cases h2 : X = thousandW
      · have q2 : (S.toList == [116, 104, 111, 117, 115, 97, 110, 100]) = true := by rw [HSl.out, h2]; rfl
        have HS := hide (numFold_cons (l := l.drop (k + 1)) (show numStep X za zp = some ((za + 1000 * zp), (0 : Int)) by unfold numStep; rw [if_neg h0, if_neg h1, if_pos h2]))
        by_cases hcap : 999999999 < (0 : Int) ∨ 999999999 < (za + 1000 * zp)
        · have HN := hide (HR.out.symm.trans (by rw [HG.out, HS.out, numCap_no hcap]))
          rw [HN.out]
          rcases hcap with hcap | hcap
          · have d1 : decide ((999999999 : Int) < (0 : Int)) = true := decide_eq_true hcap
            go_wp2_with fail
            go_ret2
            exact ⟨rfl, hb1⟩
          · by_cases hcap2 : 999999999 < (0 : Int)
            · have d1 : decide ((999999999 : Int) < (0 : Int)) = true := decide_eq_true hcap2
              go_wp2_with fail
              go_ret2
              exact ⟨rfl, hb1⟩
            · have d1 : decide ((999999999 : Int) < (0 : Int)) = false := decide_eq_false hcap2
              have d2 : decide ((999999999 : Int) < (za + 1000 * zp)) = true := decide_eq_true hcap
              go_wp2_with fail
              go_ret2
              exact ⟨rfl, hb1⟩
        · have HN := hide (show numFold l 0 0 = numFold (l.drop (k + 1)) (za + 1000 * zp) (0 : Int) by rw [HG.out, HS.out, numCap_ok hcap])
          have hcap1 : (0 : Int) ≤ 999999999 := by omega
          have hcap2 : (za + 1000 * zp) ≤ 999999999 := by omega
          have d1 : decide ((999999999 : Int) < (0 : Int)) = false := decide_eq_false (by omega)
          have d2 : decide ((999999999 : Int) < (za + 1000 * zp)) = false := decide_eq_false (by omega)
          clear hcap
          go_wp2_with fail
          go_round
          case rel => exact ⟨k + 1, (za + 1000 * zp), (0 : Int), by omega, by go_num, by go_num, by go_num, by omega, by omega, by omega, by omega, HN.out⟩
          case measure => simp [intOf]; omega
      have q2 : (S.toList == [116, 104, 111, 117, 115, 97, 110, 100]) = false := by rw [HSl.out]; exact beq_eq_false_iff_ne.2 h2
      by_cases h3 : X = millionW
      · have q3 : (S.toList == [109, 105, 108, 108, 105, 111, 110]) = true := by rw [HSl.out, h3]; rfl
        have HS := hide (numFold_cons (l := l.drop (k + 1)) (show numStep X za zp = some ((za + 1000000 * zp), (0 : Int)) by unfold numStep; rw [if_neg h0, if_neg h1, if_neg h2, if_pos h3]))
        by_cases hcap : 999999999 < (0 : Int) ∨ 999999999 < (za + 1000000 * zp)
        · have HN := hide (HR.out.symm.trans (by rw [HG.out, HS.out, numCap_no hcap]))
          rw [HN.out]
          rcases hcap with hcap | hcap
          · have d1 : decide ((999999999 : Int) < (0 : Int)) = true := decide_eq_true hcap
            go_wp2_with fail
            go_ret2
            exact ⟨rfl, hb1⟩
          · by_cases hcap2 : 999999999 < (0 : Int)
            · have d1 : decide ((999999999 : Int) < (0 : Int)) = true := decide_eq_true hcap2
              go_wp2_with fail
              go_ret2
              exact ⟨rfl, hb1⟩
            · have d1 : decide ((999999999 : Int) < (0 : Int)) = false := decide_eq_false hcap2
              have d2 : decide ((999999999 : Int) < (za + 1000000 * zp)) = true := decide_eq_true hcap
              go_wp2_with fail
              go_ret2
              exact ⟨rfl, hb1⟩
        · have HN := hide (show numFold l 0 0 = numFold (l.drop (k + 1)) (za + 1000000 * zp) (0 : Int) by rw [HG.out, HS.out, numCap_ok hcap])
          have hcap1 : (0 : Int) ≤ 999999999 := by omega
          have hcap2 : (za + 1000000 * zp) ≤ 999999999 := by omega
          have d1 : decide ((999999999 : Int) < (0 : Int)) = false := decide_eq_false (by omega)
          have d2 : decide ((999999999 : Int) < (za + 1000000 * zp)) = false := decide_eq_false (by omega)
          clear hcap
          go_wp2_with fail
          go_round
          case rel => exact ⟨k + 1, (za + 1000000 * zp), (0 : Int), by omega, by go_num, by go_num, by go_num, by omega, by omega, by omega, by omega, HN.out⟩
          case measure => simp [intOf]; omega
      have q3 : (S.toList == [109, 105, 108, 108, 105, 111, 110]) = false := by rw [HSl.out]; exact beq_eq_false_iff_ne.2 h3
      cases hv : valOf X with
      | none =>
        have HHD := hide (show has (valD 28) (.string X) = false by rw [(valD_at X (.map []) 28 (Nat.le_refl _)).2, valAt_all, hv]; rfl)
        have HS := hide (numFold_cons (l := l.drop (k + 1)) (show numStep X za zp = none by unfold numStep; rw [if_neg h0, if_neg h1, if_neg h2, if_neg h3, hv]; rfl))
        have HN := hide (HR.out.symm.trans (by rw [HG.out, HS.out]))
        rw [HN.out]
        clear hv
        go_wp2_with (first | (at_lookup; refine wpList_lookup_own_ok_int _ rfl _ _ 151 rfl 9 3 .i64 (string_keyed Tryz.underlying9) Tryz.underlying151 Tryz.underlying3 (by kernel_rfl) w.heap.size nm (valD 28) rfl (HMk.out _ (by first | exact Below.refl _ _)) _ _ rfl Hkey.out ?_; intro ci hat hwc; rw [HHD.out]; clear hat) | fail)
        go_ret2
        exact ⟨rfl, hb1⟩
      | some vv =>
        obtain ⟨v0, v90⟩ := valOf_range hv
        have HHD := hide (show has (valD 28) (.string X) = true by rw [(valD_at X (.map []) 28 (Nat.le_refl _)).2, valAt_all, hv]; rfl)
        have HHA := hide (show (valD 28).atKey (.string X) (.lit (.int .i64 0)) = .lit (.int .i64 vv) by rw [(valD_at X _ 28 (Nat.le_refl _)).1, valAt_all, hv])
        have Hv := hide hv
        clear hv
        have HS := hide (numFold_cons (l := l.drop (k + 1)) (show numStep X za zp = some (za, zp + vv) by unfold numStep; rw [if_neg h0, if_neg h1, if_neg h2, if_neg h3, Hv.out]; rfl))
        by_cases hcap : 999999999 < (zp + vv) ∨ 999999999 < za
        · have HN := hide (HR.out.symm.trans (by rw [HG.out, HS.out, numCap_no hcap]))
          rw [HN.out]
          rcases hcap with hcap | hcap
          · have d1 : decide ((999999999 : Int) < (zp + vv)) = true := decide_eq_true hcap
            go_wp2_with (first | (at_lookup; refine wpList_lookup_own_ok_int _ rfl _ _ 151 rfl 9 3 .i64 (string_keyed Tryz.underlying9) Tryz.underlying151 Tryz.underlying3 (by kernel_rfl) w.heap.size nm (valD 28) rfl (HMk.out _ (by first | exact Below.refl _ _)) _ _ rfl Hkey.out ?_; intro ci hat hwc; rw [HHD.out]; rw [HHA.out] at hat; obtain rfl : vv = ci := (by injection hat with h; injection h with h1 h2); clear hat) | fail)
            go_ret2
            exact ⟨rfl, hb1⟩
          · by_cases hcap2 : 999999999 < (zp + vv)
            · have d1 : decide ((999999999 : Int) < (zp + vv)) = true := decide_eq_true hcap2
              go_wp2_with (first | (at_lookup; refine wpList_lookup_own_ok_int _ rfl _ _ 151 rfl 9 3 .i64 (string_keyed Tryz.underlying9) Tryz.underlying151 Tryz.underlying3 (by kernel_rfl) w.heap.size nm (valD 28) rfl (HMk.out _ (by first | exact Below.refl _ _)) _ _ rfl Hkey.out ?_; intro ci hat hwc; rw [HHD.out]; rw [HHA.out] at hat; obtain rfl : vv = ci := (by injection hat with h; injection h with h1 h2); clear hat) | fail)
              go_ret2
              exact ⟨rfl, hb1⟩
            · have d1 : decide ((999999999 : Int) < (zp + vv)) = false := decide_eq_false hcap2
              have d2 : decide ((999999999 : Int) < za) = true := decide_eq_true hcap
              go_wp2_with (first | (at_lookup; refine wpList_lookup_own_ok_int _ rfl _ _ 151 rfl 9 3 .i64 (string_keyed Tryz.underlying9) Tryz.underlying151 Tryz.underlying3 (by kernel_rfl) w.heap.size nm (valD 28) rfl (HMk.out _ (by first | exact Below.refl _ _)) _ _ rfl Hkey.out ?_; intro ci hat hwc; rw [HHD.out]; rw [HHA.out] at hat; obtain rfl : vv = ci := (by injection hat with h; injection h with h1 h2); clear hat) | fail)
              go_ret2
              exact ⟨rfl, hb1⟩
        · have HN := hide (show numFold l 0 0 = numFold (l.drop (k + 1)) za (zp + vv) by rw [HG.out, HS.out, numCap_ok hcap])
          have hcap1 : (zp + vv) ≤ 999999999 := by omega
          have hcap2 : za ≤ 999999999 := by omega
          have d1 : decide ((999999999 : Int) < (zp + vv)) = false := decide_eq_false (by omega)
          have d2 : decide ((999999999 : Int) < za) = false := decide_eq_false (by omega)
          clear hcap
          go_wp2_with (first | (at_lookup; refine wpList_lookup_own_ok_int _ rfl _ _ 151 rfl 9 3 .i64 (string_keyed Tryz.underlying9) Tryz.underlying151 Tryz.underlying3 (by kernel_rfl) w.heap.size nm (valD 28) rfl (HMk.out _ (by first | exact Below.refl _ _)) _ _ rfl Hkey.out ?_; intro ci hat hwc; rw [HHD.out]; rw [HHA.out] at hat; obtain rfl : vv = ci := (by injection hat with h; injection h with h1 h2); clear hat) | fail)
          go_round
          case rel => exact ⟨k + 1, za, (zp + vv), by omega, by go_num, by go_num, by go_num, by omega, by omega, by omega, by omega, HN.out⟩
          case measure => simp [intOf]; omega
    · obtain rfl : k = n := by omega
      have hfin := hide (show (if wordsI (numVal l za zp) = some l then some (numVal l za zp) else none) = R by
        have h1 := HR.out
        rw [HF.out, List.drop_of_length_le (by rw [Hl.out]; exact Nat.le_refl _)] at h1
        exact h1)
      have hl0 : 0 < l.length := by rw [Hl.out]; omega
      have hc0 := HCell.out 0 _ (List.getElem?_eq_getElem hl0)
      have c0 := (hb1.cell (p := ⟨b, off + 0 * 1, none⟩) hbb).trans hc0
      rw [Nat.zero_mul, Nat.add_zero] at c0
      have Hh := hide (show l.head? = some l[0] by rw [List.head?_eq_getElem?, List.getElem?_eq_getElem hl0])
      obtain ⟨X, hX⟩ : ∃ X, l[0] = X := ⟨_, rfl⟩
      unfold strV at c0
      rw [hX] at c0 Hh
      obtain ⟨S, hS⟩ : ∃ S : ByteArray, (⟨X.toArray⟩ : ByteArray) = S := ⟨_, rfl⟩
      have HSl := hide (show S.toList = X by rw [← hS, ByteArray.toList_eq])
      rw [hS] at c0
      have hrow1 := hide ((HRow.out.below (StrAt.stays _) hb1).more hb1.size)
      have hcl := k
      clear hc0 hX hS HF HR hcl
      have hsum : 0 ≤ za + zp ∧ za + zp ≤ 1999999998 := by omega
      by_cases hm : X = minusW
      · have q0 : (S.toList == [109, 105, 110, 117, 115]) = true := by rw [HSl.out, hm]; rfl
        have HV := hide (show numVal l za zp = (-(za + zp)) by unfold numVal; rw [Hh.out, if_pos (by rw [Option.some.injEq]; exact hm)])
        have HW := hide (fun w => wordsNP w (-(za + zp)) (by omega) (by omega))
        cases ho : wordsI (-(za + zp)) with
        | none =>
          have HN := hide (hfin.out.symm.trans (by rw [HV.out, ho, if_neg (by simp)]))
          have HO := hide ho
          clear ho
          go_wp2_with (first
            | (go_at_call 106; refine (HW.out _).mono ?_; rintro e w2 ⟨v, rfl, hown, hb2⟩; rw [HO.out] at hown ⊢; obtain ⟨A2, c2, rfl⟩ := own_form hown; clear hown)
            | fail)
          go_ret2
          exact ⟨by rw [HN.out]; rfl, hb1.trans (hb2.mono hb1.size)⟩
        | some ws =>
          have HO := hide ho
          clear ho
          have hwl := wordsI_len HO.out
          by_cases he : ws = l
          · have HN := hide (hfin.out.symm.trans (by rw [HV.out, HO.out, if_pos (by rw [Option.some.injEq]; exact he)]))
            have hde : decide (ws = l) = true := decide_eq_true he
            have HE := hide hde
            clear he hde
            go_wp2_with (first
              | (go_at_call 106; refine (HW.out _).mono ?_; rintro e w2 ⟨v, rfl, hown, hb2⟩; rw [HO.out] at hown ⊢; obtain ⟨A2, c2, rfl, hc2, hr2⟩ := own_strs hown rfl; clear hown; have hb12 := hb1.trans (hb2.mono hb1.size))
              | (go_at_call 113; refine (equalP w2 A2 _ _ _ _ _ ws l rfl Hl.out hr2 ((hrow1.out.below (StrAt.stays _) hb2).more hb2.size) (by omega) (by omega)).mono ?_; rintro e w3 ⟨rfl, hb3⟩; rw [HE.out])
              | fail)
            go_ret2
            exact ⟨by rw [HN.out]; rfl, hb12.trans (hb3.mono hb12.size)⟩
          · have HN := hide (hfin.out.symm.trans (by rw [HV.out, HO.out, if_neg (by rw [Option.some.injEq]; exact he)]))
            have hde : decide (ws = l) = false := decide_eq_false he
            have HE := hide hde
            clear he hde
            go_wp2_with (first
              | (go_at_call 106; refine (HW.out _).mono ?_; rintro e w2 ⟨v, rfl, hown, hb2⟩; rw [HO.out] at hown ⊢; obtain ⟨A2, c2, rfl, hc2, hr2⟩ := own_strs hown rfl; clear hown; have hb12 := hb1.trans (hb2.mono hb1.size))
              | (go_at_call 113; refine (equalP w2 A2 _ _ _ _ _ ws l rfl Hl.out hr2 ((hrow1.out.below (StrAt.stays _) hb2).more hb2.size) (by omega) (by omega)).mono ?_; rintro e w3 ⟨rfl, hb3⟩; rw [HE.out])
              | fail)
            go_ret2
            exact ⟨by rw [HN.out]; rfl, hb12.trans (hb3.mono hb12.size)⟩
      · have q0 : (S.toList == [109, 105, 110, 117, 115]) = false := by rw [HSl.out]; exact beq_eq_false_iff_ne.2 hm
        have HV := hide (show numVal l za zp = (za + zp) by unfold numVal; rw [Hh.out, if_neg (by rw [Option.some.injEq]; exact hm)])
        have HW := hide (fun w => wordsNP w (za + zp) (by omega) (by omega))
        cases ho : wordsI (za + zp) with
        | none =>
          have HN := hide (hfin.out.symm.trans (by rw [HV.out, ho, if_neg (by simp)]))
          have HO := hide ho
          clear ho
          go_wp2_with (first
            | (go_at_call 106; refine (HW.out _).mono ?_; rintro e w2 ⟨v, rfl, hown, hb2⟩; rw [HO.out] at hown ⊢; obtain ⟨A2, c2, rfl⟩ := own_form hown; clear hown)
            | fail)
          go_ret2
          exact ⟨by rw [HN.out]; rfl, hb1.trans (hb2.mono hb1.size)⟩
        | some ws =>
          have HO := hide ho
          clear ho
          have hwl := wordsI_len HO.out
          by_cases he : ws = l
          · have HN := hide (hfin.out.symm.trans (by rw [HV.out, HO.out, if_pos (by rw [Option.some.injEq]; exact he)]))
            have hde : decide (ws = l) = true := decide_eq_true he
            have HE := hide hde
            clear he hde
            go_wp2_with (first
              | (go_at_call 106; refine (HW.out _).mono ?_; rintro e w2 ⟨v, rfl, hown, hb2⟩; rw [HO.out] at hown ⊢; obtain ⟨A2, c2, rfl, hc2, hr2⟩ := own_strs hown rfl; clear hown; have hb12 := hb1.trans (hb2.mono hb1.size))
              | (go_at_call 113; refine (equalP w2 A2 _ _ _ _ _ ws l rfl Hl.out hr2 ((hrow1.out.below (StrAt.stays _) hb2).more hb2.size) (by omega) (by omega)).mono ?_; rintro e w3 ⟨rfl, hb3⟩; rw [HE.out])
              | fail)
            go_ret2
            exact ⟨by rw [HN.out]; rfl, hb12.trans (hb3.mono hb12.size)⟩
          · have HN := hide (hfin.out.symm.trans (by rw [HV.out, HO.out, if_neg (by rw [Option.some.injEq]; exact he)]))
            have hde : decide (ws = l) = false := decide_eq_false he
            have HE := hide hde
            clear he hde
            go_wp2_with (first
              | (go_at_call 106; refine (HW.out _).mono ?_; rintro e w2 ⟨v, rfl, hown, hb2⟩; rw [HO.out] at hown ⊢; obtain ⟨A2, c2, rfl, hc2, hr2⟩ := own_strs hown rfl; clear hown; have hb12 := hb1.trans (hb2.mono hb1.size))
              | (go_at_call 113; refine (equalP w2 A2 _ _ _ _ _ ws l rfl Hl.out hr2 ((hrow1.out.below (StrAt.stays _) hb2).more hb2.size) (by omega) (by omega)).mono ?_; rintro e w3 ⟨rfl, hb3⟩; rw [HE.out])
              | fail)
            go_ret2
            exact ⟨by rw [HN.out]; rfl, hb12.trans (hb3.mono hb12.size)⟩
end Go.Proofs.YtdkppdjonlldhaaGreatDoor

/- Numbers in words: numwords.Prefix. -/
namespace Go.Proofs.YtdkppdjonlldhaaGreatDoor
open Go.RowKit Go.Maps Go.Shelf

/-- What Prefix answers. -/
def PreRet (w : World) (o : Option (Int × Nat)) (e : Ending) (w' : World) : Prop := e = .returned (.tuple #[.int .i64 ((o.getD (0, 0)).1), .int .i64 ((o.getD (0, 0)).2 : Int), .int .i64 (if o.isSome = true then 0 else 17)]) ∧ Below w.heap.size w w'
set_option maxRecDepth 100000 in
set_option maxHeartbeats 2000000 in
theorem prefixP (w : World) (A : Option Addr) (n c : Nat) (l : List Wd) (hl : l.length = n) (hn : n ≤ 1000000) (hnc : n ≤ c) (hrow : StrRow w w.heap.size A l) (hsz : ∀ s ∈ l, s.length ≤ 1000000) :
    Calls Tryz.prog 93 #[.slice A n c] w (PreRet w (prefF l)) := by
  have hb0 := Below.refl w.heap.size w
  obtain ⟨R, hR⟩ : ∃ R, prefF l = R := ⟨_, rfl⟩
  rw [hR]
  have HR := hide (show prefFrom (min n 15) l = R by rw [← hR, prefF, hl])
  have HN := hide (fun (w' : World) (k : Nat) (hb : Below w.heap.size w w') (hk : k ≤ n) => numberP w' A k c (l.take k) (by rw [List.length_take]; omega) (by omega) (((hrow.below (StrAt.stays _) hb).more hb.size).take k) (fun s hs => hsz s (List.mem_of_mem_take hs)))
  obtain ⟨m, hm⟩ : ∃ m, min n 15 = m := ⟨_, rfl⟩
  rw [hm] at HR
  have hmn : m ≤ n := by omega
  have hmI : min (n : Int) 15 = (m : Int) := by omega
  clear hR hrow hsz hl hm
  go_enter Tryz.func93, Tryz.ntmps93
  go_wp2
  go_loopw [5] (fun i wr => ∃ k : Nat, k ≤ m ∧ i = .int .i64 k ∧ prefFrom k l = R ∧ Below w.heap.size w wr) (fun i _ => (intOf i).toNat)
  case atStart => exact ⟨m, Nat.le_refl _, by first | rfl | (rw [← hmI]; go_num), HR.out, hb0⟩
  case round =>
    obtain ⟨k, hk, rfl, hp, hbr⟩ := hrel
    have HP := hide hp
    have HB := hide hbr
    rename World => wo
    clear hp HR
    cases k with
    | zero =>
      have hRn := hide (show R = none by rw [← HP.out]; rfl)
      go_wp2
      go_ret3
      exact ⟨by rw [hRn.out]; rfl, HB.out⟩
    | succ k =>
      have HN1 := HN.out wo (k + 1) HB.out (by omega)
      have i0 : (0 : Int) < ((k + 1 : Nat) : Int) := by omega
      have i3 : ((k + 1 : Nat) : Int) ≤ (c : Int) := by omega
      have hgo : prefFrom (k + 1) l = match numF (l.take (k + 1)) with | some z => some (z, k + 1) | none => prefFrom k l := rfl
      obtain ⟨kk, hkk⟩ : ∃ kk, k + 1 = kk := ⟨_, rfl⟩
      have hkk1 : (kk : Int) - 1 = (k : Int) := by omega
      rw [hkk] at HN1 i0 i3 hgo HP ⊢
      cases ho : numF (l.take kk) with
      | none =>
        rw [ho] at HN1 hgo
        have HN2 := hide HN1
        have HP2 := hide (hgo.symm.trans HP.out)
        clear HN1 hgo ho
        go_wp2_with (first
          | (go_at_call 90; refine HN2.out.mono ?_; rintro e w2 ⟨rfl, hb2⟩)
          | fail)
        go_roundw
        case rel => exact ⟨k, by omega, by go_num, HP2.out, HB.out.trans (hb2.mono HB.out.size)⟩
        case measure => simp [intOf]; omega
      | some z =>
        rw [ho] at HN1 hgo
        have HN2 := hide HN1
        have hRn := hide (HP.out.symm.trans hgo)
        clear HN1 hgo ho
        go_wp2_with (first
          | (go_at_call 90; refine HN2.out.mono ?_; rintro e w2 ⟨rfl, hb2⟩)
          | fail)
        go_ret3
        exact ⟨by rw [hRn.out]; rfl, HB.out.trans (hb2.mono HB.out.size)⟩
end Go.Proofs.YtdkppdjonlldhaaGreatDoor

/- The names of the signs: signnames.split. -/
namespace Go.Proofs.YtdkppdjonlldhaaGreatDoor
open Go.RowKit Go.Maps Go.Shelf

def laysFields_ren : Go.Shelf.Ren := ⟨fun | 157 => 56 | 199 => 82 | 229 => 81 | 261 => 107 | 311 => 124 | 312 => 125 | n => n, fun | 0 => 0 | 3 => 3 | 4 => 4 | 5 => 5 | 9 => 9 | 21 => 21 | 31 => 51 | 40 => 85 | 46 => 134 | 49 => 168 | 51 => 145 | 119 => 108 | 141 => 147 | 152 => 142 | 154 => 144 | 193 => 164 | 194 => 165 | 196 => 167 | 198 => 170 | 201 => 173 | 226 => 184 | 227 => 185 | n => n, fun | 0 => 1 | 6 => 4 | n => n⟩
theorem laysFields : Go.Proofs.Lays.n157 Tryz.prog laysFields_ren := { mixed := by kernel_rfl, f157 := Tryz.func56.trans (congrArg some (by kernel_rfl)), f199 := Tryz.func82.trans (congrArg some (by kernel_rfl)), f229 := Tryz.func81.trans (congrArg some (by kernel_rfl)), f261 := Tryz.func107.trans (congrArg some (by kernel_rfl)), f311 := Tryz.func124.trans (congrArg some (by kernel_rfl)), f312 := Tryz.func125.trans (congrArg some (by kernel_rfl)), t0 := Tryz.underlying0, a0 := Tryz.isAgg0, z0 := Tryz.sizeOf0, v0 := Tryz.zeroValue0, t3 := Tryz.underlying3, a3 := Tryz.isAgg3, z3 := Tryz.sizeOf3, v3 := Tryz.zeroValue3, t4 := Tryz.underlying4, a4 := Tryz.isAgg4, z4 := Tryz.sizeOf4, v4 := Tryz.zeroValue4, t5 := Tryz.underlying5, a5 := Tryz.isAgg5, z5 := Tryz.sizeOf5, v5 := Tryz.zeroValue5, t9 := Tryz.underlying9, a9 := Tryz.isAgg9, z9 := Tryz.sizeOf9, v9 := Tryz.zeroValue9, t21 := Tryz.underlying21, a21 := Tryz.isAgg21, z21 := Tryz.sizeOf21, v21 := Tryz.zeroValue21, t31 := Tryz.underlying51, a31 := Tryz.isAgg51, z31 := Tryz.sizeOf51, v31 := Tryz.zeroValue51, t40 := Tryz.underlying85, a40 := Tryz.isAgg85, z40 := Tryz.sizeOf85, v40 := Tryz.zeroValue85, t46 := Tryz.underlying134, a46 := Tryz.isAgg134, z46 := Tryz.sizeOf134, v46 := Tryz.zeroValue134, t49 := Tryz.underlying168, a49 := Tryz.isAgg168, z49 := Tryz.sizeOf168, v49 := Tryz.zeroValue168, t51 := Tryz.underlying145, a51 := Tryz.isAgg145, z51 := Tryz.sizeOf145, v51 := Tryz.zeroValue145, t119 := Tryz.underlying108, a119 := Tryz.isAgg108, z119 := Tryz.sizeOf108, t141 := Tryz.underlying147, a141 := Tryz.isAgg147, z141 := Tryz.sizeOf147, v141 := Tryz.zeroValue147, t152 := Tryz.underlying142, a152 := Tryz.isAgg142, z152 := Tryz.sizeOf142, v152 := Tryz.zeroValue142, t154 := Tryz.underlying144, a154 := Tryz.isAgg144, z154 := Tryz.sizeOf144, v154 := Tryz.zeroValue144, t193 := Tryz.underlying164, a193 := Tryz.isAgg164, z193 := Tryz.sizeOf164, v193 := Tryz.zeroValue164, t194 := Tryz.underlying165, a194 := Tryz.isAgg165, z194 := Tryz.sizeOf165, v194 := Tryz.zeroValue165, t196 := Tryz.underlying167, a196 := Tryz.isAgg167, z196 := Tryz.sizeOf167, v196 := Tryz.zeroValue167, t198 := Tryz.underlying170, a198 := Tryz.isAgg170, z198 := Tryz.sizeOf170, v198 := Tryz.zeroValue170, t201 := Tryz.underlying173, a201 := Tryz.isAgg173, z201 := Tryz.sizeOf173, v201 := Tryz.zeroValue173, t226 := Tryz.underlying184, a226 := Tryz.isAgg184, z226 := Tryz.sizeOf184, v226 := Tryz.zeroValue184, t227 := Tryz.underlying185, a227 := Tryz.isAgg185, z227 := Tryz.sizeOf185, v227 := Tryz.zeroValue185, g0 := by kernel_rfl, g6 := by kernel_rfl }
theorem there_block {w : World} {b n : Nat} {Z : Array Value} {t : TypeId} (h : w.heap[b]? = some (.cells Z t (0, 0))) (hn : Z.size = n) : w.there b 0 n := fun j hj => by
  rw [Nat.zero_add]
  exact ⟨by rw [cell_block h, Array.getElem?_eq_getElem (by omega)]; rfl, frozen_block h j⟩
theorem wp_store_list {P : Program} {op : Oper} {a : Act} {w : World} {K : Act → World → Prop} {Q : Exit → Act → World → Prop} (ty : TypeId) (x y : Operand) (ho : op.op = .store ty x y) (b : Nat) (cs : List Value) (hx : a.eval x = .pointer (some ⟨b, 0, none⟩)) (hy : a.eval y = .agg cs.toArray)
    (ht : w.there b 0 cs.length) (hi : (P.info? ty).map (·.size) = some cs.length) (h1 : cs.toArray.all (·.oneCell') = true) (h : K (a.put op.dst undef) (w.setCells b 0 cs)) : op.wp P a w K Q :=
  wp_store_mid ty x y ho b 0 cs.toArray hx hy (by simpa using ht) (by simpa using hi) h1 (by simpa using h)
theorem wpList_store_list {P : Program} {ops : Array Oper} {rest : List Oper} {op : Oper} {a : Act} {w : World} {Q : Exit → Act → World → Prop} (hgd : op.guard = none) (ty : TypeId) (x y : Operand) (ho : op.op = .store ty x y) (b : Nat) (cs : List Value) (hx : a.eval x = .pointer (some ⟨b, 0, none⟩)) (hy : a.eval y = .agg cs.toArray)
    (ht : w.there b 0 cs.length) (hi : (P.info? ty).map (·.size) = some cs.length) (h1 : cs.toArray.all (·.oneCell') = true) (h : wpList P ops Q rest (a.put op.dst undef) (w.setCells b 0 cs)) : wpList P ops Q (op :: rest) a w :=
  wpList_plain hgd fun _ hK => wp_store_list ty x y ho b cs hx hy ht hi h1 (hK _ _ h)

theorem below_cellsS {B b : Nat} {a : World} (hb : B ≤ b) : ∀ (vs : List Value) (o : Nat) (w : World), Below B a w → Below B a (w.setCells b o vs)
  | [], _, _, h => h
  | v :: vs, o, _, h => below_cellsS hb vs (o + 1) _ (h.setCell (p := ⟨b, o, none⟩) hb v)
theorem results_cell_mid {P : Program} {fn : Func} {p : Tmp} {ty : TypeId} (h : fn.results = #[.cell p ty]) (tmps : Array Value) (w : World) (g : Nat) (cs : List Value) (d : TypeDesc)
    (hp : tmps.getD p undef = .pointer (some ⟨g, 0, none⟩)) (hc : w.rangeAt g 0 cs) (hu : P.underlying ty = some d) (hd : d.isRow = true) (hi : (P.info? ty).map (·.size) = some cs.length) :
    (results fn tmps).run P w = .ok (.agg cs.toArray) w := by
  have hp' : tmps[p]?.getD undef = .pointer (some ⟨g, 0, none⟩) := by simpa using hp
  have hl := run_loadVar_mid (P := P) w g 0 ty cs d hc hu hd hi
  simp [results, h, hp', asAddr, hl]
/-- What the walks ask of the library's and the program's variables. -/
def Spc (w : World) : Prop := Lib.TabIs Tryz.prog w "strings.asciiSpace" .u8 Lib.asciiSpaceTab
theorem fieldsP (w : World) (hS : Spc w) (s : ByteArray) (l : List Wd) (hl : Lib.fields s.data.toList = l) (hs : s.size < 100000) (ha : ∀ (j : Nat) b, s.data.toList[j]? = some b → b.toNat < 128) :
    Calls Tryz.prog 56 #[.string s] w fun e w' => e = .returned (.slice (some ⟨w.heap.size, 0, none⟩) l.length l.length) ∧ w' = w.alloc (.cells (l.map strV).toArray 9) := by
  have h := Any.strings_Fields laysFields (by kernel_rfl) (by kernel_rfl) s w (by omega) ha hS
  rw [hl] at h
  exact h
theorem names_ascii : ∀ (s : List UInt8), (s.all fun b => decide (b.toNat < 128)) = true → ∀ (j : Nat) (b : UInt8), s[j]? = some b → b.toNat < 128 := fun s h j b hb => by
  have := List.all_eq_true.1 h b (List.mem_of_getElem? hb)
  simpa using this
theorem Spc.below {w w' : World} (h : Spc w) (hb : Below w.heap.size w w') : Spc w' := by
  unfold Spc Lib.TabIs World.var? at h ⊢
  cases hg : Tryz.prog.globalNamed "strings.asciiSpace" with
  | none => rw [hg] at h; cases h
  | some g =>
    rw [hg] at h
    simp only [Option.bind_some] at h ⊢
    by_cases hl : g < w.heap.size
    · rw [hb.block g hl]; exact h
    · rw [Array.getElem?_eq_none (by omega)] at h; cases h
def namV : List Value := namL.map strV
def zer32 : List Value := List.replicate 32 (.string ⟨#[]⟩)
theorem splice_nam : splice zer32 0 namV = namV := by
  unfold splice zer32 namV; rfl
set_option maxRecDepth 100000 in
set_option maxHeartbeats 2000000 in
theorem splitP (w : World) (hS : Spc w) : Calls Tryz.prog 83 #[] w fun e w' => e = .returned (.agg namV.toArray) ∧ Below w.heap.size w w' := by
  have hF := hide (fun (W : World) (hS : Spc W) (s : ByteArray) (hl : Lib.fields s.data.toList = namL) (hs : s.size < 100000) (ha : (s.data.toList.all fun b => decide (b.toNat < 128)) = true) => fieldsP W hS s namL hl hs (names_ascii _ ha))
  go_enter Tryz.func83, Tryz.ntmps83
  go_upto_region 2 with fail
  obtain ⟨W2, hW2⟩ : ∃ W2, (w.alloc (.cells #[.string ⟨#[]⟩, .string ⟨#[]⟩, .string ⟨#[]⟩, .string ⟨#[]⟩, .string ⟨#[]⟩, .string ⟨#[]⟩, .string ⟨#[]⟩, .string ⟨#[]⟩, .string ⟨#[]⟩, .string ⟨#[]⟩, .string ⟨#[]⟩, .string ⟨#[]⟩, .string ⟨#[]⟩, .string ⟨#[]⟩, .string ⟨#[]⟩, .string ⟨#[]⟩, .string ⟨#[]⟩, .string ⟨#[]⟩, .string ⟨#[]⟩, .string ⟨#[]⟩, .string ⟨#[]⟩, .string ⟨#[]⟩, .string ⟨#[]⟩, .string ⟨#[]⟩, .string ⟨#[]⟩, .string ⟨#[]⟩, .string ⟨#[]⟩, .string ⟨#[]⟩, .string ⟨#[]⟩, .string ⟨#[]⟩, .string ⟨#[]⟩, .string ⟨#[]⟩] 110)).alloc (.cells #[.string ⟨#[]⟩, .string ⟨#[]⟩, .string ⟨#[]⟩, .string ⟨#[]⟩, .string ⟨#[]⟩, .string ⟨#[]⟩, .string ⟨#[]⟩, .string ⟨#[]⟩, .string ⟨#[]⟩, .string ⟨#[]⟩, .string ⟨#[]⟩, .string ⟨#[]⟩, .string ⟨#[]⟩, .string ⟨#[]⟩, .string ⟨#[]⟩, .string ⟨#[]⟩, .string ⟨#[]⟩, .string ⟨#[]⟩, .string ⟨#[]⟩, .string ⟨#[]⟩, .string ⟨#[]⟩, .string ⟨#[]⟩, .string ⟨#[]⟩, .string ⟨#[]⟩, .string ⟨#[]⟩, .string ⟨#[]⟩, .string ⟨#[]⟩, .string ⟨#[]⟩, .string ⟨#[]⟩, .string ⟨#[]⟩, .string ⟨#[]⟩, .string ⟨#[]⟩] 110) = W2 := ⟨_, rfl⟩
  have hs2 : W2.heap.size = w.heap.size + 2 := by rw [← hW2]; simp
  have hbW : Below w.heap.size w W2 := by rw [← hW2]; exact ((Below.refl w.heap.size w).alloc (Nat.le_refl _) _).alloc (by simp) _
  have h0 : W2.heap[w.heap.size]? = some (.cells zer32.toArray 110 (0, 0)) := by rw [← hW2]; exact block_alloc (block_new w _) _
  have h1 : W2.heap[w.heap.size + 1]? = some (.cells zer32.toArray 110 (0, 0)) := by
    rw [← hW2]
    have := block_new (w.alloc (.cells #[.string ⟨#[]⟩, .string ⟨#[]⟩, .string ⟨#[]⟩, .string ⟨#[]⟩, .string ⟨#[]⟩, .string ⟨#[]⟩, .string ⟨#[]⟩, .string ⟨#[]⟩, .string ⟨#[]⟩, .string ⟨#[]⟩, .string ⟨#[]⟩, .string ⟨#[]⟩, .string ⟨#[]⟩, .string ⟨#[]⟩, .string ⟨#[]⟩, .string ⟨#[]⟩, .string ⟨#[]⟩, .string ⟨#[]⟩, .string ⟨#[]⟩, .string ⟨#[]⟩, .string ⟨#[]⟩, .string ⟨#[]⟩, .string ⟨#[]⟩, .string ⟨#[]⟩, .string ⟨#[]⟩, .string ⟨#[]⟩, .string ⟨#[]⟩, .string ⟨#[]⟩, .string ⟨#[]⟩, .string ⟨#[]⟩, .string ⟨#[]⟩, .string ⟨#[]⟩] 110)) (.cells #[.string ⟨#[]⟩, .string ⟨#[]⟩, .string ⟨#[]⟩, .string ⟨#[]⟩, .string ⟨#[]⟩, .string ⟨#[]⟩, .string ⟨#[]⟩, .string ⟨#[]⟩, .string ⟨#[]⟩, .string ⟨#[]⟩, .string ⟨#[]⟩, .string ⟨#[]⟩, .string ⟨#[]⟩, .string ⟨#[]⟩, .string ⟨#[]⟩, .string ⟨#[]⟩, .string ⟨#[]⟩, .string ⟨#[]⟩, .string ⟨#[]⟩, .string ⟨#[]⟩, .string ⟨#[]⟩, .string ⟨#[]⟩, .string ⟨#[]⟩, .string ⟨#[]⟩, .string ⟨#[]⟩, .string ⟨#[]⟩, .string ⟨#[]⟩, .string ⟨#[]⟩, .string ⟨#[]⟩, .string ⟨#[]⟩, .string ⟨#[]⟩, .string ⟨#[]⟩] 110)
    rw [World.size_alloc] at this
    exact this
  rw [hW2]
  have hS2 := hide ((hS.below hbW).below (Below.refl _ W2).drew)
  have HS := hide (And.intro hs2 (And.intro h0 h1))
  have HbW := hide hbW
  clear hW2 hs2 hbW h0 h1 hS
  have hbd := (Below.refl W2.heap.size W2).drew
  refine td_begin (by kernel_rfl) ?_
  refine td_hold (fun _ => True) [2] (by decide +kernel) ?_ (fun hHeld => ?_)
  · (trivial)
  (refine td_take 0 (v := ?_) rfl (by decide) (by kernel_rfl) (by decide +kernel) (by decide +kernel) (fun _ _ _ h => h) (by assumption) (by rfl) ?_ ?_; rotate_left; (· (intro w hSw; (try dsimp only at hSw); (go_simp <;> with_reducible rfl))); (try simp only [Act.put, List.setIfInBounds_toArray, List.set_cons_zero, List.set_cons_succ]))
  repeat' (first
    | (refine td_ready (rs := [1]) (by decide +kernel) (by decide) (by simp) ?_; refine td_cons rfl (fun K hK => ?_) (td_nil); (focus (go_simp; go_at_call 56; refine (hF.out _ hS2.out _ (by decide +kernel) (by decide +kernel) (by decide +kernel)).mono ?_; rintro e w3 ⟨rfl, hw3⟩; have hb3 : Below W2.heap.size W2 w3 := (by rw [hw3]; exact hbd.alloc (Nat.le_refl _) _); have hl3 := (block_new W2.drew (.cells (namL.map strV).toArray 9)); rw [← hw3] at hl3; have HL3 := hide hl3; clear hw3 hl3; (first | refine hK.out _ _ ?_ ?_ | (go_wp2_with fail; refine hK.out _ _ ?_ ?_)); (· (trivial)); clear hK K hHeld; intro hHeld; (try simp only [Act.put, List.setIfInBounds_toArray, List.set_cons_zero, List.set_cons_succ]))); rotate_left)
    | fail)
  all_goals (refine td_last (rs := [2]) (by decide +kernel) (by decide) ?_)
  all_goals clear hHeld
  repeat' (first
    | (refine tda_ready (rs := [2]) (by decide +kernel) (by simp) ?_; refine tda_cons rfl (fun K hK => ?_) (tda_nil); (focus (refine step_copy_splice rfl (.tmp 2) (.tmp 3) 51 51 rfl 9 Tryz.underlying51 (by kernel_rfl) (some ⟨w.heap.size + 1, 0, none⟩) (some ⟨W2.drew.heap.size, 0, none⟩) 32 32 namL.length namL.length (by rfl) (by rfl) (w.heap.size + 1) 0 zer32 110 ((hb3.block _ (by have := HS.out.1; omega)).trans HS.out.2.2) namV (by rfl) (fun _ => ⟨rfl, _, rfl, fun j v hj => World.news_of_block HL3.out j v hj⟩) (by decide) (fun v hv => by obtain ⟨x, -, rfl⟩ := List.mem_map.1 hv; rfl) (w.heap.size + 1) w3 (Below.refl _ w3) (Nat.le_refl _) ?_; intro w4 h4 hb4; refine hK.out _ _ ?_; clear hK K; (try simp only [Act.put, List.setIfInBounds_toArray, List.set_cons_zero, List.set_cons_succ]))); rotate_left)
    | fail)
  all_goals refine tda_done (by decide +kernel) ?_
  rw [splice_nam] at h4
  have hsz := hb4.size
  have hsz3 := hb3.size
  have hs2 := HS.out.1
  have k0 : w4.heap[w.heap.size]? = some (.cells zer32.toArray 110 (0, 0)) := (hb4.block _ (by omega)).trans ((hb3.block _ (by omega)).trans HS.out.2.1)
  have hthere := there_block (n := 32) k0 rfl
  have HK := hide (And.intro hthere h4)
  have Hbf := hide (show Below w.heap.size w w4 from HbW.out.trans ((hb3.mono (by omega)).trans (hb4.mono (by omega))))
  clear k0 hthere h4 hs2
  go_wp2_with (first
    | (refine wpList_load_row rfl 110 (.tmp 1) rfl (w.heap.size + 1) (by rfl) 110 namV.toArray (0, 0) _ HK.out.2.out Tryz.underlying110 rfl (by kernel_rfl) ?_)
    | (refine wpList_store_list rfl 110 (.tmp 0) (.tmp 5) rfl w.heap.size namV (by rfl) (by rfl) HK.out.1 (by kernel_rfl) (all_oneCell_toArray fun v hv => by obtain ⟨x, -, rfl⟩ := List.mem_map.1 hv; rfl) ?_)
    | fail)
  have hr : (w4.setCells w.heap.size 0 namV).rangeAt w.heap.size 0 namV := World.rangeAt_setCells_same w4 w.heap.size 0 namV HK.out.1
  refine bodyPost_ret (results_cell_mid rfl _ _ w.heap.size namV _ (by rfl) hr Tryz.underlying110 rfl (by kernel_rfl)) rfl ?_
  exact ⟨rfl, below_cellsS (Nat.le_refl _) _ _ _ Hbf.out⟩
end Go.Proofs.YtdkppdjonlldhaaGreatDoor
