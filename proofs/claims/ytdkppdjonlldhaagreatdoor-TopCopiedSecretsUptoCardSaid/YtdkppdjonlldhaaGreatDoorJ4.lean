/- Joined: SP12, SP13, SP14. -/
import Derived.Test.YtdkppdjonlldhaaGreatDoorJ3
import Derived.Shelf.Small.Strs
/- Signs and their names: signnames. -/
namespace Go.Proofs.YtdkppdjonlldhaaGreatDoor
open Go.RowKit Go.Maps Go.Shelf

def laysIB_ren : Go.Shelf.Ren := ⟨fun | 137 => 140 | 217 => 147 | 266 => 151 | n => n, fun | 3 => 3 | 5 => 5 | 9 => 9 | n => n, fun | n => n⟩
theorem laysIB : Go.Proofs.Lays.n137 Tryz.prog laysIB_ren := { mixed := by kernel_rfl, f137 := Tryz.func140.trans (congrArg some (by kernel_rfl)), f217 := Tryz.func147.trans (congrArg some (by kernel_rfl)), f266 := Tryz.func151.trans (congrArg some (by kernel_rfl)), t3 := Tryz.underlying3, a3 := Tryz.isAgg3, z3 := Tryz.sizeOf3, v3 := Tryz.zeroValue3, t5 := Tryz.underlying5, a5 := Tryz.isAgg5, z5 := Tryz.sizeOf5, v5 := Tryz.zeroValue5, t9 := Tryz.underlying9, a9 := Tryz.isAgg9, z9 := Tryz.sizeOf9, v9 := Tryz.zeroValue9 }
def idxR (r : Int) : Int := match idxS r with | some i => (i : Int) | none => -1
theorem sgn_range : ∀ b ∈ sgnL, 33 ≤ b.toNat ∧ b.toNat ≤ 126 := by decide
theorem idxS_out {r : Int} (h : r < 33 ∨ 126 < r) : idxS r = none := by
  unfold idxS
  rw [List.findIdx?_eq_none_iff]
  intro b hb
  have := sgn_range b hb
  rw [beq_eq_false_iff_ne]; omega
theorem idxS_in : ∀ n : Nat, n < 127 → Lib.indexByte sgnL n.toUInt8 = idxR (n : Int) := by decide +kernel
theorem idxR_range (r : Int) : -1 ≤ idxR r ∧ idxR r < 32 := by
  unfold idxR
  cases h : idxS r with
  | none => dsimp only; omega
  | some i => have := (idxS_some h).1; dsimp only; omega
set_option maxRecDepth 100000 in
theorem indexSP (w : World) (r : Int) (h1 : -2147483648 ≤ r) (h2 : r ≤ 2147483647) : Calls Tryz.prog 132 #[.int .i32 r] w fun e w' => e = .returned (.int .i64 (idxR r)) ∧ w = w' := by
  by_cases hlo : r < 33
  · have hR : idxR r = -1 := by unfold idxR; rw [idxS_out (.inl hlo)]
    rw [hR]
    have d1 : decide (r < 33) = true := decide_eq_true hlo
    go_enter Tryz.func132, Tryz.ntmps132
    go_wp2
    go_ret
    exact ⟨rfl, rfl⟩
  · have d1 : decide (r < 33) = false := decide_eq_false hlo
    by_cases hhi : 126 < r
    · have hR : idxR r = -1 := by unfold idxR; rw [idxS_out (.inr hhi)]
      rw [hR]
      have d2 : decide ((126 : Int) < r) = true := decide_eq_true hhi
      go_enter Tryz.func132, Tryz.ntmps132
      go_wp2
      go_ret
      exact ⟨rfl, rfl⟩
    · have d2 : decide ((126 : Int) < r) = false := decide_eq_false hhi
      obtain ⟨n, rfl⟩ : ∃ n : Nat, r = n := ⟨r.toNat, by omega⟩
      have HI := hide (idxS_in n (by omega))
      have HB := hide (fun (w : World) (s : ByteArray) (hs : s.data.toList = sgnL) => show Calls Tryz.prog 140 #[.string s, .int .u8 (n : Int)] w fun e w' => e = .returned (.int .i64 (idxR (n : Int))) ∧ w' = w by
        have h := Any.strings_IndexByte laysIB s (n : Int) w
        rw [hs, show ((n : Int)).toNat.toUInt8 = n.toUInt8 from rfl, HI.out] at h
        exact h)
      go_enter Tryz.func132, Tryz.ntmps132
      go_wp2_with (first
        | (go_at_call 140; refine (HB.out _ _ rfl).mono ?_; rintro e w2 ⟨rfl, rfl⟩)
        | fail)
      go_ret
      exact ⟨rfl, rfl⟩
theorem run_idx32 (W : World) (i : Nat) (hi : i < 32) : (Instr.index 110 (.agg namV.toArray) (.int .i64 i)).run Tryz.prog W = .ok (strV (namL.getD i [])) W := by
  have h1 := Tryz.underlying110
  have h2 := Tryz.underlying9
  simp [Instr.index, run_underlying h1, asIntOf, go_sem]
  have hn : namV[i]? = some (strV (namL[i]?.getD [])) := by
    unfold namV
    have hl : i < namL.length := hi
    rw [List.getElem?_map, List.getElem?_eq_getElem hl]; rfl
  rw [if_pos hi, hn]; rfl
set_option maxRecDepth 100000 in
theorem nameP (w : World) (hS : Spc w) (r : Int) (h1 : -2147483648 ≤ r) (h2 : r ≤ 2147483647) : Calls Tryz.prog 120 #[.int .i32 r] w fun e w' => e = .returned (.tuple #[match idxS r with | some i => strV (namL.getD i []) | none => .string ⟨#[]⟩, .bool (idxS r).isSome]) ∧ Below w.heap.size w w' := by
  have HX := hide (fun w => indexSP w r h1 h2)
  have HSp := hide (splitP w hS)
  have hb := Below.refl w.heap.size w
  cases hi : idxS r with
  | none =>
    have HR := hide (show idxR r = -1 by unfold idxR; rw [hi])
    clear hi
    go_enter Tryz.func120, Tryz.ntmps120
    go_wp2_with (first
      | (go_at_call 132; refine (HX.out _).mono ?_; rintro e w2 ⟨rfl, rfl⟩; rw [HR.out])
      | fail)
    go_ret2
    exact ⟨rfl, hb⟩
  | some i =>
    have HR := hide (show idxR r = (i : Int) by unfold idxR; rw [hi])
    have hil := (idxS_some hi).1
    have hix := fun W => run_idx32 W i hil
    unfold strV at hix
    have hiI : (i : Int) < 32 := by omega
    clear hi
    go_enter Tryz.func120, Tryz.ntmps120
    go_wp2_with (first
      | (go_at_call 132; refine (HX.out _).mono ?_; rintro e w2 ⟨rfl, rfl⟩; rw [HR.out])
      | (go_at_call 83; refine HSp.out.mono ?_; rintro e w2 ⟨rfl, hb2⟩)
      | fail)
    go_ret2
    exact ⟨rfl, hb2⟩
theorem run_sgn (W : World) (k : Nat) (hk : k < 32) : (Instr.index 9 (.string ⟨#[33, 34, 35, 36, 37, 38, 39, 40, 41, 42, 43, 44, 45, 46, 47, 58, 59, 60, 61, 62, 63, 64, 91, 92, 93, 94, 95, 96, 123, 124, 125, 126]⟩) (.int .i64 k)).run Tryz.prog W = .ok (.int .u8 ((sgnL.getD k 0).toNat : Int)) W := by
  rw [run_index_string (P := Tryz.prog) (w := W) 9 _ .i64 (k : Int) Tryz.underlying9]
  have hk2 : k < (⟨#[33, 34, 35, 36, 37, 38, 39, 40, 41, 42, 43, 44, 45, 46, 47, 58, 59, 60, 61, 62, 63, 64, 91, 92, 93, 94, 95, 96, 123, 124, 125, 126]⟩ : ByteArray).size := hk
  rw [dif_pos ⟨by omega, by omega⟩]
  have hl : k < sgnL.length := hk
  rw [List.getD_eq_getElem?_getD, List.getElem?_eq_getElem hl]; rfl
theorem nam_at {j : Nat} (hj : j < namL.length) : namL.getD j [] = namL[j] := by rw [List.getD_eq_getElem?_getD, List.getElem?_eq_getElem hj]; rfl
theorem signOf_at {X : Wd} {k : Nat} (hk : k < 32) (hN : namL.getD k [] = X) (hno : ∀ j, j < k → namL.getD j [] ≠ X) : signOf X = some ((sgnL.getD k 0).toNat : Int) := by
  have hk' : k < namL.length := hk
  have : namL.findIdx? (· == X) = some k := by
    rw [List.findIdx?_eq_some_iff_getElem]
    refine ⟨hk', ?_, fun j hj => ?_⟩
    · rw [← nam_at hk', hN]; simp
    · have hj' : j < namL.length := Nat.lt_trans hj hk'
      rw [← nam_at hj']; simpa using hno j hj
  unfold signOf
  rw [this]; rfl
theorem signOf_no {X : Wd} (hno : ∀ j, j < 32 → namL.getD j [] ≠ X) : signOf X = none := by
  unfold signOf
  rw [Option.map_eq_none_iff, List.findIdx?_eq_none_iff]
  intro x hx
  obtain ⟨j, hj, rfl⟩ := List.getElem_of_mem hx
  rw [← nam_at hj]
  simpa using hno j hj
set_option maxRecDepth 100000 in
set_option maxHeartbeats 1000000 in
theorem signP (w : World) (hS : Spc w) (S : ByteArray) (X : Wd) (hX : S.data.toList = X) : Calls Tryz.prog 131 #[.string S] w fun e w' => e = .returned (.tuple #[.int .i32 ((signOf X).getD 0), .bool (signOf X).isSome]) ∧ Below w.heap.size w w' := by
  have HSp := hide (splitP w hS)
  have HXl := hide hX
  obtain ⟨R, hR⟩ : ∃ R, signOf X = R := ⟨_, rfl⟩
  rw [hR]
  have HR := hide hR
  clear hS hX hR
  go_enter Tryz.func131, Tryz.ntmps131
  go_wp2_with (first
    | (go_at_call 83; refine HSp.out.mono ?_; rintro e w2 ⟨rfl, hb2⟩)
    | fail)
  go_loop [7] (fun i => ∃ k : Nat, k ≤ 32 ∧ i = .int .i64 k ∧ ∀ j, j < k → namL.getD j [] ≠ X) (fun i => 32 - (intOf i).toNat)
  case atStart => exact ⟨0, Nat.zero_le _, rfl, fun j hj => absurd hj (Nat.not_lt_zero _)⟩
  case round =>
    obtain ⟨k, hk, rfl, hno⟩ := hrel
    have Hno := hide hno
    clear hno
    by_cases hlt : k < 32
    · have hkI : (k : Int) < 32 := by omega
      have hix := fun W => run_idx32 W k hlt
      have hsx := fun W => run_sgn W k hlt
      unfold strV at hix
      obtain ⟨N, hN⟩ : ∃ N, namL.getD k [] = N := ⟨_, rfl⟩
      have HN := hide hN
      rw [hN] at hix
      obtain ⟨NB, hNB⟩ : ∃ NB : ByteArray, (⟨N.toArray⟩ : ByteArray) = NB := ⟨_, rfl⟩
      have HNl := hide (show NB.toList = N by rw [← hNB, ByteArray.toList_eq])
      rw [hNB] at hix
      clear hN hNB
      obtain ⟨c, hc⟩ : ∃ c, (sgnL.getD k 0).toNat = c := ⟨_, rfl⟩
      have Hc := hide hc
      have hc256 : c < 256 := by rw [← hc]; exact UInt8.toNat_lt _
      rw [hc] at hsx
      clear hc
      by_cases he : N = X
      · have q : (NB.toList == S.toList) = true := by rw [HNl.out, ByteArray.toList_eq, HXl.out, he]; simp
        have HF := hide (HR.out.symm.trans ((signOf_at hlt (HN.out.trans he) Hno.out).trans (by rw [Hc.out])))
        clear he
        go_wp2
        go_ret2
        exact ⟨by rw [HF.out]; rfl, hb2⟩
      · have q : (NB.toList == S.toList) = false := by rw [HNl.out, ByteArray.toList_eq, HXl.out]; exact beq_eq_false_iff_ne.2 he
        go_wp2
        go_round
        case rel => exact ⟨k + 1, by omega, by go_num, fun j hj => by
          by_cases hjk : j = k
          · rw [hjk, HN.out]; exact he
          · exact Hno.out j (by omega)⟩
        case measure => simp [intOf]; omega
    · obtain rfl : k = 32 := by omega
      have HF := hide (HR.out.symm.trans (signOf_no Hno.out))
      go_wp2
      go_ret2
      exact ⟨by rw [HF.out]; rfl, hb2⟩
end Go.Proofs.YtdkppdjonlldhaaGreatDoor

/- Characters in words: signnames.character, Spell, Unspell, spokentext.character. -/
namespace Go.Proofs.YtdkppdjonlldhaaGreatDoor
open Go.RowKit Go.Maps Go.Shelf

set_option maxRecDepth 100000 in
theorem characterP (w : World) (n : Int) : Calls Tryz.prog 121 #[.int .i64 n] w fun e w' => e = .returned (.bool (isCharB n)) ∧ w = w' := by
  unfold isCharB
  by_cases h1 : 0 ≤ n
  · have d1 : decide ((0 : Int) ≤ n) = true := decide_eq_true h1
    by_cases h2 : n ≤ 55295
    · have d2 : decide (n ≤ (55295 : Int)) = true := decide_eq_true h2
      rw [decide_eq_true (show (0 ≤ n ∧ n < 55296) ∨ (57343 < n ∧ n ≤ 1114111) by omega)]
      go_enter Tryz.func121, Tryz.ntmps121
      go_wp2
      go_ret
      exact ⟨rfl, rfl⟩
    · have d2 : decide (n ≤ (55295 : Int)) = false := decide_eq_false h2
      by_cases h3 : 57344 ≤ n
      · have d3 : decide ((57344 : Int) ≤ n) = true := decide_eq_true h3
        by_cases h4 : n ≤ 1114111
        · have d4 : decide (n ≤ (1114111 : Int)) = true := decide_eq_true h4
          rw [decide_eq_true (show (0 ≤ n ∧ n < 55296) ∨ (57343 < n ∧ n ≤ 1114111) by omega)]
          go_enter Tryz.func121, Tryz.ntmps121
          go_wp2
          go_ret
          exact ⟨rfl, rfl⟩
        · have d4 : decide (n ≤ (1114111 : Int)) = false := decide_eq_false h4
          rw [decide_eq_false (show ¬ ((0 ≤ n ∧ n < 55296) ∨ (57343 < n ∧ n ≤ 1114111)) by omega)]
          go_enter Tryz.func121, Tryz.ntmps121
          go_wp2
          go_ret
          exact ⟨rfl, rfl⟩
      · have d3 : decide ((57344 : Int) ≤ n) = false := decide_eq_false h3
        rw [decide_eq_false (show ¬ ((0 ≤ n ∧ n < 55296) ∨ (57343 < n ∧ n ≤ 1114111)) by omega)]
        go_enter Tryz.func121, Tryz.ntmps121
        go_wp2
        go_ret
        exact ⟨rfl, rfl⟩
  · have d1 : decide ((0 : Int) ≤ n) = false := decide_eq_false h1
    have d3 : decide ((57344 : Int) ≤ n) = false := decide_eq_false (by omega)
    rw [decide_eq_false (show ¬ ((0 ≤ n ∧ n < 55296) ∨ (57343 < n ∧ n ≤ 1114111)) by omega)]
    go_enter Tryz.func121, Tryz.ntmps121
    go_wp2
    go_ret
    exact ⟨rfl, rfl⟩
set_option maxRecDepth 100000 in
set_option maxHeartbeats 1000000 in
theorem spellP (w : World) (hS : Spc w) (r : Int) (hr : GoodR r) : Calls Tryz.prog 105 #[.int .i32 r] w (SmallRet w (spellF r)) := by
  obtain ⟨g0, gm, gc⟩ := good_max hr
  have hN := hide (fun w hS => nameP w hS r (by omega) (by unfold GoodR at hr; omega))
  have hC := hide (fun w => characterP w r)
  have hW := hide (fun w => wordsNP w r (by omega) (by unfold GoodR at hr; omega))
  have HS := hide hS
  have Hgc := hide gc
  have hri : r ≤ 1114111 := by unfold GoodR at hr; omega
  unfold spellF
  cases hi : idxS r with
  | some i =>
    have Hi := hide hi
    have hown := fun (W : World) (h : w.heap.size ≤ W.heap.size) (S : ByteArray) => own_lit W w.heap.size 9 1 1 #[.string S] h (by omega) rfl
    have Hown := hide hown
    clear hi hr gc hown hS
    go_enter Tryz.func105, Tryz.ntmps105
    go_wp2_with (first
      | (go_at_call 120; refine (hN.out _ HS.out).mono ?_; rintro e w2 ⟨rfl, hb2⟩; rw [Hi.out]; unfold strV; dsimp only)
      | fail)
    go_ret
    exact ⟨_, rfl, own_eq (Hown.out w2 hb2.size _) rfl rfl, hb2.alloc hb2.size _⟩
  | none =>
    have Hi := hide hi
    have HWw := hide (show wordsI r = some (numW r.toNat) by unfold wordsI; rw [if_neg (by omega), if_neg (by omega), show r.natAbs = r.toNat by omega])
    have hlen := numW_len r.toNat
    clear hi hr gc hS
    go_enter Tryz.func105, Tryz.ntmps105
    go_wp2_with (first
      | (go_at_call 120; refine (hN.out _ HS.out).mono ?_; rintro e w2 ⟨rfl, hb2⟩; rw [Hi.out]; dsimp only)
      | (go_at_call 121; refine (hC.out _).mono ?_; rintro e w3 ⟨rfl, rfl⟩; rw [Hgc.out])
      | (go_at_call 106; refine (hW.out _).mono ?_; rintro e w4 ⟨v, rfl, hown, hb4⟩; rw [HWw.out] at hown ⊢; obtain ⟨A4, c4, rfl, hc4, hr4⟩ := own_strs hown rfl; clear hown; have hb24 := hb2.trans (hb4.mono hb2.size); have hs4 := hb24.size; have hown5 := own_lit w4 w.heap.size 9 1 1 #[.string ⟨#[99, 104, 97, 114, 97, 99, 116, 101, 114]⟩] hs4 (by omega) rfl)
      | (at_builtin; refine wpList_strs _ (.tmp 25) (.tmp 26) rfl (by rfl) w.heap.size _ [characterW] 1 (by rfl) hown5 (by simp; omega) A4 c4 _ (numW r.toNat) _ rfl (by rfl) (hr4.below (StrAt.stays _) ((Below.refl _ _).alloc (Nat.le_refl _) _)) (by show 1 + (numW r.toNat).length ≤ _; omega) _ rfl ?_; intro v6 w6 hown6 hg6; have hb6 := below_own (hb24.alloc hs4 _) hown5 hg6 (Nat.le_refl _) (by simp; omega))
      | fail)
    go_ret
    exact ⟨_, rfl, own_eq hown6 (by simp [Nat.add_comm]) rfl, hb6⟩
/-- What Unspell answers. -/
def UnRet (w : World) (o : Option (Int × Nat)) (e : Ending) (w' : World) : Prop := e = .returned (.tuple #[.int .i32 ((o.getD (0, 0)).1), .int .i64 ((o.getD (0, 0)).2 : Int), .int .i64 (if o.isSome = true then 0 else 17)]) ∧ Below w.heap.size w w'
theorem prefF_len {l : List Wd} {n : Int} {k : Nat} (h : prefF l = some (n, k)) : k ≤ 15 ∧ k ≤ l.length := by
  have : ∀ j, prefFrom j l = some (n, k) → k ≤ j := fun j => by
    induction j with
    | zero => intro h; cases h
    | succ j ih =>
      intro h
      rw [prefFrom] at h
      split at h
      · cases h; exact Nat.le_refl _
      · have := ih h; omega
  have := this _ h
  omega
theorem prefF_bound {l : List Wd} {n : Int} {k : Nat} (h : prefF l = some (n, k)) : -999999999 ≤ n ∧ n ≤ 999999999 := by
  have : ∀ j, prefFrom j l = some (n, k) → -999999999 ≤ n ∧ n ≤ 999999999 := fun j => by
    induction j with
    | zero => intro h; cases h
    | succ j ih =>
      intro h
      rw [prefFrom] at h
      split at h
      · rename_i z hz
        cases h
        unfold numF at hz
        split at hz
        · cases hz
        · split at hz
          · cases hz
          · split at hz
            · rename_i hw
              cases hz
              unfold wordsI at hw
              split at hw
              · cases hw
              · rename_i hb; omega
            · cases hz
      · exact ih h
  exact this _ h
set_option maxRecDepth 100000 in
set_option maxHeartbeats 2000000 in
theorem unspellP1 (w : World) (hS : Spc w) (A : Option Addr) (n c : Nat) (l : List Wd) (hl : l.length = n) (hn : n ≤ 1000000) (hnc : n ≤ c) (hc1 : 1 < c) (hrow : StrRow w w.heap.size A l) (hsz : ∀ s ∈ l, s.length ≤ 1000000) :
    Calls Tryz.prog 114 #[.slice A n c] w (UnRet w (unspellF l)) := by
  have hb0 := Below.refl w.heap.size w
  cases l with
  | nil =>
    obtain rfl : n = 0 := hl.symm
    go_enter Tryz.func114, Tryz.ntmps114
    go_wp2
    go_ret3
    exact ⟨rfl, hb0⟩
  | cons X rest =>
    have hn0 : 0 < (X :: rest).length := by simp
    obtain ⟨b, off, rfl, hbb, hcell⟩ := hrow hn0
    have c0 := hcell 0 X rfl
    unfold StrAt at c0
    rw [Nat.zero_mul, Nat.add_zero] at c0
    unfold strV at c0
    have i1 : ((n : Int) == 0) = false := by rw [beq_eq_false_iff_ne]; rw [List.length_cons] at hl; omega
    have i2 : 1 ≤ n := by rw [List.length_cons] at hl; omega
    have i3 : (1 : Int) ≤ (n : Int) := by omega
    have i4 : (n : Int) ≤ (c : Int) := by omega
    have i5 : (1 : Int) < (c : Int) := by omega
    have i6 : c ≠ 1 := by omega
    have i7 : c - 1 ≠ 0 := by omega
    have i8 : 0 < c - 1 := by omega
    obtain ⟨S, hSB⟩ : ∃ S : ByteArray, (⟨X.toArray⟩ : ByteArray) = S := ⟨_, rfl⟩
    have hSd : S.data.toList = X := by rw [← hSB]
    have HSl := hide (show S.toList = X by rw [ByteArray.toList_eq, hSd])
    have HSg := hide (signP w hS S X hSd)
    rw [hSB] at c0
    have Hrow := hide hrow
    have hd := hrow.drop 1
    rw [List.drop_succ_cons, List.drop_zero, Nat.mul_one] at hd
    have HP := hide (fun (W : World) (hb : Below w.heap.size w W) (c' : Nat) (hc : n - 1 ≤ c') => prefixP W (some ⟨b, off + 1, none⟩) (n - 1) c' rest (by rw [List.length_cons] at hl; omega) (by omega) hc ((hd.below (StrAt.stays _) hb).more hb.size) (fun s hs => hsz s (List.mem_cons_of_mem _ hs)))
    have HC := hide characterP
    have HX := hide indexSP
    have hsub : ((n : Int) - 1) = ((n - 1 : Nat) : Int) := by omega
    clear hcell hSB hSd hrow hsz hd hS
    obtain ⟨R, hR⟩ : ∃ R, unspellF (X :: rest) = R := ⟨_, rfl⟩
    rw [hR]
    have hU : (match signOf X with
      | some r => some (r, 1)
      | none => if X = characterW then (match prefF rest with
        | none => none
        | some (n, k) => if isCharB n = true ∧ idxS n = none then some (n, 1 + k) else none) else none) = R := hR
    clear hR
    cases hg : signOf X with
    | some r =>
      have HG := hide hg
      rw [hg] at hU
      have HU := hide hU.symm
      clear hg hU
      go_enter Tryz.func114, Tryz.ntmps114
      go_wp2_with (first
        | (go_at_call 131; refine HSg.out.mono ?_; rintro e w2 ⟨rfl, hb2⟩; rw [HG.out]; dsimp only [Option.getD, Option.isSome])
        | fail)
      go_ret3
      exact ⟨by rw [HU.out]; rfl, hb2⟩
    | none =>
      have HG := hide hg
      rw [hg] at hU
      dsimp only at hU
      clear hg
      by_cases hch : X = characterW
      · have q : (S.toList == [99, 104, 97, 114, 97, 99, 116, 101, 114]) = true := by rw [HSl.out, hch]; rfl
        rw [if_pos hch] at hU
        clear hch
        cases hp : prefF rest with
        | none =>
          have HQ := hide hp
          rw [hp] at hU
          have HU := hide hU.symm
          clear hp hU
          go_enter Tryz.func114, Tryz.ntmps114
          go_wp2_with (first
            | (go_at_call 131; refine HSg.out.mono ?_; rintro e w2 ⟨rfl, hb2⟩; rw [HG.out]; have c2 := (hb2.cell (p := ⟨b, off, none⟩) hbb).trans c0; dsimp only [Option.getD, Option.isSome])
            | (go_at_call 93; refine (HP.out w2 hb2 _ (by omega)).mono ?_; rintro e w3 ⟨rfl, hb3⟩; rw [HQ.out]; dsimp only [Option.getD, Option.isSome])
            | fail)
          go_ret3
          exact ⟨by rw [HU.out]; rfl, hb2.trans (hb3.mono hb2.size)⟩
        | some z =>
          obtain ⟨m, k⟩ := z
          have HQ := hide hp
          rw [hp] at hU
          dsimp only at hU
          have hkb := prefF_len hp
          have hmb := prefF_bound hp
          clear hp
          by_cases hcb : isCharB m = true
          · have HCb := hide hcb
            have hm2 : 0 ≤ m ∧ m ≤ 1114111 := by unfold isCharB at hcb; simp only [decide_eq_true_eq] at hcb; omega
            clear hcb
            by_cases hix : idxS m = none
            · rw [if_pos ⟨HCb.out, hix⟩] at hU
              have HU := hide hU.symm
              have HI := hide (show idxR m = -1 by unfold idxR; rw [hix])
              clear hU hix
              go_enter Tryz.func114, Tryz.ntmps114
              go_wp2_with (first
                | (go_at_call 131; refine HSg.out.mono ?_; rintro e w2 ⟨rfl, hb2⟩; rw [HG.out]; have c2 := (hb2.cell (p := ⟨b, off, none⟩) hbb).trans c0; dsimp only [Option.getD, Option.isSome])
                | (go_at_call 93; refine (HP.out w2 hb2 _ (by omega)).mono ?_; rintro e w3 ⟨rfl, hb3⟩; rw [HQ.out]; dsimp only [Option.getD, Option.isSome])
                | (go_at_call 121; refine (HC.out _ _).mono ?_; rintro e w4 ⟨rfl, rfl⟩; rw [HCb.out])
                | (go_at_call 132; refine (HX.out _ m (by omega) (by omega)).mono ?_; rintro e w5 ⟨rfl, rfl⟩; rw [HI.out])
                | fail)
              go_ret3
              exact ⟨by rw [HU.out]; first | rfl | (simp), hb2.trans (hb3.mono hb2.size)⟩
            · rw [if_neg (fun h => hix h.2)] at hU
              have HU := hide hU.symm
              have hir := idxR_range m
              have hin : 0 ≤ idxR m := by
                unfold idxR
                cases h : idxS m with
                | none => exact absurd h hix
                | some i => dsimp only; omega
              obtain ⟨ix, hixe⟩ : ∃ ix, idxR m = ix := ⟨_, rfl⟩
              rw [hixe] at hin hir
              have HI := hide hixe
              clear hU hix hixe
              go_enter Tryz.func114, Tryz.ntmps114
              go_wp2_with (first
                | (go_at_call 131; refine HSg.out.mono ?_; rintro e w2 ⟨rfl, hb2⟩; rw [HG.out]; have c2 := (hb2.cell (p := ⟨b, off, none⟩) hbb).trans c0; dsimp only [Option.getD, Option.isSome])
                | (go_at_call 93; refine (HP.out w2 hb2 _ (by omega)).mono ?_; rintro e w3 ⟨rfl, hb3⟩; rw [HQ.out]; dsimp only [Option.getD, Option.isSome])
                | (go_at_call 121; refine (HC.out _ _).mono ?_; rintro e w4 ⟨rfl, rfl⟩; rw [HCb.out])
                | (go_at_call 132; refine (HX.out _ m (by omega) (by omega)).mono ?_; rintro e w5 ⟨rfl, rfl⟩; rw [HI.out])
                | fail)
              go_ret3
              exact ⟨by rw [HU.out]; rfl, hb2.trans (hb3.mono hb2.size)⟩
          · rw [if_neg (fun h => hcb h.1)] at hU
            have HU := hide hU.symm
            have HCb := hide (show isCharB m = false by simpa using hcb)
            clear hU hcb
            go_enter Tryz.func114, Tryz.ntmps114
            go_wp2_with (first
              | (go_at_call 131; refine HSg.out.mono ?_; rintro e w2 ⟨rfl, hb2⟩; rw [HG.out]; have c2 := (hb2.cell (p := ⟨b, off, none⟩) hbb).trans c0; dsimp only [Option.getD, Option.isSome])
              | (go_at_call 93; refine (HP.out w2 hb2 _ (by omega)).mono ?_; rintro e w3 ⟨rfl, hb3⟩; rw [HQ.out]; dsimp only [Option.getD, Option.isSome])
              | (go_at_call 121; refine (HC.out _ _).mono ?_; rintro e w4 ⟨rfl, rfl⟩; rw [HCb.out])
              | fail)
            go_ret3
            exact ⟨by rw [HU.out]; rfl, hb2.trans (hb3.mono hb2.size)⟩
      · have q : (S.toList == [99, 104, 97, 114, 97, 99, 116, 101, 114]) = false := by rw [HSl.out]; exact beq_eq_false_iff_ne.2 hch
        rw [if_neg hch] at hU
        have HU := hide hU.symm
        clear hch hU
        go_enter Tryz.func114, Tryz.ntmps114
        go_wp2_with (first
          | (go_at_call 131; refine HSg.out.mono ?_; rintro e w2 ⟨rfl, hb2⟩; rw [HG.out]; have c2 := (hb2.cell (p := ⟨b, off, none⟩) hbb).trans c0; dsimp only [Option.getD, Option.isSome])
          | fail)
        go_ret3
        exact ⟨by rw [HU.out]; rfl, hb2⟩
set_option maxRecDepth 100000 in
set_option maxHeartbeats 2000000 in
theorem unspellP (w : World) (hS : Spc w) (A : Option Addr) (n c : Nat) (l : List Wd) (hl : l.length = n) (hn : n ≤ 1000000) (hnc : n ≤ c) (hrow : StrRow w w.heap.size A l) (hsz : ∀ s ∈ l, s.length ≤ 1000000) :
    Calls Tryz.prog 114 #[.slice A n c] w (UnRet w (unspellF l)) := by
  by_cases hc1 : 1 < c
  · exact unspellP1 w hS A n c l hl hn hnc hc1 hrow hsz
  have hb0 := Below.refl w.heap.size w
  cases l with
  | nil =>
    obtain rfl : n = 0 := hl.symm
    go_enter Tryz.func114, Tryz.ntmps114
    go_wp2
    go_ret3
    exact ⟨rfl, hb0⟩
  | cons X rest =>
    rw [List.length_cons] at hl
    obtain rfl : c = 1 := by omega
    obtain rfl : n = 1 := by omega
    obtain rfl : rest = [] := List.eq_nil_of_length_eq_zero (by omega)
    obtain ⟨b, off, rfl, hbb, hcell⟩ := hrow (by simp)
    have c0 := hcell 0 X rfl
    unfold StrAt at c0
    rw [Nat.zero_mul, Nat.add_zero] at c0
    unfold strV at c0
    obtain ⟨S, hSB⟩ : ∃ S : ByteArray, (⟨X.toArray⟩ : ByteArray) = S := ⟨_, rfl⟩
    have hSd : S.data.toList = X := by rw [← hSB]
    have HSl := hide (show S.toList = X by rw [ByteArray.toList_eq, hSd])
    have HSg := hide (signP w hS S X hSd)
    rw [hSB] at c0
    have HP := hide (fun (W : World) (A' : Option Addr) => prefixP W A' 0 0 [] rfl (by omega) (Nat.le_refl _) (Sl.nil rfl) (fun s hs => by cases hs))
    clear hcell hSB hSd hrow hsz hS hl hnc
    obtain ⟨R, hR⟩ : ∃ R, unspellF [X] = R := ⟨_, rfl⟩
    rw [hR]
    have hU : (match signOf X with
      | some r => some (r, 1)
      | none => if X = characterW then (match prefF ([] : List Wd) with
        | none => none
        | some (n, k) => if isCharB n = true ∧ idxS n = none then some (n, 1 + k) else none) else none) = R := hR
    clear hR
    cases hg : signOf X with
    | some r =>
      have HG := hide hg
      rw [hg] at hU
      have HU := hide hU.symm
      clear hg hU
      go_enter Tryz.func114, Tryz.ntmps114
      go_wp2_with (first
        | (go_at_call 131; refine HSg.out.mono ?_; rintro e w2 ⟨rfl, hb2⟩; rw [HG.out]; dsimp only [Option.getD, Option.isSome])
        | fail)
      go_ret3
      exact ⟨by rw [HU.out]; rfl, hb2⟩
    | none =>
      have HG := hide hg
      rw [hg] at hU
      dsimp only at hU
      clear hg
      by_cases hch : X = characterW
      · have q : (S.toList == [99, 104, 97, 114, 97, 99, 116, 101, 114]) = true := by rw [HSl.out, hch]; rfl
        rw [if_pos hch] at hU
        have HU := hide (hU.symm.trans (show _ = none from rfl))
        have HQ := hide (show prefF ([] : List Wd) = none from rfl)
        clear hch hU
        go_enter Tryz.func114, Tryz.ntmps114
        go_wp2_with (first
          | (go_at_call 131; refine HSg.out.mono ?_; rintro e w2 ⟨rfl, hb2⟩; rw [HG.out]; have c2 := (hb2.cell (p := ⟨b, off, none⟩) hbb).trans c0; dsimp only [Option.getD, Option.isSome])
          | (go_at_call 93; refine (HP.out w2 _).mono ?_; rintro e w3 ⟨rfl, hb3⟩; rw [HQ.out]; dsimp only [Option.getD, Option.isSome])
          | fail)
        go_ret3
        exact ⟨by rw [HU.out]; rfl, hb2.trans (hb3.mono hb2.size)⟩
      · have q : (S.toList == [99, 104, 97, 114, 97, 99, 116, 101, 114]) = false := by rw [HSl.out]; exact beq_eq_false_iff_ne.2 hch
        rw [if_neg hch] at hU
        have HU := hide hU.symm
        clear hch hU
        go_enter Tryz.func114, Tryz.ntmps114
        go_wp2_with (first
          | (go_at_call 131; refine HSg.out.mono ?_; rintro e w2 ⟨rfl, hb2⟩; rw [HG.out]; have c2 := (hb2.cell (p := ⟨b, off, none⟩) hbb).trans c0; dsimp only [Option.getD, Option.isSome])
          | fail)
        go_ret3
        exact ⟨by rw [HU.out]; rfl, hb2⟩
end Go.Proofs.YtdkppdjonlldhaaGreatDoor

/- spokentext.character, number, vocabulary. -/
namespace Go.Proofs.YtdkppdjonlldhaaGreatDoor
open Go.RowKit Go.Maps Go.Shelf

theorem unspellF_len {l : List Wd} {r : Int} {k : Nat} (h : unspellF l = some (r, k)) : 1 ≤ k ∧ k ≤ l.length := by
  cases l with
  | nil => cases h
  | cons w rest =>
    rw [unspellF] at h
    split at h
    · cases h; simp
    · split at h
      · split at h
        · cases h
        · rename_i z n kk hp
          split at h
          · cases h
            have := prefF_len hp
            simp; omega
          · cases h
      · cases h
theorem charF_len {l : List Wd} {r : Int} {k : Nat} (h : charF l = some (r, k)) : 1 ≤ k ∧ k ≤ l.length := by
  unfold charF at h
  split at h
  · rename_i hl
    cases h
    cases l with
    | nil => cases hl
    | cons x l => simp
  · exact unspellF_len h
/-- What character answers. -/
def ChRet (w : World) (o : Option (Int × Nat)) (e : Ending) (w' : World) : Prop := e = .returned (.tuple #[.int .i32 ((o.getD (0, 0)).1), .int .i64 ((o.getD (0, 0)).2 : Int)]) ∧ Below w.heap.size w w'
set_option maxRecDepth 100000 in
set_option maxHeartbeats 2000000 in
theorem charP (w : World) (hS : Spc w) (A : Option Addr) (n c : Nat) (l : List Wd) (hl : l.length = n) (hn : n ≤ 1000000) (hnc : n ≤ c) (hrow : StrRow w w.heap.size A l) (hsz : ∀ s ∈ l, s.length ≤ 1000000) :
    Calls Tryz.prog 91 #[.slice A n c] w (ChRet w (charF l)) := by
  have HU := hide (unspellP w hS A n c l hl hn hnc hrow hsz)
  obtain ⟨R, hR⟩ : ∃ R, charF l = R := ⟨_, rfl⟩
  rw [hR]
  unfold charF at hR
  obtain ⟨U, hU⟩ : ∃ U, unspellF l = U := ⟨_, rfl⟩
  rw [hU] at HU hR
  have hb0 := Below.refl w.heap.size w
  have tailw : l.head? ≠ some spaceW → R = U → ∀ (v : List Value), v = [] → True := fun _ _ _ _ => trivial
  clear tailw
  cases l with
  | nil =>
    obtain rfl : n = 0 := hl.symm
    have hU2 : U = none := hU.symm
    subst hU2
    rw [if_neg (by simp)] at hR
    subst hR
    go_enter Tryz.func91, Tryz.ntmps91
    go_wp2_with (first
      | (go_at_call 114; refine HU.out.mono ?_; rintro e w2 ⟨rfl, hb2⟩; dsimp only [Option.getD, Option.isSome])
      | fail)
    go_ret2
    exact ⟨rfl, hb2⟩
  | cons X rest =>
    have hn0 : 0 < (X :: rest).length := by simp
    obtain ⟨b, off, rfl, hbb, hcell⟩ := hrow hn0
    have c0 := hcell 0 X rfl
    unfold StrAt at c0
    rw [Nat.zero_mul, Nat.add_zero] at c0
    unfold strV at c0
    have i1 : (0 : Int) < (n : Int) := by rw [List.length_cons] at hl; omega
    obtain ⟨S, hSB⟩ : ∃ S : ByteArray, (⟨X.toArray⟩ : ByteArray) = S := ⟨_, rfl⟩
    have HSl := hide (show S.toList = X by rw [ByteArray.toList_eq, ← hSB])
    rw [hSB] at c0
    clear hcell hSB hrow hsz hS
    by_cases hsp : X = spaceW
    · have q : (S.toList == [115, 112, 97, 99, 101]) = true := by rw [HSl.out, hsp]; rfl
      rw [if_pos (by rw [hsp]; rfl)] at hR
      have HR := hide hR.symm
      clear hR hsp
      go_enter Tryz.func91, Tryz.ntmps91
      go_wp2
      go_ret2
      exact ⟨by rw [HR.out]; rfl, hb0⟩
    · have q : (S.toList == [115, 112, 97, 99, 101]) = false := by rw [HSl.out]; exact beq_eq_false_iff_ne.2 hsp
      rw [if_neg (by simpa using hsp)] at hR
      have HR := hide hR.symm
      clear hR hsp
      cases U with
      | none =>
        go_enter Tryz.func91, Tryz.ntmps91
        go_wp2_with (first
          | (go_at_call 114; refine HU.out.mono ?_; rintro e w2 ⟨rfl, hb2⟩; dsimp only [Option.getD, Option.isSome])
          | fail)
        go_ret2
        exact ⟨by rw [HR.out]; rfl, hb2⟩
      | some z =>
        obtain ⟨z1, z2⟩ := z
        go_enter Tryz.func91, Tryz.ntmps91
        go_wp2_with (first
          | (go_at_call 114; refine HU.out.mono ?_; rintro e w2 ⟨rfl, hb2⟩; dsimp only [Option.getD, Option.isSome])
          | fail)
        go_ret2
        exact ⟨by rw [HR.out]; rfl, hb2⟩
set_option maxRecDepth 100000 in
theorem numberWP (w : World) (n : Nat) (hn : n ≤ 999999999) : Calls Tryz.prog 79 #[.int .i64 n] w (SmallRet w (numW n)) := by
  have hW := hide (wordsNP w n (by omega) (by omega))
  have HWw := hide (show wordsI (n : Int) = some (numW n) by unfold wordsI; rw [if_neg (by omega), if_neg (by omega)]; rfl)
  go_enter Tryz.func79, Tryz.ntmps79
  go_wp2_with (first
    | (go_at_call 106; refine hW.out.mono ?_; rintro e w2 ⟨v, rfl, hown, hb2⟩; rw [HWw.out] at hown ⊢)
    | fail)
  go_ret
  exact ⟨_, rfl, hown, hb2⟩
/-- A set of words, made by the call. -/
def SetRet (w : World) (l : List Wd) (e : Ending) (w' : World) : Prop := ∃ b n, e = .returned (.map (some b)) ∧ w.heap.size ≤ b ∧ SetAt w' b n l ∧ n ≤ l.length ∧ Below w.heap.size w w'
theorem voc_len : ∀ s ∈ vocL, s.length ≤ 9 := by decide
set_option maxRecDepth 100000 in
set_option maxHeartbeats 2000000 in
theorem vocabularyP (w : World) : Calls Tryz.prog 32 #[] w (SetRet w vocL) := by
  have hmm := @run_makeMap Tryz.prog
  have HV := hide (fun w => vocP w)
  have hbW := (Below.refl w.heap.size w).alloc (Nat.le_refl _) (.map #[] 0)
  have hM0 : SetAt (w.alloc (.map #[] 0)) w.heap.size 0 [] := World.ownsMap_made w _ _ _
  have HM0 := hide hM0
  clear hM0
  go_enter Tryz.func32, Tryz.ntmps32
  go_wp2_with (first
    | (go_at_call 50; refine (HV.out _).mono ?_; rintro e w1 ⟨g, c, rfl, hown, hb1⟩)
    | fail)
  have hM1 : SetAt w1 w.heap.size 0 [] := map_block HM0.out (hb1.block _ (by simp))
  have hb01 := hbW.trans (hb1.mono (by simp))
  have HM1 := hide hM1
  have Hown := hide hown
  clear hM1 hown hb1 HV hbW HM0
  go_loopw [7] (fun i wr => ∃ k : Nat, k ≤ 32 ∧ i = .int .i64 k ∧ SetAt wr w.heap.size k (vocL.take k) ∧ wr.ownsRow (w.alloc (.map #[] 0)).heap.size 9 1 (.slice (some ⟨g, 0, none⟩) 32 c) 32 (vocL.map strV) ∧ Below w.heap.size w wr) (fun i _ => 32 - (intOf i).toNat)
  case atStart => exact ⟨0, Nat.zero_le _, rfl, HM1.out, Hown.out, hb01⟩
  case round =>
    obtain ⟨k, hk, rfl, hM, hown, hbr⟩ := hrel
    rename World => wo
    have HM := hide hM
    have HO := hide hown
    have HB := hide hbr
    have hsz := hbr.size
    clear HM1 Hown hb01 hM hbr
    by_cases hlt : k < 32
    · have hkI : (k : Int) < 32 := by omega
      have c0 := tab_cell hown hlt
      have hvl : k < vocL.length := hlt
      have hx : vocL.getD k [] = vocL[k] := by rw [List.getD_eq_getElem?_getD, List.getElem?_eq_getElem hvl]; rfl
      have Ht := hide (show vocL.take (k + 1) = vocL.take k ++ [vocL[k]] from List.take_succ_eq_append_getElem hvl)
      have hml := voc_len _ (List.getElem_mem hvl)
      rw [hx] at c0
      obtain ⟨X, hX⟩ : ∃ X, vocL[k] = X := ⟨_, rfl⟩
      rw [hX] at c0 Ht hml
      have Hkey := hide (skey X (by omega))
      obtain ⟨S, hS⟩ : ∃ S : ByteArray, (⟨X.toArray⟩ : ByteArray) = S := ⟨_, rfl⟩
      rw [hS] at c0 Hkey
      clear hown hS hX hx
      go_wp2_with (first
        | (at_mapUpdate; refine wpList_mapUpdate_own _ rfl _ _ _ 63 rfl 9 4 (string_keyed Tryz.underlying9) Tryz.underlying63 _ w.heap.size k _ rfl HM.out (by unfold maxLen; omega) _ _ _ rfl rfl Hkey.out _ [] (plainElem_bool Tryz.underlying4 true) ?_; intro w3 hown3 hg3; have HM3 := hide hown3; have HG3 := hide hg3; clear hown3 hg3)
        | fail)
      go_roundw
      case rel =>
        have o3 := HO.out.kept HG3.out (.inr (Ne.symm (map_ne_row HM.out HO.out)))
        exact ⟨k + 1, by omega, by go_num, by unfold SetAt; rw [Ht.out, setD_snoc]; exact HM3.out, o3, HB.out.grown HG3.out hsz (fun j hj => by cases hj; exact Nat.le_refl _)⟩
      case measure => simp [intOf]; omega
    · obtain rfl : k = 32 := by omega
      go_wp2
      go_ret
      exact ⟨w.heap.size, 32, rfl, Nat.le_refl _, HM.out, by decide, HB.out⟩
end Go.Proofs.YtdkppdjonlldhaaGreatDoor
