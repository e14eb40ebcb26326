/- The reference's Words. -/
import Derived.Test.YtonnjokjbknngaaDoorZ33
import Derived.Test.YtonnjokjbknngaaDoorZ7
namespace Go.Proofs.YtonnjokjbknngaaDoor
open Go.RowKit Go.Lib Go.Shelf

theorem el_str46 : ElemOf Tryd.prog 36 9 (.string ⟨#[]⟩) 1 16 := ⟨Tryd.underlying36, by kernel_rfl, rfl, by decide, by decide⟩
abbrev OwnStr (w : World) (B : Nat) (v : Value) (l : List BS) : Prop := w.ownsRow B 9 1 v l.length (l.map strV)
theorem wordsG_len : ∀ (l cur : BS), (wordsG l cur).length ≤ l.length + 1
  | [], cur => by unfold wordsG; split <;> simp
  | c :: t, cur => by
    unfold wordsG
    have h1 := wordsG_len t []
    have h2 := wordsG_len t (cur ++ [c])
    split
    · split <;> simp <;> omega
    · simp; omega

set_option maxRecDepth 100000 in
set_option maxHeartbeats 1000000 in
theorem wordsR (w : World) (s : ByteArray) (hs : s.size ≤ 1000) : Calls Tryd.prog 33 #[.string s] w fun e w' => ∃ v, e = .returned v ∧ OwnStr w' w.heap.size v (wordsB s.data.toList) ∧ Below w.heap.size w w' := by
  obtain ⟨D, hD⟩ : ∃ d, s.data.toList = d := ⟨_, rfl⟩
  have hDl : D.length = s.size := by rw [← hD]; rfl
  have HD := hide hD
  rw [hD]
  clear hD
  go_enter Tryd.func33, Tryd.ntmps33
  go_wp2
  go_loopw [3, 4, 5] (fun v c i wr => ∃ (k : Nat) (rows : List BS) (cur : BS), k ≤ D.length ∧ i = .int .i64 k ∧ OwnStr wr w.heap.size v rows ∧ c = .string ⟨cur.toArray⟩ ∧ cur.length ≤ k ∧ rows.length ≤ k ∧ wordsG D [] = rows ++ wordsG (D.drop k) cur ∧ Below w.heap.size w wr) (fun _ _ i _ => D.length - (intOf i).toNat)
  case atStart =>
    refine ⟨0, [], [], Nat.zero_le _, rfl, ?_, rfl, Nat.le_refl _, Nat.le_refl _, rfl, ?_⟩
    · exact own_eq (own_lit w w.heap.size 9 1 0 #[] (Nat.le_refl _) (by omega) rfl) rfl rfl
    · exact (Below.refl _ _).alloc (Nat.le_refl _) _
  case round =>
    obtain ⟨k, rows, cur, hk, rfl, hown, rfl, hcl, hrl, hwd, hbr⟩ := hrel
    rename World => wo
    unfold OwnStr at hown
    have HB := hide hbr
    have hsz := hbr.size
    have Hwd := hide hwd
    obtain ⟨n, hn⟩ : ∃ n, rows.length = n := ⟨_, rfl⟩
    have Hn := hide hn
    obtain ⟨A1, c1, rfl⟩ := own_form hown
    rw [hn] at hrl hown ⊢
    have Hown := hide hown
    obtain ⟨CS, hCS⟩ : ∃ x : ByteArray, (⟨cur.toArray⟩ : ByteArray) = x := ⟨_, rfl⟩
    have hCl : CS.data.toList = cur := by rw [← hCS]
    have hCz : CS.size ≤ 1000 := by
      have h1 : CS.size = CS.data.toList.length := rfl
      rw [h1, hCl]; omega
    have HCl := hide hCl
    rw [hCS]
    clear hown hbr hwd hn hCS hCl
    by_cases hlt : k < D.length
    · have hltI : (k : Int) < (s.size : Int) := by omega
      have hlts : k < s.size := by omega
      have hdr := List.drop_eq_getElem_cons hlt
      have hsk : s[k]'hlts = D[k]'hlt := by
        rw [get_at, HD.out]
        simp [List.getD, List.getElem?_eq_getElem hlt]
      obtain ⟨d, hd⟩ : ∃ d, D[k]'hlt = d := ⟨_, rfl⟩
      rw [hd] at hsk hdr
      have hw := Hwd.out
      rw [hdr, wordsG] at hw
      have l1 := d.toNat_lt
      by_cases h32 : d = 32
      · rw [if_pos h32] at hw
        have q1 : ((d.toNat : Int) != 32) = false := by rw [h32]; rfl
        by_cases hc0 : cur = []
        · rw [if_pos hc0] at hw
          have q2 : (CS.toList != []) = false := by rw [ByteArray.toList_eq, HCl.out, hc0]; rfl
          have q2' : (CS.toList == []) = true := by rw [ByteArray.toList_eq, HCl.out, hc0]; rfl
          have Hw := hide hw
          clear hw hdr hd h32 hc0
          go_wp2
          go_roundw
          case rel => exact ⟨k + 1, rows, [], by omega, by go_num, by rw [OwnStr, Hn.out]; exact Hown.out, rfl, by simp, by rw [Hn.out]; omega, Hw.out, HB.out⟩
          case measure => simp [intOf]; omega
        · rw [if_neg hc0] at hw
          have q2 : (CS.toList != []) = true := by rw [ByteArray.toList_eq, HCl.out]; simpa using hc0
          have q2' : (CS.toList == []) = false := by rw [ByteArray.toList_eq, HCl.out]; simpa using hc0
          have Hw := hide hw
          clear hw hdr hd h32 hc0
          go_wp2_with (first
            | (at_builtin; refine wpList_app _ (.tmp 26) (.tmp 28) 36 rfl (by rfl) el_str46 w.heap.size (.slice A1 n c1) n _ (by rfl) Hown.out hsz #[.string CS] 1 1 9 _ (by rfl) rfl rfl (by simp [Value.oneCell']) (by omega) ?_; intro v7 w7 hown7 hg7; have HO7 := hide hown7; have HG7 := hide hg7; clear hown7 hg7)
            | fail)
          go_roundw
          case rel =>
            refine ⟨k + 1, rows ++ [cur], [], by omega, by go_num, ?_, rfl, by simp, by rw [List.length_append, Hn.out]; simp; omega, by rw [Hw.out]; simp, HB.out.grown HG7.out hsz (fun j hj => (Hown.out.lt j hj).1)⟩
            exact own_eq HO7.out (by rw [List.length_append, Hn.out]; rfl) (by rw [← HCl.out]; simp [strV])
          case measure => simp [intOf]; omega
      · rw [if_neg h32] at hw
        have q1 : ((d.toNat : Int) != 32) = true := by
          rw [bne_iff_ne]; intro h; exact h32 (UInt8.toNat_inj.1 (by show d.toNat = 32; omega))
        obtain ⟨XS, hXS⟩ : ∃ x, s.extract k (k + 1) = x := ⟨_, rfl⟩
        have hXl : XS.data.toList = [d] := by
          rw [← hXS, Lib.extract_data, HD.out, hdr]; simp
        have hXz : XS.size ≤ 1 := by
          have h1 : XS.size = XS.data.toList.length := rfl
          rw [h1, hXl]; simp
        have hsl : ∀ W : World, (Instr.slice 9 (.string s) (some (.int .i64 (k : Int))) (some (.int .i64 ((k : Int) + 1))) none).run Tryd.prog W = .ok (.string XS) W := fun W => by
          rw [run_slice_string (P := Tryd.prog) (w := W) 9 s .i64 .i64 (k : Int) ((k : Int) + 1) Tryd.underlying9 (by omega) (by omega) (by omega), ← hXS]
          rw [show ((k : Int) + 1).toNat = k + 1 by omega]; rfl
        have HX := hide (show CS ++ XS = (⟨(cur ++ [d]).toArray⟩ : ByteArray) by apply ba_of; rw [ba_cat2, HCl.out, hXl])
        have Hw := hide hw
        clear hw hdr hd h32 hXS hXl
        go_wp2
        go_roundw
        case rel => exact ⟨k + 1, rows, cur ++ [d], by omega, by go_num, by rw [OwnStr, Hn.out]; exact Hown.out, by rw [HX.out], by simp; omega, by rw [Hn.out]; omega, Hw.out, HB.out⟩
        case measure => simp [intOf]; omega
    · have hkl : D.length ≤ k := by omega
      have hw := Hwd.out
      rw [List.drop_of_length_le hkl, wordsG] at hw
      obtain rfl : k = D.length := by omega
      by_cases hc0 : cur = []
      · rw [if_pos hc0, List.append_nil] at hw
        have q2 : (CS.toList != []) = false := by rw [ByteArray.toList_eq, HCl.out, hc0]; rfl
        have q2' : (CS.toList == []) = true := by rw [ByteArray.toList_eq, HCl.out, hc0]; rfl
        have Hw := hide hw
        clear hw hc0 hkl
        go_wp2
        go_ret
        exact ⟨_, rfl, by unfold wordsB; rw [Hw.out, OwnStr, Hn.out]; exact Hown.out, HB.out⟩
      · rw [if_neg hc0] at hw
        have q2 : (CS.toList != []) = true := by rw [ByteArray.toList_eq, HCl.out]; simpa using hc0
        have q2' : (CS.toList == []) = false := by rw [ByteArray.toList_eq, HCl.out]; simpa using hc0
        have Hw := hide hw
        clear hw hc0 hkl
        go_wp2_with (first
          | (at_builtin; refine wpList_app _ (.tmp 32) (.tmp 34) 36 rfl (by rfl) el_str46 w.heap.size (.slice A1 n c1) n _ (by rfl) Hown.out hsz #[.string CS] 1 1 9 _ (by rfl) rfl rfl (by simp [Value.oneCell']) (by omega) ?_; intro v7 w7 hown7 hg7; have HO7 := hide hown7; have HG7 := hide hg7; clear hown7 hg7)
          | fail)
        go_ret
        refine ⟨_, rfl, ?_, HB.out.grown HG7.out hsz (fun j hj => (Hown.out.lt j hj).1)⟩
        unfold wordsB
        rw [Hw.out]
        exact own_eq HO7.out (by rw [List.length_append, Hn.out]; rfl) (by rw [← HCl.out]; simp [strV])
end Go.Proofs.YtonnjokjbknngaaDoor
