/- The reference's Lines. -/
import Derived.Test.YtonnjokjbknngaaDoorZ35
import Derived.Deep.DeepCutAuto
namespace Go.Proofs.YtonnjokjbknngaaDoor
open Go.RowKit Go.Lib Go.Shelf

theorem own_last {w : World} {base : Nat} {e : TypeId} {v : Value} {n m : Nat} {xs : List Value} (h : w.ownsRow base e 1 v n xs) (hm : m < n) :
    ∃ g cap, v = .slice (some ⟨g, 0, none⟩) n cap ∧ base ≤ g ∧ g < w.heap.size ∧ w.frozen? ⟨g, m, none⟩ = false := by
  rcases h.2 with ⟨rfl, h0⟩ | ⟨g, cap, cur, rfl, hg, hh, _⟩
  · omega
  · exact ⟨g, cap, rfl, hg, block_lt hh, frozen_block hh m⟩

set_option maxRecDepth 100000 in
set_option maxHeartbeats 1000000 in
theorem linesR (w : World) (s : ByteArray) (hs : s.size ≤ 1000) : Calls Tryd.prog 32 #[.string s] w fun e w' => ∃ v, e = .returned v ∧ OwnStr w' w.heap.size v (linesB s.data.toList) ∧ Below w.heap.size w w' := by
  obtain ⟨D, hD⟩ : ∃ d, s.data.toList = d := ⟨_, rfl⟩
  have hDl : D.length = s.size := by rw [← hD]; rfl
  have HD := hide hD
  rw [hD]
  clear hD
  go_enter Tryd.func32, Tryd.ntmps32
  go_wp2
  go_loopw [3, 4] (fun v i wr => ∃ (k : Nat) (done : List BS) (cur : BS), k ≤ D.length ∧ i = .int .i64 k ∧ OwnStr wr w.heap.size v (done ++ [cur]) ∧ cur.length ≤ k ∧ done.length ≤ k ∧ linesG D [] = done ++ linesG (D.drop k) cur ∧ Below w.heap.size w wr) (fun _ i _ => D.length - (intOf i).toNat)
  case atStart =>
    refine ⟨0, [], [], Nat.zero_le _, rfl, ?_, Nat.le_refl _, Nat.le_refl _, rfl, ?_⟩
    · exact own_eq (own_lit w w.heap.size 9 1 1 #[.string ⟨#[]⟩] (Nat.le_refl _) (by omega) rfl) rfl rfl
    · exact (Below.refl _ _).alloc (Nat.le_refl _) _
  case round =>
    obtain ⟨k, done, cur, hk, rfl, hown, hcl, hrl, hwd, hbr⟩ := hrel
    rename World => wo
    unfold OwnStr at hown
    have HB := hide hbr
    have hsz := hbr.size
    have Hwd := hide hwd
    obtain ⟨m, hm⟩ : ∃ m, done.length = m := ⟨_, rfl⟩
    obtain ⟨n, hn⟩ : ∃ n, m + 1 = n := ⟨_, rfl⟩
    have Hm := hide hm
    have hl : (done ++ [cur]).length = n := by rw [List.length_append, hm]; exact hn
    rw [hl] at hown
    rw [hm] at hrl
    have hmn : m < n := by omega
    obtain ⟨g, c1, rfl, hg0, hg, hfz⟩ := own_last hown hmn
    have hix : (n : Int) - 1 = (m : Int) := by omega
    have hmnI : (m : Int) < (n : Int) := by omega
    obtain ⟨CS, hCS⟩ : ∃ x : ByteArray, (⟨cur.toArray⟩ : ByteArray) = x := ⟨_, rfl⟩
    have hcell : wo.cell? ⟨g, m, none⟩ = some (.string CS) := by
      rw [hown.cellAt m (by omega), List.getElem?_map, List.getElem?_append_right (by omega), hm, Nat.sub_self, ← hCS]; rfl
    have hCl : CS.data.toList = cur := by rw [← hCS]
    have hCz : CS.size ≤ 1000 := by
      have h1 : CS.size = CS.data.toList.length := rfl
      rw [h1, hCl]; omega
    have HCl := hide hCl
    have Hown := hide hown
    have hnk : n ≤ 1001 := by omega
    have Hl := hide hl
    have Hn := hide hn
    clear hown hbr hwd hn hCS hCl hm hl
    by_cases hlt : k < D.length
    · have hltI : (k : Int) < (s.size : Int) := by omega
      have hlts : k < s.size := by omega
      have hdr := List.drop_eq_getElem_cons hlt
      have hsk : s[k]'hlts = D[k]'hlt := by
        rw [get_at, HD.out]
        simp [List.getD, List.getElem?_eq_getElem hlt]
      obtain ⟨d, hd⟩ : ∃ d, D[k]'hlt = d := ⟨_, rfl⟩
      rw [hd] at hsk hdr
      have hw := Hwd.out
      rw [hdr, linesG] at hw
      have l1 := d.toNat_lt
      by_cases h10 : d = 10
      · rw [if_pos h10] at hw
        have q1 : ((d.toNat : Int) == 10) = true := by rw [h10]; rfl
        have Hw := hide hw
        clear hw hdr hd h10 hcell hfz
        go_wp2_with (first
          | (at_builtin; refine wpList_app _ (.tmp 16) (.tmp 17) 36 rfl (by rfl) el_str46 w.heap.size (.slice (some ⟨g, 0, none⟩) n c1) n _ (by rfl) Hown.out hsz #[.string ⟨#[]⟩] 1 1 9 _ (by rfl) rfl rfl (by simp [Value.oneCell']) (by omega) ?_; intro v7 w7 hown7 hg7; have HO7 := hide hown7; have HG7 := hide hg7; clear hown7 hg7)
          | fail)
        go_roundw
        case rel =>
          refine ⟨k + 1, done ++ [cur], [], by omega, by go_num, ?_, by simp, by rw [Hl.out]; omega, by rw [Hw.out]; simp, HB.out.grown HG7.out hsz (fun j hj => (Hown.out.lt j hj).1)⟩
          exact own_eq HO7.out (by rw [List.length_append, Hl.out]; rfl) (by simp [strV])
        case measure => simp [intOf]; omega
      · rw [if_neg h10] at hw
        have q1 : ((d.toNat : Int) == 10) = false := by
          rw [beq_eq_false_iff_ne]; intro h; exact h10 (UInt8.toNat_inj.1 (by show d.toNat = 10; omega))
        obtain ⟨XS, hXS⟩ : ∃ x, s.extract k (k + 1) = x := ⟨_, rfl⟩
        have hXl : XS.data.toList = [d] := by
          rw [← hXS, Lib.extract_data, HD.out, hdr]; simp
        have hXz : XS.size ≤ 1 := by
          have h1 : XS.size = XS.data.toList.length := rfl
          rw [h1, hXl]; simp
        have hsl : ∀ W : World, (Instr.slice 9 (.string s) (some (.int .i64 (k : Int))) (some (.int .i64 ((k : Int) + 1))) none).run Tryd.prog W = .ok (.string XS) W := fun W => by
          rw [run_slice_string (P := Tryd.prog) (w := W) 9 s .i64 .i64 (k : Int) ((k : Int) + 1) Tryd.underlying9 (by omega) (by omega) (by omega), ← hXS]
          rw [show ((k : Int) + 1).toNat = k + 1 by omega]; rfl
        have HX := hide (show CS ++ XS = (⟨(cur ++ [d]).toArray⟩ : ByteArray) by apply ba_of; rw [ba_cat2, HCl.out, hXl])
        have hnb2 : (9223372036854775807 < CS.size + XS.size) = False := eq_false (by omega)
        have ew1 : IntKind.i64.wrap (m : Int) = (m : Int) := IntWalk.i64_in _ (by omega)
        have ew2 : IntKind.i64.wrap ((k : Int) + 1) = (k : Int) + 1 := IntWalk.i64_in _ (by omega)
        have Hw := hide hw
        clear hw hdr hd h10 hXS hXl
        go_upto_region 7 with fail
        obtain ⟨hst, hgr⟩ := Hown.out.stored m (.string (CS ++ XS))
        have Hst := hide hst
        have Hbe := hide (HB.out.setCell (p := ⟨g, m, none⟩) hg0 (.string (CS ++ XS))).drew
        clear hst hgr
        go_region_law (fail)
        all_goals
          go_wp2
          go_roundw
          case rel =>
            refine ⟨k + 1, done, cur ++ [d], by omega, by go_num, ?_, by simp; omega, by rw [Hm.out]; omega, Hw.out, Hbe.out⟩
            refine own_eq Hst.out (by rw [List.length_append, Hm.out]; exact Hn.out.symm) ?_
            rw [List.map_append, List.map_append, List.set_append_right _ _ (by rw [List.length_map, Hm.out]; exact Nat.le_refl _), List.length_map, Hm.out, Nat.sub_self, HX.out]
            rfl
          case measure => simp [intOf]; omega
    · have hkl : D.length ≤ k := by omega
      have hw := Hwd.out
      rw [List.drop_of_length_le hkl, linesG] at hw
      obtain rfl : k = D.length := by omega
      have Hw := hide hw
      clear hw hkl hcell hfz
      go_wp2
      go_ret
      exact ⟨_, rfl, by unfold linesB; rw [Hw.out, OwnStr, Hl.out]; exact Hown.out, HB.out⟩
end Go.Proofs.YtonnjokjbknngaaDoor
