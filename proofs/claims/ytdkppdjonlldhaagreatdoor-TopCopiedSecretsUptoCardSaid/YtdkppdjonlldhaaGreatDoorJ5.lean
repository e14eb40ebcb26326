/- Joined: SP15, SP16, SP17. -/
import Derived.Test.YtdkppdjonlldhaaGreatDoorJ4
import Derived.Lib.AppendZeros
/- signnames.Names, slices.Grow and slices.Concat of words. -/
namespace Go.Proofs.YtdkppdjonlldhaaGreatDoor
open Go.RowKit Go.Maps Go.Shelf

theorem name_row {W : World} {G : Nat} (h : W.rangeAt G 0 namV) : StrRow W W.heap.size (some ⟨G, 0, none⟩) namL := fun _ => by
  have hlt : G < W.heap.size := World.block_lt_of_cell? W ⟨G, 0 + 0, none⟩ (h 0 (strV [98, 97, 110, 103]) rfl)
  refine ⟨G, 0, rfl, hlt, fun k x hx => ?_⟩
  have := h k (strV x) (by unfold namV; rw [List.getElem?_map, hx]; rfl)
  show _ = some (strV x)
  rw [Nat.mul_one]; exact this
set_option maxRecDepth 100000 in
set_option maxHeartbeats 2000000 in
theorem namesP (w : World) (hS : Spc w) : Calls Tryz.prog 57 #[] w fun e w' => ∃ g, e = .returned (.slice (some ⟨g, 0, none⟩) 32 32) ∧ StrRow w' w'.heap.size (some ⟨g, 0, none⟩) namL ∧ Below w.heap.size w w' := by
  have HSp := hide (splitP w hS)
  clear hS
  go_enter Tryz.func57, Tryz.ntmps57
  go_upto_region 1 with fail
  go_wp2_with (first
    | (go_at_call 83; refine HSp.out.mono ?_; rintro e w2 ⟨rfl, hb2⟩; have hs2 := hb2.size; have HT := hide (there_block (n := 32) (block_new w2 (.cells #[.string ⟨#[]⟩, .string ⟨#[]⟩, .string ⟨#[]⟩, .string ⟨#[]⟩, .string ⟨#[]⟩, .string ⟨#[]⟩, .string ⟨#[]⟩, .string ⟨#[]⟩, .string ⟨#[]⟩, .string ⟨#[]⟩, .string ⟨#[]⟩, .string ⟨#[]⟩, .string ⟨#[]⟩, .string ⟨#[]⟩, .string ⟨#[]⟩, .string ⟨#[]⟩, .string ⟨#[]⟩, .string ⟨#[]⟩, .string ⟨#[]⟩, .string ⟨#[]⟩, .string ⟨#[]⟩, .string ⟨#[]⟩, .string ⟨#[]⟩, .string ⟨#[]⟩, .string ⟨#[]⟩, .string ⟨#[]⟩, .string ⟨#[]⟩, .string ⟨#[]⟩, .string ⟨#[]⟩, .string ⟨#[]⟩, .string ⟨#[]⟩, .string ⟨#[]⟩] 110)) rfl))
    | (refine wpList_store_list rfl 110 (.tmp 1) (.tmp 2) rfl w2.heap.size namV (by rfl) (by rfl) HT.out (by kernel_rfl) (all_oneCell_toArray fun v hv => by obtain ⟨x, -, rfl⟩ := List.mem_map.1 hv; rfl) ?_; obtain ⟨W3, hW3⟩ : ∃ W3, (w2.alloc (.cells #[.string ⟨#[]⟩, .string ⟨#[]⟩, .string ⟨#[]⟩, .string ⟨#[]⟩, .string ⟨#[]⟩, .string ⟨#[]⟩, .string ⟨#[]⟩, .string ⟨#[]⟩, .string ⟨#[]⟩, .string ⟨#[]⟩, .string ⟨#[]⟩, .string ⟨#[]⟩, .string ⟨#[]⟩, .string ⟨#[]⟩, .string ⟨#[]⟩, .string ⟨#[]⟩, .string ⟨#[]⟩, .string ⟨#[]⟩, .string ⟨#[]⟩, .string ⟨#[]⟩, .string ⟨#[]⟩, .string ⟨#[]⟩, .string ⟨#[]⟩, .string ⟨#[]⟩, .string ⟨#[]⟩, .string ⟨#[]⟩, .string ⟨#[]⟩, .string ⟨#[]⟩, .string ⟨#[]⟩, .string ⟨#[]⟩, .string ⟨#[]⟩, .string ⟨#[]⟩] 110)).setCells w2.heap.size 0 namV = W3 := ⟨_, rfl⟩; have HW3 := hide hW3; rw [hW3]; clear hW3)
    | fail)
  go_ret
  have hr := World.rangeAt_setCells_same _ w2.heap.size 0 namV HT.out
  have hbf := below_cellsS (B := w.heap.size) (b := w2.heap.size) (a := w) hs2 namV 0 _ (hb2.alloc hs2 (.cells #[.string ⟨#[]⟩, .string ⟨#[]⟩, .string ⟨#[]⟩, .string ⟨#[]⟩, .string ⟨#[]⟩, .string ⟨#[]⟩, .string ⟨#[]⟩, .string ⟨#[]⟩, .string ⟨#[]⟩, .string ⟨#[]⟩, .string ⟨#[]⟩, .string ⟨#[]⟩, .string ⟨#[]⟩, .string ⟨#[]⟩, .string ⟨#[]⟩, .string ⟨#[]⟩, .string ⟨#[]⟩, .string ⟨#[]⟩, .string ⟨#[]⟩, .string ⟨#[]⟩, .string ⟨#[]⟩, .string ⟨#[]⟩, .string ⟨#[]⟩, .string ⟨#[]⟩, .string ⟨#[]⟩, .string ⟨#[]⟩, .string ⟨#[]⟩, .string ⟨#[]⟩, .string ⟨#[]⟩, .string ⟨#[]⟩, .string ⟨#[]⟩, .string ⟨#[]⟩] 110))
  rw [HW3.out] at hr hbf
  exact ⟨w2.heap.size, rfl, name_row hr, hbf⟩
/-- The size of the string's element. -/
theorem info_str : ∃ i : TypeInfo, Tryz.prog.info? 9 = some i ∧ i.zero = some (.string ⟨#[]⟩) ∧ i.size = 1 ∧ i.bytes = 16 := by
  obtain ⟨i, hi, hz, hsz, hby⟩ := info_parts el_str.info
  exact ⟨i, hi, hz, hsz, hby⟩
theorem zeroCells_size (z : Array Value) (n : Nat) (h : z.size = 1) : (Builtin.zeroCells z n).size = n := by
  unfold Builtin.zeroCells
  simp [h]
set_option maxRecDepth 100000 in
set_option maxHeartbeats 1000000 in
theorem growP (w : World) (n : Nat) (hn : n ≤ 1000000000) : Calls Tryz.prog 80 #[.slice none 0 0, .int .i64 n] w fun e w' => ∃ v, e = .returned v ∧ w'.ownsRow w.heap.size 9 1 v 0 [] ∧ Below w.heap.size w w' := by
  obtain ⟨i, hi, hz, hsz, hby⟩ := info_str
  by_cases h0 : n = 0
  · subst h0
    have hb := Below.refl w.heap.size w
    go_enter Tryz.func80, Tryz.ntmps80
    go_wp2
    go_ret
    exact ⟨_, rfl, World.ownsRow_nil _ _ _ _, hb⟩
  · have i0 : (0 : Int) < (n : Int) := by omega
    have hrun := fun ty => Lib.run_append_nil_zeros (P := Tryz.prog) w 51 3 ty 9 i (.string ⟨#[]⟩) .i64 .i64 Tryz.underlying51 Tryz.underlying3 hi hz n (by omega) (by omega) (by omega) (by rw [hby]; omega)
    have hcg := grownCap_ge w n 0 9
    have hcl := grownCap_le_maxLen w n 0 9 (by unfold maxLen; omega)
    have HR := hide hrun
    have hcap : (0 : Int) ≤ ((grownCap w n 0 9 : Nat) : Int) := by omega
    have hb := Below.refl w.heap.size w
    clear hrun
    go_enter Tryz.func80, Tryz.ntmps80
    go_wp2_with (first
      | (at_builtin; refine Lib.wpList_append_run _ rfl (.tmp 20) (.tmp 21) _ _ rfl _ _ rfl rfl _ _ (HR.out _) ?_)
      | fail)
    go_ret
    refine ⟨_, rfl, ⟨rfl, .inr ⟨w.heap.size, grownCap w n 0 9, _, rfl, Nat.le_refl _, block_new w.drew _, Nat.zero_le _, hcl, ?_, by simp⟩⟩, hb.drew.alloc (Nat.le_refl _) _⟩
    rw [Array.size_append, zeroCells_size _ _ rfl, zeroCells_size _ _ rfl]; omega
/-- A slice of slices of words. -/
def SRowAt (B : Nat) : World → Nat → Nat → List Wd → Prop := fun w b o r => ∃ A c, w.cell? ⟨b, o, none⟩ = some (.slice A r.length c) ∧ StrRow w B A r
theorem SRowAt.stays (B : Nat) : Stays (SRowAt B) B := fun _ _ _ _ _ hk hb h => by
  obtain ⟨A, c, h1, h2⟩ := h
  exact ⟨A, c, (hk _ hb).trans h1, h2.keep (StrAt.stays B) hk⟩
theorem flat_take {l : List (List Wd)} {k : Nat} (hk : k < l.length) : (l.take (k + 1)).flatten = (l.take k).flatten ++ l[k] := by
  rw [List.take_succ_eq_append_getElem hk, List.flatten_append]; simp
theorem flat_le {l : List (List Wd)} (k : Nat) : (l.take k).flatten.length ≤ l.flatten.length := by
  conv => rhs; rw [← List.take_append_drop k l, List.flatten_append, List.length_append]
  omega
set_option maxRecDepth 100000 in
set_option maxHeartbeats 2000000 in
theorem concatP (w : World) (A : Option Addr) (c m : Nat) (ll : List (List Wd)) (hm : ll.length = m) (hm2 : m ≤ 1000) (hrows : Sl (SRowAt w.heap.size) 1 w w.heap.size A ll) (ht : ll.flatten.length ≤ 1000000) :
    Calls Tryz.prog 55 #[.slice A m c] w (SmallRet w ll.flatten) := by
  have HR := hide hrows
  have Hm := hide hm
  have HG := hide growP
  have hb0 := Below.refl w.heap.size w
  have Hfl := hide (fun k => @flat_le ll k)
  clear hrows hm
  go_enter Tryz.func55, Tryz.ntmps55
  go_wp2
  go_loop [3, 11] (fun s i => ∃ k : Nat, k ≤ m ∧ i = .int .i64 k ∧ s = .int .i64 ((ll.take k).flatten.length : Nat)) (fun _ i => m - (intOf i).toNat)
  case atStart => exact ⟨0, Nat.zero_le _, rfl, by simp⟩
  case round =>
    obtain ⟨k, hk, rfl, rfl⟩ := hrel
    by_cases hlt : k < m
    · have hkI : (k : Int) < (m : Int) := by omega
      have hkl : k < ll.length := by rw [Hm.out]; exact hlt
      obtain ⟨b, off, rfl, hbb, A1, c1, hc1, -⟩ := HR.out.get1 hkl
      have Hx := hide (show (ll.take (k + 1)).flatten.length = (ll.take k).flatten.length + ll[k].length by rw [flat_take hkl, List.length_append])
      have h1 := Hfl.out (k + 1)
      rw [Hx.out] at h1
      obtain ⟨S, hS⟩ : ∃ S, (ll.take k).flatten.length = S := ⟨_, rfl⟩
      obtain ⟨L, hL⟩ : ∃ L, ll[k].length = L := ⟨_, rfl⟩
      rw [hS, hL] at h1 Hx
      rw [hL] at hc1
      rw [hS]
      clear hS hL
      go_wp2
      go_round
      case rel => exact ⟨k + 1, by omega, by go_num, by rw [Hx.out]; go_num⟩
      case measure => simp [intOf]; omega
    · obtain rfl : k = m := by omega
      have h1 := Hfl.out k
      obtain ⟨S, hS⟩ : ∃ S, (ll.take k).flatten.length = S := ⟨_, rfl⟩
      rw [hS] at h1 ⊢
      clear hS
      go_wp2_with (first
        | (go_at_call 80; refine (HG.out w S (by omega)).mono ?_; rintro e w1 ⟨v, rfl, hown, hb1⟩)
        | fail)
      have Hown := hide hown
      clear hown
      go_loopw [6, 27] (fun v i wr => ∃ j : Nat, j ≤ k ∧ i = .int .i64 j ∧ wr.ownsRow w.heap.size 9 1 v (ll.take j).flatten.length ((ll.take j).flatten.map strV) ∧ Below w.heap.size w wr) (fun _ i _ => k - (intOf i).toNat)
      case atStart => exact ⟨0, Nat.zero_le _, rfl, Hown.out, hb1⟩
      case round =>
        obtain ⟨j, hj, rfl, hown, hbr⟩ := hrel
        rename World => wo
        have HB := hide hbr
        have hsz := hbr.size
        obtain ⟨A5, c5, rfl⟩ := own_form hown
        have HO := hide hown
        clear hown hbr Hown
        by_cases hlt2 : j < k
        · have hkI : (j : Int) < (k : Int) := by omega
          have hkl : j < ll.length := by rw [Hm.out]; exact hlt2
          obtain ⟨b, off, rfl, hbb, A1, c1, hc1, hr1⟩ := HR.out.get1 hkl
          have c0 := (HB.out.cell (p := ⟨b, off + j, none⟩) hbb).trans hc1
          have Hx := hide (show (ll.take (j + 1)).flatten = (ll.take j).flatten ++ ll[j] from flat_take hkl)
          have Hr := hide (hr1.below (StrAt.stays _) HB.out)
          have h2 := Hfl.out (j + 1)
          rw [Hx.out, List.length_append] at h2
          obtain ⟨X, hX⟩ : ∃ X, ll[j] = X := ⟨_, rfl⟩
          rw [hX] at c0 Hx Hr h2
          obtain ⟨Y, hY⟩ : ∃ Y, (ll.take j).flatten = Y := ⟨_, rfl⟩
          rw [hY] at HO Hx h2 ⊢
          clear hX hY hc1 hr1
          go_wp2_with (first
            | (at_builtin; refine wpList_strs wo (.tmp 31) (.tmp 32) rfl (by rfl) w.heap.size _ Y _ (by rfl) HO.out hsz A1 c1 _ X _ rfl (by rfl) Hr.out (by omega) _ rfl ?_; intro v6 w6 hown6 hg6; have hb6 := below_own HB.out HO.out hg6 (Nat.le_refl _) hsz)
            | fail)
          go_roundw
          case rel => exact ⟨j + 1, by omega, by go_num, by rw [Hx.out]; exact own_eq hown6 (by rw [List.length_append]) rfl, hb6⟩
          case measure => simp [intOf]; omega
        · obtain rfl : j = k := by omega
          have hx : ll.take j = ll := List.take_of_length_le (by rw [Hm.out]; exact Nat.le_refl _)
          rw [hx] at HO ⊢
          go_wp2
          go_ret
          exact ⟨_, rfl, HO.out, HB.out⟩
end Go.Proofs.YtdkppdjonlldhaaGreatDoor

/- spokentext.reserved, Reserved. -/
namespace Go.Proofs.YtdkppdjonlldhaaGreatDoor
open Go.RowKit Go.Maps Go.Shelf

theorem res_len : ∀ s ∈ ctlL ++ namL, s.length ≤ 12 := by decide
def cnL : List Wd := ctlL ++ namL
theorem cn_len : cnL.length = 71 := by decide
theorem row_two {w : World} {g : Nat} {A1 A2 : Option Addr} {n1 c1 n2 c2 : Nat} {l1 l2 : List Wd} (h : w.heap[g]? = some (.cells #[.slice A1 n1 c1, .slice A2 n2 c2] 51 (0, 0))) (e1 : l1.length = n1) (e2 : l2.length = n2) (h1 : StrRow w w.heap.size A1 l1) (h2 : StrRow w w.heap.size A2 l2) :
    Sl (SRowAt w.heap.size) 1 w w.heap.size (some ⟨g, 0, none⟩) [l1, l2] := fun _ => by
  refine ⟨g, 0, rfl, block_lt h, fun k x hx => ?_⟩
  match k, hx with
  | 0, hx => cases hx; exact ⟨A1, c1, by rw [e1]; exact cell_block h 0, h1⟩
  | 1, hx => cases hx; exact ⟨A2, c2, by rw [e2]; exact cell_block h 1, h2⟩
  | k + 2, hx => simp at hx
theorem two_rows (w1 w2 w3 : World) (g3 : Nat) (h2 : StrRow w2 w2.heap.size (some ⟨w1.heap.size, 0, none⟩) ctlL) (h3 : StrRow w3 w3.heap.size (some ⟨g3, 0, none⟩) namL) (hb : Below w2.heap.size w2 w3) :
    Sl (SRowAt (w3.alloc (.cells #[.slice (some ⟨w1.heap.size, 0, none⟩) ctlL.length ctlL.length, .slice (some ⟨g3, 0, none⟩) 32 32] 51)).heap.size) 1 (w3.alloc (.cells #[.slice (some ⟨w1.heap.size, 0, none⟩) ctlL.length ctlL.length, .slice (some ⟨g3, 0, none⟩) 32 32] 51)) (w3.alloc (.cells #[.slice (some ⟨w1.heap.size, 0, none⟩) ctlL.length ctlL.length, .slice (some ⟨g3, 0, none⟩) 32 32] 51)).heap.size (some ⟨w3.heap.size, 0, none⟩) [ctlL, namL] := by
  have ha := (Below.refl w3.heap.size w3).alloc (Nat.le_refl _) (.cells #[.slice (some ⟨w1.heap.size, 0, none⟩) ctlL.length ctlL.length, .slice (some ⟨g3, 0, none⟩) 32 32] 51)
  exact row_two (block_new w3 _) rfl rfl ((((h2.below (StrAt.stays _) hb).more hb.size).below (StrAt.stays _) ha).more ha.size) ((h3.below (StrAt.stays _) ha).more ha.size)
set_option maxRecDepth 100000 in
set_option maxHeartbeats 2000000 in
theorem reservedP (w : World) (hS : Spc w) : Calls Tryz.prog 36 #[] w (SetRet w resL) := by
  have HV := hide (fun w => vocabularyP w)
  have HS := hide hS
  have HN := hide namesP
  have HC := hide concatP
  have hF := hide (fun (W : World) (hS : Spc W) (s : ByteArray) (hl : Lib.fields s.data.toList = ctlL) (hs : s.size < 100000) (ha : (s.data.toList.all fun b => decide (b.toNat < 128)) = true) => fieldsP W hS s ctlL hl hs (names_ascii _ ha))
  clear hS
  go_enter Tryz.func36, Tryz.ntmps36
  go_wp2_with (first
    | (go_at_call 32; refine (HV.out _).mono ?_; rintro e w1 ⟨b, n, rfl, hb0, hM, hn', hb1⟩; have hn : n ≤ 32 := hn'; clear hn'; have hs1 := HS.out.below hb1)
    | (go_at_call 56; refine (hF.out _ hs1 _ (by decide +kernel) (by decide +kernel) (by decide +kernel)).mono ?_; rintro e w2 ⟨rfl, hw2⟩; have hb2 : Below w1.heap.size w1 w2 := (by rw [hw2]; exact (Below.refl _ _).alloc (Nat.le_refl _) _); have hr2 : StrRow w2 w2.heap.size (some ⟨w1.heap.size, 0, none⟩) ctlL := (by rw [hw2]; exact fun _ => ⟨w1.heap.size, 0, rfl, (by simp), fun k x hx => (by show _ = some (strV x); rw [Nat.mul_one, Nat.zero_add, cell_block (block_new w1 _) k]; simp [hx])⟩); clear hw2)
    | (go_at_call 57; refine (HN.out w2 (hs1.below hb2)).mono ?_; rintro e w3 ⟨g3, rfl, hr3, hb3⟩; have hrow := hide (two_rows w1 w2 w3 g3 hr2 hr3 hb3))
    | (go_at_call 55; refine (HC.out _ _ _ _ [ctlL, namL] rfl (by decide) hrow.out (by decide)).mono ?_; rintro e w4 ⟨v4, rfl, hown4, hb4⟩; have hb34 := ((Below.refl w3.heap.size w3).alloc (Nat.le_refl _) (.cells #[.slice (some ⟨w1.heap.size, 0, none⟩) ctlL.length ctlL.length, .slice (some ⟨g3, 0, none⟩) 32 32] 51)).trans (hb4.mono (by simp)); have hown5 : w4.ownsRow _ 9 1 v4 71 (cnL.map strV) := own_eq hown4 (by decide) (by simp [cnL]); clear hown4; obtain ⟨A4, c4, rfl⟩ := own_form hown5; have HO4 := hide hown5; clear hown5)
    | fail)
  have hsz4 := hb4.size
  have hM4 : SetAt w4 b n vocL := by
    have hbb : Below w1.heap.size w1 w4 := hb2.trans ((hb3.mono hb2.size).trans (hb34.mono (Nat.le_trans hb2.size hb3.size)))
    exact hM.below hbb
  have hbw4 : Below w.heap.size w w4 := hb1.trans ((hb2.mono hb1.size).trans ((hb3.mono (Nat.le_trans hb1.size hb2.size)).trans (hb34.mono (Nat.le_trans hb1.size (Nat.le_trans hb2.size hb3.size)))))
  have hbg : b < w3.heap.size := Nat.lt_of_lt_of_le hM.lt (Nat.le_trans hb2.size hb3.size)
  have HM4 := hide hM4
  have HB4 := hide hbw4
  clear hM4 hbw4 hM
  have Hres := hide (show resL = vocL ++ cnL from rfl)
  go_loopw [10] (fun i wr => ∃ (k q : Nat), k ≤ 71 ∧ i = .int .i64 k ∧ SetAt wr b q (vocL ++ cnL.take k) ∧ q ≤ n + k ∧ wr.ownsRow (w3.alloc (.cells #[.slice (some ⟨w1.heap.size, 0, none⟩) ctlL.length ctlL.length, .slice (some ⟨g3, 0, none⟩) 32 32] 51)).heap.size 9 1 (.slice A4 71 c4) 71 (cnL.map strV) ∧ Below w.heap.size w wr) (fun i _ => 71 - (intOf i).toNat)
  case atStart => exact ⟨0, n, Nat.zero_le _, rfl, by rw [List.take_zero, List.append_nil]; exact HM4.out, Nat.le_refl _, HO4.out, HB4.out⟩
  case round =>
    obtain ⟨k, q, hk, rfl, hM, hq, hown, hbr⟩ := hrel
    rename World => wo
    have HMo := hide hM
    have HO := hide hown
    have HB := hide hbr
    have hsz := hbr.size
    clear HM4 HO4 HB4 hM hbr
    by_cases hlt : k < 71
    · have hkI : (k : Int) < 71 := by omega
      have hvl : k < cnL.length := by rw [cn_len]; exact hlt
      obtain ⟨b5, o5, hA5, hb5, hc5⟩ := (StrRow.of_own hown cn_len).get1 hvl
      have hx : StrAt wo b5 (o5 + k) cnL[k] := hc5
      subst hA5
      have c0 := hx
      unfold StrAt strV at c0
      have Ht := hide (show vocL ++ cnL.take (k + 1) = (vocL ++ cnL.take k) ++ [cnL[k]] by rw [List.take_succ_eq_append_getElem hvl, List.append_assoc])
      have hml := res_len _ (List.getElem_mem hvl)
      obtain ⟨X, hX⟩ : ∃ X, cnL[k] = X := ⟨_, rfl⟩
      rw [hX] at c0 Ht hml
      have Hkey := hide (skey X (by omega))
      obtain ⟨S, hS⟩ : ∃ S : ByteArray, (⟨X.toArray⟩ : ByteArray) = S := ⟨_, rfl⟩
      rw [hS] at c0 Hkey
      clear hown hS hX hx hc5
      go_wp2_with (first
        | (at_mapUpdate; refine wpList_mapUpdate_own _ rfl _ _ _ 63 rfl 9 4 (string_keyed Tryz.underlying9) Tryz.underlying63 _ b q _ rfl HMo.out (by unfold maxLen; omega) _ _ _ rfl rfl Hkey.out _ [] (plainElem_bool Tryz.underlying4 true) ?_; intro w6 hown6 hg6; have HM6 := hide hown6; have HG6 := hide hg6; clear hown6 hg6)
        | fail)
      go_roundw
      case rel =>
        have o6 := HO.out.kept HG6.out (.inr (Ne.symm (map_ne_row HMo.out HO.out)))
        exact ⟨k + 1, q + 1, by omega, by go_num, by unfold SetAt; rw [Ht.out, setD_snoc]; exact HM6.out, by omega, o6, HB.out.grown HG6.out hsz (fun j hj => by cases hj; exact hb0)⟩
      case measure => simp [intOf]; omega
    · obtain rfl : k = 71 := by omega
      have hfin : vocL ++ cnL.take 71 = resL := by rw [List.take_of_length_le (by rw [cn_len]; exact Nat.le_refl _), Hres.out]
      rw [hfin] at HMo
      go_wp2
      go_ret
      exact ⟨b, q, rfl, hb0, HMo.out, (show q ≤ 103 by omega), HB.out⟩
set_option maxRecDepth 100000 in
set_option maxHeartbeats 1000000 in
theorem reservedWP (w : World) (hS : Spc w) (X : Wd) (hX : X.length ≤ 1000000) : Calls Tryz.prog 104 #[.string ⟨X.toArray⟩] w fun e w' => e = .returned (.bool (isRes X)) ∧ Below w.heap.size w w' := by
  have HR := hide (reservedP w hS)
  have Hkey := hide (skey X hX)
  have Hat := hide (setD_at X resL)
  obtain ⟨S, hSB⟩ : ∃ S : ByteArray, (⟨X.toArray⟩ : ByteArray) = S := ⟨_, rfl⟩
  rw [hSB] at Hkey ⊢
  obtain ⟨R, hR⟩ : ∃ R, isRes X = R := ⟨_, rfl⟩
  have HRR := hide (show resL.contains X = R from hR)
  rw [hR]
  clear hS hSB hR
  go_enter Tryz.func104, Tryz.ntmps104
  go_wp2_with (first
    | (go_at_call 36; refine HR.out.mono ?_; rintro e w2 ⟨b, n, rfl, -, hM, -, hb2⟩; have HM := hide hM; clear hM)
    | (at_lookup; refine wpList_lookup_own_bool _ rfl _ _ 63 rfl 9 4 (string_keyed Tryz.underlying9) Tryz.underlying63 Tryz.underlying4 (by kernel_rfl) b n (setD resL) rfl HM.out _ _ rfl Hkey.out R (by rw [Hat.out, HRR.out]) ?_)
    | fail)
  go_ret
  exact ⟨rfl, hb2⟩
end Go.Proofs.YtdkppdjonlldhaaGreatDoor

/- spokentext.Check, kind, count. -/
namespace Go.Proofs.YtdkppdjonlldhaaGreatDoor
open Go.RowKit Go.Maps Go.Shelf

/-- The settings. -/
structure SetV where
  rate : Int
  sd : Bool
  sp : Bool
  rep : Int
  con : Bool
  cells : Int
def SetV.val (s : SetV) : Value := .agg #[.int .i64 s.rate, .bool s.sd, .bool s.sp, .int .i64 s.rep, .bool s.con, .int .i64 s.cells]
def SetV.stg (s : SetV) : Stg := ⟨s.sd, s.sp, s.rep⟩
def setErr (s : SetV) : Int := if (s.rate < 25 ∨ 400 < s.rate) ∨ (s.rep ≠ 0 ∧ (s.rep < 2 ∨ 132 < s.rep)) ∨ (s.cells < 1 ∨ 80 < s.cells) then 2 else 0
set_option maxRecDepth 100000 in
set_option maxHeartbeats 2000000 in
theorem checkSP (w : World) (s : SetV) : Calls Tryz.prog 7 #[s.val] w fun e w' => e = .returned (.int .i64 (setErr s)) ∧ Below w.heap.size w w' := by
  obtain ⟨ra, sd, sp, re, co, ce⟩ := s
  unfold SetV.val
  dsimp only
  have hb := (Below.refl w.heap.size w).alloc (Nat.le_refl _) (.cells #[.int .i64 ra, .bool sd, .bool sp, .int .i64 re, .bool co, .int .i64 ce] 26)
  obtain ⟨R, hR⟩ : ∃ R, setErr ⟨ra, sd, sp, re, co, ce⟩ = R := ⟨_, rfl⟩
  rw [hR]
  unfold setErr at hR
  dsimp only at hR
  by_cases h1 : ra < 25 ∨ 400 < ra
  · rw [if_pos (.inl h1)] at hR
    subst hR
    rcases h1 with h1 | h1
    · have d1 : decide (ra < 25) = true := decide_eq_true h1
      go_enter Tryz.func7, Tryz.ntmps7
      go_wp2
      go_ret
      exact ⟨rfl, hb⟩
    · have d1 : decide (ra < 25) = false := decide_eq_false (by omega)
      have d2 : decide ((400 : Int) < ra) = true := decide_eq_true h1
      go_enter Tryz.func7, Tryz.ntmps7
      go_wp2
      go_ret
      exact ⟨rfl, hb⟩
  have d1 : decide (ra < 25) = false := decide_eq_false (by omega)
  have d2 : decide ((400 : Int) < ra) = false := decide_eq_false (by omega)
  by_cases h2 : re ≠ 0 ∧ (re < 2 ∨ 132 < re)
  · rw [if_pos (.inr (.inl h2))] at hR
    subst hR
    have d3 : (re == 0) = false := beq_eq_false_iff_ne.2 h2.1
    rcases h2.2 with h3 | h3
    · have d4 : decide (re < 2) = true := decide_eq_true h3
      go_enter Tryz.func7, Tryz.ntmps7
      go_wp2
      go_ret
      exact ⟨rfl, hb⟩
    · have d4 : decide (re < 2) = false := decide_eq_false (by omega)
      have d5 : decide ((132 : Int) < re) = true := decide_eq_true h3
      go_enter Tryz.func7, Tryz.ntmps7
      go_wp2
      go_ret
      exact ⟨rfl, hb⟩
  have rest : ∀ (_ : (re = 0) ∨ (¬ re < 2 ∧ ¬ 132 < re)), True := fun _ => trivial
  clear rest
  have h2' : re = 0 ∨ (re ≠ 0 ∧ ¬ re < 2 ∧ ¬ 132 < re) := by omega
  by_cases h3 : ce < 1 ∨ 80 < ce
  · rw [if_pos (.inr (.inr h3))] at hR
    subst hR
    rcases h2' with h4 | h4 <;> rcases h3 with h5 | h5
    · subst h4
      have d6 : decide (ce < 1) = true := decide_eq_true h5
      go_enter Tryz.func7, Tryz.ntmps7
      go_wp2
      go_ret
      exact ⟨rfl, hb⟩
    · subst h4
      have d6 : decide (ce < 1) = false := decide_eq_false (by omega)
      have d7 : decide ((80 : Int) < ce) = true := decide_eq_true h5
      go_enter Tryz.func7, Tryz.ntmps7
      go_wp2
      go_ret
      exact ⟨rfl, hb⟩
    · have d3 : (re == 0) = false := beq_eq_false_iff_ne.2 h4.1
      have d4 : decide (re < 2) = false := decide_eq_false h4.2.1
      have d5 : decide ((132 : Int) < re) = false := decide_eq_false h4.2.2
      have d6 : decide (ce < 1) = true := decide_eq_true h5
      go_enter Tryz.func7, Tryz.ntmps7
      go_wp2
      go_ret
      exact ⟨rfl, hb⟩
    · have d3 : (re == 0) = false := beq_eq_false_iff_ne.2 h4.1
      have d4 : decide (re < 2) = false := decide_eq_false h4.2.1
      have d5 : decide ((132 : Int) < re) = false := decide_eq_false h4.2.2
      have d6 : decide (ce < 1) = false := decide_eq_false (by omega)
      have d7 : decide ((80 : Int) < ce) = true := decide_eq_true h5
      go_enter Tryz.func7, Tryz.ntmps7
      go_wp2
      go_ret
      exact ⟨rfl, hb⟩
  · rw [if_neg (by omega)] at hR
    subst hR
    have d6 : decide (ce < 1) = false := decide_eq_false (by omega)
    have d7 : decide ((80 : Int) < ce) = false := decide_eq_false (by omega)
    rcases h2' with h4 | h4
    · subst h4
      go_enter Tryz.func7, Tryz.ntmps7
      go_wp2
      go_ret
      exact ⟨rfl, hb⟩
    · have d3 : (re == 0) = false := beq_eq_false_iff_ne.2 h4.1
      have d4 : decide (re < 2) = false := decide_eq_false h4.2.1
      have d5 : decide ((132 : Int) < re) = false := decide_eq_false h4.2.2
      go_enter Tryz.func7, Tryz.ntmps7
      go_wp2
      go_ret
      exact ⟨rfl, hb⟩
theorem kindB_long {t : List UInt8} (h : t.length ≠ 1) : kindB t = 0 := by
  match t, h with
  | [], _ => rfl
  | [_], h => exact absurd rfl h
  | _ :: _ :: _, _ => rfl
set_option maxRecDepth 100000 in
set_option maxHeartbeats 2000000 in
theorem kindP (w : World) (g : Gl) (hs : g.text.size ≤ 1000000) : Calls Tryz.prog 51 #[g.val] w fun e w' => e = .returned (.int .i64 (kindG g)) ∧ Below w.heap.size w w' := by
  obtain ⟨T, wd, st⟩ := g
  unfold Gl.val
  dsimp only at hs ⊢
  have hb := (Below.refl w.heap.size w).alloc (Nat.le_refl _) (.cells #[.string T, .bool wd, .int .i64 st] 42)
  unfold kindG
  dsimp only
  have hsz : T.data.toList.length = T.size := rfl
  by_cases h1 : T.size = 1
  · obtain ⟨c, hc⟩ := List.length_eq_one_iff.1 (hsz.trans h1)
    have q1 : ((T.size : Int) != 1) = false := by rw [h1]; rfl
    have hix : ∀ W : World, (Instr.index 9 (.string T) (.int .i64 0)).run Tryz.prog W = .ok (.int .u8 (c.toNat : Int)) W := fun W => by
      rw [run_index_string (P := Tryz.prog) (w := W) 9 T .i64 0 Tryz.underlying9, dif_pos ⟨by omega, by omega⟩]
      have : T[(0 : Int).toNat]'(by show 0 < T.size; omega) = c := by
        show T.data[0]'_ = c
        have h2 : T.data.toList[0]? = some c := by rw [hc]; rfl
        have h3 := (List.getElem?_eq_some_iff.1 h2).2
        simpa using h3
      rw [this]
    rw [hc]
    obtain ⟨K, hK⟩ : ∃ K, kindB [c] = K := ⟨_, rfl⟩
    rw [hK]
    unfold kindB at hK
    dsimp only at hK
    obtain ⟨n, hn⟩ : ∃ n, c.toNat = n := ⟨_, rfl⟩
    have hn2 : n < 256 := by rw [← hn]; exact UInt8.toNat_lt c
    rw [hn] at hK hix
    have hT1 : T.size ≠ 0 := by omega
    clear hc hn hsz hs
    have hways : (123 ≤ n) ∨ (97 ≤ n ∧ n ≤ 122) ∨ (91 ≤ n ∧ n ≤ 96) ∨ (65 ≤ n ∧ n ≤ 90) ∨ (58 ≤ n ∧ n ≤ 64) ∨ (48 ≤ n ∧ n ≤ 57) ∨ (n ≤ 47) := by omega
    rcases hways with a | a | a | a | a | a | a
    · obtain rfl : K = 0 := by rw [← hK]; repeat' (first | rw [if_pos (by omega)] | rw [if_neg (by omega)])
      have e0 : decide ((97 : Int) ≤ (n : Int)) = true := decide_eq_true (by omega)
      have e1 : decide ((n : Int) ≤ 122) = false := decide_eq_false (by omega)
      have e2 : decide ((65 : Int) ≤ (n : Int)) = true := decide_eq_true (by omega)
      have e3 : decide ((n : Int) ≤ 90) = false := decide_eq_false (by omega)
      have e4 : decide ((48 : Int) ≤ (n : Int)) = true := decide_eq_true (by omega)
      have e5 : decide ((n : Int) ≤ 57) = false := decide_eq_false (by omega)
      clear hK
      go_enter Tryz.func51, Tryz.ntmps51
      go_wp2
      go_ret
      exact ⟨rfl, hb⟩
    · obtain rfl : K = 1 := by rw [← hK]; repeat' (first | rw [if_pos (by omega)] | rw [if_neg (by omega)])
      have e0 : decide ((97 : Int) ≤ (n : Int)) = true := decide_eq_true (by omega)
      have e1 : decide ((n : Int) ≤ 122) = true := decide_eq_true (by omega)
      have e2 : decide ((65 : Int) ≤ (n : Int)) = true := decide_eq_true (by omega)
      have e3 : decide ((n : Int) ≤ 90) = false := decide_eq_false (by omega)
      have e4 : decide ((48 : Int) ≤ (n : Int)) = true := decide_eq_true (by omega)
      have e5 : decide ((n : Int) ≤ 57) = false := decide_eq_false (by omega)
      clear hK
      go_enter Tryz.func51, Tryz.ntmps51
      go_wp2
      go_ret
      exact ⟨rfl, hb⟩
    · obtain rfl : K = 0 := by rw [← hK]; repeat' (first | rw [if_pos (by omega)] | rw [if_neg (by omega)])
      have e0 : decide ((97 : Int) ≤ (n : Int)) = false := decide_eq_false (by omega)
      have e1 : decide ((n : Int) ≤ 122) = true := decide_eq_true (by omega)
      have e2 : decide ((65 : Int) ≤ (n : Int)) = true := decide_eq_true (by omega)
      have e3 : decide ((n : Int) ≤ 90) = false := decide_eq_false (by omega)
      have e4 : decide ((48 : Int) ≤ (n : Int)) = true := decide_eq_true (by omega)
      have e5 : decide ((n : Int) ≤ 57) = false := decide_eq_false (by omega)
      clear hK
      go_enter Tryz.func51, Tryz.ntmps51
      go_wp2
      go_ret
      exact ⟨rfl, hb⟩
    · obtain rfl : K = 2 := by rw [← hK]; repeat' (first | rw [if_pos (by omega)] | rw [if_neg (by omega)])
      have e0 : decide ((97 : Int) ≤ (n : Int)) = false := decide_eq_false (by omega)
      have e1 : decide ((n : Int) ≤ 122) = true := decide_eq_true (by omega)
      have e2 : decide ((65 : Int) ≤ (n : Int)) = true := decide_eq_true (by omega)
      have e3 : decide ((n : Int) ≤ 90) = true := decide_eq_true (by omega)
      have e4 : decide ((48 : Int) ≤ (n : Int)) = true := decide_eq_true (by omega)
      have e5 : decide ((n : Int) ≤ 57) = false := decide_eq_false (by omega)
      clear hK
      go_enter Tryz.func51, Tryz.ntmps51
      go_wp2
      go_ret
      exact ⟨rfl, hb⟩
    · obtain rfl : K = 0 := by rw [← hK]; repeat' (first | rw [if_pos (by omega)] | rw [if_neg (by omega)])
      have e0 : decide ((97 : Int) ≤ (n : Int)) = false := decide_eq_false (by omega)
      have e1 : decide ((n : Int) ≤ 122) = true := decide_eq_true (by omega)
      have e2 : decide ((65 : Int) ≤ (n : Int)) = false := decide_eq_false (by omega)
      have e3 : decide ((n : Int) ≤ 90) = true := decide_eq_true (by omega)
      have e4 : decide ((48 : Int) ≤ (n : Int)) = true := decide_eq_true (by omega)
      have e5 : decide ((n : Int) ≤ 57) = false := decide_eq_false (by omega)
      clear hK
      go_enter Tryz.func51, Tryz.ntmps51
      go_wp2
      go_ret
      exact ⟨rfl, hb⟩
    · obtain rfl : K = 3 := by rw [← hK]; repeat' (first | rw [if_pos (by omega)] | rw [if_neg (by omega)])
      have e0 : decide ((97 : Int) ≤ (n : Int)) = false := decide_eq_false (by omega)
      have e1 : decide ((n : Int) ≤ 122) = true := decide_eq_true (by omega)
      have e2 : decide ((65 : Int) ≤ (n : Int)) = false := decide_eq_false (by omega)
      have e3 : decide ((n : Int) ≤ 90) = true := decide_eq_true (by omega)
      have e4 : decide ((48 : Int) ≤ (n : Int)) = true := decide_eq_true (by omega)
      have e5 : decide ((n : Int) ≤ 57) = true := decide_eq_true (by omega)
      clear hK
      go_enter Tryz.func51, Tryz.ntmps51
      go_wp2
      go_ret
      exact ⟨rfl, hb⟩
    · obtain rfl : K = 0 := by rw [← hK]; repeat' (first | rw [if_pos (by omega)] | rw [if_neg (by omega)])
      have e0 : decide ((97 : Int) ≤ (n : Int)) = false := decide_eq_false (by omega)
      have e1 : decide ((n : Int) ≤ 122) = true := decide_eq_true (by omega)
      have e2 : decide ((65 : Int) ≤ (n : Int)) = false := decide_eq_false (by omega)
      have e3 : decide ((n : Int) ≤ 90) = true := decide_eq_true (by omega)
      have e4 : decide ((48 : Int) ≤ (n : Int)) = false := decide_eq_false (by omega)
      have e5 : decide ((n : Int) ≤ 57) = true := decide_eq_true (by omega)
      clear hK
      go_enter Tryz.func51, Tryz.ntmps51
      go_wp2
      go_ret
      exact ⟨rfl, hb⟩
  · have q1 : ((T.size : Int) != 1) = true := by rw [bne_iff_ne]; omega
    rw [kindB_long (by rw [hsz]; exact h1)]
    clear hsz
    go_enter Tryz.func51, Tryz.ntmps51
    go_wp2
    go_ret
    exact ⟨rfl, hb⟩
theorem countF_step {l : List Gl} {k st : Int} (j : Nat) (hj : j < l.length) : (kindG l[j] = k ∧ l[j].style = st → (l.drop j).takeWhile (fun g => kindG g == k && g.style == st) = l[j] :: (l.drop (j + 1)).takeWhile (fun g => kindG g == k && g.style == st)) ∧ (¬ (kindG l[j] = k ∧ l[j].style = st) → (l.drop j).takeWhile (fun g => kindG g == k && g.style == st) = []) := by
  rw [List.drop_eq_getElem_cons hj, List.takeWhile_cons]
  refine ⟨fun h => ?_, fun h => ?_⟩
  · rw [if_pos (by simp [h.1, h.2])]
  · rw [if_neg]
    simp only [Bool.and_eq_true, beq_iff_eq]
    exact h
set_option maxRecDepth 100000 in
set_option maxHeartbeats 2000000 in
theorem countP (w : World) (A : Option Addr) (n c : Nat) (l : List Gl) (hl : l.length = n) (hn : n ≤ 1000000) (hrow : GlRow w w.heap.size A l) (hsz : ∀ g ∈ l, g.text.size ≤ 1000000) (k st : Int) :
    Calls Tryz.prog 52 #[.slice A n c, .int .i64 k, .int .i64 st] w fun e w' => e = .returned (.int .i64 (countF l k st : Nat)) ∧ Below w.heap.size w w' := by
  have HR := hide hrow
  have Hl := hide hl
  have HK := hide (fun (w : World) (g : Gl) (h : g ∈ l) => kindP w g (hsz g h))
  have hb0 := Below.refl w.heap.size w
  obtain ⟨R, hR⟩ : ∃ R, countF l k st = R := ⟨_, rfl⟩
  rw [hR]
  unfold countF at hR
  have HR0 := hide hR
  clear hrow hl hsz hR
  go_enter Tryz.func52, Tryz.ntmps52
  go_wp2
  go_loopw [7] (fun i wr => ∃ j : Nat, j ≤ n ∧ i = .int .i64 j ∧ j + ((l.drop j).takeWhile fun g => kindG g == k && g.style == st).length = R ∧ Below w.heap.size w wr) (fun i _ => n - (intOf i).toNat)
  case atStart => exact ⟨0, Nat.zero_le _, rfl, by rw [List.drop_zero, Nat.zero_add]; exact HR0.out, hb0⟩
  case round =>
    obtain ⟨j, hj, rfl, hr, hbr⟩ := hrel
    rename World => wo
    have HB := hide hbr
    have Hr := hide hr
    have hszw := hbr.size
    clear hr hbr HR0
    by_cases hlt : j < n
    · have hjI : (j : Int) < (n : Int) := by omega
      have hjl : j < l.length := by rw [Hl.out]; exact hlt
      obtain ⟨s1, s2⟩ := countF_step (k := k) (st := st) j hjl
      obtain ⟨b, off, rfl, hbb, x0, x1, x2⟩ := HR.out.get hjl
      have y0 := (HB.out.cell (p := ⟨b, off + j * 3, none⟩) hbb).trans x0
      have y1 := (HB.out.cell (p := ⟨b, off + j * 3 + 1, none⟩) hbb).trans x1
      have y2 := (HB.out.cell (p := ⟨b, off + j * 3 + 2, none⟩) hbb).trans x2
      have hk := HK.out wo l[j] (List.getElem_mem hjl)
      obtain ⟨g, hg⟩ : ∃ g, l[j] = g := ⟨_, rfl⟩
      rw [hg] at s1 s2 y0 y1 y2 hk
      obtain ⟨T, wd, sy⟩ := g
      have HKj := hide hk
      obtain ⟨K, hK⟩ : ∃ K, kindG ⟨T, wd, sy⟩ = K := ⟨_, rfl⟩
      rw [hK] at s1 s2
      have HKK := hide hK
      have HS1 := hide s1
      have HS2 := hide s2
      unfold Gl.val at HKj
      dsimp only at y0 y1 y2 HKj
      clear s1 s2 x0 x1 x2 hk hg hK
      by_cases hk1 : K = k
      · have q1 : (K == k) = true := by rw [hk1]; simp
        by_cases hs1 : sy = st
        · have q2 : (sy == st) = true := by rw [hs1]; simp
          have H3 := hide (show j + 1 + ((l.drop (j + 1)).takeWhile fun g => kindG g == k && g.style == st).length = R by
            have h := Hr.out
            rw [HS1.out ⟨hk1, hs1⟩, List.length_cons] at h
            omega)
          clear hk1 hs1
          go_wp2_with (first
            | (go_at_call 51; refine HKj.out.mono ?_; rintro e w2 ⟨rfl, hb2⟩; rw [HKK.out]; have z3 := (hb2.cell (p := ⟨b, off + j * 3 + 2, none⟩) (Nat.lt_of_lt_of_le hbb hszw)).trans y2)
            | fail)
          go_roundw
          case rel => exact ⟨j + 1, by omega, by go_num, H3.out, HB.out.trans (hb2.mono hszw)⟩
          case measure => simp [intOf]; omega
        · have q2 : (sy == st) = false := beq_eq_false_iff_ne.2 hs1
          have H3 := hide (show j = R by
            have h := Hr.out
            rw [HS2.out (fun h => hs1 h.2)] at h
            simpa using h)
          clear hk1 hs1
          go_wp2_with (first
            | (go_at_call 51; refine HKj.out.mono ?_; rintro e w2 ⟨rfl, hb2⟩; rw [HKK.out]; have z3 := (hb2.cell (p := ⟨b, off + j * 3 + 2, none⟩) (Nat.lt_of_lt_of_le hbb hszw)).trans y2)
            | fail)
          go_ret
          exact ⟨by rw [H3.out]; rfl, HB.out.trans (hb2.mono hszw)⟩
      · have q1 : (K == k) = false := beq_eq_false_iff_ne.2 hk1
        have H3 := hide (show j = R by
          have h := Hr.out
          rw [HS2.out (fun h => hk1 h.1)] at h
          simpa using h)
        clear hk1
        go_wp2_with (first
          | (go_at_call 51; refine HKj.out.mono ?_; rintro e w2 ⟨rfl, hb2⟩; rw [HKK.out])
          | fail)
        go_ret
        exact ⟨by rw [H3.out]; rfl, HB.out.trans (hb2.mono hszw)⟩
    · obtain rfl : j = n := by omega
      have H3 := hide (show j = R by
        have h := Hr.out
        rw [List.drop_of_length_le (by rw [Hl.out]; exact Nat.le_refl _)] at h
        simpa using h)
      go_wp2
      go_ret
      exact ⟨by rw [H3.out]; rfl, HB.out⟩
end Go.Proofs.YtdkppdjonlldhaaGreatDoor
