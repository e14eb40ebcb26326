/- Joined: SP25, SP26. -/
import Derived.Test.YtdkppdjonlldhaaGreatDoorJ7
/- spokentext.spoken. -/
namespace Go.Proofs.YtdkppdjonlldhaaGreatDoor
open Go.RowKit Go.Maps Go.Shelf

theorem row_three {w : World} {g : Nat} {A1 A2 A3 : Option Addr} {n1 c1 n2 c2 n3 c3 : Nat} {l1 l2 l3 : List Wd} (h : w.heap[g]? = some (.cells #[.slice A1 n1 c1, .slice A2 n2 c2, .slice A3 n3 c3] 51 (0, 0))) (e1 : l1.length = n1) (e2 : l2.length = n2) (e3 : l3.length = n3) (h1 : StrRow w w.heap.size A1 l1) (h2 : StrRow w w.heap.size A2 l2) (h3 : StrRow w w.heap.size A3 l3) :
    Sl (SRowAt w.heap.size) 1 w w.heap.size (some ⟨g, 0, none⟩) [l1, l2, l3] := fun _ => by
  refine ⟨g, 0, rfl, block_lt h, fun k x hx => ?_⟩
  match k, hx with
  | 0, hx => cases hx; exact ⟨A1, c1, by rw [e1]; exact cell_block h 0, h1⟩
  | 1, hx => cases hx; exact ⟨A2, c2, by rw [e2]; exact cell_block h 1, h2⟩
  | 2, hx => cases hx; exact ⟨A3, c3, by rw [e3]; exact cell_block h 2, h3⟩
  | k + 3, hx => simp at hx
theorem litW_row {w : World} {g : Nat} {x : Wd} (h : w.heap[g]? = some (.cells #[strV x] 9 (0, 0))) : StrRow w w.heap.size (some ⟨g, 0, none⟩) [x] := fun _ => by
  refine ⟨g, 0, rfl, block_lt h, fun k y hy => ?_⟩
  match k, hy with
  | 0, hy => cases hy; exact cell_block h 0
  | k + 1, hy => simp at hy
theorem concat3P (w : World) (A1 : Option Addr) (n1 c1 : Nat) (l1 : List Wd) (e1 : l1.length = n1) (h1 : StrRow w w.heap.size A1 l1) (gL : Nat) (x : Wd) (hx : w.heap[gL]? = some (.cells #[strV x] 9 (0, 0))) (A3 : Option Addr) (n3 c3 : Nat) (l3 : List Wd) (e3 : l3.length = n3) (h3 : StrRow w w.heap.size A3 l3) (hlen : l1.length + l3.length ≤ 999999) (M : Nat) (hM : (l1 ++ x :: l3).length = M) :
    Calls Tryz.prog 55 #[.slice (some ⟨w.heap.size, 0, none⟩) 3 3] (w.alloc (.cells #[.slice A1 n1 c1, .slice (some ⟨gL, 0, none⟩) 1 1, .slice A3 n3 c3] 51)) fun e w' => ∃ v, e = .returned v ∧ w'.ownsRow w.heap.size 9 1 v M ((l1 ++ x :: l3).map strV) ∧ Below w.heap.size w w' := by
  have ha := (Below.refl w.heap.size w).alloc (Nat.le_refl _) (.cells #[.slice A1 n1 c1, .slice (some ⟨gL, 0, none⟩) 1 1, .slice A3 n3 c3] 51)
  have hr := row_three (block_new w (.cells #[.slice A1 n1 c1, .slice (some ⟨gL, 0, none⟩) 1 1, .slice A3 n3 c3] 51)) e1 (l2 := [x]) rfl e3 ((h1.below (StrAt.stays _) ha).more ha.size) (((litW_row hx).below (StrAt.stays _) ha).more ha.size) ((h3.below (StrAt.stays _) ha).more ha.size)
  subst hM
  refine (concatP _ _ 3 3 [l1, [x], l3] rfl (by decide) hr (by simp; omega)).mono ?_
  rintro e w' ⟨v, rfl, hown, hb⟩
  exact ⟨v, rfl, own_more (own_eq hown (by simp) (by simp)) (by simp), ha.trans (hb.mono (by simp))⟩
theorem lit_step {B : Nat} {a W : World} (_ : Below B a W) (cs : Array Value) (t : TypeId) : ∃ w9, W.alloc (.cells cs t) = w9 ∧ Below W.heap.size W w9 ∧ w9.heap[W.heap.size]? = some (.cells cs t (0, 0)) := ⟨_, rfl, (Below.refl _ _).alloc (Nat.le_refl _) _, block_new W _⟩
theorem catL_take (l : List Gl) (k : Nat) (hk : k < l.length) : catL (l.take (k + 1)) = catL (l.take k) ++ l[k].text.data.toList := flatMap_take _ l k hk
theorem catL_le (l : List Gl) (k : Nat) : (catL (l.take k)).length ≤ (catL l).length := by
  conv => rhs; rw [← List.take_append_drop k l]
  unfold catL
  rw [List.flatMap_append, List.length_append]; omega
theorem ba_append (a b : ByteArray) : (a ++ b).data.toList = a.data.toList ++ b.data.toList := by simp
theorem spokenF_eq (s : Stg) (g : Gl) (l : List Gl) : spokenF s (g :: l) = if kindG g = 1 ∨ kindG g = 2 then lettersF s.sp (catL (g :: l)) else if kindG g = 3 then digitsF s.sd (catL (g :: l)) else if l = [] then singleF g else numW (l.length + 1) ++ (timesW :: singleF g) := rfl
theorem singleF_len (g : Gl) (h : g.text.size ≤ 60000) : (singleF g).length ≤ 900000 := by
  unfold singleF
  split
  · simp
  · have h1 := spell_flat (runesD g.text.data.toList)
    have h2 := runesD_len g.text.data.toList
    rw [← Lib.size_eq] at h2
    omega
set_option maxRecDepth 100000 in
set_option maxHeartbeats 2000000 in
theorem spokenP (w : World) (hS : Spc w) (A : Option Addr) (n c : Nat) (g : Gl) (l : List Gl) (hl : l.length + 1 = n) (hn : n ≤ 1000000) (hrow : GlRow w w.heap.size A (g :: l)) (hG : GoodText g) (h6 : g.text.size ≤ 60000) (hsum : (catL (g :: l)).length ≤ 1000000)
    (hlet : kindG g = 1 ∨ kindG g = 2 → ∀ b ∈ catL (g :: l), b.toNat < 128) (hdig : kindG g = 3 → ∀ b ∈ catL (g :: l), 48 ≤ b.toNat ∧ b.toNat ≤ 57) (s : SetV) :
    Calls Tryz.prog 54 #[.slice A n c, s.val] w (SmallRet w (spokenF s.stg (g :: l))) := by
  obtain ⟨b, off, rfl, hbb, x0, x1, x2⟩ := hrow.get (k := 0) (by simp)
  obtain ⟨T, wd, sy⟩ := g
  simp only [List.getElem_cons_zero, Nat.zero_mul, Nat.add_zero] at x0 x1 x2
  obtain ⟨ra, sd, sp, re, co, ce⟩ := s
  unfold SetV.val SetV.stg
  dsimp only
  have HL := hide (fun W h T hT ha => lettersP W h T hT ha ⟨ra, sd, sp, re, co, ce⟩)
  have HD := hide (fun W T hT hd => digitsP W T hT hd ⟨ra, sd, sp, re, co, ce⟩)
  unfold SetV.val at HL HD
  dsimp only at HL HD
  have HK := hide (fun (W : World) => kindP W ⟨T, wd, sy⟩ hG.1)
  have HSg := hide (fun (W : World) (h : Spc W) => singleP W h ⟨T, wd, sy⟩ hG)
  have HNu := hide numberWP
  unfold Gl.val at HK HSg
  dsimp only at HK HSg
  have HC := hide concat3P
  have Hslen := hide (singleF_len ⟨T, wd, sy⟩ h6)
  have HF := hide (spokenF_eq ⟨sd, sp, re⟩ ⟨T, wd, sy⟩ l)
  obtain ⟨RF, hRF⟩ : ∃ RF, spokenF ⟨sd, sp, re⟩ (⟨T, wd, sy⟩ :: l) = RF := ⟨_, rfl⟩
  rw [hRF] at HF ⊢
  have Hrow := hide hrow
  have Hl := hide hl
  have HSum := hide hsum
  have HLet := hide hlet
  have HDig := hide hdig
  have Hle := hide (catL_le (⟨T, wd, sy⟩ :: l))
  have HTk := hide (fun k => catL_take (⟨T, wd, sy⟩ :: l) k)
  have hb1 := hide (((Below.refl w.heap.size w).alloc (Nat.le_refl _) (.cells #[.int .i64 ra, .bool sd, .bool sp, .int .i64 re, .bool co, .int .i64 ce] 26)))
  have HSp := hide (fun (W : World) (h : Below (w.heap.size + 1) (w.alloc (.cells #[.int .i64 ra, .bool sd, .bool sp, .int .i64 re, .bool co, .int .i64 ce] 26)) W) => hS.below (hb1.out.trans (h.mono (Nat.le_succ _))))
  have Hblk := hide (fun (W : World) (h : Below (w.heap.size + 1) (w.alloc (.cells #[.int .i64 ra, .bool sd, .bool sp, .int .i64 re, .bool co, .int .i64 ce] 26)) W) => (h.block w.heap.size (by omega)).trans (block_new w (.cells #[.int .i64 ra, .bool sd, .bool sp, .int .i64 re, .bool co, .int .i64 ce] 26)))
  clear hRF hS hG hrow hl hsum hlet hdig h6
  go_enter Tryz.func54, Tryz.ntmps54
  go_wp2
  go_loopw [5, 10] (fun t i wr => ∃ (k : Nat) (SK : ByteArray), k ≤ n ∧ i = .int .i64 k ∧ t = .string SK ∧ SK.data.toList = catL ((⟨T, wd, sy⟩ :: l).take k) ∧ Below (w.heap.size + 1) (w.alloc (.cells #[.int .i64 ra, .bool sd, .bool sp, .int .i64 re, .bool co, .int .i64 ce] 26)) wr) (fun _ i _ => n - (intOf i).toNat)
  case atStart => exact ⟨0, ⟨#[]⟩, Nat.zero_le _, rfl, rfl, rfl, by have := Below.refl (w.heap.size + 1) (w.alloc (.cells #[.int .i64 ra, .bool sd, .bool sp, .int .i64 re, .bool co, .int .i64 ce] 26)); exact this⟩
  case round =>
    obtain ⟨k, SK, hk, rfl, rfl, hSK, hbr⟩ := hrel
    rename World => wo
    have HB := hide hbr
    have HSK := hide hSK
    have hszo := hbr.size
    rw [World.size_alloc] at hszo
    have hle := Hle.out k
    rw [← hSK, ← Lib.size_eq] at hle
    have hsm := HSum.out
    clear hbr hSK
    by_cases hlt : k < n
    · have hkI : (k : Int) < (n : Int) := by omega
      have hkl : k < (⟨T, wd, sy⟩ :: l).length := by rw [List.length_cons, Hl.out]; exact hlt
      obtain ⟨b', off', he, -, z0, z1, z2⟩ := Hrow.out.get hkl
      cases he
      have Hn := hide (HTk.out k hkl)
      have hle2 := Hle.out (k + 1)
      rw [Hn.out, List.length_append] at hle2
      obtain ⟨X, hX⟩ : ∃ X, (⟨T, wd, sy⟩ :: l)[k] = X := ⟨_, rfl⟩
      rw [hX] at z0 z1 z2 Hn hle2
      obtain ⟨T2, wd2, sy2⟩ := X
      dsimp only at z0 z1 z2 hle2
      have y0 := ((hb1.out.trans (HB.out.mono (Nat.le_succ _))).cell (p := ⟨b, off + k * 3, none⟩) hbb).trans z0
      have y1 := ((hb1.out.trans (HB.out.mono (Nat.le_succ _))).cell (p := ⟨b, off + k * 3 + 1, none⟩) hbb).trans z1
      have y2 := ((hb1.out.trans (HB.out.mono (Nat.le_succ _))).cell (p := ⟨b, off + k * 3 + 2, none⟩) hbb).trans z2
      rw [← Lib.size_eq] at hle2
      have hsz2 : SK.size + T2.size ≤ 9223372036854775807 := by
        have := HSK.out
        rw [← this, ← Lib.size_eq] at hle2
        omega
      clear hX z0 z1 z2 hle hle2
      go_wp2
      go_roundw
      case rel => exact ⟨k + 1, SK ++ T2, by omega, by go_num, rfl, by rw [Hn.out, ba_append, HSK.out], HB.out.alloc (by omega) _⟩
      case measure => simp [intOf]; omega
    · obtain rfl : k = n := by omega
      have hTn : (⟨T, wd, sy⟩ :: l : List Gl).take k = ⟨T, wd, sy⟩ :: l := List.take_of_length_le (by rw [List.length_cons, Hl.out]; exact Nat.le_refl _)
      have hSK := HSK.out
      rw [hTn] at hSK
      have hSs : SK.size ≤ 1000000 := by rw [Lib.size_eq, hSK]; exact hsm
      rw [← hSK] at hsm
      have hLe := HLet.out
      have hDi := HDig.out
      have hF := HF.out
      rw [← hSK] at hLe hDi hF
      obtain ⟨K, hK⟩ : ∃ K, kindG ⟨T, wd, sy⟩ = K := ⟨_, rfl⟩
      have hKc := kindG_cases ⟨T, wd, sy⟩
      rw [hK] at hLe hDi hF hKc
      have HKK := hide hK
      have i1 : (0 : Int) < (k : Int) := by have := Hl.out; omega
      have y0 := ((hb1.out.trans (HB.out.mono (Nat.le_succ _))).cell (p := ⟨b, off, none⟩) hbb).trans x0
      have y1 := ((hb1.out.trans (HB.out.mono (Nat.le_succ _))).cell (p := ⟨b, off + 1, none⟩) hbb).trans x1
      have y2 := ((hb1.out.trans (HB.out.mono (Nat.le_succ _))).cell (p := ⟨b, off + 2, none⟩) hbb).trans x2
      have HY := hide (And.intro y0 (And.intro y1 y2))
      have hbw : b < wo.heap.size := Nat.lt_of_lt_of_le hbb (Nat.le_of_succ_le hszo)
      clear hTn hSK hK HSK HTk Hle HSum HLet HDig HF Hrow hsm hle x0 x1 x2
      by_cases h12 : K = 1 ∨ K = 2
      · rw [if_pos h12] at hF
        have HF := hide hF
        have hA : ∀ (j : Nat) (b : UInt8), SK.data.toList[j]? = some b → b.toNat < 128 := fun j b hb => hLe h12 b (List.mem_of_getElem? hb)
        have HA := hide hA
        clear hLe hDi hF hKc hA
        rcases h12 with h | h <;> subst h
        all_goals
          go_wp2_with (first
            | (go_at_call 51; refine (HK.out _).mono ?_; rintro e w2 ⟨rfl, hb2⟩; rw [HKK.out]; have HB2 := hide (HB.out.trans (hb2.mono hszo)); have bx := Hblk.out _ HB2.out; have m0 := cell_block bx 0; have m1 := cell_block bx 1; have m2 := cell_block bx 2; have m3 := cell_block bx 3; have m4 := cell_block bx 4; have m5 := cell_block bx 5; have hs2 := hb2.size; clear hb2 bx)
            | (go_at_call 76; refine (HL.out _ (HSp.out _ HB2.out) SK hSs HA.out).mono ?_; rintro e w3 ⟨v3, rfl, hown3, hb3⟩; obtain ⟨A3, c3, rfl⟩ := own_form hown3; rw [HF.out] at *)
            | fail)
          go_ret
          exact ⟨_, rfl, own_more hown3 (by omega), hb1.out.trans ((HB2.out.mono (Nat.le_succ _)).trans (hb3.mono (by omega)))⟩
      · rw [if_neg h12] at hF
        by_cases h3 : K = 3
        · rw [if_pos h3] at hF
          have HF := hide hF
          have HA := hide (fun (j : Nat) (h : j < SK.size) => show 48 ≤ SK[j].toNat ∧ SK[j].toNat ≤ 57 from hDi h3 _ (by simp [ByteArray.getElem_eq_getElem_data]))
          clear hLe hDi hF hKc h12
          subst h3
          go_wp2_with (first
            | (go_at_call 51; refine (HK.out _).mono ?_; rintro e w2 ⟨rfl, hb2⟩; rw [HKK.out]; have HB2 := hide (HB.out.trans (hb2.mono hszo)); have bx := Hblk.out _ HB2.out; have m0 := cell_block bx 0; have m1 := cell_block bx 1; have m2 := cell_block bx 2; have m3 := cell_block bx 3; have m4 := cell_block bx 4; have m5 := cell_block bx 5; have hs2 := hb2.size; clear hb2 bx)
            | (go_at_call 77; refine (HD.out _ SK hSs HA.out).mono ?_; rintro e w3 ⟨v3, rfl, hown3, hb3⟩; obtain ⟨A3, c3, rfl⟩ := own_form hown3; rw [HF.out] at *)
            | fail)
          go_ret
          exact ⟨_, rfl, own_more hown3 (by omega), hb1.out.trans ((HB2.out.mono (Nat.le_succ _)).trans (hb3.mono (by omega)))⟩
        · rw [if_neg h3] at hF
          obtain rfl : K = 0 := by omega
          clear hLe hDi hKc h12 h3
          by_cases hn1 : k = 1
          · obtain rfl : l = [] := List.eq_nil_of_length_eq_zero (by have := Hl.out; omega)
            rw [if_pos rfl] at hF
            have HF := hide hF
            subst hn1
            clear hF
            go_wp2_with (first
              | (go_at_call 51; refine (HK.out _).mono ?_; rintro e w2 ⟨rfl, hb2⟩; rw [HKK.out]; have HB2 := hide (HB.out.trans (hb2.mono hszo)); have hs2 := hb2.size; have z0 := (hb2.cell (p := ⟨b, off, none⟩) hbw).trans HY.out.1; have z1 := (hb2.cell (p := ⟨b, off + 1, none⟩) hbw).trans HY.out.2.1; have z2 := (hb2.cell (p := ⟨b, off + 2, none⟩) hbw).trans HY.out.2.2; clear hb2)
              | (go_at_call 78; refine (HSg.out _ (HSp.out _ HB2.out)).mono ?_; rintro e w3 ⟨v3, rfl, hown3, hb3⟩; obtain ⟨A3, c3, rfl⟩ := own_form hown3; rw [← HF.out] at *)
              | fail)
            go_ret
            exact ⟨_, rfl, own_more hown3 (by omega), hb1.out.trans ((HB2.out.mono (Nat.le_succ _)).trans (hb3.mono (by omega)))⟩
          · have hl0 : l ≠ [] := fun e => hn1 (by have := Hl.out; rw [e] at this; exact this.symm)
            rw [if_neg hl0, Hl.out] at hF
            have HF := hide hF
            have q1 : ((k : Int) == 1) = false := beq_eq_false_iff_ne.2 (by omega)
            clear hF hl0 hn1
            go_upto_region 15 with (first
              | (go_at_call 51; refine (HK.out _).mono ?_; rintro e w2 ⟨rfl, hb2⟩; rw [HKK.out]; have HB2 := hide (HB.out.trans (hb2.mono hszo)); have hs2 := hb2.size; have HZ := hide (And.intro ((hb2.cell (p := ⟨b, off, none⟩) hbw).trans HY.out.1) (And.intro ((hb2.cell (p := ⟨b, off + 1, none⟩) hbw).trans HY.out.2.1) ((hb2.cell (p := ⟨b, off + 2, none⟩) hbw).trans HY.out.2.2))); clear hb2)
              | fail)
            have i2 : 0 < k := by omega
            have hbw2 : b < w2.heap.size := Nat.lt_of_lt_of_le hbw hs2
            have hbc := (Below.refl w2.heap.size w2).drew
            have HSw := hide (fun (W : World) (h : Below w2.heap.size w2 W) => HSp.out W (HB2.out.trans (h.mono (by omega))))
            have Hsm := hide (show k ≤ 999999999 by omega)
            obtain ⟨M, hM⟩ : ∃ M, (numW k ++ timesW :: singleF ⟨T, wd, sy⟩).length = M := ⟨_, rfl⟩
            have HM := hide hM
            clear hM
            have Hs3 := hide (show (numW k).length + (singleF ⟨T, wd, sy⟩).length ≤ 999999 by have h1 := Hslen.out; have h2 := numW_len k; omega)
            clear y0 y1 y2
            refine td_begin (by kernel_rfl) ?_
            (refine tda_take 0 (v := ?_) rfl (by kernel_rfl) (by decide +kernel) (by decide +kernel) (fun _ _ _ h => h) (by rfl) ?_ ?_; rotate_left; (· (intro w; (go_simp <;> with_reducible rfl))); (try simp only [Act.put, List.setIfInBounds_toArray, List.set_cons_zero, List.set_cons_succ]))
            (refine tda_take 1 (v := ?_) rfl (by kernel_rfl) (by decide +kernel) (by decide +kernel) (fun _ _ _ h => h) (by rfl) ?_ ?_; rotate_left; (· (intro w; (go_simp <;> with_reducible rfl))); (try simp only [Act.put, List.setIfInBounds_toArray, List.set_cons_zero, List.set_cons_succ]))
            (refine tda_take 4 (v := ?_) rfl (by kernel_rfl) (by decide +kernel) (by decide +kernel) (fun _ _ _ h => h) (by rfl) ?_ ?_; rotate_left; (· (intro w; (go_simp <;> with_reducible rfl))); (try simp only [Act.put, List.setIfInBounds_toArray, List.set_cons_zero, List.set_cons_succ]))
            (refine tda_take 5 (v := ?_) rfl (by kernel_rfl) (by decide +kernel) (by decide +kernel) (fun _ _ _ h => h) (by rfl) ?_ ?_; rotate_left; (· (intro w; (go_simp <;> with_reducible rfl))); (try simp only [Act.put, List.setIfInBounds_toArray, List.set_cons_zero, List.set_cons_succ]))
            refine td_hold (fun W => Below w2.heap.size w2 W) [] (by decide +kernel) ?_ (fun hHeld => ?_)
            · (first | exact hbc | exact hbc.alloc hbc.size _)
            (refine td_take 6 (v := ?_) rfl (by decide) (by kernel_rfl) (by decide +kernel) (by decide +kernel) (fun _ _ _ h => h) (by assumption) (by rfl) ?_ ?_; rotate_left; (· (intro w hSw; (try dsimp only at hSw); have z0 := (hSw.cell (p := ⟨b, off, none⟩) hbw2).trans HZ.out.1; have z1 := (hSw.cell (p := ⟨b, off + 1, none⟩) hbw2).trans HZ.out.2.1; have z2 := (hSw.cell (p := ⟨b, off + 2, none⟩) hbw2).trans HZ.out.2.2; (go_simp <;> with_reducible rfl))); (try simp only [Act.put, List.setIfInBounds_toArray, List.set_cons_zero, List.set_cons_succ]))
            repeat' (first
              | (refine td_ready (rs := [2, 3]) (by decide +kernel) (by decide) (by simp) ?_; refine td_cons rfl (fun K hK => ?_) (td_cons rfl (fun K hK => ?_) (td_nil)); (focus (go_simp; go_at_call 79; refine (HNu.out _ k Hsm.out).mono ?_; rintro e w5 ⟨v5, rfl, hown5, hb5⟩; obtain ⟨A5, c5, rfl, hc5, hnum⟩ := own_strs hown5 rfl; clear hown5; (try have hlit := (hb5.block _ (block_lt hlit)).trans hlit); have hbc := hbc.trans (hb5.mono hbc.size); (first | refine hK.out _ _ ?_ ?_ | (go_wp2_with fail; refine hK.out _ _ ?_ ?_)); (· (first | exact hbc | exact hbc.alloc hbc.size _)); clear hK K hHeld; intro hHeld; (try simp only [Act.put, List.setIfInBounds_toArray, List.set_cons_zero, List.set_cons_succ]))); rotate_left; (focus (go_simp; obtain ⟨w9, hw9, hst, hlit⟩ := lit_step hbc #[.string ⟨#[116, 105, 109, 101, 115]⟩] 9; (first | rw [hw9] | rw [show (w2.alloc (.cells #[.string ⟨#[116, 105, 109, 101, 115]⟩] 9)).drew = w9 from hw9]); clear hw9; (try have hnum := (hnum.below (StrAt.stays _) hst).more hst.size); (try have hsin := (hsin.below (StrAt.stays _) hst).more hst.size); have hbc := hbc.trans (hst.mono hbc.size); (first | refine hK.out _ _ ?_ ?_ | (go_wp2_with fail; refine hK.out _ _ ?_ ?_)); (· (first | exact hbc | exact hbc.alloc hbc.size _)); clear hK K hHeld; intro hHeld; (try simp only [Act.put, List.setIfInBounds_toArray, List.set_cons_zero, List.set_cons_succ]))); rotate_left)
              | (refine td_ready (rs := [3, 7]) (by decide +kernel) (by decide) (by simp) ?_; refine td_cons rfl (fun K hK => ?_) (td_cons rfl (fun K hK => ?_) (td_nil)); (focus (go_simp; obtain ⟨w9, hw9, hst, hlit⟩ := lit_step hbc #[.string ⟨#[116, 105, 109, 101, 115]⟩] 9; (first | rw [hw9] | rw [show (w2.alloc (.cells #[.string ⟨#[116, 105, 109, 101, 115]⟩] 9)).drew = w9 from hw9]); clear hw9; (try have hnum := (hnum.below (StrAt.stays _) hst).more hst.size); (try have hsin := (hsin.below (StrAt.stays _) hst).more hst.size); have hbc := hbc.trans (hst.mono hbc.size); (first | refine hK.out _ _ ?_ ?_ | (go_wp2_with fail; refine hK.out _ _ ?_ ?_)); (· (first | exact hbc | exact hbc.alloc hbc.size _)); clear hK K hHeld; intro hHeld; (try simp only [Act.put, List.setIfInBounds_toArray, List.set_cons_zero, List.set_cons_succ]))); rotate_left; (focus (go_simp; go_at_call 78; refine (HSg.out _ (HSw.out _ hbc)).mono ?_; rintro e w6 ⟨v6, rfl, hown6, hb6⟩; obtain ⟨A6, c6, rfl, hc6, hsin⟩ := own_strs hown6 rfl; clear hown6; (try have hlit := (hb6.block _ (block_lt hlit)).trans hlit); have hnum := (hnum.below (StrAt.stays _) hb6).more hb6.size; have hbc := hbc.trans (hb6.mono hbc.size); (first | refine hK.out _ _ ?_ ?_ | (go_wp2_with fail; refine hK.out _ _ ?_ ?_)); (· (first | exact hbc | exact hbc.alloc hbc.size _)); clear hK K hHeld; intro hHeld; (try simp only [Act.put, List.setIfInBounds_toArray, List.set_cons_zero, List.set_cons_succ]))); rotate_left)
              | (refine td_ready (rs := [2]) (by decide +kernel) (by decide) (by simp) ?_; refine td_cons rfl (fun K hK => ?_) (td_nil); (focus (go_simp; go_at_call 79; refine (HNu.out _ k Hsm.out).mono ?_; rintro e w5 ⟨v5, rfl, hown5, hb5⟩; obtain ⟨A5, c5, rfl, hc5, hnum⟩ := own_strs hown5 rfl; clear hown5; (try have hlit := (hb5.block _ (block_lt hlit)).trans hlit); have hbc := hbc.trans (hb5.mono hbc.size); (first | refine hK.out _ _ ?_ ?_ | (go_wp2_with fail; refine hK.out _ _ ?_ ?_)); (· (first | exact hbc | exact hbc.alloc hbc.size _)); clear hK K hHeld; intro hHeld; (try simp only [Act.put, List.setIfInBounds_toArray, List.set_cons_zero, List.set_cons_succ]))); rotate_left)
              | (refine td_ready (rs := [3]) (by decide +kernel) (by decide) (by simp) ?_; refine td_cons rfl (fun K hK => ?_) (td_nil); (focus (go_simp; obtain ⟨w9, hw9, hst, hlit⟩ := lit_step hbc #[.string ⟨#[116, 105, 109, 101, 115]⟩] 9; (first | rw [hw9] | rw [show (w2.alloc (.cells #[.string ⟨#[116, 105, 109, 101, 115]⟩] 9)).drew = w9 from hw9]); clear hw9; (try have hnum := (hnum.below (StrAt.stays _) hst).more hst.size); (try have hsin := (hsin.below (StrAt.stays _) hst).more hst.size); have hbc := hbc.trans (hst.mono hbc.size); (first | refine hK.out _ _ ?_ ?_ | (go_wp2_with fail; refine hK.out _ _ ?_ ?_)); (· (first | exact hbc | exact hbc.alloc hbc.size _)); clear hK K hHeld; intro hHeld; (try simp only [Act.put, List.setIfInBounds_toArray, List.set_cons_zero, List.set_cons_succ]))); rotate_left)
              | (refine td_ready (rs := [7]) (by decide +kernel) (by decide) (by simp) ?_; refine td_cons rfl (fun K hK => ?_) (td_nil); (focus (go_simp; go_at_call 78; refine (HSg.out _ (HSw.out _ hbc)).mono ?_; rintro e w6 ⟨v6, rfl, hown6, hb6⟩; obtain ⟨A6, c6, rfl, hc6, hsin⟩ := own_strs hown6 rfl; clear hown6; (try have hlit := (hb6.block _ (block_lt hlit)).trans hlit); have hnum := (hnum.below (StrAt.stays _) hb6).more hb6.size; have hbc := hbc.trans (hb6.mono hbc.size); (first | refine hK.out _ _ ?_ ?_ | (go_wp2_with fail; refine hK.out _ _ ?_ ?_)); (· (first | exact hbc | exact hbc.alloc hbc.size _)); clear hK K hHeld; intro hHeld; (try simp only [Act.put, List.setIfInBounds_toArray, List.set_cons_zero, List.set_cons_succ]))); rotate_left)
              | (refine td_ready (rs := [8]) (by decide +kernel) (by decide) (by simp) ?_; refine td_cons rfl (fun K hK => ?_) (td_nil); (focus (go_simp; (first | refine hK.out _ _ ?_ ?_ | (go_wp2_with fail; refine hK.out _ _ ?_ ?_)); (· (first | exact hbc | exact hbc.alloc hbc.size _)); clear hK K hHeld; intro hHeld; (try simp only [Act.put, List.setIfInBounds_toArray, List.set_cons_zero, List.set_cons_succ]))); rotate_left)
              | (refine td_ready (rs := [9]) (by decide +kernel) (by decide) (by simp) ?_; refine td_cons rfl (fun K hK => ?_) (td_nil); (focus (go_simp; go_at_call 55; refine (HC.out _ A5 _ c5 (numW k) rfl hnum _ timesW hlit A6 _ c6 (singleF ⟨T, wd, sy⟩) rfl hsin Hs3.out M HM.out).mono ?_; rintro e w8 ⟨v8, rfl, hown8, hb8⟩; obtain ⟨A8, c8, rfl⟩ := own_form hown8; have hbs8 := hbc.size; have hbc := hbc.trans (hb8.mono hbc.size); (first | refine hK.out _ _ ?_ ?_ | (go_wp2_with fail; refine hK.out _ _ ?_ ?_)); (· (first | exact hbc | exact hbc.alloc hbc.size _)); clear hK K hHeld; intro hHeld; (try simp only [Act.put, List.setIfInBounds_toArray, List.set_cons_zero, List.set_cons_succ]))); rotate_left)
              | (refine td_ready (rs := [10]) (by decide +kernel) (by decide) (by simp) ?_; refine td_cons rfl (fun K hK => ?_) (td_nil); (focus (go_simp; (first | refine hK.out _ _ ?_ ?_ | (go_wp2_with fail; refine hK.out _ _ ?_ ?_)); (· (first | exact hbc | exact hbc.alloc hbc.size _)); clear hK K hHeld; intro hHeld; (try simp only [Act.put, List.setIfInBounds_toArray, List.set_cons_zero, List.set_cons_succ]))); rotate_left)
              | fail)
            all_goals refine And.intro (by decide +kernel) ?_
            all_goals
              go_wp2
              go_ret
              rw [HF.out]
              exact ⟨_, rfl, own_eq (own_more hown8 (Nat.le_trans (show w.heap.size ≤ w2.heap.size by omega) hbs8)) HM.out.symm rfl, hb1.out.trans ((HB2.out.mono (Nat.le_succ _)).trans (hbc.mono (show w.heap.size ≤ w2.heap.size by omega)))⟩
end Go.Proofs.YtdkppdjonlldhaaGreatDoor

/- Proper glyphs and their pieces, for the walks; an operation that its guard leaves out. -/
namespace Go.Proofs.YtdkppdjonlldhaaGreatDoor
open Go.RowKit Go.Maps Go.Shelf

section
variable {P : Program} {ops : List Oper} {Q : Exit → Act → World → Prop} {S : World → Prop} {T : List Nat} {fuel : Nat} {listed : Array Bool} {a : Act} {w : World}
/-- An operation that its guard leaves out. -/
theorem td_skip (i : Nat) {o : Oper} {rest : List Oper} (ho : ops.drop i = o :: rest) (hiT : T.contains i = false)
    (hs : Region.noSelect ops.toArray = true) (hf : Region.free .any ops.toArray listed i = true) (hr : (Region.ready .any ops.toArray listed).contains i = true)
    (hQ : ∀ c a w, Q (.panic c) (a.put o.dst undef) w → Q (.panic c) a w) (hS : S w) (hw : Region.wanted o (yielded ops.toArray a.tmps) = false)
    (h : Td P ops Q S T fuel (listed.setIfInBounds i true) (a.put o.dst undef) w) : Td P ops Q S T (fuel + 1) listed a w :=
  wpHT_first (i := i) (by
    have := congrArg (fun l => l[0]?) ho
    simpa using this) (by simpa using hiT) (Region.noSelect_spec hs) hQ fuel listed a w (Region.free_spec (by
    have := congrArg (fun l => l[0]?) ho
    simpa using this) hf) (by simpa using hr) (.inr ⟨hw, rfl⟩) hS h
end

theorem enc_four (r : Int) : (Lib.encodeRune r).length ≤ 4 := by
  unfold Lib.encodeRune Lib.encodeRuneZ
  rw [List.length_map]
  repeat' split
  all_goals simp
theorem good_len {g : Gl} (h : GoodG g) : g.text.size ≤ 16 := by
  obtain ⟨r, ms, hc⟩ := cl_of h.1
  rw [Lib.size_eq, ← hc.enc]
  have : ∀ l : List Int, (encs l).length ≤ 4 * l.length := by
    intro l
    induction l with
    | nil => simp [encs]
    | cons x l ih =>
      have h1 := enc_four x
      have : encs (x :: l) = Lib.encodeRune x ++ encs l := rfl
      rw [this, List.length_append, List.length_cons]; omega
  have h1 := this (r :: ms)
  have h2 := hc.few
  rw [List.length_cons] at h1
  omega
theorem good_text {g : Gl} (h : GoodG g) : GoodText g := by
  refine ⟨by have := good_len h; omega, ?_⟩
  have h0 := h.1
  unfold clErr at h0
  split at h0
  · cases h0
  · rename_i hv
    simp only [not_or, Bool.not_eq_false] at hv
    exact hv.2
theorem good_cat : ∀ {l : List Gl}, (∀ x ∈ l, GoodG x) → (catL l).length ≤ 16 * l.length
  | [], _ => by simp [catL]
  | g :: l, h => by
    have h1 := good_len (h g List.mem_cons_self)
    have h2 := good_cat fun x hx => h x (List.mem_cons_of_mem g hx)
    have : catL (g :: l) = g.text.data.toList ++ catL l := rfl
    rw [this, List.length_append, List.length_cons, ← Lib.size_eq]; omega
theorem piece_let {g : Gl} {t : List Gl} (hP : PieceOK g t) (h : kindG g = 1 ∨ kindG g = 2) : ∀ b ∈ catL (g :: t), b.toNat < 128 := by
  have hk : ∀ x ∈ g :: t, ∃ b, x.text.data.toList = [b] ∧ b.toNat < 128 := fun x hx => by
    have hx2 : kindG x = 1 ∨ kindG x = 2 := by
      rcases hP with ⟨h1, h2⟩ | ⟨h1, -, h2⟩ | ⟨h1, h2⟩ | ⟨h1, -⟩ | ⟨h1, -⟩
      · rw [(h2 x hx).1]; exact h
      · exact .inr (h2 x hx).1
      · rcases List.mem_cons.1 hx with rfl | hx
        · exact .inr h1
        · exact .inl (h2 x hx).1
      · omega
      · omega
    rcases hx2 with e | e
    · obtain ⟨b, hb, hs⟩ := kind_byte.1 e
      exact ⟨b, hb, by unfold isSmall at hs; omega⟩
    · obtain ⟨b, hb, hs⟩ := kind_byte.2.1 e
      exact ⟨b, hb, by unfold isCap at hs; omega⟩
  exact (cat_mem _ hk).1
theorem piece_dig {g : Gl} {t : List Gl} (hP : PieceOK g t) (h : kindG g = 3) : ∀ b ∈ catL (g :: t), 48 ≤ b.toNat ∧ b.toNat ≤ 57 := by
  have hk : ∀ x ∈ g :: t, ∃ b, x.text.data.toList = [b] ∧ (48 ≤ b.toNat ∧ b.toNat ≤ 57) := fun x hx => by
    have hx2 : kindG x = 3 := by
      rcases hP with ⟨h1, h2⟩ | ⟨h1, -, h2⟩ | ⟨h1, h2⟩ | ⟨h1, -⟩ | ⟨h1, -⟩
      · rw [(h2 x hx).1]; exact h
      all_goals omega
    obtain ⟨b, hb, hs⟩ := kind_byte.2.2 hx2
    exact ⟨b, hb, hs⟩
  exact (cat_mem _ hk).1
/-- The words of a first piece. -/
theorem spokenGP (w : World) (hS : Spc w) (A : Option Addr) (n c : Nat) (g : Gl) (t : List Gl) (hl : t.length + 1 = n) (hn : n ≤ 60000) (hrow : GlRow w w.heap.size A (g :: t)) (hG : ∀ x ∈ g :: t, GoodG x) (hP : PieceOK g t) (s : SetV) :
    Calls Tryz.prog 54 #[.slice A n c, s.val] w (SmallRet w (spokenF s.stg (g :: t))) := by
  have hc := good_cat hG
  rw [List.length_cons] at hc
  exact spokenP w hS A n c g t hl (by omega) hrow (good_text (hG g List.mem_cons_self)) (by have := good_len (hG g List.mem_cons_self); omega) (by omega) (piece_let hP) (piece_dig hP) s
/-- The words of a piece are some, and not too many. -/
theorem spokenF_ne (s : Stg) (g : Gl) (t : List Gl) (hG : ∀ x ∈ g :: t, GoodG x) (hP : PieceOK g t) : spokenF s (g :: t) ≠ [] := by
  rw [spokenF_eq]
  split
  · obtain ⟨w, r, h, -⟩ := @letters_head s.sp (catL (g :: t))
    rw [h]; simp
  · split
    · unfold digitsF
      split
      · simp
      · rename_i h
        have : numOfD (catL (g :: t)) ≤ 999999999 := by
          have hd := piece_dig hP (by assumption)
          have h1 := numOfD_lt (catL (g :: t)) hd
          have h2 : (catL (g :: t)).length ≤ 9 := by
            by_cases h9 : 9 < (catL (g :: t)).length
            · exact absurd (.inr (.inl h9)) h
            · omega
          have := Nat.pow_le_pow_right (n := 10) (by omega) h2
          omega
        obtain ⟨w, r, h, -⟩ := numW_cons _ this
        rw [h]; simp
    · obtain ⟨w, r, h, -⟩ := single_head g (hG g List.mem_cons_self)
      split
      · rw [h]; simp
      · simp
end Go.Proofs.YtdkppdjonlldhaaGreatDoor
