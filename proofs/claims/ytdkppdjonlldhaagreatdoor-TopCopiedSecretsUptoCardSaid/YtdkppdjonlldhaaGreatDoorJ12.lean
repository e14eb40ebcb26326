/- Joined: SP32, SP33, SP34. -/
import Derived.Test.YtdkppdjonlldhaaGreatDoorJ10
import Derived.Test.YtdkppdjonlldhaaGreatDoorApp3
import Derived.Deep.CutBlock
/- The parser in memory; next, take, plain. -/
namespace Go.Proofs.YtdkppdjonlldhaaGreatDoor
open Go.RowKit Go.Maps Go.Shelf

/-- The parser: its words lie below its block, its glyphs in a row of the call's own behind it. -/
def PB (B : Nat) (w0 W : World) (bR : Nat) (p : PS) : Prop := ∃ Aw nw cw ov, BoxO B w0 W 71 #[.map (some bR), .slice Aw nw cw, ov, .int .i64 p.style, .bool p.joins] 42 3 ov p.out.length (p.out.flatMap Gl.enc) ∧ p.words.length = nw ∧ nw ≤ cw ∧ StrRow W B Aw p.words
theorem PB.lt {B bR : Nat} {w0 W : World} {p : PS} (h : PB B w0 W bR p) : B < W.heap.size := by
  obtain ⟨_, _, _, _, h, -⟩ := h
  exact h.lt
theorem PB.bl {B bR : Nat} {w0 W : World} {p : PS} (h : PB B w0 W bR p) : Below B w0 W := by
  obtain ⟨_, _, _, _, h, -⟩ := h
  exact h.bl
theorem PB.again {B bR : Nat} {w0 W : World} {p : PS} (h : PB B w0 W bR p) : PB B W W bR p := by
  obtain ⟨Aw, nw, cw, ov, h, h2⟩ := h
  exact ⟨Aw, nw, cw, ov, h.again, h2⟩
theorem PB.below {B bR : Nat} {w0 W W' : World} {p : PS} (h : PB B w0 W bR p) (hb : Below W.heap.size W W') : PB B w0 W' bR p := by
  have hl := h.lt
  obtain ⟨Aw, nw, cw, ov, h, h2, h3, h4⟩ := h
  exact ⟨Aw, nw, cw, ov, h.below hb, h2, h3, h4.below (StrAt.stays _) (hb.mono (Nat.le_of_lt hl))⟩
theorem PB.trans {B bR bR2 : Nat} {w0 W W2 : World} {p q : PS} (h : PB B w0 W bR p) (h2 : PB B W W2 bR2 q) : PB B w0 W2 bR2 q := by
  obtain ⟨Aw, nw, cw, ov, h2, h3⟩ := h2
  exact ⟨Aw, nw, cw, ov, ⟨h2.box, h2.own, h.bl.trans h2.bl⟩, h3⟩
theorem PB.drew {B bR : Nat} {w0 W : World} {p : PS} (h : PB B w0 W bR p) : PB B w0 W.drew bR p := h.below (Below.refl _ _).drew
theorem nextP (w w0 : World) (B bR : Nat) (p : PS) (hI : PB B w0 w bR p) : Calls Tryz.prog 85 #[.pointer (some ⟨B, 0, none⟩)] w fun e w' => e = .returned (.string ⟨(p.words.headD []).toArray⟩) ∧ Below w.heap.size w w' := by
  obtain ⟨Aw, nw, cw, ov, hB, hnw, hcw, hr⟩ := hI
  have k1 := cell_block hB.box 1
  obtain ⟨ws, out, st, jo⟩ := p
  dsimp only at hnw hr k1 ⊢
  have hb := Below.refl w.heap.size w
  cases ws with
  | nil =>
    obtain rfl : nw = 0 := hnw.symm
    clear hB hr
    go_enter Tryz.func85, Tryz.ntmps85
    go_wp2
    go_ret
    exact ⟨rfl, hb⟩
  | cons x r =>
    obtain ⟨b, off, rfl, hbb, hc⟩ := hr.get1 (k := 0) (by simp)
    have hc' : w.cell? ⟨b, off, none⟩ = some (strV x) := hc
    unfold strV at hc'
    obtain ⟨X, hX⟩ : ∃ X : ByteArray, (⟨x.toArray⟩ : ByteArray) = X := ⟨_, rfl⟩
    rw [hX] at hc'
    have hn0 : (0 : Int) < (nw : Int) := by rw [← hnw, List.length_cons]; omega
    have q : ((nw : Int) == 0) = false := beq_eq_false_iff_ne.2 (by omega)
    have HX := hide hX
    clear hB hr hc hX hnw
    go_enter Tryz.func85, Tryz.ntmps85
    go_wp2
    go_ret
    exact ⟨by rw [← HX.out]; rfl, hb⟩
theorem takeP (w w0 : World) (B bR : Nat) (p : PS) (hI : PB B w0 w bR p) (n : Nat) (hn1 : 1 ≤ n) (hn : n ≤ p.words.length) (hwl : p.words.length ≤ 1000000) : Calls Tryz.prog 86 #[.pointer (some ⟨B, 0, none⟩), .int .i64 n] w fun e w' => e = .returned (.tuple #[]) ∧ PB B w0 w' bR (p.take n) := by
  obtain ⟨Aw, nw, cw, ov, hB, hnw, hcw, hr⟩ := hI
  have k1 := cell_block hB.box 1
  have f1 := frozen_block hB.box 1
  obtain ⟨ws, out, st, jo⟩ := p
  dsimp only at hnw hr k1 hn hwl ⊢
  obtain ⟨b, off, rfl, hbb, -⟩ := hr.get1 (k := 0) (by omega)
  have hrd := hr.drop n
  have HB := hide hB
  have Hr := hide hrd
  have i1 : (n : Int) ≤ (nw : Int) := by omega
  have i2 : (0 : Int) ≤ (n : Int) := by omega
  have i3 : (n : Int) ≤ (cw : Int) := by omega
  have Hw := hide hnw
  clear hB hr hrd hnw
  go_enter Tryz.func86, Tryz.ntmps86
  go_wp2
  case inl =>
    refine bodyPost_end (results_none rfl _ _ _) rfl ?_
    have hw := Hw.out
    refine ⟨rfl, some ⟨b, off, none⟩, nw - n, 0, ov, HB.out.set 1 _, by simp only [PS.take, List.length_drop]; omega, by omega, Sl.nil (by simp only [PS.take, List.length_drop]; omega)⟩
  case inr =>
    refine bodyPost_end (results_none rfl _ _ _) rfl ?_
    have hw := Hw.out
    refine ⟨rfl, some ⟨b, off + n, none⟩, nw - n, cw - n, ov, HB.out.set 1 _, by simp only [PS.take, List.length_drop]; omega, by omega, ?_⟩
    have h := Hr.out
    rw [Nat.mul_one] at h
    exact h.keep (StrAt.stays _) fun q hq => World.cell?_setCell_far _ _ _ _ (by show B ≠ q.block; omega)
set_option maxHeartbeats 1000000 in
theorem plainP (w : World) (T : ByteArray) (hT : T.size ≤ 1000000) : Calls Tryz.prog 108 #[.string T] w fun e w' => e = .returned (.bool (plainB T.data.toList)) ∧ Below w.heap.size w w' := by
  have hb := Below.refl w.heap.size w
  obtain ⟨R, hRR⟩ : ∃ R, plainB T.data.toList = R := ⟨_, rfl⟩
  have HR := hide hRR
  rw [hRR]
  clear hRR
  have HP := hide (fun (k : Nat) (h : k < T.size) (hb : ¬ (97 ≤ (T[k]'h).toNat ∧ (T[k]'h).toNat ≤ 122)) => show plainB T.data.toList = false from by
    unfold plainB
    rw [Bool.and_eq_false_iff]
    refine .inr ?_
    rw [List.all_eq_false]
    refine ⟨T[k], by show T.data[k] ∈ T.data.toList; simp, ?_⟩
    simp only [Bool.and_eq_true, decide_eq_true_eq]
    exact hb)
  go_enter Tryz.func108, Tryz.ntmps108
  go_wp2
  go_loopw [6] (fun i wr => ∃ k : Nat, k ≤ T.size ∧ i = .int .i64 k ∧ (∀ j (h : j < T.size), j < k → 97 ≤ (T[j]'h).toNat ∧ (T[j]'h).toNat ≤ 122) ∧ Below w.heap.size w wr) (fun i _ => T.size - (intOf i).toNat)
  case atStart => exact ⟨0, Nat.zero_le _, rfl, fun j _ h => absurd h (Nat.not_lt_zero _), hb⟩
  case round =>
    obtain ⟨k, hk, rfl, hall, hbr⟩ := hrel
    rename World => wo
    have HA := hide hall
    have HB := hide hbr
    clear hall hbr
    by_cases hlt : k < T.size
    · have hkI : (k : Int) < (T.size : Int) := by omega
      by_cases h1 : (T[k]'hlt).toNat < 97
      · have d1 : ((T[k]'hlt).toNat : Int) < 97 := by omega
        obtain rfl : R = false := HR.out.symm.trans (HP.out k hlt (by omega))
        go_wp2
        go_ret
        exact ⟨rfl, HB.out⟩
      · by_cases h2 : 122 < (T[k]'hlt).toNat
        · have d1 : ¬ ((T[k]'hlt).toNat : Int) < 97 := by omega
          have d2 : (122 : Int) < ((T[k]'hlt).toNat : Int) := by omega
          obtain rfl : R = false := HR.out.symm.trans (HP.out k hlt (by omega))
          go_wp2
          go_ret
          exact ⟨rfl, HB.out⟩
        · have d1 : ¬ ((T[k]'hlt).toNat : Int) < 97 := by omega
          have d2 : ¬ (122 : Int) < ((T[k]'hlt).toNat : Int) := by omega
          go_wp2
          go_roundw
          case rel => exact ⟨k + 1, by omega, by go_num, fun j h hj => by
            by_cases e : j = k
            · subst e; omega
            · exact HA.out j h (by omega), HB.out⟩
          case measure => simp [intOf]; omega
    · obtain rfl : k = T.size := by omega
      have hR : plainB T.data.toList = !T.toList.isEmpty := by
        unfold plainB
        rw [ByteArray.toList_eq]
        have : (T.data.toList.all fun b => decide (97 ≤ b.toNat) && decide (b.toNat ≤ 122)) = true := by
          rw [List.all_eq_true]
          intro x hx
          obtain ⟨j, hj, rfl⟩ := List.getElem_of_mem hx
          have := HA.out j (by simpa using hj) (by simpa using hj)
          simp only [Bool.and_eq_true, decide_eq_true_eq]
          exact this
        rw [this, Bool.and_true]
      have HRe := hide hR
      clear hR
      go_wp2
      go_ret
      exact ⟨by rw [← HR.out, HRe.out]; rfl, HB.out⟩
end Go.Proofs.YtdkppdjonlldhaaGreatDoor

/- The parser's text: the glyphs of a word. -/
namespace Go.Proofs.YtdkppdjonlldhaaGreatDoor
open Go.RowKit Go.Maps Go.Shelf

theorem el_glSP : ElemOf Tryz.prog 34 42 (.agg #[.string ⟨#[]⟩, .bool false, .int .i64 0]) 3 32 := ⟨Tryz.underlying34, by kernel_rfl, rfl, by omega, by omega⟩
section
variable {B : Nat} {w0 W : World} {tb : TypeId} {cs : Array Value} {v : Value} {n : Nat} {xs : List Gl}
variable {ops : Array Oper} {rest : List Oper} {o : Oper} {a : Act} {K : Act → World → Prop} {Q : Exit → Act → World → Prop} {E : Prop}
/-- One more glyph, in a region that draws its order. -/
theorem step_gl (h : BoxO B w0 W tb cs 42 3 v n (xs.flatMap Gl.enc)) (s y : Operand) (hgd : o.guard = none) (ho : o.op = .call { callee := .builtin .append, args := #[s, y], argTypes := #[34, 34] })
    (hn : n ≤ 9000000) (hs : a.eval s = v) (X : Gl) (bk c : Nat) (hy : a.eval y = .slice (some ⟨bk, 0, none⟩) 1 c) (hbk : W.heap[bk]? = some (.cells #[.string X.text, .bool X.wide, .int .i64 X.style] 42))
    (hK : ∀ g cap w', BoxO B w0 w' tb cs 42 3 (.slice (some ⟨g, 0, none⟩) (n + 1) cap) (n + 1) ((xs ++ [X]).flatMap Gl.enc) → K (a.put o.dst (.slice (some ⟨g, 0, none⟩) (n + 1) cap)) w') :
    if Region.wanted o (yielded ops a.tmps) = true then Oper.wp Tryz.prog o a W K Q else E := by
  refine step_apps el_glSP W s y hgd ho (B + 1) v n _ hs h.own h.lt bk 0 1 c (Gl.enc X) hy (by omega) rfl (fun j u hj => ?_) (by simp [Gl.enc, Value.oneCell']) (by omega) _ rfl fun g cap w' h1 h2 _ => hK g cap w' (h.app (by rw [List.flatMap_append]; simpa using h1) h2)
  match j, hj with
  | 0, hj => cases hj; exact cell_block hbk 0
  | 1, hj => cases hj; exact cell_block hbk 1
  | 2, hj => cases hj; exact cell_block hbk 2
  | j + 3, hj => simp [Gl.enc] at hj
end
theorem letters_take (T : ByteArray) (st : Int) (k : Nat) (h : k < T.size) : lettersGl (T.data.toList.take (k + 1)) st = lettersGl (T.data.toList.take k) st ++ [⟨⟨#[T[k]]⟩, false, st⟩] := by
  have h' : k < T.data.toList.length := by simpa using h
  unfold lettersGl
  rw [List.take_succ_eq_append_getElem h', List.map_append]
  rfl
theorem extract_one (T : ByteArray) (k : Nat) (h : k < T.size) : T.extract k (k + 1) = ⟨#[T[k]]⟩ := by
  apply bytes_ext
  have h' : k < T.data.toList.length := by simpa using h
  rw [ByteArray.data_extract, Array.toList_extract]
  simp only [List.extract_eq_take_drop, Nat.add_sub_cancel_left]
  rw [List.drop_eq_getElem_cons h']
  rfl
set_option maxRecDepth 100000 in
set_option maxHeartbeats 2000000 in
theorem textP (w w0 : World) (B bR : Nat) (p : PS) (hI : PB B w0 w bR p) (T : ByteArray) (hlen : (p.text T.data.toList).out.length ≤ 1000000) :
    Calls Tryz.prog 89 #[.pointer (some ⟨B, 0, none⟩), .string T] w fun e w' => e = .returned (.tuple #[]) ∧ PB B w0 w' bR (p.text T.data.toList) := by
  obtain ⟨Aw, nw, cw, ov, hB, hnw, hcw, hr⟩ := hI
  obtain ⟨ws, out, st, jo⟩ := p
  dsimp only at hB hnw hr
  unfold PS.text at hlen ⊢
  dsimp only at hlen ⊢
  have k4 := cell_block hB.box 4
  obtain ⟨O1, hO1⟩ : ∃ O1, out ++ (if jo then [⟨⟨#[32]⟩, false, st⟩] else []) = O1 := ⟨_, rfl⟩
  rw [← List.append_assoc, hO1] at hlen ⊢
  rw [List.length_append] at hlen
  have hl1 : O1.length ≤ 1000000 := by omega
  have hl2 : T.size + O1.length ≤ 1000000 := by
    have : (lettersGl T.data.toList st).length = T.size := by unfold lettersGl; rw [List.length_map, ← Lib.size_eq]
    omega
  have hr1 := hide (fun (W : World) (hb : Below B w W) => (hr.below (StrAt.stays _) hb : StrRow W B Aw ws))
  have HB := hide hB.again
  have HB0 := hide hB.bl
  have Hw := hide (And.intro hnw hcw)
  have HO := hide hO1
  obtain ⟨A0, c0, rfl⟩ := own_form hB.own
  obtain ⟨N, hN⟩ : ∃ N, out.length = N := ⟨_, rfl⟩
  rw [hN] at HB k4
  have hNl : N ≤ 1000000 := by rw [← hO1, List.length_append] at hl1; omega
  have HN := hide hN
  clear hB hnw hr hlen hO1 hN hcw
  go_enter Tryz.func89, Tryz.ntmps89
  go_upto_if 8 with fail
  go_cut [] (fun wx => ∃ A1 c1, BoxO B w wx 71 #[.map (some bR), .slice Aw nw cw, .slice A1 O1.length c1, .int .i64 st, .bool jo] 42 3 (.slice A1 O1.length c1) O1.length (O1.flatMap Gl.enc))
  case first =>
    cases jo with
    | false =>
      have hOe : out = O1 := by rw [← HO.out]; simp
      have hOl : N = O1.length := by rw [← hOe]; exact HN.out.symm
      go_wp2_with fail
      go_meet
      case rel => exact ⟨A0, c0, by rw [← hOl, ← hOe]; exact HB.out⟩
    | true =>
      have hOe : out ++ [⟨⟨#[32]⟩, false, st⟩] = O1 := by rw [← HO.out]; simp
      have hOl : O1.length = N + 1 := by rw [← hOe, List.length_append, HN.out]; rfl
      go_upto_region 1 with fail
      have HS := hide (fun (W : World) (hb : Below w.heap.size w W) => (show W.cell? ⟨B, 2, none⟩ = some (.slice A0 N c0) ∧ W.cell? ⟨B, 3, none⟩ = some (.int .i64 st) from ⟨cell_block (HB.out.below hb).box 2, cell_block (HB.out.below hb).box 3⟩))
      have hbd := (Below.refl w.heap.size w).drew
      have HOe := hide hOe
      have HOl := hide hOl
      clear hOe hOl
      refine td_begin (by kernel_rfl) ?_
      (refine tda_take 0 (v := ?_) rfl (by kernel_rfl) (by decide +kernel) (by decide +kernel) (fun _ _ _ h => h) (by rfl) ?_ ?_; rotate_left; (· (intro w; (go_simp <;> with_reducible rfl))); (try simp only [Act.put, List.setIfInBounds_toArray, List.set_cons_zero, List.set_cons_succ]))
      (refine tda_take 1 (v := ?_) rfl (by kernel_rfl) (by decide +kernel) (by decide +kernel) (fun _ _ _ h => h) (by rfl) ?_ ?_; rotate_left; (· (intro w; (go_simp <;> with_reducible rfl))); (try simp only [Act.put, List.setIfInBounds_toArray, List.set_cons_zero, List.set_cons_succ]))
      (refine tda_take 2 (v := ?_) rfl (by kernel_rfl) (by decide +kernel) (by decide +kernel) (fun _ _ _ h => h) (by rfl) ?_ ?_; rotate_left; (· (intro w; (go_simp <;> with_reducible rfl))); (try simp only [Act.put, List.setIfInBounds_toArray, List.set_cons_zero, List.set_cons_succ]))
      (refine tda_take 3 (v := ?_) rfl (by kernel_rfl) (by decide +kernel) (by decide +kernel) (fun _ _ _ h => h) (by rfl) ?_ ?_; rotate_left; (· (intro w; (go_simp <;> with_reducible rfl))); (try simp only [Act.put, List.setIfInBounds_toArray, List.set_cons_zero, List.set_cons_succ]))
      (refine tda_take 5 (v := ?_) rfl (by kernel_rfl) (by decide +kernel) (by decide +kernel) (fun _ _ _ h => h) (by rfl) ?_ ?_; rotate_left; (· (intro w; (go_simp <;> with_reducible rfl))); (try simp only [Act.put, List.setIfInBounds_toArray, List.set_cons_zero, List.set_cons_succ]))
      (refine tda_take 6 (v := ?_) rfl (by kernel_rfl) (by decide +kernel) (by decide +kernel) (fun _ _ _ h => h) (by rfl) ?_ ?_; rotate_left; (· (intro w; (go_simp <;> with_reducible rfl))); (try simp only [Act.put, List.setIfInBounds_toArray, List.set_cons_zero, List.set_cons_succ]))
      (refine tda_take 7 (v := ?_) rfl (by kernel_rfl) (by decide +kernel) (by decide +kernel) (fun _ _ _ h => h) (by rfl) ?_ ?_; rotate_left; (· (intro w; (go_simp <;> with_reducible rfl))); (try simp only [Act.put, List.setIfInBounds_toArray, List.set_cons_zero, List.set_cons_succ]))
      refine td_hold (fun W2 => W2.cell? ⟨B, 2, none⟩ = some (.slice A0 N c0) ∧ W2.cell? ⟨B, 3, none⟩ = some (.int .i64 st)) [12, 13, 14] (by decide +kernel) ?_ (fun hHeld => ?_)
      · (first | exact HS7.out | exact HS.out _ (hbd.alloc (Nat.le_refl _) _) | exact HS.out _ hbd)
      (refine td_take 4 (v := ?_) rfl (by decide) (by kernel_rfl) (by decide +kernel) (by decide +kernel) (fun _ _ _ h => h) (by assumption) (by rfl) ?_ ?_; rotate_left; (· (intro w hSw; (try dsimp only at hSw); (go_simp <;> with_reducible rfl))); (try simp only [Act.put, List.setIfInBounds_toArray, List.set_cons_zero, List.set_cons_succ]))
      (refine td_take 8 (v := ?_) rfl (by decide) (by kernel_rfl) (by decide +kernel) (by decide +kernel) (fun _ _ _ h => h) (by assumption) (by rfl) ?_ ?_; rotate_left; (· (intro w hSw; (try dsimp only at hSw); (go_simp <;> with_reducible rfl))); (try simp only [Act.put, List.setIfInBounds_toArray, List.set_cons_zero, List.set_cons_succ]))
      (refine td_take 9 (v := ?_) rfl (by decide) (by kernel_rfl) (by decide +kernel) (by decide +kernel) (fun _ _ _ h => h) (by assumption) (by rfl) ?_ ?_; rotate_left; (· (intro w hSw; (try dsimp only at hSw); (go_simp <;> with_reducible rfl))); (try simp only [Act.put, List.setIfInBounds_toArray, List.set_cons_zero, List.set_cons_succ]))
      repeat' (first
        | (refine td_ready (rs := [10]) (by decide +kernel) (by decide) (by simp) ?_; refine td_cons rfl (fun K hK => ?_) (td_nil); (focus (go_simp; (first | refine hK.out _ _ ?_ ?_ | (go_wp2_with fail; refine hK.out _ _ ?_ ?_)); (· (first | exact HS7.out | exact HS.out _ (hbd.alloc (Nat.le_refl _) _) | exact HS.out _ hbd)); clear hK K hHeld; intro hHeld; (try simp only [Act.put, List.setIfInBounds_toArray, List.set_cons_zero, List.set_cons_succ]))); rotate_left)
        | (refine td_ready (rs := [11]) (by decide +kernel) (by decide) (by simp) ?_; refine td_cons rfl (fun K hK => ?_) (td_nil); (focus (refine step_gl (by first | exact (HB.out.alloc _).drew | exact HB.out.drew.alloc _) (.tmp 13) (.tmp 19) (by rfl) (by rfl) (by omega) (by rfl) ⟨⟨#[32]⟩, false, st⟩ _ _ (by rfl) (by first | exact block_new w _ | exact block_new _ _) ?_; intro g6 cap6 w6 hI6; have f6 := frozen_block hI6.box 2; have k6 : w6.cell? ⟨B, 2, none⟩ = some (.slice A0 N c0) := cell_block hI6.box 2; have HI6 := hide hI6; have HS7 := hide (show w6.cell? ⟨B, 2, none⟩ = some (.slice A0 N c0) ∧ w6.cell? ⟨B, 3, none⟩ = some (.int .i64 st) from ⟨k6, cell_block hI6.box 3⟩); (first | refine hK.out _ _ ?_ ?_ | (go_wp2_with fail; refine hK.out _ _ ?_ ?_)); (· (first | exact HS7.out | exact HS.out _ (hbd.alloc (Nat.le_refl _) _) | exact HS.out _ hbd)); clear hK K hHeld; intro hHeld; (try simp only [Act.put, List.setIfInBounds_toArray, List.set_cons_zero, List.set_cons_succ]))); rotate_left)
        | fail)
      all_goals (refine td_last (rs := [12]) (by decide +kernel) (by decide) ?_)
      all_goals clear hHeld
      repeat' (first
        | (refine tda_ready (rs := [12]) (by decide +kernel) (by simp) ?_; refine tda_cons rfl (fun K hK => ?_) (tda_nil); (focus (go_simp; refine hK.out _ _ ?_; clear hK K; (try simp only [Act.put, List.setIfInBounds_toArray, List.set_cons_zero, List.set_cons_succ]))); rotate_left)
        | (refine tda_ready (rs := [13]) (by decide +kernel) (by simp) ?_; refine tda_cons rfl (fun K hK => ?_) (tda_nil); (focus (go_simp; refine hK.out _ _ ?_; clear hK K; (try simp only [Act.put, List.setIfInBounds_toArray, List.set_cons_zero, List.set_cons_succ]))); rotate_left)
        | (refine tda_ready (rs := [14]) (by decide +kernel) (by simp) ?_; refine tda_cons rfl (fun K hK => ?_) (tda_nil); (focus (go_simp; refine hK.out _ _ ?_; clear hK K; (try simp only [Act.put, List.setIfInBounds_toArray, List.set_cons_zero, List.set_cons_succ]))); rotate_left)
        | fail)
      all_goals refine tda_done (by decide +kernel) ?_
      go_wp2_with fail
      go_meet
      case rel =>
        refine ⟨some ⟨g6, 0, none⟩, cap6, ?_⟩
        rw [HOl.out, ← HOe.out]
        exact HI6.out.set 2 _
  case rest =>
    obtain ⟨A1, c1, hI1⟩ := hcut
    have HI1 := hide hI1
    clear hI1 k4
    go_wp2
    go_loopw [25] (fun i wr => ∃ (k : Nat) (A : Option Addr) (c : Nat), k ≤ T.size ∧ i = .int .i64 k ∧ BoxO B w wr 71 #[.map (some bR), .slice Aw nw cw, .slice A (O1.length + k) c, .int .i64 st, .bool jo] 42 3 (.slice A (O1.length + k) c) (O1.length + k) ((O1 ++ lettersGl (T.data.toList.take k) st).flatMap Gl.enc)) (fun i _ => T.size - (intOf i).toNat)
    case atStart => exact ⟨0, A1, c1, Nat.zero_le _, rfl, by rw [List.take_zero]; simpa [lettersGl] using HI1.out⟩
    case round =>
      rename World => wo
      obtain ⟨k, A, c, hk, rfl, hI⟩ := hrel
      have HI := hide hI.again
      have HI0 := hide hI
      have k4 := cell_block hI.box 4
      have f4 := frozen_block hI.box 4
      clear hI
      by_cases hlt : k < T.size
      · have hkI : (k : Int) < (T.size : Int) := by omega
        have hw1 : IntKind.i64.wrap ((k : Int) + 1) = (k : Int) + 1 := IntWalk.i64_in _ (by omega)
        obtain ⟨M, hM⟩ : ∃ M, O1.length + k = M := ⟨_, rfl⟩
        rw [hM] at HI
        have hMl : M ≤ 1000000 := by omega
        have HM := hide hM
        have HX := hide (extract_one T k hlt)
        have Hlt := hide (letters_take T st k hlt)
        clear hM
        go_upto_region 5 with fail
        have HS := hide (fun (W : World) (hb : Below wo.heap.size wo W) => (show W.cell? ⟨B, 2, none⟩ = some (.slice A M c) ∧ W.cell? ⟨B, 3, none⟩ = some (.int .i64 st) from ⟨cell_block (HI.out.below hb).box 2, cell_block (HI.out.below hb).box 3⟩))
        have hbd := (Below.refl wo.heap.size wo).drew
        have g0 : (0 : Int) ≤ (k : Int) := by omega
        have g1 : (k : Int) ≤ (k : Int) + 1 := by omega
        have g2 : (k : Int) + 1 ≤ (T.size : Int) := by omega
        have g3 : (0 : Int) ≤ (k : Int) + 1 := by omega
        have g4 : ((k : Int) + 1).toNat = k + 1 := by omega
        have g5 : k ≤ T.size := by omega
        have g6' : k + 1 ≤ T.size := hlt
        refine td_begin (by kernel_rfl) ?_
        (refine tda_take 0 (v := ?_) rfl (by kernel_rfl) (by decide +kernel) (by decide +kernel) (fun _ _ _ h => h) (by rfl) ?_ ?_; rotate_left; (· (intro w; (go_simp <;> with_reducible rfl))); (try simp only [Act.put, List.setIfInBounds_toArray, List.set_cons_zero, List.set_cons_succ]))
        (refine tda_take 1 (v := ?_) rfl (by kernel_rfl) (by decide +kernel) (by decide +kernel) (fun _ _ _ h => h) (by rfl) ?_ ?_; rotate_left; (· (intro w; (go_simp <;> with_reducible rfl))); (try simp only [Act.put, List.setIfInBounds_toArray, List.set_cons_zero, List.set_cons_succ]))
        (refine tda_take 2 (v := ?_) rfl (by kernel_rfl) (by decide +kernel) (by decide +kernel) (fun _ _ _ h => h) (by rfl) ?_ ?_; rotate_left; (· (intro w; (go_simp <;> with_reducible rfl))); (try simp only [Act.put, List.setIfInBounds_toArray, List.set_cons_zero, List.set_cons_succ]))
        (refine tda_take 3 (v := ?_) rfl (by kernel_rfl) (by decide +kernel) (by decide +kernel) (fun _ _ _ h => h) (by rfl) ?_ ?_; rotate_left; (· (intro w; (go_simp <;> with_reducible rfl))); (try simp only [Act.put, List.setIfInBounds_toArray, List.set_cons_zero, List.set_cons_succ]))
        (refine tda_take 5 (v := ?_) rfl (by kernel_rfl) (by decide +kernel) (by decide +kernel) (fun _ _ _ h => h) (by rfl) ?_ ?_; rotate_left; (· (intro w; (go_simp <;> with_reducible rfl))); (try simp only [Act.put, List.setIfInBounds_toArray, List.set_cons_zero, List.set_cons_succ]))
        (refine tda_take 6 (v := ?_) rfl (by kernel_rfl) (by decide +kernel) (by decide +kernel) (fun _ _ _ h => h) (by rfl) ?_ ?_; rotate_left; (· (intro w; (go_simp <;> with_reducible rfl))); (try simp only [Act.put, List.setIfInBounds_toArray, List.set_cons_zero, List.set_cons_succ]))
        (refine tda_take 7 (v := ?_) rfl (by kernel_rfl) (by decide +kernel) (by decide +kernel) (fun _ _ _ h => h) (by rfl) ?_ ?_; rotate_left; (· (intro w; (go_simp <;> with_reducible rfl))); (try simp only [Act.put, List.setIfInBounds_toArray, List.set_cons_zero, List.set_cons_succ]))
        (refine tda_take 8 (v := ?_) rfl (by kernel_rfl) (by decide +kernel) (by decide +kernel) (fun _ _ _ h => h) (by rfl) ?_ ?_; rotate_left; (· (intro w; (go_simp <;> with_reducible rfl))); (try simp only [Act.put, List.setIfInBounds_toArray, List.set_cons_zero, List.set_cons_succ]))
        (refine tda_take 9 (v := ?_) rfl (by kernel_rfl) (by decide +kernel) (by decide +kernel) (fun _ _ _ h => h) (by rfl) ?_ ?_; rotate_left; (· (intro w; (go_simp <;> with_reducible rfl))); (try simp only [Act.put, List.setIfInBounds_toArray, List.set_cons_zero, List.set_cons_succ]))
        (refine tda_take 10 (v := ?_) rfl (by kernel_rfl) (by decide +kernel) (by decide +kernel) (fun _ _ _ h => h) (by rfl) ?_ ?_; rotate_left; (· (intro w; (go_simp <;> with_reducible rfl))); (try simp only [Act.put, List.setIfInBounds_toArray, List.set_cons_zero, List.set_cons_succ]))
        (refine tda_take 11 (v := ?_) rfl (by kernel_rfl) (by decide +kernel) (by decide +kernel) (fun _ _ _ h => h) (by rfl) ?_ ?_; rotate_left; (· (intro w; (go_simp <;> with_reducible rfl))); (try simp only [Act.put, List.setIfInBounds_toArray, List.set_cons_zero, List.set_cons_succ]))
        (refine tda_take 12 (v := ?_) rfl (by kernel_rfl) (by decide +kernel) (by decide +kernel) (fun _ _ _ h => h) (by rfl) ?_ ?_; rotate_left; (· (intro w; (go_simp <;> with_reducible rfl))); (try simp only [Act.put, List.setIfInBounds_toArray, List.set_cons_zero, List.set_cons_succ]))
        refine td_hold (fun W2 => W2.cell? ⟨B, 2, none⟩ = some (.slice A M c) ∧ W2.cell? ⟨B, 3, none⟩ = some (.int .i64 st)) [17, 18, 19] (by decide +kernel) ?_ (fun hHeld => ?_)
        · (first | exact HS7.out | exact HS.out _ (hbd.alloc (Nat.le_refl _) _) | exact HS.out _ hbd)
        (refine td_take 4 (v := ?_) rfl (by decide) (by kernel_rfl) (by decide +kernel) (by decide +kernel) (fun _ _ _ h => h) (by assumption) (by rfl) ?_ ?_; rotate_left; (· (intro w hSw; (try dsimp only at hSw); (go_simp <;> with_reducible rfl))); (try simp only [Act.put, List.setIfInBounds_toArray, List.set_cons_zero, List.set_cons_succ]))
        (refine td_take 13 (v := ?_) rfl (by decide) (by kernel_rfl) (by decide +kernel) (by decide +kernel) (fun _ _ _ h => h) (by assumption) (by rfl) ?_ ?_; rotate_left; (· (intro w hSw; (try dsimp only at hSw); (go_simp <;> with_reducible rfl))); (try simp only [Act.put, List.setIfInBounds_toArray, List.set_cons_zero, List.set_cons_succ]))
        (refine td_take 14 (v := ?_) rfl (by decide) (by kernel_rfl) (by decide +kernel) (by decide +kernel) (fun _ _ _ h => h) (by assumption) (by rfl) ?_ ?_; rotate_left; (· (intro w hSw; (try dsimp only at hSw); (go_simp <;> with_reducible rfl))); (try simp only [Act.put, List.setIfInBounds_toArray, List.set_cons_zero, List.set_cons_succ]))
        repeat' (first
          | (refine td_ready (rs := [15]) (by decide +kernel) (by decide) (by simp) ?_; refine td_cons rfl (fun K hK => ?_) (td_nil); (focus (go_simp; (first | refine hK.out _ _ ?_ ?_ | (go_wp2_with fail; refine hK.out _ _ ?_ ?_)); (· (first | exact HS7.out | exact HS.out _ (hbd.alloc (Nat.le_refl _) _) | exact HS.out _ hbd)); clear hK K hHeld; intro hHeld; (try simp only [Act.put, List.setIfInBounds_toArray, List.set_cons_zero, List.set_cons_succ]))); rotate_left)
          | (refine td_ready (rs := [16]) (by decide +kernel) (by decide) (by simp) ?_; refine td_cons rfl (fun K hK => ?_) (td_nil); (focus (refine step_gl (by first | exact (HI.out.alloc _).drew | exact HI.out.drew.alloc _) (.tmp 32) (.tmp 43) (by rfl) (by rfl) (by omega) (by rfl) ⟨T.extract k (k + 1), false, st⟩ _ _ (by rfl) (by first | exact block_new wo _ | exact block_new _ _) ?_; intro g6 cap6 w6 hI6; have f6 := frozen_block hI6.box 2; have k6 : w6.cell? ⟨B, 2, none⟩ = some (.slice A M c) := cell_block hI6.box 2; have HI6 := hide hI6; have HS7 := hide (show w6.cell? ⟨B, 2, none⟩ = some (.slice A M c) ∧ w6.cell? ⟨B, 3, none⟩ = some (.int .i64 st) from ⟨k6, cell_block hI6.box 3⟩); (first | refine hK.out _ _ ?_ ?_ | (go_wp2_with fail; refine hK.out _ _ ?_ ?_)); (· (first | exact HS7.out | exact HS.out _ (hbd.alloc (Nat.le_refl _) _) | exact HS.out _ hbd)); clear hK K hHeld; intro hHeld; (try simp only [Act.put, List.setIfInBounds_toArray, List.set_cons_zero, List.set_cons_succ]))); rotate_left)
          | fail)
        all_goals (refine td_last (rs := [17]) (by decide +kernel) (by decide) ?_)
        all_goals clear hHeld
        repeat' (first
          | (refine tda_ready (rs := [17]) (by decide +kernel) (by simp) ?_; refine tda_cons rfl (fun K hK => ?_) (tda_nil); (focus (go_simp; refine hK.out _ _ ?_; clear hK K; (try simp only [Act.put, List.setIfInBounds_toArray, List.set_cons_zero, List.set_cons_succ]))); rotate_left)
          | (refine tda_ready (rs := [18]) (by decide +kernel) (by simp) ?_; refine tda_cons rfl (fun K hK => ?_) (tda_nil); (focus (go_simp; refine hK.out _ _ ?_; clear hK K; (try simp only [Act.put, List.setIfInBounds_toArray, List.set_cons_zero, List.set_cons_succ]))); rotate_left)
          | (refine tda_ready (rs := [19]) (by decide +kernel) (by simp) ?_; refine tda_cons rfl (fun K hK => ?_) (tda_nil); (focus (go_simp; refine hK.out _ _ ?_; clear hK K; (try simp only [Act.put, List.setIfInBounds_toArray, List.set_cons_zero, List.set_cons_succ]))); rotate_left)
          | fail)
        all_goals refine tda_done (by decide +kernel) ?_
        go_wp2
        go_roundw
        case rel =>
          refine ⟨k + 1, some ⟨g6, 0, none⟩, cap6, hlt, by go_num, ?_⟩
          rw [show O1.length + (k + 1) = M + 1 by have := HM.out; omega, Hlt.out, ← List.append_assoc, ← HX.out]
          exact ⟨(HI6.out.set 2 _).box, (HI6.out.set 2 _).own, HI0.out.bl.trans (HI6.out.set 2 _).bl⟩
        case measure => simp [intOf]; omega
      · obtain rfl : k = T.size := by omega
        have hTk : T.data.toList.take T.size = T.data.toList := List.take_length
        have HTk := hide hTk
        clear hTk
        go_wp2
        refine bodyPost_end (results_none rfl _ _ _) rfl ?_
        refine ⟨rfl, Aw, nw, cw, .slice A (O1.length + T.size) c, BoxO.eq ⟨(HI0.out.set 4 (.bool true)).box, (HI0.out.set 4 (.bool true)).own, HB0.out.trans (HI0.out.set 4 (.bool true)).bl⟩ ?_ ?_, Hw.out.1, Hw.out.2, hr1.out _ (HI0.out.set 4 (.bool true)).bl⟩
        · simp only [List.length_append, lettersGl, List.length_map]; rw [← Lib.size_eq]
        · rw [HTk.out]
end Go.Proofs.YtdkppdjonlldhaaGreatDoor

/- The parser's literal: a word of letters, plain, marked or spelled. -/
namespace Go.Proofs.YtdkppdjonlldhaaGreatDoor
open Go.RowKit Go.Maps Go.Shelf

/-- What literal answers. -/
def litV (o : Option (Wd × Nat)) : Value := match o with | some (s, n) => .tuple #[strV s, .int .i64 n] | none => .tuple #[.string ⟨#[]⟩, .int .i64 0]
theorem isRes_set (X : Wd) : (setD resL).atKey (.string X) (.lit (.bool false)) = .lit (.bool (isRes X)) := setD_at X resL
theorem tl_eq {X : ByteArray} {x : Wd} (h : X.data.toList = x) (c : Wd) : (X.toList == c) = decide (x = c) := by
  rw [ByteArray.toList_eq, h]
  by_cases e : x = c
  · rw [decide_eq_true e, beq_iff_eq.2 e]
  · rw [decide_eq_false e, beq_eq_false_iff_ne.2 e]
theorem literal_eq (w : Wd) (rest : List Wd) : literalF (w :: rest) = if (decide (w = wordW) && firstPlain rest) = true then some (rest.headD [], 2)
    else if (plainB w && !(isRes w)) = true then some (w, 1) else if w = spelledW then spelledF rest [] 1 else none := by
  unfold literalF
  simp only [Bool.and_eq_true, decide_eq_true_eq, Bool.not_eq_true']
theorem spelled_eq (x : Wd) (rest : List Wd) (s : Wd) (i : Nat) : spelledF (x :: rest) s i = if x = endW ∧ s ≠ [] then some (s, i + 1) else if plainB x = true ∧ x.length = 1 then spelledF rest (s ++ x) (i + 1) else none := rfl
set_option maxRecDepth 100000 in
set_option maxHeartbeats 4000000 in
theorem literalP (w : World) (B bR nR : Nat) (hbx : ∃ cs : List Value, w.heap[B]? = some (.cells (Value.map (some bR) :: cs).toArray 71 (0, 0))) (hR : SetAt w bR nR resL) (A : Option Addr) (n c : Nat) (l : List Wd) (hl : l.length = n) (hn : n ≤ 1000000) (hrow : StrRow w w.heap.size A l) (hsz : ∀ s ∈ l, s.length ≤ 1000000) :
    Calls Tryz.prog 87 #[.pointer (some ⟨B, 0, none⟩), .slice A n c] w fun e w' => e = .returned (litV (literalF l)) ∧ Below w.heap.size w w' := by
  have hb := Below.refl w.heap.size w
  cases l with
  | nil =>
    obtain rfl : n = 0 := hl.symm
    have hL : litV (literalF []) = .tuple #[.string ⟨#[]⟩, .int .i64 0] := rfl
    rw [hL]
    clear hrow hR hbx
    go_enter Tryz.func87, Tryz.ntmps87
    go_wp2
    go_ret2
    exact ⟨rfl, hb⟩
  | cons x r =>
    obtain ⟨cs, hbx⟩ := hbx
    have hkM : w.cell? ⟨B, 0, none⟩ = some (.map (some bR)) := cell_block hbx 0
    have hBl := block_lt hbx
    obtain ⟨b, off, rfl, hbb, hc0⟩ := hrow.get1 (k := 0) (by simp)
    have hcell := hide (fun (k : Nat) (y : Wd) (hy : (x :: r)[k]? = some y) (W : World) (hW : Below w.heap.size w W) => show W.cell? ⟨b, off + k, none⟩ = some (strV y) from by
      obtain ⟨b', o', he, -, hc⟩ := hrow (by simp)
      cases he
      have := hc k y hy
      rw [Nat.mul_one] at this
      exact (hW.cell (p := ⟨b, off + k, none⟩) hbb).trans this)
    have HM := hide hR
    have HkM := hide (fun (W : World) (hW : Below w.heap.size w W) => (hW.cell (p := ⟨B, 0, none⟩) hBl).trans hkM)
    have HPl := hide (fun (W : World) (y : Wd) (hy : y.length ≤ 1000000) => plainP W ⟨y.toArray⟩ (by rw [Lib.size_eq]; simpa using hy))
    obtain ⟨X, hX⟩ : ∃ X : ByteArray, (⟨x.toArray⟩ : ByteArray) = X := ⟨_, rfl⟩
    have hXl : X.data.toList = x := by rw [← hX]
    have hx0 : w.cell? ⟨b, off, none⟩ = some (strV x) := hcell.out 0 x rfl w hb
    have hPx := HPl.out
    have hxs := hsz x List.mem_cons_self
    have HPx := hide (fun (W : World) => (HPl.out W x hxs))
    rw [hX] at HPx
    rw [hXl] at HPx
    unfold strV at hx0
    rw [hX] at hx0
    have HX0 := hide hx0
    have Hkey := hide (skey x hxs)
    rw [hX] at Hkey
    have Hset := hide (isRes_set x)
    have HE := hide (literal_eq x r)
    obtain ⟨L, hL⟩ : ∃ L, literalF (x :: r) = L := ⟨_, rfl⟩
    rw [hL] at HE ⊢
    obtain ⟨P0, hP0⟩ : ∃ P0, plainB x = P0 := ⟨_, rfl⟩
    obtain ⟨R0, hR0⟩ : ∃ R0, isRes x = R0 := ⟨_, rfl⟩
    rw [hP0] at HPx HE
    rw [hR0] at Hset HE
    have i1 : (0 : Int) < (n : Int) := by rw [← hl, List.length_cons]; omega
    have i2 : ((n : Int) == 0) = false := beq_eq_false_iff_ne.2 (by omega)
    have i1n : 0 < n := by omega
    have Hl := hide hl
    have Hsz := hide hsz
    have hbb' := hbb
    clear hL hP0 hR0 hrow hsz hR hbx hkM hc0 hx0 hPx hl hX
    obtain ⟨b1, hb1⟩ : ∃ b1, (decide (x = wordW) && firstPlain r) = b1 := ⟨_, rfl⟩
    rw [hb1] at HE
    have Hb1 := hide hb1
    clear hb1
    have y0 : w.cell? ⟨b, off, none⟩ = some (.string X) := HX0.out
    go_enter Tryz.func87, Tryz.ntmps87
    go_upto_region 3 with fail
    go_cut [11] (fun s wx => s = .bool b1 ∧ Below w.heap.size w wx)
    case first =>
      by_cases hxw : x = wordW
      · have q := (tl_eq hXl wordW).trans (decide_eq_true hxw)
        unfold wordW at q
        cases r with
        | nil =>
          have hn1 : n = 1 := by rw [← Hl.out]; rfl
          subst hn1
          obtain rfl : b1 = false := by rw [← Hb1.out]; simp [firstPlain]
          go_wp2_with fail
          go_meet
          case rel => exact ⟨rfl, hb⟩
        | cons y r2 =>
          have hn2 : 2 ≤ n := by rw [← Hl.out]; simp
          have i3 : (1 : Int) < (n : Int) := by omega
          have hy0 := hcell.out 1 y rfl w hb
          unfold strV at hy0
          have HPy := hide (fun (W : World) => (HPl.out W y (Hsz.out y (by simp))))
          obtain ⟨Y, hY⟩ : ∃ Y : ByteArray, (⟨y.toArray⟩ : ByteArray) = Y := ⟨_, rfl⟩
          have hYl : Y.data.toList = y := by rw [← hY]
          rw [hY] at HPy hy0
          rw [hYl] at HPy
          obtain ⟨P1, hP1⟩ : ∃ P1, plainB y = P1 := ⟨_, rfl⟩
          rw [hP1] at HPy
          have hb1' : P1 = b1 := by rw [← Hb1.out, ← hP1, decide_eq_true hxw]; rfl
          subst hb1'
          clear hP1 hY
          go_wp2_with (first
            | (go_at_call 108; refine (HPy.out _).mono ?_; rintro e w5 ⟨rfl, hb5⟩)
            | fail)
          go_meet
          case rel => exact ⟨rfl, hb5⟩
      · have q := (tl_eq hXl wordW).trans (decide_eq_false hxw)
        unfold wordW at q
        obtain rfl : b1 = false := by rw [← Hb1.out, decide_eq_false hxw]; rfl
        go_wp2_with fail
        go_meet
        case rel => exact ⟨rfl, hb⟩
    case rest =>
      obtain ⟨rfl, hbc⟩ := hcut
      clear y0
      have z0 := (hbc.cell (p := ⟨b, off, none⟩) hbb).trans HX0.out
      have HBC := hide hbc
      cases b1 with
      | true =>
        have h1 := Hb1.out
        rw [Bool.and_eq_true] at h1
        cases r with
        | nil => exact absurd h1.2 (by simp [firstPlain])
        | cons y r2 =>
          have hL : L = some (y, 2) := by rw [HE.out, if_pos rfl]; rfl
          subst hL
          have hn2 : 2 ≤ n := by rw [← Hl.out]; simp
          have i3 : (1 : Int) < (n : Int) := by omega
          have hy0 := hcell.out 1 y rfl wc hbc
          clear h1 hbc
          go_wp2
          go_ret2
          exact ⟨rfl, HBC.out⟩
      | false =>
        have HE2 := hide (show L = if (P0 && !R0) = true then some (x, 1) else if x = spelledW then spelledF r [] 1 else none by rw [HE.out, if_neg (by simp)])
        have HM1 := hide (HM.out.below hbc)
        have hbbc : b < wc.heap.size := Nat.lt_of_lt_of_le hbb hbc.size
        have HXc := hide z0
        have hbd := (Below.refl wc.heap.size wc).drew
        have hkMc := HkM.out wc hbc
        have HkMc := hide hkMc
        have hBlc : B < wc.heap.size := Nat.lt_of_lt_of_le hBl hbc.size
        obtain ⟨wa, rfl⟩ : ∃ wa : World, wa = wc := ⟨_, rfl⟩
        clear HE hbc hkMc
        go_upto_region 5 with fail
        go_cut [30] (fun s wx => s = .bool (P0 && !R0) ∧ Below wa.heap.size wa wx)
        case first =>
          cases P0 with
          | false =>
            refine td_begin (by kernel_rfl) ?_
            refine td_hold (fun W => Below wa.heap.size wa W) [] (by decide +kernel) ?_ (fun hHeld => ?_)
            · (exact hbd)
            (refine td_take 0 (v := ?_) rfl (by decide) (by kernel_rfl) (by decide +kernel) (by decide +kernel) (fun _ _ _ h => h) (by assumption) (by rfl) ?_ ?_; rotate_left; (· (intro w hSw; (try dsimp only at hSw); have y0 := (hSw.cell (p := ⟨b, off, none⟩) hbbc).trans HXc.out; have k0 := (hSw.cell (p := ⟨B, 0, none⟩) hBlc).trans HkMc.out; (go_simp <;> with_reducible rfl))); (try simp only [Act.put, List.setIfInBounds_toArray, List.set_cons_zero, List.set_cons_succ]))
            (refine td_take 1 (v := ?_) rfl (by decide) (by kernel_rfl) (by decide +kernel) (by decide +kernel) (fun _ _ _ h => h) (by assumption) (by rfl) ?_ ?_; rotate_left; (· (intro w hSw; (try dsimp only at hSw); have y0 := (hSw.cell (p := ⟨b, off, none⟩) hbbc).trans HXc.out; have k0 := (hSw.cell (p := ⟨B, 0, none⟩) hBlc).trans HkMc.out; (go_simp <;> with_reducible rfl))); (try simp only [Act.put, List.setIfInBounds_toArray, List.set_cons_zero, List.set_cons_succ]))
            (refine td_take 2 (v := ?_) rfl (by decide) (by kernel_rfl) (by decide +kernel) (by decide +kernel) (fun _ _ _ h => h) (by assumption) (by rfl) ?_ ?_; rotate_left; (· (intro w hSw; (try dsimp only at hSw); have y0 := (hSw.cell (p := ⟨b, off, none⟩) hbbc).trans HXc.out; have k0 := (hSw.cell (p := ⟨B, 0, none⟩) hBlc).trans HkMc.out; (go_simp <;> with_reducible rfl))); (try simp only [Act.put, List.setIfInBounds_toArray, List.set_cons_zero, List.set_cons_succ]))
            (refine td_ready (rs := [3]) (by decide +kernel) (by decide) (by simp) ?_; refine td_cons rfl (fun K hK => ?_) td_nil; (go_simp; go_at_call 108; refine (HPx.out _).mono ?_; rintro e w5 ⟨rfl, hb5⟩; have hbd := hbd.trans (hb5.mono hbd.size); clear hb5; (first | refine hK.out _ _ ?_ ?_ | (go_wp2_with fail; refine hK.out _ _ ?_ ?_)); (· (exact hbd)); clear hK K hHeld; intro hHeld; (try simp only [Act.put, List.setIfInBounds_toArray, List.set_cons_zero, List.set_cons_succ])))
            (refine td_take 4 (v := ?_) rfl (by decide) (by kernel_rfl) (by decide +kernel) (by decide +kernel) (fun _ _ _ h => h) (by assumption) (by rfl) ?_ ?_; rotate_left; (· (intro w hSw; (try dsimp only at hSw); have y0 := (hSw.cell (p := ⟨b, off, none⟩) hbbc).trans HXc.out; have k0 := (hSw.cell (p := ⟨B, 0, none⟩) hBlc).trans HkMc.out; (go_simp <;> with_reducible rfl))); (try simp only [Act.put, List.setIfInBounds_toArray, List.set_cons_zero, List.set_cons_succ]))
            (refine td_skip 5 rfl (by decide) (by kernel_rfl) (by decide +kernel) (by decide +kernel) (fun _ _ _ h => h) (by assumption) (by rfl) ?_; (try simp only [Act.put, List.setIfInBounds_toArray, List.set_cons_zero, List.set_cons_succ]))
            (refine td_skip 6 rfl (by decide) (by kernel_rfl) (by decide +kernel) (by decide +kernel) (fun _ _ _ h => h) (by assumption) (by rfl) ?_; (try simp only [Act.put, List.setIfInBounds_toArray, List.set_cons_zero, List.set_cons_succ]))
            (refine td_skip 7 rfl (by decide) (by kernel_rfl) (by decide +kernel) (by decide +kernel) (fun _ _ _ h => h) (by assumption) (by rfl) ?_; (try simp only [Act.put, List.setIfInBounds_toArray, List.set_cons_zero, List.set_cons_succ]))
            (refine td_skip 8 rfl (by decide) (by kernel_rfl) (by decide +kernel) (by decide +kernel) (fun _ _ _ h => h) (by assumption) (by rfl) ?_; (try simp only [Act.put, List.setIfInBounds_toArray, List.set_cons_zero, List.set_cons_succ]))
            (refine td_skip 9 rfl (by decide) (by kernel_rfl) (by decide +kernel) (by decide +kernel) (fun _ _ _ h => h) (by assumption) (by rfl) ?_; (try simp only [Act.put, List.setIfInBounds_toArray, List.set_cons_zero, List.set_cons_succ]))
            (refine td_skip 10 rfl (by decide) (by kernel_rfl) (by decide +kernel) (by decide +kernel) (fun _ _ _ h => h) (by assumption) (by rfl) ?_; (try simp only [Act.put, List.setIfInBounds_toArray, List.set_cons_zero, List.set_cons_succ]))
            (refine td_skip 11 rfl (by decide) (by kernel_rfl) (by decide +kernel) (by decide +kernel) (fun _ _ _ h => h) (by assumption) (by rfl) ?_; (try simp only [Act.put, List.setIfInBounds_toArray, List.set_cons_zero, List.set_cons_succ]))
            (refine td_skip 12 rfl (by decide) (by kernel_rfl) (by decide +kernel) (by decide +kernel) (fun _ _ _ h => h) (by assumption) (by rfl) ?_; (try simp only [Act.put, List.setIfInBounds_toArray, List.set_cons_zero, List.set_cons_succ]))
            (refine td_skip 13 rfl (by decide) (by kernel_rfl) (by decide +kernel) (by decide +kernel) (fun _ _ _ h => h) (by assumption) (by rfl) ?_; (try simp only [Act.put, List.setIfInBounds_toArray, List.set_cons_zero, List.set_cons_succ]))
            (refine td_take 14 (v := ?_) rfl (by decide) (by kernel_rfl) (by decide +kernel) (by decide +kernel) (fun _ _ _ h => h) (by assumption) (by rfl) ?_ ?_; rotate_left; (· (intro w hSw; (try dsimp only at hSw); have y0 := (hSw.cell (p := ⟨b, off, none⟩) hbbc).trans HXc.out; have k0 := (hSw.cell (p := ⟨B, 0, none⟩) hBlc).trans HkMc.out; (go_simp <;> with_reducible rfl))); (try simp only [Act.put, List.setIfInBounds_toArray, List.set_cons_zero, List.set_cons_succ]))
            (refine td_take 15 (v := ?_) rfl (by decide) (by kernel_rfl) (by decide +kernel) (by decide +kernel) (fun _ _ _ h => h) (by assumption) (by rfl) ?_ ?_; rotate_left; (· (intro w hSw; (try dsimp only at hSw); have y0 := (hSw.cell (p := ⟨b, off, none⟩) hbbc).trans HXc.out; have k0 := (hSw.cell (p := ⟨B, 0, none⟩) hBlc).trans HkMc.out; (go_simp <;> with_reducible rfl))); (try simp only [Act.put, List.setIfInBounds_toArray, List.set_cons_zero, List.set_cons_succ]))
            refine And.intro (by decide +kernel) ?_
            go_wp2_with fail
            go_meet
            case rel => exact ⟨rfl, hbd⟩
          | true =>
            refine td_begin (by kernel_rfl) ?_
            refine td_hold (fun W => Below wa.heap.size wa W) [] (by decide +kernel) ?_ (fun hHeld => ?_)
            · (exact hbd)
            (refine td_take 0 (v := ?_) rfl (by decide) (by kernel_rfl) (by decide +kernel) (by decide +kernel) (fun _ _ _ h => h) (by assumption) (by rfl) ?_ ?_; rotate_left; (· (intro w hSw; (try dsimp only at hSw); have y0 := (hSw.cell (p := ⟨b, off, none⟩) hbbc).trans HXc.out; have k0 := (hSw.cell (p := ⟨B, 0, none⟩) hBlc).trans HkMc.out; (go_simp <;> with_reducible rfl))); (try simp only [Act.put, List.setIfInBounds_toArray, List.set_cons_zero, List.set_cons_succ]))
            (refine td_take 1 (v := ?_) rfl (by decide) (by kernel_rfl) (by decide +kernel) (by decide +kernel) (fun _ _ _ h => h) (by assumption) (by rfl) ?_ ?_; rotate_left; (· (intro w hSw; (try dsimp only at hSw); have y0 := (hSw.cell (p := ⟨b, off, none⟩) hbbc).trans HXc.out; have k0 := (hSw.cell (p := ⟨B, 0, none⟩) hBlc).trans HkMc.out; (go_simp <;> with_reducible rfl))); (try simp only [Act.put, List.setIfInBounds_toArray, List.set_cons_zero, List.set_cons_succ]))
            (refine td_take 2 (v := ?_) rfl (by decide) (by kernel_rfl) (by decide +kernel) (by decide +kernel) (fun _ _ _ h => h) (by assumption) (by rfl) ?_ ?_; rotate_left; (· (intro w hSw; (try dsimp only at hSw); have y0 := (hSw.cell (p := ⟨b, off, none⟩) hbbc).trans HXc.out; have k0 := (hSw.cell (p := ⟨B, 0, none⟩) hBlc).trans HkMc.out; (go_simp <;> with_reducible rfl))); (try simp only [Act.put, List.setIfInBounds_toArray, List.set_cons_zero, List.set_cons_succ]))
            (refine td_ready (rs := [3]) (by decide +kernel) (by decide) (by simp) ?_; refine td_cons rfl (fun K hK => ?_) td_nil; (go_simp; go_at_call 108; refine (HPx.out _).mono ?_; rintro e w5 ⟨rfl, hb5⟩; have hbd := hbd.trans (hb5.mono hbd.size); clear hb5; (first | refine hK.out _ _ ?_ ?_ | (go_wp2_with fail; refine hK.out _ _ ?_ ?_)); (· (exact hbd)); clear hK K hHeld; intro hHeld; (try simp only [Act.put, List.setIfInBounds_toArray, List.set_cons_zero, List.set_cons_succ])))
            (refine td_take 4 (v := ?_) rfl (by decide) (by kernel_rfl) (by decide +kernel) (by decide +kernel) (fun _ _ _ h => h) (by assumption) (by rfl) ?_ ?_; rotate_left; (· (intro w hSw; (try dsimp only at hSw); have y0 := (hSw.cell (p := ⟨b, off, none⟩) hbbc).trans HXc.out; have k0 := (hSw.cell (p := ⟨B, 0, none⟩) hBlc).trans HkMc.out; (go_simp <;> with_reducible rfl))); (try simp only [Act.put, List.setIfInBounds_toArray, List.set_cons_zero, List.set_cons_succ]))
            (refine td_take 5 (v := ?_) rfl (by decide) (by kernel_rfl) (by decide +kernel) (by decide +kernel) (fun _ _ _ h => h) (by assumption) (by rfl) ?_ ?_; rotate_left; (· (intro w hSw; (try dsimp only at hSw); have y0 := (hSw.cell (p := ⟨b, off, none⟩) hbbc).trans HXc.out; have k0 := (hSw.cell (p := ⟨B, 0, none⟩) hBlc).trans HkMc.out; (go_simp <;> with_reducible rfl))); (try simp only [Act.put, List.setIfInBounds_toArray, List.set_cons_zero, List.set_cons_succ]))
            (refine td_take 6 (v := ?_) rfl (by decide) (by kernel_rfl) (by decide +kernel) (by decide +kernel) (fun _ _ _ h => h) (by assumption) (by rfl) ?_ ?_; rotate_left; (· (intro w hSw; (try dsimp only at hSw); have y0 := (hSw.cell (p := ⟨b, off, none⟩) hbbc).trans HXc.out; have k0 := (hSw.cell (p := ⟨B, 0, none⟩) hBlc).trans HkMc.out; (go_simp <;> with_reducible rfl))); (try simp only [Act.put, List.setIfInBounds_toArray, List.set_cons_zero, List.set_cons_succ]))
            (refine td_take 7 (v := ?_) rfl (by decide) (by kernel_rfl) (by decide +kernel) (by decide +kernel) (fun _ _ _ h => h) (by assumption) (by rfl) ?_ ?_; rotate_left; (· (intro w hSw; (try dsimp only at hSw); have y0 := (hSw.cell (p := ⟨b, off, none⟩) hbbc).trans HXc.out; have k0 := (hSw.cell (p := ⟨B, 0, none⟩) hBlc).trans HkMc.out; (go_simp <;> with_reducible rfl))); (try simp only [Act.put, List.setIfInBounds_toArray, List.set_cons_zero, List.set_cons_succ]))
            (refine td_take 8 (v := ?_) rfl (by decide) (by kernel_rfl) (by decide +kernel) (by decide +kernel) (fun _ _ _ h => h) (by assumption) (by rfl) ?_ ?_; rotate_left; (· (intro w hSw; (try dsimp only at hSw); have y0 := (hSw.cell (p := ⟨b, off, none⟩) hbbc).trans HXc.out; have k0 := (hSw.cell (p := ⟨B, 0, none⟩) hBlc).trans HkMc.out; (go_simp <;> with_reducible rfl))); (try simp only [Act.put, List.setIfInBounds_toArray, List.set_cons_zero, List.set_cons_succ]))
            (refine td_take 9 (v := ?_) rfl (by decide) (by kernel_rfl) (by decide +kernel) (by decide +kernel) (fun _ _ _ h => h) (by assumption) (by rfl) ?_ ?_; rotate_left; (· (intro w hSw; (try dsimp only at hSw); have y0 := (hSw.cell (p := ⟨b, off, none⟩) hbbc).trans HXc.out; have k0 := (hSw.cell (p := ⟨B, 0, none⟩) hBlc).trans HkMc.out; (go_simp <;> with_reducible rfl))); (try simp only [Act.put, List.setIfInBounds_toArray, List.set_cons_zero, List.set_cons_succ]))
            (refine td_take 10 (v := ?_) rfl (by decide) (by kernel_rfl) (by decide +kernel) (by decide +kernel) (fun _ _ _ h => h) (by assumption) (by rfl) ?_ ?_; rotate_left; (· (intro w hSw; (try dsimp only at hSw); have y0 := (hSw.cell (p := ⟨b, off, none⟩) hbbc).trans HXc.out; have k0 := (hSw.cell (p := ⟨B, 0, none⟩) hBlc).trans HkMc.out; (go_simp <;> with_reducible rfl))); (try simp only [Act.put, List.setIfInBounds_toArray, List.set_cons_zero, List.set_cons_succ]))
            (refine td_take 11 (v := ?_) rfl (by decide) (by kernel_rfl) (by decide +kernel) (by decide +kernel) (fun _ _ _ h => h) (by assumption) (by rfl) ?_ ?_; rotate_left; (· (intro w hSw; (try dsimp only at hSw); have y0 := (hSw.cell (p := ⟨b, off, none⟩) hbbc).trans HXc.out; have k0 := (hSw.cell (p := ⟨B, 0, none⟩) hBlc).trans HkMc.out; (go_simp <;> with_reducible rfl))); (try simp only [Act.put, List.setIfInBounds_toArray, List.set_cons_zero, List.set_cons_succ]))
            (refine td_take 12 (v := ?_) rfl (by decide) (by kernel_rfl) (by decide +kernel) (by decide +kernel) (fun _ _ _ h => h) (by assumption) (by rfl) ?_ ?_; rotate_left; (· (intro w hSw; (try dsimp only at hSw); (refine exec_lookup_own_bool _ (.tmp 39) (.tmp 42) 63 ?_ 9 4 (string_keyed Tryz.underlying9) Tryz.underlying63 Tryz.underlying4 (by kernel_rfl) bR nR (setD resL) ?_ (HM1.out.below hSw) (.string X) _ ?_ Hkey.out _ Hset.out; all_goals rfl))); (try simp only [Act.put, List.setIfInBounds_toArray, List.set_cons_zero, List.set_cons_succ]))
            (refine td_take 13 (v := ?_) rfl (by decide) (by kernel_rfl) (by decide +kernel) (by decide +kernel) (fun _ _ _ h => h) (by assumption) (by rfl) ?_ ?_; rotate_left; (· (intro w hSw; (try dsimp only at hSw); have y0 := (hSw.cell (p := ⟨b, off, none⟩) hbbc).trans HXc.out; have k0 := (hSw.cell (p := ⟨B, 0, none⟩) hBlc).trans HkMc.out; (go_simp <;> with_reducible rfl))); (try simp only [Act.put, List.setIfInBounds_toArray, List.set_cons_zero, List.set_cons_succ]))
            (refine td_take 14 (v := ?_) rfl (by decide) (by kernel_rfl) (by decide +kernel) (by decide +kernel) (fun _ _ _ h => h) (by assumption) (by rfl) ?_ ?_; rotate_left; (· (intro w hSw; (try dsimp only at hSw); have y0 := (hSw.cell (p := ⟨b, off, none⟩) hbbc).trans HXc.out; have k0 := (hSw.cell (p := ⟨B, 0, none⟩) hBlc).trans HkMc.out; (go_simp <;> with_reducible rfl))); (try simp only [Act.put, List.setIfInBounds_toArray, List.set_cons_zero, List.set_cons_succ]))
            (refine td_take 15 (v := ?_) rfl (by decide) (by kernel_rfl) (by decide +kernel) (by decide +kernel) (fun _ _ _ h => h) (by assumption) (by rfl) ?_ ?_; rotate_left; (· (intro w hSw; (try dsimp only at hSw); have y0 := (hSw.cell (p := ⟨b, off, none⟩) hbbc).trans HXc.out; have k0 := (hSw.cell (p := ⟨B, 0, none⟩) hBlc).trans HkMc.out; (go_simp <;> with_reducible rfl))); (try simp only [Act.put, List.setIfInBounds_toArray, List.set_cons_zero, List.set_cons_succ]))
            refine And.intro (by decide +kernel) ?_
            go_wp2_with fail
            go_meet
            case rel => exact ⟨rfl, hbd⟩
        case rest =>
          obtain ⟨rfl, hbc⟩ := hcut
          have hbt := HBC.out.trans (hbc.mono HBC.out.size)
          have z1 := (hbt.cell (p := ⟨b, off, none⟩) hbb).trans HX0.out
          have HBT := hide hbt
          clear z0 hbc hbd
          obtain ⟨PR, hPR⟩ : ∃ PR, (P0 && !R0) = PR := ⟨_, rfl⟩
          rw [hPR] at HE2 ⊢
          cases PR with
          | true =>
            have hL : L = some (x, 1) := by rw [HE2.out, if_pos rfl]
            subst hL
            clear hbt
            go_wp2
            go_ret2
            exact ⟨by unfold litV strV; rw [← hXl]; rfl, HBT.out⟩
          | false =>
            have HE3 := hide (show L = if x = spelledW then spelledF r [] 1 else none by rw [HE2.out, if_neg (by simp)])
            clear HE2
            by_cases hxs2 : x = spelledW
            case neg =>
              have hL : L = none := by rw [HE3.out, if_neg hxs2]
              subst hL
              have q := (tl_eq hXl spelledW).trans (decide_eq_false hxs2)
              unfold spelledW at q
              clear hbt hxs2
              go_wp2
              go_ret2
              exact ⟨rfl, HBT.out⟩
            case pos =>
              have hL : L = spelledF r [] 1 := by rw [HE3.out, if_pos hxs2]
              have q := (tl_eq hXl spelledW).trans (decide_eq_true hxs2)
              unfold spelledW at q
              have HL := hide hL
              clear hL hxs2 HE3 hbt
              have hbt := HBT.out
              have hn1 : 1 ≤ n := i1n
              go_wp2
              go_loopw [6, 7] (fun sv iv wr => ∃ (k : Nat) (SK : ByteArray), 1 ≤ k ∧ k ≤ n ∧ iv = .int .i64 k ∧ sv = .string SK ∧ SK.size ≤ k ∧ spelledF ((x :: r).drop k) SK.data.toList k = L ∧ Below w.heap.size w wr) (fun _ iv _ => n - (intOf iv).toNat)
              case atStart => exact ⟨1, ⟨#[]⟩, Nat.le_refl _, hn1, rfl, rfl, Nat.zero_le _, HL.out.symm, hbt⟩
              case round =>
                rename World => wo
                obtain ⟨k, SK, hk1, hkn, rfl, rfl, hSKs, hsp, hbr⟩ := hrel
                have HB := hide hbr
                clear hbt
                by_cases hlt : k < n
                · have hkI : (k : Int) < (n : Int) := by omega
                  have hk0 : (0 : Int) ≤ (k : Int) := by omega
                  have hkl : k < (x :: r).length := by rw [Hl.out]; exact hlt
                  have hy : (x :: r)[k]? = some ((x :: r)[k]) := List.getElem?_eq_getElem hkl
                  have hd : (x :: r).drop k = (x :: r)[k] :: (x :: r).drop (k + 1) := List.drop_eq_getElem_cons hkl
                  rw [hd, spelled_eq] at hsp
                  have hym := Hsz.out _ (List.getElem_mem hkl)
                  obtain ⟨y, hyy⟩ : ∃ y, (x :: r)[k] = y := ⟨_, rfl⟩
                  rw [hyy] at hy hsp hym
                  have hyc := hcell.out k y hy wo hbr
                  unfold strV at hyc
                  have HPy := hide (fun (W : World) => HPl.out W y hym)
                  obtain ⟨Y, hY⟩ : ∃ Y : ByteArray, (⟨y.toArray⟩ : ByteArray) = Y := ⟨_, rfl⟩
                  have hYl : Y.data.toList = y := by rw [← hY]
                  rw [hY] at HPy hyc
                  have hYs : Y.size = y.length := by rw [Lib.size_eq, hYl]
                  have hcat : SK.size + Y.size ≤ 9223372036854775807 := by omega
                  have Hd := hide hsp
                  clear hd hsp hy hyy hY hbr hym
                  by_cases he : y = endW ∧ SK.data.toList ≠ []
                  · have hL : L = some (SK.data.toList, k + 1) := by rw [← Hd.out, if_pos he]
                    subst hL
                    have q1 := (tl_eq hYl endW).trans (decide_eq_true he.1)
                    unfold endW at q1
                    have q2 : (SK.toList == []) = false := by rw [ByteArray.toList_eq]; exact beq_eq_false_iff_ne.2 he.2
                    have q3 : SK.toList.isEmpty = false := by rw [ByteArray.toList_eq]; cases hz : SK.data.toList with
                      | nil => exact absurd hz he.2
                      | cons a b => rfl
                    clear he hYs
                    go_wp2
                    go_ret2
                    exact ⟨rfl, HB.out⟩
                  · have Hd2 := hide (show (if plainB y = true ∧ y.length = 1 then spelledF ((x :: r).drop (k + 1)) (SK.data.toList ++ y) (k + 1) else none) = L by rw [← Hd.out, if_neg he])
                    clear Hd
                    have htest : (Y.toList == [101, 110, 100]) = false ∨ ((Y.toList == [101, 110, 100]) = true ∧ SK.toList.isEmpty = true ∧ (SK.toList == []) = true) := by
                      by_cases h1 : y = endW
                      · right
                        have h2 : SK.data.toList = [] := by
                          by_cases h2 : SK.data.toList = []
                          · exact h2
                          · exact absurd ⟨h1, h2⟩ he
                        exact ⟨(tl_eq hYl endW).trans (decide_eq_true h1), by rw [ByteArray.toList_eq, h2]; rfl, by rw [ByteArray.toList_eq, h2]; rfl⟩
                      · exact .inl ((tl_eq hYl endW).trans (decide_eq_false h1))
                    obtain ⟨P1, hP1⟩ : ∃ P1, plainB y = P1 := ⟨_, rfl⟩
                    rw [hP1] at HPy Hd2
                    clear he hP1
                    rcases htest with q1 | ⟨q1, q2, q3⟩
                    all_goals
                      cases P1 with
                      | false =>
                        have hL : L = none := by rw [← Hd2.out, if_neg (by rintro ⟨h, -⟩; cases h)]
                        subst hL
                        go_wp2_with (first
                          | (go_at_call 108; refine (HPy.out _).mono ?_; rintro e w5 ⟨rfl, hb5⟩; have hB5 := HB.out.trans (hb5.mono HB.out.size); clear hb5)
                          | fail)
                        go_ret2
                        exact ⟨rfl, hB5⟩
                      | true =>
                        by_cases hy1 : y.length = 1
                        · have hL2 := Hd2.out
                          rw [if_pos ⟨rfl, hy1⟩] at hL2
                          have HL2 := hide hL2
                          have r1 : ((Y.size : Int) == 1) = true := by rw [hYs, hy1]; rfl
                          have r2 : ((Y.size : Int) != 1) = false := by rw [bne, r1]; rfl
                          have r3 : Y.size = 1 := by omega
                          have r4 : (Y.size : Int) = 1 := by omega
                          clear hL2 hy1
                          go_wp2_with (first
                            | (go_at_call 108; refine (HPy.out _).mono ?_; rintro e w5 ⟨rfl, hb5⟩; have hB5 := HB.out.trans (hb5.mono HB.out.size); have hyc := (hb5.cell (p := ⟨b, off + k, none⟩) (Nat.lt_of_lt_of_le hbb HB.out.size)).trans hyc; clear hb5)
                            | fail)
                          go_roundw
                          case rel => exact ⟨k + 1, SK ++ Y, by omega, by omega, by go_num, rfl, by simp; omega, by rw [← HL2.out, ba_append, hYl], hB5⟩
                          case measure => simp [intOf]; omega
                        · have hL : L = none := by rw [← Hd2.out, if_neg (by rintro ⟨-, h⟩; exact hy1 h)]
                          subst hL
                          have r1 : ((Y.size : Int) == 1) = false := beq_eq_false_iff_ne.2 (by omega)
                          have r2 : ((Y.size : Int) != 1) = true := by rw [bne, r1]; rfl
                          have r3 : ¬ Y.size = 1 := by omega
                          clear hy1
                          go_wp2_with (first
                            | (go_at_call 108; refine (HPy.out _).mono ?_; rintro e w5 ⟨rfl, hb5⟩; have hB5 := HB.out.trans (hb5.mono HB.out.size); have hyc := (hb5.cell (p := ⟨b, off + k, none⟩) (Nat.lt_of_lt_of_le hbb HB.out.size)).trans hyc; clear hb5)
                            | fail)
                          go_ret2
                          exact ⟨rfl, hB5⟩
                · obtain rfl : k = n := by omega
                  have hL : L = none := by rw [← hsp, List.drop_eq_nil_of_le (by rw [Hl.out]; exact Nat.le_refl _)]; rfl
                  subst hL
                  clear hsp hbr
                  go_wp2
                  go_ret2
                  exact ⟨rfl, HB.out⟩
end Go.Proofs.YtdkppdjonlldhaaGreatDoor
