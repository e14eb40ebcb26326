/- The walk of the law ScriptcodeLabels. -/
import Derived.Test.YtonnjokjbknngaaDoorZ19
import Derived.Test.YtonnjokjbknngaaDoorZ20
import Derived.Deep.DeepCutAuto
namespace Go.Proofs.YtonnjokjbknngaaDoor
open Go.RowKit Go.Lib Go.Shelf

/-- What the law asks of each character. -/
def okAt (l : BS) (j : Nat) : Prop := ∀ c, l[j]? = some c → (lowB c || (decide (0 < j) && digB c)) = true
def okTo (l : BS) (k : Nat) (b : Bool) : Prop := b = true ↔ (l ≠ [] ∧ l.length ≤ 16 ∧ ∀ j, j < k → okAt l j)
theorem okTo_step {l : BS} {k : Nat} {b : Bool} {c : UInt8} (h : okTo l k b) (hc : l[k]? = some c) : okTo l (k + 1) (b && (lowB c || (decide (0 < k) && digB c))) := by
  unfold okTo at h ⊢
  rw [Bool.and_eq_true, h]
  constructor
  · rintro ⟨⟨h1, h2, h3⟩, h4⟩
    refine ⟨h1, h2, fun j hj => ?_⟩
    by_cases hjk : j = k
    · subst hjk
      intro d hd
      rw [hc] at hd
      cases hd
      exact h4
    · exact h3 j (by omega)
  · rintro ⟨h1, h2, h3⟩
    exact ⟨⟨h1, h2, fun j hj => h3 j (by omega)⟩, h3 k (by omega) c hc⟩
theorem okTo_end {l : BS} {b : Bool} (h : okTo l l.length b) : b = labB l := by
  unfold okTo at h
  rw [Bool.eq_iff_iff, h]
  constructor
  · rintro ⟨h1, h2, h3⟩
    match l, h1, h2, h3 with
    | c :: t, _, h2, h3 =>
      unfold labB
      simp only [Bool.and_eq_true, decide_eq_true_eq]
      have h0 := h3 0 (by simp) c rfl
      simp at h0
      refine ⟨⟨by simpa using h2, h0⟩, ?_⟩
      rw [List.all_eq_true]
      intro d hd
      obtain ⟨j, hj, rfl⟩ := List.getElem_of_mem hd
      have := h3 j hj _ (List.getElem?_eq_getElem hj)
      rw [Bool.or_eq_true] at this ⊢
      rcases this with h | h
      · exact .inl h
      · rw [Bool.and_eq_true] at h; exact .inr h.2
  · intro h
    obtain ⟨h1, h2, h3, h4⟩ := lab_spec h
    refine ⟨h1, h2, fun j hj c hc => ?_⟩
    by_cases hj0 : j = 0
    · subst hj0
      rw [h3 c (by rw [List.head?_eq_getElem?]; exact hc)]; rfl
    · have := h4 c (List.mem_of_getElem? hc)
      rw [decide_eq_true (by omega), Bool.true_and]
      exact this

set_option maxRecDepth 100000 in
set_option maxHeartbeats 2000000 in
theorem labelsLawP (w : World) (c0 c1 c2 : Nat) (s : ByteArray) (zb : Bool) (hc0 : c0 < 256) (hc1 : c1 < 256) (hc2 : c2 < 256) (hz : s.size ≤ 1100000) (hm : Mx w) :
    Calls Tryd.prog 7 #[.int .u8 c0, .int .u8 c1, .int .u8 c2, .string s, .bool zb] w fun e w' => e = .returned (.bool true) ∧ Below w.heap.size w w' := by
  have HA := hide (fun (W : World) (hb : Below w.heap.size w W) => awakeP W (hm.below hb))
  obtain ⟨b, hb⟩ : ∃ n, c0 % 100 = n := ⟨_, rfl⟩
  obtain ⟨sk, hsk⟩ : ∃ n, c1 % 100 = n := ⟨_, rfl⟩
  obtain ⟨a, ha⟩ : ∃ n, c2 % 100 = n := ⟨_, rfl⟩
  have hb1 : b < 100 := by omega
  have hs1 : sk < 100 := by omega
  have ha1 : a < 100 := by omega
  have hkb : (c0 : Int) % 100 = (b : Int) := by omega
  have hks : (c1 : Int) % 100 = (sk : Int) := by omega
  have hka : (c2 : Int) % 100 = (a : Int) := by omega
  have HRb := hide (fun W => repeatP W ⟨#[100, 117, 112, 10]⟩ dupW b rfl (by omega) (by decide))
  have HRs := hide (fun W => repeatP W ⟨#[100, 114, 111, 112, 10]⟩ dropW sk rfl (by omega) (by decide))
  have HRa := hide (fun W => repeatP W ⟨#[115, 119, 97, 112, 10]⟩ swapW a rfl (by omega) (by decide))
  have hDl := repB_len dupW b
  have hEl := repB_len dropW sk
  have hFl := repB_len swapW a
  obtain ⟨D, hD⟩ : ∃ M : ByteArray, (⟨(repB dupW b).toArray⟩ : ByteArray) = M := ⟨_, rfl⟩
  obtain ⟨E, hE⟩ : ∃ M : ByteArray, (⟨(repB dropW sk).toArray⟩ : ByteArray) = M := ⟨_, rfl⟩
  obtain ⟨F, hF⟩ : ∃ M : ByteArray, (⟨(repB swapW a).toArray⟩ : ByteArray) = M := ⟨_, rfl⟩
  have hDd : D.data.toList = repB dupW b := by rw [← hD]
  have hEd : E.data.toList = repB dropW sk := by rw [← hE]
  have hFd : F.data.toList = repB swapW a := by rw [← hF]
  simp only [hD] at HRb
  simp only [hE] at HRs
  simp only [hF] at HRa
  have hDz : D.size ≤ 400 := by
    have : D.size = (repB dupW b).length := by rw [← hDd]; rfl
    rw [this, hDl, show dupW.length = 3 from rfl]; omega
  have hEz : E.size ≤ 500 := by
    have : E.size = (repB dropW sk).length := by rw [← hEd]; rfl
    rw [this, hEl, show dropW.length = 4 from rfl]; omega
  have hFz : F.size ≤ 500 := by
    have : F.size = (repB swapW a).length := by rw [← hFd]; rfl
    rw [this, hFl, show swapW.length = 4 from rfl]; omega
  obtain ⟨JW, hJW⟩ : ∃ j : ByteArray, (⟨(jumpW zb ++ [32]).toArray⟩ : ByteArray) = j := ⟨_, rfl⟩
  have hJWd : JW.data.toList = jumpW zb ++ [32] := by rw [← hJW]
  have hJWz : JW.size ≤ 9 := by
    have : JW.size = (jumpW zb ++ [32]).length := by rw [← hJWd]; rfl
    rw [this]; cases zb <;> decide
  have hsrc : (D ++ JW ++ s ++ ⟨#[10]⟩ ++ E ++ s ++ ⟨#[58, 10]⟩ ++ F).data.toList = labelSrc b sk a zb s.data.toList := by
    simp only [ba_app, hDd, hEd, hFd, hJWd]
    rfl
  have hsz : (labelSrc b sk a zb s.data.toList).length ≤ 2900000 := by
    rw [← hsrc]
    have h0 : s.data.toList.length = s.size := rfl
    have h1 : D.data.toList.length = D.size := rfl
    have h2 : E.data.toList.length = E.size := rfl
    have h3 : F.data.toList.length = F.size := rfl
    have h4 : JW.data.toList.length = JW.size := rfl
    simp only [ba_app, List.length_append, h0, h1, h2, h3, h4]
    simp
    omega
  have zz5 : D.size + 5 + s.size + 1 + E.size + s.size + 2 + F.size ≤ 9223372036854775807 := by omega
  have zz9 : D.size + 9 + s.size + 1 + E.size + s.size + 2 + F.size ≤ 9223372036854775807 := by omega
  obtain ⟨S, hS⟩ : ∃ l, s.data.toList = l := ⟨_, rfl⟩
  have hSl : S.length = s.size := by rw [← hS]; rfl
  rw [hS] at hsrc hsz
  obtain ⟨er, no, ins, hasm⟩ : ∃ er no ins, asmF (labelSrc b sk a zb S) = (er, no, ins) := ⟨_, _, _, rfl⟩
  have HAs := hide (fun (W : World) (hb : Below w.heap.size w W) => asmK W _ (labelSrc b sk a zb S) hsrc hsz (hm.below hb) hasm)
  have Hkey := hide (fun (h : labB S = true) => (show er = 0 ∧ no = 0 ∧ ins = labelIns b sk a zb by
    have := hasm.symm.trans (asm_labels b sk a zb hb1 hs1 ha1 h)
    simp only [Prod.mk.injEq] at this
    exact this))
  obtain ⟨NI, hNI⟩ : ∃ n, ins.length = n := ⟨_, rfl⟩
  have HNI := hide hNI
  have HS := hide hS
  have HSl := hide hSl
  clear hasm hm hb hsk ha hDl hEl hFl hD hE hF hDd hEd hFd hDz hEz hFz hJWd hsrc hsz hNI hS hSl
  have hbI : (b : Int) < 100 := by omega
  have hsI : (sk : Int) < 100 := by omega
  have haI : (a : Int) < 100 := by omega
  have hzw : (zb = false ∧ JW = ⟨#[106, 117, 109, 112, 32]⟩) ∨ (zb = true ∧ JW = ⟨#[106, 117, 109, 112, 122, 101, 114, 111, 32]⟩) := by
    rw [← hJW]
    cases zb
    · exact .inl ⟨rfl, rfl⟩
    · exact .inr ⟨rfl, rfl⟩
  clear hJW hJWz
  rcases hzw with ⟨rfl, rfl⟩ | ⟨rfl, rfl⟩
  all_goals
    go_enter Tryd.func7, Tryd.ntmps7
    go_upto_region 7 with (first
      | (go_at_call 12; (with_reducible refine (HAs.out _ Hb3.out).mono ?_); rintro e w4 ⟨v, rfl, hown, hb4⟩; obtain ⟨A1, cA, rfl⟩ := own_form hown; rw [HNI.out]; have Hown := hide hown; have Hb4 := hide (Hb3.out.trans (hb4.mono Hb3.out.size)); clear hown hb4)
      | (go_at_call 21; (with_reducible refine (HRa.out w2).mono ?_); rintro e w3 ⟨rfl, hb3⟩; have Hb3 := hide (Hb2.out.trans (hb3.mono Hb2.out.size)); clear hb3)
      | (go_at_call 21; (with_reducible refine (HRs.out w1).mono ?_); rintro e w2 ⟨rfl, hb2⟩; have Hb2 := hide (Hb1.out.trans (hb2.mono Hb1.out.size)); clear hb2)
      | (go_at_call 21; (with_reducible refine (HRb.out w).mono ?_); rintro e w1 ⟨rfl, hb1'⟩; have Hb1 := hide hb1'; clear hb1')
      | fail)
    go_cut [20] (fun v wx => (∃ bb : Bool, v = .bool bb ∧ okTo S 0 bb) ∧ wx = w4)
    case first =>
      rcases (show S = [] ∨ (S ≠ [] ∧ S.length ≤ 16) ∨ (S ≠ [] ∧ 16 < S.length) by by_cases h : S = []; exact .inl h; by_cases h2 : S.length ≤ 16; exact .inr (.inl ⟨h, h2⟩); exact .inr (.inr ⟨h, by omega⟩)) with h | ⟨h, h2⟩ | ⟨h, h2⟩
      · have q : (s.toList == []) = true := by rw [ByteArray.toList_eq, HS.out, h]; rfl
        have q' : (s.toList != []) = false := by rw [bne, q]; rfl
        have Hk := hide (show okTo S 0 false by unfold okTo; simp [h])
        clear h
        go_wp2_with fail
        go_meet
        case rel => exact ⟨⟨_, rfl, Hk.out⟩, rfl⟩
      · have q : (s.toList == []) = false := by rw [ByteArray.toList_eq, HS.out, beq_eq_false_iff_ne]; exact h
        have q' : (s.toList != []) = true := by rw [bne, q]; rfl
        have hz16 : (s.size : Int) ≤ 16 := by have := HSl.out; omega
        have q16 : decide ((s.size : Int) ≤ 16) = true := decide_eq_true hz16
        have Hk := hide (show okTo S 0 true by unfold okTo; simp [h, h2])
        clear h h2
        go_wp2_with fail
        go_meet
        case rel => exact ⟨⟨_, rfl, Hk.out⟩, rfl⟩
      · have q : (s.toList == []) = false := by rw [ByteArray.toList_eq, HS.out, beq_eq_false_iff_ne]; exact h
        have q' : (s.toList != []) = true := by rw [bne, q]; rfl
        have hz16 : (16 : Int) < (s.size : Int) := by have := HSl.out; omega
        have q16 : decide ((s.size : Int) ≤ 16) = false := decide_eq_false (by omega)
        have Hk := hide (show okTo S 0 false by unfold okTo; constructor; (intro h'; cases h'); (rintro ⟨_, h', _⟩; omega))
        clear h h2
        go_wp2_with fail
        go_meet
        case rel => exact ⟨⟨_, rfl, Hk.out⟩, rfl⟩
    case rest =>
      obtain ⟨⟨bb0, rfl, hok0⟩, rfl⟩ := hcut
      have Hok0 := hide hok0
      clear hok0
      go_wp2
      go_loop [20, 64] (fun bv i => ∃ (k : Nat) (bb : Bool), k ≤ s.size ∧ i = .int .i64 k ∧ bv = .bool bb ∧ okTo S k bb) (fun _ i => s.size - (intOf i).toNat)
      case atStart => exact ⟨0, bb0, Nat.zero_le _, rfl, rfl, Hok0.out⟩
      case round =>
        obtain ⟨k, bb, hk, rfl, rfl, hok⟩ := hrel
        by_cases hlt : k < s.size
        · have hltI : (k : Int) < (s.size : Int) := by omega
          obtain ⟨x, hx⟩ : ∃ x, s[k]'hlt = x := ⟨_, rfl⟩
          have hx2 : S[k]? = some x := by rw [← HS.out, ← hx]; exact List.getElem?_eq_getElem (show k < s.data.toList.length from hlt)
          have Hok1 := hide (okTo_step hok hx2)
          have l0 := x.toNat_lt
          have hcase : (lowB x = true ∧ digB x = false ∧ 97 ≤ x.toNat ∧ x.toNat ≤ 122) ∨ (lowB x = false ∧ digB x = true ∧ 48 ≤ x.toNat ∧ x.toNat ≤ 57) ∨ (lowB x = false ∧ digB x = false ∧ x.toNat < 48 ∧ x.toNat < 97) ∨ (lowB x = false ∧ digB x = false ∧ 57 < x.toNat ∧ x.toNat < 97) ∨ (lowB x = false ∧ digB x = false ∧ 57 < x.toNat ∧ 122 < x.toNat) := by
            unfold lowB digB
            simp
            omega
          have hk0 : (decide (0 < k) = false ∧ k ≤ 0) ∨ (decide (0 < k) = true ∧ 0 < k) := by
            by_cases h : 0 < k
            · exact .inr ⟨decide_eq_true h, h⟩
            · exact .inl ⟨decide_eq_false h, by omega⟩
          clear hok hx2
          rcases hcase with ⟨hL, hG, c1, c2⟩ | ⟨hL, hG, c1, c2⟩ | ⟨hL, hG, c1, c2⟩ | ⟨hL, hG, c1, c2⟩ | ⟨hL, hG, c1, c2⟩
          all_goals
            rcases hk0 with ⟨hK, hk0⟩ | ⟨hK, hk0⟩
            all_goals
              rw [hL, hG, hK] at Hok1
              first
                | have q97 : decide ((97 : Int) ≤ (x.toNat : Int)) = true := decide_eq_true (by omega)
                | have q97 : decide ((97 : Int) ≤ (x.toNat : Int)) = false := decide_eq_false (by omega)
              first
                | have q122 : decide ((x.toNat : Int) ≤ 122) = true := decide_eq_true (by omega)
                | have q122 : decide ((x.toNat : Int) ≤ 122) = false := decide_eq_false (by omega)
              first
                | have q48 : decide ((48 : Int) ≤ (x.toNat : Int)) = true := decide_eq_true (by omega)
                | have q48 : decide ((48 : Int) ≤ (x.toNat : Int)) = false := decide_eq_false (by omega)
              first
                | have q57 : decide ((x.toNat : Int) ≤ 57) = true := decide_eq_true (by omega)
                | have q57 : decide ((x.toNat : Int) ≤ 57) = false := decide_eq_false (by omega)
              clear hL hG hK c1 c2 l0
              cases bb
              all_goals
                go_wp2
                exact ⟨⟨k + 1, _, by omega, by go_num, rfl, Hok1.out⟩, by simp [intOf]; omega⟩
        · obtain rfl : k = s.size := by omega
          rw [← HSl.out] at hok
          have hbb := okTo_end hok
          cases bb
          · clear hok hbb
            go_wp2_with (go_at_call 11; refine (HA.out _ Hb4.out).mono ?_; rintro e w5 ⟨rfl, hb5⟩)
            go_ret
            exact ⟨rfl, Hb4.out.trans (hb5.mono Hb4.out.size)⟩
          · obtain ⟨h1, h2, h3⟩ := Hkey.out hbb.symm
            have q1 : (er == 0) = true := by rw [h1]; rfl
            have q2 : (no == 0) = true := by rw [h2]; rfl
            have hlen : ins.length = b + 1 + sk + a := by rw [h3, labelIns_len]
            have hNIv : (NI : Int) = (b : Int) + 1 + sk + a := by have := HNI.out; omega
            have q3 : ((NI : Int) == (b : Int) + 1 + sk + a) = true := by rw [hNIv]; simp
            have hbN : (b : Int) < (NI : Int) := by omega
            have hb0 : (0 : Int) ≤ (b : Int) := by omega
            obtain ⟨g, cg, hvv, -, -⟩ := Hown.out.form (by omega)
            have hA1 : A1 = some ⟨g, 0, none⟩ := by injection hvv
            subst hA1
            have hat := congrArg (fun l => l[b]?) h3
            simp only [labelIns_at] at hat
            have e0 := (Hown.out.cellAt (b * 2 + 0) (by omega)).trans (flat_get (enc := Ins.enc) (sz := 2) (fun _ => rfl) ins b _ 0 _ hat rfl)
            have e1 := (Hown.out.cellAt (b * 2 + 1) (by omega)).trans (flat_get (enc := Ins.enc) (sz := 2) (fun _ => rfl) ins b _ 1 _ hat rfl)
            rw [Nat.add_zero] at e0
            first
              | replace e0 : wc.cell? ⟨g, b * 2, none⟩ = some (.int .i64 17) := e0
              | replace e0 : wc.cell? ⟨g, b * 2, none⟩ = some (.int .i64 18) := e0
            replace e1 : wc.cell? ⟨g, b * 2 + 1, none⟩ = some (.int .i64 ((b : Int) + 1 + sk)) := e1
            clear hok hbb h1 h2 h3 hlen hNIv hvv hat
            go_wp2_with (go_at_call 11; refine (HA.out _ Hb4.out).mono ?_; rintro e w5 ⟨rfl, hb5⟩)
            go_ret
            exact ⟨rfl, Hb4.out.trans (hb5.mono Hb4.out.size)⟩
end Go.Proofs.YtonnjokjbknngaaDoor
