/- The walk of the law DotsText. -/
import Derived.Test.YtjgbflkjbehgaaaDoorD10
import Derived.Test.YtjgbflkjbehgaaaDoorApp
import Derived.Laws.AppendOwnNone
import Derived.Deep.QuietTactic
import Derived.BigQuiet
namespace Go.Proofs.YtjgbflkjbehgaaaDoor
open Go.RowKit Go.Shelf

section
variable {P : Program} {ops : Array Oper} {rest : List Oper} {o : Oper} {a : Act} {Q : Exit → Act → World → Prop}
/-- 's = append(s, t...)': s the call's own, t a slice of one-cell elements, nil or not. -/
theorem wpList_apps1 {α : Type} {f : α → Value} (W : World) (s x : Operand) (t : TypeId) (hgd : o.guard = none)
    (ho : o.op = .call { callee := .builtin .append, args := #[s, x], argTypes := #[t, t] })
    {e : TypeId} {z : Value} {bytes : Nat} (hE : ElemOf P t e z 1 bytes) (base : Nat) (v : Value) (n : Nat) (xs : List Value) (hs : a.eval s = v) (hown : W.ownsRow base e 1 v n xs) (hbase : base ≤ W.heap.size)
    (A : Option Addr) (c B : Nat) (l : List α) (m : Nat) (hm : l.length = m) (hx : a.eval x = .slice A m c) (hsl : Sl (One f) 1 W B A l) (hnil : A = none → c = 0) (h1 : ∀ y, (f y).oneCell' = true) (hbytes : (n + m) * bytes ≤ 140737488355328)
    (h : ∀ v' w', w'.ownsRow base e 1 v' (n + m) (xs ++ l.map f) → W.grownBy w' v.ownBlock → wpList P ops Q rest (a.put o.dst v') w') : wpList P ops Q (o :: rest) a W := by
  subst hm
  obtain ⟨i, hi, hz, hsz, hby⟩ := info_parts hE.info
  have h63 : n + l.length ≤ maxLen := by
    unfold maxLen
    have := Nat.le_mul_of_pos_right (n + l.length) hE.posb
    omega
  cases A with
  | none =>
    have h0 : l = [] := by
      rcases Nat.eq_zero_or_pos l.length with h0 | h0
      · exact List.eq_nil_of_length_eq_zero h0
      · obtain ⟨_, _, he, _⟩ := hsl h0; cases he
    subst h0
    obtain rfl := hnil rfl
    refine wpList_append_own_none hgd s x t ho base e i 1 hE.slice hi v n xs hs hown hx ?_
    exact h v W (by simpa using hown) (World.grownBy.refl W _)
  | some ad =>
    refine wpList_append_own W hgd s x t ho base e i z 1 bytes hE.slice hi hz hsz hby hE.cells hE.pos v n xs hs hown ad l.length c (l.map f) hx (by simp) ?_ (by simp; intro y _; exact h1 y) h63 hbytes hbase ?_
    · intro j u hj
      have hjl : j < l.length := by have := (List.getElem?_eq_some_iff.1 hj).1; simpa using this
      obtain ⟨b, off, he, _, hc⟩ := hsl (by omega)
      cases he
      have hplain : (⟨b, off, none⟩ : Addr).add j = ⟨b, off + j, none⟩ := by unfold Addr.add; split <;> simp_all
      have := hc j l[j] (List.getElem?_eq_getElem hjl)
      rw [Nat.mul_one] at this
      rw [hplain, this, ← hj, List.getElem?_map, List.getElem?_eq_getElem hjl]; rfl
    · intro v' w' hown' hg _
      exact h v' w' hown' hg
end
theorem el_byte : ElemOf Tryd.prog 30 5 (.int .u8 0) 1 1 := ⟨Tryd.underlying30, by kernel_rfl, rfl, by omega, by omega⟩

set_option maxRecDepth 100000 in
set_option maxHeartbeats 4000000 in
theorem textLawP (w : World) (A B : Option Addr) (c d : Nat) (a b : List UInt8) (ha : Sl ByteAt 1 w w.heap.size A a) (hb : Sl ByteAt 1 w w.heap.size B b) (hA : A = none → c = 0) (hB : B = none → d = 0) (hac : a.length ≤ 140737488351232) (hbc : b.length ≤ 140737488351232) (hm : Mx w) :
    Calls Tryd.prog 10 #[.slice A a.length c, .slice B b.length d] w fun e w' => e = .returned (.bool true) ∧ Below w.heap.size w w' := by
  have HA := hide (fun w1 (hb : Below w.heap.size w w1) => awakeP w1 (hm.below hb))
  have HSa := hide (fun w1 (hb1 : Below w.heap.size w w1) => (ha.below (One.stays _ _) hb1).more hb1.size)
  have HSb := hide (fun w1 (hb1 : Below w.heap.size w w1) => (hb.below (One.stays _ _) hb1).more hb1.size)
  clear ha hb hm
  obtain ⟨m, hm⟩ : ∃ m, a.length = m := ⟨_, rfl⟩
  obtain ⟨k, hk⟩ : ∃ k, b.length = k := ⟨_, rfl⟩
  by_cases h : 100 < m + k
  · clear HSa HSb
    rw [hm] at hac ⊢
    rw [hk] at hbc ⊢
    clear hm hk hA hB
    have HA0 := hide (HA.out w (Below.refl _ _))
    have hgt : (100 : Int) < (m : Int) + k := by omega
    go_enter Tryd.func10, Tryd.ntmps10
    go_wp2_with (go_at_call 11; refine HA0.out.mono ?_; rintro e w1 ⟨rfl, hb1⟩)
    go_ret
    exact ⟨rfl, hb1⟩
  · have HTa := hide (fun w1 (hb1 : Below w.heap.size w w1) => textP w1 A c a (HSa.out w1 hb1) (by omega))
    have HTb := hide (fun w1 (hb1 : Below w.heap.size w w1) => textP w1 B d b (HSb.out w1 hb1) (by omega))
    have HTx := hide (fun w1 (X : Option Addr) (cx : Nat) (hx : Sl ByteAt 1 w1 w1.heap.size X (a ++ b)) => textP w1 X cx (a ++ b) hx (by rw [List.length_append]; omega))
    have hlab : (a ++ b).length = m + k := by rw [List.length_append, hm, hk]
    have hta := textL_len a
    have htb := textL_len b
    rw [hm] at HTa hta ⊢
    rw [hk] at HTb htb ⊢
    rw [hlab] at HTx
    simp only [textL_app] at HTx
    have Hm := hide hm
    have Hk := hide hk
    have Hta := hide hta
    have Htb := hide htb
    have hA' := hide hA
    have hB' := hide hB
    clear hm hk hlab hta htb hac hbc hA hB
    have hle : ¬ (100 : Int) < (m : Int) + k := by omega
    go_enter Tryd.func10, Tryd.ntmps10
    go_wp2_with (first
      | (go_at_call 19; refine (HTa.out w (Below.refl _ _)).mono ?_; rintro e w1 ⟨rfl, hb1⟩)
      | (refine wpList_runesT _ (.tmp 15) 9 38 21 rfl (by rfl) Tryd.underlying9 Tryd.underlying38 Tryd.underlying21 a (by rfl) (by have := Hm.out; omega) ?_; intro w2 Rr cr hb2 hrn hcr; rw [Hm.out] at hcr ⊢)
      | fail)
    have hb12 := hb1.trans (hb2.mono hb1.size)
    have hs2 := hb12.size
    have Hrn := hide hrn
    clear hrn hcr hb1 hb2
    go_loopw [24] (fun i wr => ∃ j : Nat, j ≤ m ∧ i = .int .i64 j ∧ Below w2.heap.size w2 wr) (fun i _ => m - (intOf i).toNat)
    case atStart => exact ⟨0, Nat.zero_le _, rfl, Below.refl _ _⟩
    case round =>
      rename World => wo
      obtain ⟨j, hj, rfl, hbo⟩ := hrel
      have hbw := hb12.trans (hbo.mono hs2)
      by_cases hlt : j < m
      · have hja : j < a.length := by rw [Hm.out]; exact hlt
        obtain ⟨ba, oa, rfl, hba, c0⟩ := (HSa.out wo hbw).get1 hja
        obtain ⟨bq, oq, rfl, hbq, c1⟩ := (Hrn.out.below (One.stays _ _) hbo).get1 hja
        obtain ⟨x, hx⟩ : ∃ x, a[j] = x := ⟨_, rfl⟩
        unfold ByteAt One at c0
        unfold One runeV at c1
        rw [hx] at c0 c1
        clear hx
        have hxl := x.toNat_lt
        have HRu := hide (fun w1 => runeP w1 x.toNat (by omega))
        have hltn : (j : Int) < (m : Int) := by omega
        go_wp2
        go_quiet ((go_at_call 18; exact Calls.quiet_of_same ((HRu.out _).mono fun e w' h => ⟨h.1, h.2.symm⟩)))
        go_wp2
        go_roundw
        case rel => exact ⟨j + 1, by omega, by go_num, hbo.trans ⟨rfl, rfl, rfl, Nat.le_refl _, fun _ _ => rfl⟩⟩
        case measure => simp [intOf]; omega
      · obtain rfl : j = m := by omega
        have HTa2 := HTa
        clear HTa Hrn hb12 hbo hs2
        have hso := hbw.size
        have hlit := own_lit wo wo.heap.size 5 1 0 #[] (Nat.le_refl _) (by omega) rfl
        have hbA := hbw.alloc hso (.cells #[] 5)
        have hsA := hbA.size
        have hszA : wo.heap.size ≤ (wo.alloc (.cells #[] 5)).heap.size := by simp
        have HsA := hide (HSa.out _ hbA)
        have HbA := hide hbA
        clear hbA
        have hcatx : (textL a).length + (textL b).length ≤ 9223372036854775807 := by rw [Hta.out, Htb.out]; omega
        have heqs : ((⟨(textL a).toArray⟩ : ByteArray) ++ ⟨(textL b).toArray⟩).toList = textL a ++ textL b := by rw [ByteArray.toList_eq]; simp
        have tokA : True := trivial
        have tokX : True := trivial
        have tokB : True := trivial
        go_wp2_with (first
          | (at_builtin; have _t := tokA; refine wpList_apps1 (wo.alloc (.cells #[] 5)) (.tmp 38) (.tmp 39) 30 rfl rfl el_byte wo.heap.size _ 0 [] (by rfl) hlit hszA A c _ a j Hm.out (by rfl) HsA.out hA'.out (fun _ => rfl) (by omega) ?_; intro v6 w6 hown6 hg6; rw [Nat.zero_add, List.nil_append] at hown6; have hb6 := below_own HbA.out hlit hg6 hso hsA; have hs6 := hb6.size; have hs6' := Nat.le_trans hszA hg6.size; obtain ⟨A6, c6, rfl⟩ := own_form hown6; clear _t tokA)
          | (at_builtin; refine wpList_apps1 w6 (.tmp 40) (.tmp 41) 30 rfl rfl el_byte wo.heap.size _ j _ (by rfl) hown6 hs6' B d _ b k Hk.out (by rfl) (HSb.out w6 hb6) hB'.out (fun _ => rfl) (by omega) ?_; intro v7 w7 hown7 hg7; have hb7 := below_own hb6 hown6 hg7 hso hs6; have hs7 := hb7.size; obtain ⟨X, cx, hvx, hcx, hslx⟩ := Sl.of_own1 (own_eq hown7 (n' := (a ++ b).length) (xs' := (a ++ b).map fun b => Value.int .u8 b.toNat) (by rw [List.length_append, Hm.out, Hk.out]) (by simp)); rw [List.length_append, Hm.out, Hk.out] at hvx; subst hvx)
          | (go_at_call 19; have _t := tokX; refine (HTx.out w7 _ _ hslx).mono ?_; rintro e w8 ⟨rfl, hb8⟩; have hbw8 := hb7.trans (hb8.mono hs7); clear _t tokX)
          | (go_at_call 19; have _t := tokB; refine (HTa2.out _ hbw8).mono ?_; rintro e w9 ⟨rfl, hb9⟩; have hbw9 := hbw8.trans (hb9.mono hbw8.size); clear _t tokB)
          | (go_at_call 19; refine (HTb.out _ hbw9).mono ?_; rintro e w10 ⟨rfl, hb10⟩; have hbw10 := hbw9.trans (hb10.mono hbw9.size))
          | (go_at_call 11; refine (HA.out _ hbw10).mono ?_; rintro e w11 ⟨rfl, hb11⟩)
          | fail)
        go_ret
        exact ⟨rfl, hbw10.trans (hb11.mono hbw10.size)⟩
end Go.Proofs.YtjgbflkjbehgaaaDoor
