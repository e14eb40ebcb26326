/- Chapter 45: view.Trim of any row. -/
import Derived.Test.YtdmnnjpbndngeaaDoorQ7
import Derived.Test.YtdmnnjpbndngeaaDoorApp3
import Derived.Test.YtdmnnjpbndngeaaDoorReg
import Derived.Lib.SliceRun
namespace Go.Proofs.YtdmnnjpbndngeaaDoor
open Go.RowKit Go.Shelf

set_option maxHeartbeats 1000000 in
theorem cloneGP (w : World) (g off c n : Nat) (l : List Gl) (hn : l.length = n) (h : GlRow w w.heap.size (some ⟨g, off, none⟩) l) (hl : n ≤ 1000) :
    Calls Tryd.prog 40 #[.slice (some ⟨g, off, none⟩) n c] w fun e w' => ∃ v, e = .returned v ∧ w'.ownsRow w.heap.size 73 3 v n (l.flatMap Gl.enc) ∧ Below w.heap.size w w' := by
  have hq : ∀ (w : World) (a : Option Addr) (n c n' c' : Nat), (binOp .eql 61 (.slice a n c) (.slice none n' c')).run Tryd.prog w = .ok (.bool a.isNone) w := fun w a n c n' c' => Lib.run_eql_slice_nil w _ _ a n c n' c' Tryd.underlying61
  have hlit := own_lit w w.heap.size 73 3 0 #[] (Nat.le_refl _) (by omega) rfl
  have hbl := (Below.refl w.heap.size w).alloc (Nat.le_refl _) (.cells #[] 73)
  have hsl : w.heap.size ≤ (w.alloc (.cells #[] 73)).heap.size := by simp
  have Hh := hide h
  have Hn := hide hn
  clear h hn
  go_enter Tryd.func40, Tryd.ntmps40
  go_wp2_with (first
    | (at_builtin; refine wpList_gls (w.alloc (.cells #[] 73)) (.tmp 5) (.tmp 6) 61 rfl (by rfl) el_glyph w.heap.size _ 0 [] (by rfl) hlit hsl (some ⟨g, off, none⟩) c _ l n Hn.out (by rfl) (Hh.out.below (GlAt.stays _) hbl) (by omega) n (Nat.zero_add _) ?_; intro v6 w6 hown6 hg6; have hb6 := below_own hbl hlit hg6 (Nat.le_refl _) hsl)
    | fail)
  go_ret
  exact ⟨_, rfl, hown6, hb6⟩

theorem eq_blank (W : World) (g : Gl) : (binOp .eql 73 (.agg #[.string g.text, .bool g.wide, .int .i64 g.style]) (.agg #[.string ⟨#[32]⟩, .bool false, .int .i64 0])).run Tryd.prog W = .ok (.bool (isBlank g)) W := by
  have h1 := Tryd.underlying73
  have e0 : (⟨#[32]⟩ : ByteArray).toList = [32] := by rw [ByteArray.toList_eq]
  rw [run_eql_struct]
  unfold isBlank
  cases e1 : (g.text.toList == [32]) <;> cases e2 : g.wide <;> cases e3 : (g.style == 0) <;> simp [go_sem, h1, e0, e1, e3, Tryd.underlying9, Tryd.underlying3, Tryd.underlying4]

theorem trimG_snoc (a : List Gl) (x : Gl) : trimG (a ++ [x]) = if isBlank x then trimG a else a ++ [x] := by
  unfold trimG
  rw [List.reverse_append]
  show (List.dropWhile isBlank (x :: a.reverse)).reverse = _
  cases h : isBlank x with
  | true => rw [List.dropWhile_cons_of_pos h]; rfl
  | false => rw [List.dropWhile_cons_of_neg (by simp [h])]; simp
theorem trimG_take {l : List Gl} {m : Nat} (h : m < l.length) : trimG (l.take (m + 1)) = if isBlank l[m] then trimG (l.take m) else l.take (m + 1) := by
  rw [List.take_succ_eq_append_getElem h, trimG_snoc]
theorem trimG_len (l : List Gl) : (trimG l).length ≤ l.length := by
  unfold trimG
  rw [List.length_reverse]
  have := (List.dropWhile_sublist isBlank (l := l.reverse)).length_le
  rwa [List.length_reverse] at this
theorem trimG_sub (l : List Gl) : ∀ g ∈ trimG l, g ∈ l := fun g hg => by
  unfold trimG at hg
  rw [List.mem_reverse] at hg
  have := (List.dropWhile_sublist isBlank (l := l.reverse)).subset hg
  rwa [List.mem_reverse] at this

set_option maxHeartbeats 1000000 in
theorem cloneNil (w : World) : Calls Tryd.prog 40 #[.slice none 0 0] w fun e w' => e = .returned (.slice none 0 0) ∧ w = w' := by
  have hq : ∀ (w : World) (a : Option Addr) (n c n' c' : Nat), (binOp .eql 61 (.slice a n c) (.slice none n' c')).run Tryd.prog w = .ok (.bool a.isNone) w := fun w a n c n' c' => Lib.run_eql_slice_nil w _ _ a n c n' c' Tryd.underlying61
  go_enter Tryd.func40, Tryd.ntmps40
  go_wp2
  go_ret
  exact ⟨rfl, rfl⟩

set_option maxRecDepth 100000 in
set_option maxHeartbeats 2000000 in
theorem trimNilP (w : World) : Calls Tryd.prog 22 #[.slice none 0 0] w fun e w' => e = .returned (.slice none 0 0) ∧ Below w.heap.size w w' := by
  have HC := hide cloneNil
  have hrf := hide (Below.refl w.heap.size w)
  go_enter Tryd.func22, Tryd.ntmps22
  go_wp2
  go_loopw [3] (fun i wr => i = .int .i64 0 ∧ Below w.heap.size w wr) (fun _ _ => 0)
  case atStart => exact ⟨rfl, hrf.out⟩
  case round =>
    obtain ⟨rfl, hbr⟩ := hrel
    rename World => wo
    have Hbr := hide hbr
    clear hbr hrf
    go_wp2
    go_quiet (fail)
    go_wp2_with (go_at_call 40; refine (HC.out _).mono ?_; rintro e w6 ⟨rfl, rfl⟩)
    go_ret
    exact ⟨rfl, below_drewN Hbr.out _⟩

set_option maxRecDepth 100000 in
set_option maxHeartbeats 4000000 in
theorem trimSP (w : World) (g c n : Nat) (l : List Gl) (hn : l.length = n) (h : GlRow w w.heap.size (some ⟨g, 0, none⟩) l) (hl : n ≤ 1000) (hc : n ≤ c) :
    Calls Tryd.prog 22 #[.slice (some ⟨g, 0, none⟩) n c] w fun e w' => ∃ v, e = .returned v ∧ w'.ownsRow w.heap.size 73 3 v (trimG l).length ((trimG l).flatMap Gl.enc) ∧ Below w.heap.size w w' := by
  have HCl := hide (fun (W2 : World) (hb : Below w.heap.size w W2) (k : Nat) (hk : k ≤ n) => cloneGP W2 g 0 c k (l.take k) (by rw [List.length_take]; omega) (((h.take k).below (GlAt.stays _) hb).more hb.size) (by omega))
  have HBk := hide blankV
  have HH := hide h
  have Hn := hide hn
  have Hrf := hide (Below.refl w.heap.size w)
  have H0 := hide (show trimG (l.take n) = trimG l by rw [List.take_of_length_le (by omega)])
  clear h hn
  go_enter Tryd.func22, Tryd.ntmps22
  go_wp2
  go_loopw [3] (fun i wr => ∃ k : Nat, k ≤ n ∧ i = .int .i64 (k : Int) ∧ trimG (l.take k) = trimG l ∧ Below w.heap.size w wr) (fun i _ => (intOf i).toNat)
  case atStart => exact ⟨n, Nat.le_refl _, rfl, H0.out, Hrf.out⟩
  case round =>
    clear H0 Hrf
    obtain ⟨k, hk, rfl, ht, hbr⟩ := hrel
    rename World => wo
    have Hbr := hide hbr
    have Ht := hide ht
    clear hbr ht
    have hcI : (n : Int) ≤ (c : Int) := by omega
    have hkI : (k : Int) ≤ (c : Int) := by omega
    rcases Nat.eq_zero_or_pos k with h0 | h0
    · have d0 : decide ((0 : Int) < (k : Int)) = false := decide_eq_false (by omega)
      have d0' : decide (0 < k) = false := decide_eq_false (by omega)
      have HE := hide (show l.take k = trimG l by rw [← Ht.out, h0]; rfl)
      clear h0
      go_wp2
      go_quiet (fail)
      have Hbq := hide (below_drewN Hbr.out nq)
      go_wp2_with (go_at_call 40; refine (HCl.out _ Hbq.out k hk).mono ?_; rintro e w6 ⟨v6, rfl, hown6, hb6⟩)
      go_ret
      rw [HE.out] at hown6
      have hkl : (trimG l).length = k := by rw [← HE.out, List.length_take, Hn.out]; omega
      exact ⟨_, rfl, own_eq (own_more hown6 Hbq.out.size) hkl.symm rfl, Hbq.out.trans (hb6.mono Hbq.out.size)⟩
    · obtain ⟨m, rfl⟩ : ∃ m, k = m + 1 := ⟨k - 1, by omega⟩
      have hml : m < l.length := by rw [Hn.out]; omega
      have htk := trimG_take hml
      obtain ⟨b, o2, hA, hbb, c0, c1, c2⟩ := (HH.out.below (GlAt.stays _) Hbr.out).get hml
      cases hA
      simp only [Nat.zero_add] at c0 c1 c2
      obtain ⟨x, hx⟩ : ∃ x, l[m] = x := ⟨_, rfl⟩
      rw [hx] at c0 c1 c2 htk
      have hq := fun W2 => eq_blank W2 x
      obtain ⟨⟨tx, wd, st⟩, hxx⟩ : ∃ y, y = x := ⟨_, rfl⟩
      subst hxx
      dsimp only at c0 c1 c2 hq
      obtain ⟨Y, hY⟩ : ∃ Y, isBlank ⟨tx, wd, st⟩ = Y := ⟨_, rfl⟩
      rw [hY] at htk
      simp only [hY] at hq
      obtain ⟨k, hk1⟩ : ∃ k, m + 1 = k := ⟨_, rfl⟩
      rw [hk1] at Ht htk hk hkI
      have hIx : (k : Int) - 1 = (m : Int) := by omega
      have hmI : (m : Int) < (n : Int) := by omega
      have hk0 : (0 : Int) < (k : Int) := by omega
      have hk0' : decide ((0 : Int) < (k : Int)) = true := decide_eq_true hk0
      have hk0'' : decide (0 < k) = true := decide_eq_true (by omega)
      have hwr : IntKind.i64.wrap (m : Int) = (m : Int) := IntWalk.i64_in _ (by omega)
      have hgo : g < wo.heap.size := by have := Hbr.out.size; omega
      have hbd := (Below.refl wo.heap.size wo).drew
      have HE := hide (fun (W2 : World) (hb : Below wo.heap.size wo W2) => And.intro ((hb.cell (p := ⟨g, m * 3, none⟩) hgo).trans c0) (And.intro ((hb.cell (p := ⟨g, m * 3 + 1, none⟩) hgo).trans c1) ((hb.cell (p := ⟨g, m * 3 + 2, none⟩) hgo).trans c2)))
      have Hk1 := hide hk1
      have Htk := hide htk
      have hcast : ((m + 1 : Nat) : Int) = (k : Int) := by omega
      rw [hcast]
      clear hml hx htk hk1 hY hcast h0
      go_wp2
      go_region_held3 (fun W2 => W2.cell? ⟨g, m * 3, none⟩ = some (.string tx) ∧ W2.cell? ⟨g, m * 3 + 1, none⟩ = some (.bool wd) ∧ W2.cell? ⟨g, m * 3 + 2, none⟩ = some (.int .i64 st))
        (first | exact HE.out _ hb5 | exact HE.out _ hbd)
        (first
          | (go_at_call 31; refine (HBk.out _).mono ?_; rintro e w5 ⟨rfl, hbI⟩; have hb5 := hbd.trans (hbI.mono hbd.size))
          | fail)
      all_goals
        have Hb5 := hide (Hbr.out.trans (hb5.mono Hbr.out.size))
        clear hbd hb5 c0 c1 c2
        cases Y with
        | false =>
          go_wp2_with (go_at_call 40; refine (HCl.out _ Hb5.out k hk).mono ?_; rintro e w6 ⟨v6, rfl, hown6, hb6⟩)
          go_ret
          have hE : l.take k = trimG l := by rw [← Ht.out, Htk.out]; simp
          rw [hE] at hown6
          have hkl : (trimG l).length = k := by rw [← hE, List.length_take, Hn.out]; omega
          exact ⟨_, rfl, own_eq (own_more hown6 Hb5.out.size) hkl.symm rfl, Hb5.out.trans (hb6.mono Hb5.out.size)⟩
        | true =>
          go_wp2
          go_roundw
          case rel => exact ⟨m, by have := Hk1.out; omega, by first | rfl | go_num, by rw [← Ht.out, Htk.out, if_pos rfl], Hb5.out⟩
          case measure => have := Hk1.out; simp [intOf]; omega
end Go.Proofs.YtdmnnjpbndngeaaDoor
