/- The reference's number. -/
import Derived.Test.YtonnjokjbknngaaDoorZ33
namespace Go.Proofs.YtonnjokjbknngaaDoor
open Go.RowKit Go.Lib Go.Shelf

def isOk (D : BS) : Bool := !decide (D = []) && !(decide (1 < D.length) && decide (D.head? = some 48)) && D.all digB
theorem num_plain {s : BS} (h : s.head? ≠ some 45 ∨ s = [45]) (M : Int) : numOf M s = if isOk s = true then some (1 * satV M s 0) else none := by
  unfold numOf
  split
  · rename_i ds
    rcases h with h | h
    · exact absurd rfl h
    · injection h with h1 h2
      subst h2
      rfl
  · rw [show numB s false = isOk s by unfold numB isOk; simp, Int.one_mul]
theorem num_minus {d : BS} (h : d ≠ [48]) (M : Int) : numOf M (45 :: d) = if isOk d = true then some (-1 * satV M d 0) else none := by
  show (if numB d true then _ else _) = _
  rw [show numB d true = isOk d by unfold numB isOk; rw [decide_eq_false h]; simp, Int.neg_one_mul]

set_option maxRecDepth 100000 in
set_option maxHeartbeats 3000000 in
theorem numberR (w : World) (s : ByteArray) (hs : s.size ≤ 3000000) : Calls Tryd.prog 59 #[.string s] w fun e w' => e = .returned (numRet (numOf 1000000000000 s.data.toList)) ∧ w = w' := by
  obtain ⟨R, hR⟩ : ∃ b, numOf 1000000000000 s.data.toList = b := ⟨_, rfl⟩
  rw [hR]
  have hmin : ∀ (D : ByteArray), D.size = 0 → D.data.toList = [] := fun D h => List.eq_nil_of_length_eq_zero h
  by_cases h0 : s.size = 0
  · obtain rfl := ba_of (hmin s h0)
    have HR := hide (show R = none by rw [← hR]; rfl)
    clear hR h0
    go_enter Tryd.func59, Tryd.ntmps59
    go_wp2
    go_ret2
    exact ⟨by rw [HR.out]; rfl, rfl⟩
  have hp0 : 0 < s.size := by omega
  have hz0 : (0 : Int) < (s.size : Int) := by omega
  obtain ⟨c, hc⟩ : ∃ c, s[0]'hp0 = c := ⟨_, rfl⟩
  have hhd : s.data.toList.head? = some c := by
    rw [← hc, get_at]
    cases hh : s.data.toList with
    | nil =>
      have h2 : s.size = ([] : List UInt8).length := by rw [← hh]; rfl
      rw [List.length_nil] at h2; omega
    | cons a b => rfl
  have hne : (s.toList == []) = false := by
    rw [ByteArray.toList_eq, beq_eq_false_iff_ne]; intro h; rw [h] at hhd; cases hhd
  have l0 := c.toNat_lt
  have hway : (∃ (DS : ByteArray) (sg : Int), (sg = 1 ∨ sg = -1) ∧ DS.size ≤ 3000000 ∧ R = (if isOk DS.data.toList = true then some (sg * satV 1000000000000 DS.data.toList 0) else none) ∧
      ((sg = 1 ∧ DS = s ∧ decide (1 < (s.size : Int)) = false) ∨ (sg = 1 ∧ DS = s ∧ decide (1 < (s.size : Int)) = true ∧ ((c.toNat : Int) == 45) = false) ∨
       (sg = -1 ∧ decide (1 < (s.size : Int)) = true ∧ ((c.toNat : Int) == 45) = true ∧ DS = s.extract 1 s.size ∧ (DS.toList == [48]) = false))) ∨ (decide (1 < (s.size : Int)) = true ∧ ((c.toNat : Int) == 45) = true ∧ s.extract 1 s.size = ⟨#[48]⟩ ∧ R = none) := by
    have hml : s.size = s.data.toList.length := rfl
    have hcons : s.data.toList = c :: s.data.toList.drop 1 := by
      cases hh : s.data.toList with
      | nil => rw [hh] at hhd; cases hhd
      | cons a b => rw [hh] at hhd; cases hhd; rfl
    by_cases h1 : 1 < s.size
    · have q1 : decide (1 < (s.size : Int)) = true := decide_eq_true (by omega)
      by_cases h45 : c = 45
      · have q2 : ((c.toNat : Int) == 45) = true := by rw [h45]; rfl
        have hex : (s.extract 1 s.size).data.toList = s.data.toList.drop 1 := by rw [Lib.extract_to_end]
        by_cases h48 : s.data.toList.drop 1 = [48]
        · refine .inr ⟨q1, q2, ba_of (by rw [hex, h48]), ?_⟩
          rw [← hR, hcons, h48, h45]; rfl
        · refine .inl ⟨s.extract 1 s.size, -1, .inr rfl, ?_, ?_, .inr (.inr ⟨rfl, q1, q2, rfl, by rw [ByteArray.toList_eq, hex, beq_eq_false_iff_ne]; exact h48⟩)⟩
          · have : (s.extract 1 s.size).size = (s.data.toList.drop 1).length := by rw [← hex]; rfl
            rw [this, List.length_drop]; omega
          · rw [hex, ← hR]
            conv => lhs; rw [hcons, h45]
            exact num_minus h48 _
      · have q2 : ((c.toNat : Int) == 45) = false := by
          rw [beq_eq_false_iff_ne]; intro h; exact h45 (UInt8.toNat_inj.1 (by show c.toNat = 45; omega))
        refine .inl ⟨s, 1, .inl rfl, hs, ?_, .inr (.inl ⟨rfl, rfl, q1, q2⟩)⟩
        rw [← hR]
        exact num_plain (.inl (by rw [hhd]; intro h; exact h45 (Option.some.inj h))) _
    · have q1 : decide (1 < (s.size : Int)) = false := decide_eq_false (by omega)
      refine .inl ⟨s, 1, .inl rfl, hs, ?_, .inl ⟨rfl, rfl, q1⟩⟩
      rw [← hR]
      by_cases h45 : c = 45
      · refine num_plain (.inr ?_) _
        rw [hcons, h45, List.drop_of_length_le (by omega)]
      · exact num_plain (.inl (by rw [hhd]; intro h; exact h45 (Option.some.inj h))) _
  have hsl : ∀ W : World, (Instr.slice 9 (.string s) (some (.int .i64 1)) none none).run Tryd.prog W = .ok (.string (s.extract 1 s.size)) W := fun W => by
    rw [run_slice_string_from_if (P := Tryd.prog) (w := W) 9 s .i64 1 Tryd.underlying9, if_pos ⟨by omega, by omega⟩]; rfl
  rcases hway with ⟨DS, sg, -, hDz, hRR, hway⟩ | ⟨q1, q2, hx, hRn⟩
  · obtain ⟨X, hX⟩ : ∃ x, s.extract 1 s.size = x := ⟨_, rfl⟩
    rw [hX] at hway hsl
    have HRR := hide hRR
    have Hs := hide hs
    clear hR hhd hX hmin hRR h0
    have hpre : (DS.size = 0 ∧ (DS.toList == []) = true ∧ R = none) ∨
        ((DS.toList == []) = false ∧ ∃ (hp : 0 < DS.size) (e : UInt8), DS[0]'hp = e ∧ ((1 < DS.size ∧ ((e.toNat : Int) == 48) = true ∧ R = none) ∨
          ((¬ 1 < DS.size ∨ 1 < DS.size ∧ ((e.toNat : Int) == 48) = false) ∧ R = if DS.data.toList.all digB = true then some (sg * satV 1000000000000 DS.data.toList 0) else none))) := by
      have hdl : DS.size = DS.data.toList.length := rfl
      have hR0 := HRR.out
      rw [ByteArray.toList_eq]
      cases hh : DS.data.toList with
      | nil =>
        rw [hh] at hdl hR0
        exact .inl ⟨hdl, rfl, hR0⟩
      | cons e t =>
        rw [hh] at hdl hR0
        simp only [List.length_cons] at hdl
        have hp : 0 < DS.size := by omega
        refine .inr ⟨rfl, hp, e, by rw [get_at, hh]; rfl, ?_⟩
        have he : e :: t ≠ [] := by simp
        by_cases h1 : 1 < DS.size
        · have hl1 : decide (1 < (e :: t).length) = true := decide_eq_true (by show 1 < t.length + 1; omega)
          by_cases h48 : e = 48
          · refine .inl ⟨h1, by rw [h48]; rfl, ?_⟩
            rw [hR0]
            unfold isOk
            rw [hl1, h48]; simp
          · refine .inr ⟨.inr ⟨h1, ?_⟩, ?_⟩
            · rw [beq_eq_false_iff_ne]; intro h; exact h48 (UInt8.toNat_inj.1 (by show e.toNat = 48; omega))
            · rw [hR0]
              unfold isOk
              rw [hl1, decide_eq_false he, decide_eq_false (show ¬ (e :: t).head? = some 48 from fun h => h48 (Option.some.inj h))]
              simp
        · refine .inr ⟨.inl h1, ?_⟩
          rw [hR0]
          unfold isOk
          rw [decide_eq_false he, decide_eq_false (show ¬ 1 < (e :: t).length by show ¬ 1 < t.length + 1; omega)]
          simp
    rcases hpre with ⟨e0, e1, e2⟩ | ⟨e1, hp, e, he, hp2⟩
    · have HR := hide e2
      clear e2
      rcases hway with ⟨rfl, rfl, q1⟩ | ⟨rfl, rfl, q1, q2⟩ | ⟨rfl, q1, q2, rfl, q3⟩
      · exfalso; omega
      · exfalso; omega
      · clear HRR Hs
        go_enter Tryd.func59, Tryd.ntmps59
        go_wp2
        go_ret2
        exact ⟨by rw [HR.out]; rfl, rfl⟩
    · have le := e.toNat_lt
      rcases hp2 with ⟨h1, q4, hRn⟩ | ⟨h1, hRR⟩
      · have HR := hide hRn
        have q5 : decide (1 < (DS.size : Int)) = true := decide_eq_true (by omega)
        clear hRn
        rcases hway with ⟨rfl, rfl, q1⟩ | ⟨rfl, rfl, q1, q2⟩ | ⟨rfl, q1, q2, rfl, q3⟩
        · exact absurd (q1.symm.trans q5) (by decide)
        · obtain rfl : c = e := hc.symm.trans he
          clear HRR Hs hsl
          go_enter Tryd.func59, Tryd.ntmps59
          go_wp2
          go_ret2
          exact ⟨by rw [HR.out]; rfl, rfl⟩
        · clear HRR Hs
          go_enter Tryd.func59, Tryd.ntmps59
          go_wp2
          go_ret2
          exact ⟨by rw [HR.out]; rfl, rfl⟩
      · have HF := hide hRR
        have hsgz : 0 < (DS.size : Int) := by omega
        obtain ⟨D, hD⟩ : ∃ d, DS.data.toList = d := ⟨_, rfl⟩
        have hDl : D.length = DS.size := by rw [← hD]; rfl
        rw [hD] at HF
        have HD := hide hD
        have HDl := hide hDl
        have q5 : decide (1 < (DS.size : Int)) = false ∨ (decide (1 < (DS.size : Int)) = true ∧ ((e.toNat : Int) == 48) = false) := by
          rcases h1 with h1 | ⟨h1, h2⟩
          · exact .inl (decide_eq_false (by omega))
          · exact .inr ⟨decide_eq_true (by omega), h2⟩
        clear hRR h1 hD hDl HRR
        have hway2 : (sg = 1 ∧ DS = s ∧ e = c ∧ decide (1 < (s.size : Int)) = false) ∨ (sg = 1 ∧ DS = s ∧ e = c ∧ decide (1 < (s.size : Int)) = true ∧ ((c.toNat : Int) == 45) = false) ∨
            (sg = -1 ∧ decide (1 < (s.size : Int)) = true ∧ ((c.toNat : Int) == 45) = true ∧ DS = X ∧ (DS.toList == [48]) = false) := by
          rcases hway with ⟨a, b, h⟩ | ⟨a, b, h⟩ | h
          · exact .inl ⟨a, b, by subst b; exact he.symm.trans hc, h⟩
          · exact .inr (.inl ⟨a, b, by subst b; exact he.symm.trans hc, h⟩)
          · exact .inr (.inr h)
        clear hway
        rcases hway2 with ⟨rfl, rfl, rfl, q1⟩ | ⟨rfl, rfl, rfl, q1, q2⟩ | ⟨rfl, q1, q2, rfl, q3⟩ <;> rcases q5 with q5 | ⟨q5, q6⟩
        all_goals first | exact absurd (q1.symm.trans q5) (by decide) | skip
        all_goals
          go_enter Tryd.func59, Tryd.ntmps59
          go_wp2
          go_loop [5, 6] (fun n i => ∃ (k : Nat) (z : Int), k ≤ D.length ∧ i = .int .i64 k ∧ n = .int .i64 z ∧ 0 ≤ z ∧ z ≤ 1000000000000 ∧ (D.take k).all digB = true ∧ satV 1000000000000 (D.drop k) z = satV 1000000000000 D 0) (fun _ i => D.length - (intOf i).toNat)
          case atStart => exact ⟨0, 0, Nat.zero_le _, rfl, rfl, by omega, by omega, rfl, rfl⟩
          case round =>
            obtain ⟨k, z, hk, rfl, rfl, hz0, hz1, hall, hsat⟩ := hrel
            have Hall := hide hall
            have Hsat := hide hsat
            clear hall hsat
            have hDL := HDl.out
            by_cases hlt : k < DS.size
            · have hltI : (k : Int) < DS.size := by omega
              have hkD : k < D.length := by omega
              have hDk : DS[k]'hlt = D[k]'hkD := by
                rw [get_at, HD.out]
                simp [List.getD, List.getElem?_eq_getElem hkD]
              have hdrop := List.drop_eq_getElem_cons hkD
              have htake := List.take_succ_eq_append_getElem hkD
              have hmem := List.getElem_mem hkD
              obtain ⟨x, hx⟩ : ∃ x, D[k]'hkD = x := ⟨_, rfl⟩
              rw [hx] at hDk hdrop htake hmem
              have l1 := x.toNat_lt
              have Hdrop := hide hdrop
              have Htake := hide htake
              have Hmem := hide hmem
              clear hdrop htake hmem hx
              rcases (show x.toNat < 48 ∨ (48 ≤ x.toNat ∧ 57 < x.toNat) ∨ (48 ≤ x.toNat ∧ x.toNat ≤ 57) by omega) with hx | ⟨hx, hx2⟩ | ⟨hx, hx2⟩
              · have hno : digB x = false := by unfold digB; simp; omega
                have HR := hide (show R = none by rw [HF.out, if_neg]; rw [List.all_eq_true]; intro h; have := h x Hmem.out; rw [hno] at this; cases this)
                have p1 : decide ((x.toNat : Int) < 48) = true := decide_eq_true (by omega)
                clear hno hDL hkD
                go_wp2
                go_ret2
                exact ⟨by rw [HR.out]; rfl, rfl⟩
              · have hno : digB x = false := by unfold digB; simp; omega
                have HR := hide (show R = none by rw [HF.out, if_neg]; rw [List.all_eq_true]; intro h; have := h x Hmem.out; rw [hno] at this; cases this)
                have p1 : decide ((x.toNat : Int) < 48) = false := decide_eq_false (by omega)
                have p2 : decide ((57 : Int) < (x.toNat : Int)) = true := decide_eq_true (by omega)
                clear hno hDL hkD
                go_wp2
                go_ret2
                exact ⟨by rw [HR.out]; rfl, rfl⟩
              · have hyes : digB x = true := by unfold digB; simp; omega
                obtain ⟨z2, hz2⟩ : ∃ z2, min (10 * z + (x.toNat : Int) - 48) 1000000000000 = z2 := ⟨_, rfl⟩
                have hzb : 0 ≤ z2 ∧ z2 ≤ 1000000000000 := by omega
                have HS := hide (show satV 1000000000000 (D.drop (k + 1)) z2 = satV 1000000000000 D 0 by
                  rw [← Hsat.out, Hdrop.out, satV, ← hz2, show 10 * z + ((x.toNat : Int) - 48) = 10 * z + (x.toNat : Int) - 48 by omega])
                have HA := hide (show (D.take (k + 1)).all digB = true by rw [Htake.out, List.all_append, Hall.out]; simp [hyes])
                have p1 : decide ((x.toNat : Int) < 48) = false := decide_eq_false (by omega)
                have p2 : decide ((57 : Int) < (x.toNat : Int)) = false := decide_eq_false (by omega)
                clear hyes hDL
                go_wp2
                go_round
                case rel => exact ⟨k + 1, z2, by omega, by go_num, rfl, hzb.1, hzb.2, HA.out, HS.out⟩
                case measure => simp [intOf]; omega
            · have hkl : D.length ≤ k := by omega
              have hs := Hsat.out
              rw [List.drop_of_length_le hkl, satV] at hs
              have ha := Hall.out
              rw [List.take_of_length_le hkl] at ha
              have hf := HF.out
              rw [if_pos ha, ← hs] at hf
              have HR := hide hf
              obtain rfl : k = DS.size := by omega
              clear hs ha hf hDL hkl
              go_wp2
              go_ret2
              exact ⟨by rw [HR.out]; simp [numRet], rfl⟩
  · have HR := hide hRn
    rw [hx] at hsl
    clear hR hRn hx hhd hmin h0
    go_enter Tryd.func59, Tryd.ntmps59
    go_wp2
    go_ret2
    exact ⟨by rw [HR.out]; rfl, rfl⟩
end Go.Proofs.YtonnjokjbknngaaDoor
