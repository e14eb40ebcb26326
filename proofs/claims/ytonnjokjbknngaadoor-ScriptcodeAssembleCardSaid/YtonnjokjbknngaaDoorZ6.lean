/- scriptcode.number. -/
import Derived.Test.YtonnjokjbknngaaDoorZ5
import Derived.Deep.DeepCutAuto
namespace Go.Proofs.YtonnjokjbknngaaDoor
open Go.RowKit Go.Lib Go.Shelf

section
variable {P : Program} {ops : Array Oper} {rest : List Oper} {o : Oper} {a : Act} {Q : Exit → Act → World → Prop}
/-- '[]byte(s)'. -/
theorem wpList_bytes (W : World) (x : Operand) (src dst e : TypeId) (hgd : o.guard = none) (ho : o.op = .convert src dst x)
    (hs : P.underlying src = some .string) (hd : P.underlying dst = some (.slice e)) (he : P.underlying e = some (.int .u8)) (s : ByteArray) (hx : a.eval x = .string s) (m : Nat) (hm : s.size = m)
    (h : ∀ w' b c, Below W.heap.size W w' → b < w'.heap.size → (∀ j (hj : j < s.size), w'.cell? ⟨b, j, none⟩ = some (.int .u8 s[j].toNat)) → m ≤ c → wpList P ops Q rest (a.put o.dst (.slice (some ⟨b, 0, none⟩) m c)) w') : wpList P ops Q (o :: rest) a W := by
  subst hm
  have hrun := run_bytes_of_string (P := P) W src dst e s hs hd he
  have hge := grownCap_ge W s.size 0 e
  refine wpList_plain hgd fun K hK => ?_
  unfold Oper.wp execOp
  simp only [ho, hx, hrun, Sem.run_bind, Sem.run_pure, Result.andThen_ok]
  refine hK _ _ (h _ _ _ ((Below.refl _ W).drew.alloc (Nat.le_refl _) _) (by simp) (fun j hj => ?_) hge)
  refine (cell_block (w := W.drew.alloc _) (b := W.heap.size) (block_new W.drew _) _).trans ?_
  unfold bytesRow
  rw [Array.getElem?_append_left (by simpa using hj), Array.getElem?_map, Array.getElem?_eq_getElem (by simpa using hj)]
  rfl
end

def minusB (s : BS) : Bool := ([45] : BS).isPrefixOf s
def digitsB (s : BS) : BS := Lib.trimPrefix s [45]
theorem numOf_cut (M : Int) (s : BS) : numOf M s = if numB (digitsB s) (minusB s) then some (if minusB s then -satV M (digitsB s) 0 else satV M (digitsB s) 0) else none := by
  unfold numOf
  split
  · rename_i ds
    have h1 : minusB (45 :: ds) = true := by simp [minusB, List.isPrefixOf]
    have h2 : digitsB (45 :: ds) = ds := by simp [digitsB, Lib.trimPrefix, Lib.hasPrefix, List.isPrefixOf]
    rw [h1, h2]; rfl
  · rename_i h0
    have h1 : minusB s = false := by
      unfold minusB
      match s, h0 with
      | [], _ => rfl
      | c :: t, h0 =>
        have : (45 : UInt8) ≠ c := fun h => h0 t (by rw [h])
        simp [List.isPrefixOf, this]
    have h2 : digitsB s = s := by unfold digitsB Lib.trimPrefix Lib.hasPrefix; rw [show ([45] : BS).isPrefixOf s = false from h1]; rfl
    rw [h1, h2]; rfl
/-- What is asked ahead of the digits. -/
def preB (ds : BS) (m : Bool) : Bool := decide (ds = []) || (decide (1 < ds.length) && decide (ds.head? = some 48)) || (m && decide (ds = [48]))
theorem numB_pre (ds : BS) (m : Bool) : numB ds m = (!preB ds m && ds.all digB) := by
  unfold numB preB
  cases decide (ds = []) <;> cases (decide (1 < ds.length) && decide (ds.head? = some 48)) <;> cases (m && decide (ds = [48])) <;> simp
def numRet (o : Option Int) : Value := match o with | none => .tuple #[.int .i64 0, .bool false] | some n => .tuple #[.int .i64 n, .bool true]

set_option maxRecDepth 100000 in
set_option maxHeartbeats 2000000 in
theorem numberP (w : World) (s : ByteArray) (hs : s.size ≤ 3000000) : Calls Tryd.prog 55 #[.string s] w fun e w' => e = .returned (numRet (numOf 1000000000 s.data.toList)) ∧ Below w.heap.size w w' := by
  have hrf := Below.refl w.heap.size w
  have HC := (Any.strings_CutPrefix laysCutP s ⟨#[45]⟩ w)
  have hcut := numOf_cut 1000000000 s.data.toList
  obtain ⟨DS, hDS⟩ : ∃ d : ByteArray, ⟨(digitsB s.data.toList).toArray⟩ = d := ⟨_, rfl⟩
  obtain ⟨m, hm⟩ : ∃ b, minusB s.data.toList = b := ⟨_, rfl⟩
  have HC2 := hide (show Calls Tryd.prog 73 #[.string s, .string ⟨#[45]⟩] w fun e w' => e = .returned (.tuple #[.string DS, .bool m]) ∧ w' = w from by rw [← hDS, ← hm]; exact HC)
  have hDl : DS.data.toList = digitsB s.data.toList := by rw [← hDS]
  obtain ⟨R, hR⟩ : ∃ r, numOf 1000000000 s.data.toList = r := ⟨_, rfl⟩
  rw [hR, hm, ← hDl, numB_pre] at hcut
  rw [hR]
  have hlenD : DS.size ≤ 3000000 := by
    have h1 : (digitsB s.data.toList).length ≤ s.data.toList.length := by unfold digitsB Lib.trimPrefix; split <;> simp
    have h2 : DS.size = (digitsB s.data.toList).length := by rw [← hDl]; rfl
    have h3 : s.data.toList.length = s.size := rfl
    omega
  obtain ⟨D, hD⟩ : ∃ d, DS.data.toList = d := ⟨_, rfl⟩
  have hDlen : D.length = DS.size := by rw [← hD]; rfl
  rw [hD] at hcut
  have HD := hide hD
  have Hcut := hide hcut
  have HDlen := hide hDlen
  clear HC hDS hm hDl hR hcut hD hDlen
  obtain ⟨PB, hPB⟩ : ∃ b, preB D m = b := ⟨_, rfl⟩
  have HPB := hide hPB
  clear hPB
  go_enter Tryd.func55, Tryd.ntmps55
  go_upto_region 2 with (first
    | (go_at_call 73; refine HC2.out.mono ?_; rintro e w1 ⟨rfl, rfl⟩)
    | fail)
  go_cut [32] (fun v wx => v = .bool PB ∧ wx = w1)
  case first =>
    match hDD : D with
    | [] =>
      obtain rfl : true = PB := HPB.out
      obtain rfl := ba_of HD.out
      clear hDD
      go_wp2_with fail
      go_meet
      case rel => exact ⟨rfl, rfl⟩
    | c :: t =>
      have hp0 : 0 < DS.size := by have := HDlen.out; simp at this; omega
      have hz0 : (0 : Int) < (DS.size : Int) := by omega
      have hne : (DS.toList == []) = false := by rw [ByteArray.toList_eq, HD.out]; rfl
      have hs0 : DS[0]'hp0 = c := by rw [get_at, HD.out]; rfl
      have hP := HPB.out
      unfold preB at hP
      rw [decide_eq_false (show ¬ (c :: t) = [] by simp), Bool.false_or] at hP
      by_cases h1 : 1 < DS.size
      · have q1 : decide ((1 : Int) < (DS.size : Int)) = true := decide_eq_true (by omega)
        have q1' : (1 : Int) < (DS.size : Int) := by omega
        rw [decide_eq_true (show 1 < (c :: t).length by rw [HDlen.out]; exact h1), Bool.true_and] at hP
        have h48 : (DS.toList == [48]) = false := by
          rw [ByteArray.toList_eq, HD.out, beq_eq_false_iff_ne]
          intro h
          have := HDlen.out
          rw [h] at this
          simp at this; omega
        rw [decide_eq_false (show ¬ (c :: t) = [48] from fun h => by have := HDlen.out; rw [h] at this; simp at this; omega), Bool.and_false, Bool.or_false] at hP
        have hq : ((c.toNat : Int) == 48) = PB := by
          rw [← hP, Bool.eq_iff_iff, beq_iff_eq, decide_eq_true_iff]
          constructor
          · intro h; rw [show c = 48 from UInt8.toNat_inj.1 (by show c.toNat = 48; omega)]; rfl
          · intro h; simp at h; rw [h]; rfl
        clear hP h1 hDD
        cases PB
        · cases m
          all_goals
            go_wp2_with fail
            go_meet
            case rel => exact ⟨rfl, rfl⟩
        · go_wp2_with fail
          go_meet
          case rel => exact ⟨rfl, rfl⟩
      · have q1 : decide ((1 : Int) < (DS.size : Int)) = false := decide_eq_false (by omega)
        rw [decide_eq_false (show ¬ 1 < (c :: t).length by rw [HDlen.out]; exact h1), Bool.false_and, Bool.false_or] at hP
        cases m with
        | false =>
          obtain rfl : false = PB := hP
          clear h1 hDD
          go_wp2_with fail
          go_meet
          case rel => exact ⟨rfl, rfl⟩
        | true =>
          rw [Bool.true_and] at hP
          have h48 : (DS.toList == [48]) = PB := by rw [ByteArray.toList_eq, HD.out, ← hP, Bool.eq_iff_iff, beq_iff_eq, decide_eq_true_iff]
          clear hP h1 hDD
          go_wp2_with fail
          go_meet
          case rel => exact ⟨rfl, rfl⟩
  case rest =>
    obtain ⟨rfl, rfl⟩ := hcut
    have hcut := Hcut.out
    rw [HPB.out] at hcut
    cases PB with
    | true =>
      have HR := hide (show R = none from hcut)
      clear hcut
      go_wp2
      go_ret2
      exact ⟨by rw [HR.out]; rfl, hrf⟩
    | false =>
      rw [Bool.not_false, Bool.true_and] at hcut
      have Hc2 := hide hcut
      clear hcut Hcut HPB
      obtain ⟨M, hM⟩ : ∃ k, DS.size = k := ⟨_, rfl⟩
      have HM := hide hM
      have hM2 : M ≤ 3000000 := by omega
      clear hM hlenD
      go_wp2_with (refine wpList_bytes _ (.tmp 33) 9 64 5 rfl (by rfl) Tryd.underlying9 Tryd.underlying64 Tryd.underlying5 DS (by rfl) M HM.out ?_; intro w2 bb cc hb2 hbb hcells hcc)
      have Hcells := hide hcells
      clear hcells
      go_loop [6, 36] (fun n i => ∃ (k : Nat) (z : Int), k ≤ M ∧ i = .int .i64 k ∧ n = .int .i64 z ∧ 0 ≤ z ∧ z ≤ 1000000000 ∧ (D.take k).all digB = true ∧ satV 1000000000 (D.drop k) z = satV 1000000000 D 0) (fun _ i => M - (intOf i).toNat)
      case atStart => exact ⟨0, 0, Nat.zero_le _, rfl, rfl, by omega, by omega, rfl, rfl⟩
      case round =>
        obtain ⟨k, z, hk, rfl, rfl, hz0, hz1, hall, hsat⟩ := hrel
        have Hall := hide hall
        have Hsat := hide hsat
        clear hall hsat
        by_cases hlt : k < M
        · have hltI : (k : Int) < M := by omega
          have hkD : k < D.length := by rw [HDlen.out, HM.out]; exact hlt
          have hkS : k < DS.size := by rw [HM.out]; exact hlt
          have hcell := Hcells.out k hkS
          have hDk : DS[k]'hkS = D[k]'hkD := by
            rw [get_at, HD.out]
            simp [List.getD, List.getElem?_eq_getElem hkD]
          rw [hDk] at hcell
          have hdrop := List.drop_eq_getElem_cons hkD
          have htake := List.take_succ_eq_append_getElem hkD
          have hmem := List.getElem_mem hkD
          obtain ⟨c, hc⟩ : ∃ c, D[k]'hkD = c := ⟨_, rfl⟩
          rw [hc] at hcell hdrop htake hmem
          have l0 := c.toNat_lt
          have Hdrop := hide hdrop
          have Htake := hide htake
          have Hmem := hide hmem
          clear hDk hdrop htake hmem hc
          rcases (show c.toNat < 48 ∨ (48 ≤ c.toNat ∧ 57 < c.toNat) ∨ (48 ≤ c.toNat ∧ c.toNat ≤ 57) by omega) with hc | ⟨hc, hc2⟩ | ⟨hc, hc2⟩
          · have hno : digB c = false := by unfold digB; simp; omega
            have HR := hide (show R = none by rw [Hc2.out, if_neg]; rw [List.all_eq_true]; intro h; have := h c Hmem.out; rw [hno] at this; cases this)
            have q1 : decide ((c.toNat : Int) < 48) = true := decide_eq_true (by omega)
            clear hno
            go_wp2
            go_ret2
            exact ⟨by rw [HR.out]; rfl, hb2⟩
          · have hno : digB c = false := by unfold digB; simp; omega
            have HR := hide (show R = none by rw [Hc2.out, if_neg]; rw [List.all_eq_true]; intro h; have := h c Hmem.out; rw [hno] at this; cases this)
            have q1 : decide ((c.toNat : Int) < 48) = false := decide_eq_false (by omega)
            have q2 : decide ((57 : Int) < (c.toNat : Int)) = true := decide_eq_true (by omega)
            clear hno
            go_wp2
            go_ret2
            exact ⟨by rw [HR.out]; rfl, hb2⟩
          · have hyes : digB c = true := by unfold digB; simp; omega
            obtain ⟨z2, hz2⟩ : ∃ z2, min (10 * z + ((c.toNat : Int) - 48)) 1000000000 = z2 := ⟨_, rfl⟩
            have hzb : 0 ≤ z2 ∧ z2 ≤ 1000000000 := by omega
            have HS := hide (show satV 1000000000 (D.drop (k + 1)) z2 = satV 1000000000 D 0 by rw [← Hsat.out, Hdrop.out, satV, hz2])
            have HA := hide (show (D.take (k + 1)).all digB = true by rw [Htake.out, List.all_append, Hall.out]; simp [hyes])
            have q1 : decide ((c.toNat : Int) < 48) = false := decide_eq_false (by omega)
            have q2 : decide ((57 : Int) < (c.toNat : Int)) = false := decide_eq_false (by omega)
            clear hyes
            go_wp2
            go_round
            case rel => exact ⟨k + 1, z2, by omega, by go_num, rfl, hzb.1, hzb.2, HA.out, HS.out⟩
            case measure => simp [intOf]; omega
        · obtain rfl : k = M := by omega
          have hkl : D.length ≤ k := by rw [HDlen.out, HM.out]; exact Nat.le_refl _
          have hs := Hsat.out
          rw [List.drop_of_length_le hkl, satV] at hs
          have ha := Hall.out
          rw [List.take_of_length_le hkl] at ha
          have hc := Hc2.out
          rw [if_pos ha, ← hs] at hc
          have HR := hide hc
          clear hs ha hc
          cases m
          all_goals
            go_wp2
            go_ret2
            exact ⟨by rw [HR.out]; rfl, hb2⟩
end Go.Proofs.YtonnjokjbknngaaDoor
