/- The walk of the law ProgressNumbers. -/
import Derived.Test.YtalmbcelkllpjaaDoorW12
namespace Go.Proofs.YtalmbcelkllpjaaDoor
open Go.RowKit

section
variable {P : Program} {ops : Array Oper} {rest : List Oper} {o : Oper} {a : Act} {Q : Exit → Act → World → Prop}
/-- '[]byte(s)'. -/
theorem wpList_bytes (W : World) (x : Operand) (src dst e : TypeId) (hgd : o.guard = none) (ho : o.op = .convert src dst x)
    (hs : P.underlying src = some .string) (hd : P.underlying dst = some (.slice e)) (he : P.underlying e = some (.int .u8)) (s : ByteArray) (hx : a.eval x = .string s) (m : Nat) (hm : s.size = m)
    (h : ∀ w' b c, Below W.heap.size W w' → b < w'.heap.size → (∀ j (hj : j < s.size), w'.cell? ⟨b, j, none⟩ = some (.int .u8 s[j].toNat)) → m ≤ c → wpList P ops Q rest (a.put o.dst (.slice (some ⟨b, 0, none⟩) m c)) w') : wpList P ops Q (o :: rest) a W := by
  subst hm
  have hrun := run_bytes_of_string (P := P) W src dst e s hs hd he
  have hge := grownCap_ge W s.size 0 e
  refine wpList_plain hgd fun K hK => ?_
  unfold Oper.wp execOp
  simp only [ho, hx, hrun, Sem.run_bind, Sem.run_pure, Result.andThen_ok]
  refine hK _ _ (h _ _ _ ((Below.refl _ W).drew.alloc (Nat.le_refl _) _) (by simp) (fun j hj => ?_) hge)
  refine (cell_block (w := W.drew.alloc _) (b := W.heap.size) (block_new W.drew _) _).trans ?_
  unfold bytesRow
  rw [Array.getElem?_append_left (by simpa using hj), Array.getElem?_map, Array.getElem?_eq_getElem (by simpa using hj)]
  rfl
end

/-- Neither a digit nor a percent sign. -/
def noDP (c : UInt8) : Prop := isDig c = false ∧ c ≠ 37
theorem num_perc (a b : ByteArray) (n : Nat) (h : n ≤ 100) (ha : ∀ c ∈ a.data.toList, isDig c = false) : percV (a ++ decB n ++ ⟨#[37]⟩ ++ b) = ((n : Int), true) := by
  unfold percV
  have e : (a ++ decB n ++ ⟨#[37]⟩ ++ b).data.toList = a.data.toList ++ decL n ++ [37] ++ b.data.toList := by simp [decB]
  rw [e, perc_num _ _ n h ha]
  rfl
theorem none_perc (a b : ByteArray) (ha : ∀ c ∈ (a ++ b).data.toList, isDig c = false) : percV (a ++ b) = (0, false) := by
  unfold percV
  rw [no_perc _ ha]
  rfl
/-- The ways through the test of a byte. -/
theorem dpWays (c : UInt8) : (decide ((48 : Int) ≤ c.toNat) = false ∧ ((c.toNat : Int) == 37) = false ∧ isDig c = false) ∨ (decide ((48 : Int) ≤ c.toNat) = true ∧ decide ((c.toNat : Int) ≤ 57) = false ∧ ((c.toNat : Int) == 37) = false ∧ isDig c = false) ∨
    (decide ((48 : Int) ≤ c.toNat) = true ∧ decide ((c.toNat : Int) ≤ 57) = true) ∨ (decide ((48 : Int) ≤ c.toNat) = false ∧ ((c.toNat : Int) == 37) = true) := by
  by_cases h37 : c.toNat = 37
  · exact .inr (.inr (.inr ⟨by simp; omega, by simp; omega⟩))
  · have hne : ((c.toNat : Int) == 37) = false := by rw [beq_eq_false_iff_ne]; omega
    by_cases h1 : 48 ≤ c.toNat
    · by_cases h2 : c.toNat ≤ 57
      · exact .inr (.inr (.inl ⟨by simp; omega, by simp; omega⟩))
      · exact .inr (.inl ⟨by simp; omega, by simp; omega, hne, by unfold isDig; simp; omega⟩)
    · exact .inl ⟨by simp; omega, hne, by unfold isDig; simp; omega⟩

set_option maxRecDepth 100000 in
set_option maxHeartbeats 8000000 in
theorem numbersLawP (w : World) (s t : ByteArray) (k : Nat) (hk : k < 256) (hs : s.size ≤ 9223372036854775807) (ht : t.size ≤ 9223372036854775807) (hT : Tabs27 w) :
    Calls Tryd.prog 4 #[.string s, .string t, .int .u8 k] w fun e w' => e = .returned (.bool true) ∧ Below w.heap.size w w' := by
  have HA := hide (fun w1 (hb : Below w.heap.size w w1) => awakeP w1 (hT.below hb))
  clear hT
  have HA0 := hide (HA.out w (Below.refl _ _))
  by_cases h : 60 < s.size
  · clear HA
    go_enter Tryd.func4, Tryd.ntmps4
    go_wp2_with (go_at_call 11; refine HA0.out.mono ?_; rintro e w1 ⟨rfl, hb1⟩)
    go_ret
    exact ⟨rfl, hb1⟩
  · by_cases h2 : 60 < t.size
    · clear HA
      go_enter Tryd.func4, Tryd.ntmps4
      go_wp2_with (go_at_call 11; refine HA0.out.mono ?_; rintro e w1 ⟨rfl, hb1⟩)
      go_ret
      exact ⟨rfl, hb1⟩
    · clear HA0
      have hsz : (s ++ t).size = s.size + t.size := ByteArray.size_append
      have hcat : s.size + t.size ≤ 9223372036854775807 := by omega
      obtain ⟨M, hM⟩ : ∃ M, (s ++ t).size = M := ⟨_, rfl⟩
      have HM := hide hM
      have hsb : M ≤ 120 := by omega
      clear hsz hM
      go_enter Tryd.func4, Tryd.ntmps4
      go_wp2_with (refine wpList_bytes _ (.tmp 25) 9 28 5 rfl (by rfl) Tryd.underlying9 Tryd.underlying28 Tryd.underlying5 (s ++ t) (by rfl) M HM.out ?_; intro w1 bb cc hb1 hbb hcells hcc)
      have Hcells := hide hcells
      clear hcells
      obtain ⟨S, hS⟩ : ∃ S, s ++ t = S := ⟨_, rfl⟩
      rw [hS] at Hcells HM
      have HS := hide hS
      clear hS
      go_loopw [28] (fun i wr => ∃ k : Nat, k ≤ M ∧ i = .int .i64 k ∧ (∀ j (h : j < S.size), j < k → isDig S[j] = false) ∧ Below w1.heap.size w1 wr) (fun i _ => M - (intOf i).toNat)
      case atStart => exact ⟨0, Nat.zero_le _, rfl, fun j _ hj => by omega, Below.refl _ _⟩
      case round =>
        rename World => wo
        obtain ⟨i, hi, rfl, hdig, hbo⟩ := hrel
        have Hdig := hide hdig
        clear hdig
        have hbwo := hb1.trans (hbo.mono hb1.size)
        by_cases hlt : i < M
        · have hlS : i < S.size := by rw [HM.out]; exact hlt
          have c0 := (hbo.cell (p := ⟨bb, i, none⟩) hbb).trans (Hcells.out i hlS)
          have hltn : (i : Int) < (M : Int) := by omega
          rcases dpWays S[i] with ⟨q1, q2, q3⟩ | ⟨q1, q4, q2, q3⟩ | ⟨q1, q2⟩ | ⟨q1, q2⟩
          · have Hq := hide q3
            clear q3
            go_wp2
            go_roundw
            case rel => exact ⟨i + 1, by omega, by go_num, fun j hj h => by rcases Nat.lt_succ_iff_lt_or_eq.1 h with h | rfl; exact Hdig.out j hj h; exact Hq.out, hbo⟩
            case measure => simp [intOf]; omega
          · have Hq := hide q3
            clear q3
            go_wp2
            go_roundw
            case rel => exact ⟨i + 1, by omega, by go_num, fun j hj h => by rcases Nat.lt_succ_iff_lt_or_eq.1 h with h | rfl; exact Hdig.out j hj h; exact Hq.out, hbo⟩
            case measure => simp [intOf]; omega
          · go_wp2_with (go_at_call 11; refine (HA.out _ hbwo).mono ?_; rintro e w2 ⟨rfl, hb2⟩)
            go_ret
            exact ⟨rfl, hbwo.trans (hb2.mono hbwo.size)⟩
          · go_wp2_with (go_at_call 11; refine (HA.out _ hbwo).mono ?_; rintro e w2 ⟨rfl, hb2⟩)
            go_ret
            exact ⟨rfl, hbwo.trans (hb2.mono hbwo.size)⟩
        · have hall : ∀ c ∈ S.data.toList, isDig c = false := fun c hc => by
            obtain ⟨j, hj, rfl⟩ := List.mem_iff_getElem.1 hc
            exact Hdig.out j (by simpa using hj) (by have h5 : j < S.size := by simpa using hj
                                                     rw [HM.out] at h5; omega)
          have hs2 : ∀ c ∈ s.data.toList, isDig c = false := fun c hc => hall c (by rw [← HS.out, app_list]; exact List.mem_append_left _ hc)
          obtain ⟨n, hn⟩ : ∃ n, k % 101 = n := ⟨_, rfl⟩
          have hn1 : n ≤ 100 := by omega
          have HP := hide (fun w2 => PercentP w2 S (by rw [HM.out]; omega))
          have hnone : percV S = (0, false) := by rw [← HS.out]; exact none_perc s t (by rw [HS.out]; exact hall)
          rw [hnone] at HP
          have HD := hide (decimalP wo n hn1)
          have hds := decB_size n
          have hz1 : (s ++ decB n).size = s.size + (decB n).size := ByteArray.size_append
          have hz2 : (s ++ decB n ++ ⟨#[37]⟩).size = s.size + (decB n).size + 1 := by rw [ByteArray.size_append, hz1]; rfl
          have hz3 : (s ++ decB n ++ ⟨#[37]⟩ ++ t).size = s.size + (decB n).size + 1 + t.size := by rw [ByteArray.size_append, hz2]
          have HQ := hide (fun w2 => PercentP w2 (s ++ decB n ++ ⟨#[37]⟩ ++ t) (by omega))
          rw [num_perc s t n hn1 hs2] at HQ
          have HE := hide (show ((k : Int) % 101) = (n : Int) by omega)
          have hc1 : s.size + (decB n).size ≤ 9223372036854775807 := by omega
          have hc2 : (s ++ decB n).size + 1 ≤ 9223372036854775807 := by omega
          have hc3 : (s ++ decB n ++ ⟨#[37]⟩).size + t.size ≤ 9223372036854775807 := by omega
          clear hn hz1 hz2 hz3 hall hs2 hnone
          rw [← HS.out] at HP
          dsimp only at HP HQ
          go_wp2_with fail
          rw [HE.out]
          refine HD.out.mono ?_
          rintro e w2 ⟨rfl, hb2⟩
          have hb3 := hbwo.trans (hb2.mono hbwo.size)
          go_wp2_with fail
          refine (HQ.out _).mono ?_
          rintro e w3 ⟨rfl, rfl⟩
          go_wp2_with fail
          refine (HP.out _).mono ?_
          rintro e w4 ⟨rfl, rfl⟩
          go_wp2_with (go_at_call 11; refine (HA.out _ hb3).mono ?_; rintro e w5 ⟨rfl, hb5⟩)
          go_ret
          exact ⟨rfl, hb3.trans (hb5.mono hb3.size)⟩
end Go.Proofs.YtalmbcelkllpjaaDoor
