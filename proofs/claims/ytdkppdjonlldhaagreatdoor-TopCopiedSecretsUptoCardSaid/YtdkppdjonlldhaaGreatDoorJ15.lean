/- Joined: SP40, SP41, SP42, SP43. -/
import Derived.Test.YtdkppdjonlldhaaGreatDoorJ13
import Derived.Test.YtdkppdjonlldhaaGreatDoorJ14
import Derived.Test.YtdkppdjonlldhaaGreatDoorJ4
import Derived.Test.YtdkppdjonlldhaaGreatDoorJ5
/- The parser's character part. -/
namespace Go.Proofs.YtdkppdjonlldhaaGreatDoor
open Go.RowKit Go.Maps Go.Shelf

theorem charF_range {l : List Wd} {r : Int} {k : Nat} (h : charF l = some (r, k)) : -2147483648 ≤ r ∧ r ≤ 2147483647 := by
  unfold charF at h
  split at h
  · cases h; exact ⟨by omega, by omega⟩
  · cases l with
    | nil => cases h
    | cons x rest =>
      have h : (match signOf x with
        | some r => some (r, 1)
        | none => if x = characterW then (match prefF rest with
          | none => none
          | some (n, k) => if isCharB n = true ∧ idxS n = none then some (n, 1 + k) else none) else none) = some (r, k) := h
      split at h
      · rename_i r' hs
        cases h
        unfold signOf at hs
        rw [Option.map_eq_some_iff] at hs
        obtain ⟨i, -, rfl⟩ := hs
        have := (sgnL.getD i 0).toNat_lt
        omega
      · split at h
        · split at h
          · cases h
          · split at h
            · rename_i hc
              cases h
              have := hc.1
              unfold isCharB at this
              rw [decide_eq_true_eq] at this
              omega
            · cases h
        · cases h
theorem prefFrom_pos : ∀ (k : Nat) (l : List Wd) (n : Int) (u : Nat), prefFrom k l = some (n, u) → 1 ≤ u
  | 0, _, _, _, h => by cases h
  | k + 1, l, n, u, h => by
    unfold prefFrom at h
    split at h
    · cases h; omega
    · exact prefFrom_pos k l n u h
theorem add_words {p q : PS} {r : Int} {n : Nat} (h : p.add r n = some q) : q.words = p.words ∧ q.style = p.style ∧ q.joins = false := by
  unfold PS.add at h
  split at h
  · cases h
  · split at h
    · split at h
      · cases h
      · split at h
        · cases h
        · rw [Option.map_eq_some_iff] at h
          obtain ⟨t, -, rfl⟩ := h
          exact ⟨rfl, rfl, rfl⟩
    · cases h; exact ⟨rfl, rfl, rfl⟩
/-- The words of the parser, as the walks read them. -/
theorem PB.words {B bR : Nat} {w0 W : World} {p : PS} (h : PB B w0 W bR p) : ∃ Aw cw, p.words.length ≤ cw ∧ (∀ W2, Below W.heap.size W W2 → W2.cell? ⟨B, 1, none⟩ = some (.slice Aw p.words.length cw)) ∧ (∀ W2, Below W.heap.size W W2 → StrRow W2 W2.heap.size Aw p.words) := by
  have hl := h.lt
  obtain ⟨Aw, nw, cw, ov, hB, hnw, hcw, hr⟩ := h
  subst hnw
  exact ⟨Aw, cw, hcw, fun W2 hb => cell_block (hB.below hb).box 1, fun W2 hb => (hr.below (StrAt.stays _) (hb.mono (Nat.le_of_lt hl))).more (Nat.le_trans (Nat.le_of_lt hl) hb.size)⟩
set_option maxRecDepth 100000 in
set_option maxHeartbeats 4000000 in
theorem readSign (w0 w : World) (hS : Spc w0) (htb : Tabs w0) (hw : Below w0.heap.size w0 w) (B bR : Nat) (p : PS) (hI : PB B w w bR p) (hB0 : w0.heap.size ≤ B) (hwl : p.words.length ≤ 1000000) (hws : ∀ y ∈ p.words, y.length ≤ 1000000) :
    (charF p.words = none → Calls Tryz.prog 61 #[.pointer (some ⟨B, 0, none⟩)] w fun e w' => e = .returned (.bool false) ∧ Below w.heap.size w w') ∧
    (∀ r n q, charF p.words = some (r, n) → p.add r 1 = some q → q.out.length ≤ 1000000 → Calls Tryz.prog 61 #[.pointer (some ⟨B, 0, none⟩)] w fun e w' => e = .returned (.bool true) ∧ PB B w w' bR (q.take n)) := by
  obtain ⟨Aw, cw, hcw, hcell, hrow⟩ := hI.words
  have hb := Below.refl w.heap.size w
  have k1 := hcell w hb
  have HC := hide (charP w (hS.below hw) Aw p.words.length cw p.words rfl hwl hcw (hrow w hb) hws)
  obtain ⟨NW, hNW⟩ : ∃ NW, p.words.length = NW := ⟨_, rfl⟩
  constructor
  · intro hc
    rw [hc] at HC
    rw [hNW] at HC k1
    go_enter Tryz.func61, Tryz.ntmps61
    go_wp2_with (first
      | (go_at_call 91; refine HC.out.mono ?_; rintro e w3 ⟨rfl, hb3⟩)
      | fail)
    go_ret
    exact ⟨rfl, hb3⟩
  · intro r n q hc hq hql
    rw [hc] at HC
    rw [hNW] at HC k1
    have hrg := charF_range hc
    have hkl := charF_len hc
    have hqw := add_words hq
    have HA := hide (fun (W : World) (hb : Below w.heap.size w W) => addP w0 W htb (hw.trans (hb.mono hw.size)) B bR p (hI.below hb).again hB0 r hrg.1 hrg.2 1 (Nat.le_refl 1) q hq hql)
    rw [show (((1 : Nat) : Int)) = 1 from rfl] at HA
    have HTk := hide (fun (W : World) (hI : PB B w W bR q) => takeP W W B bR q hI.again n hkl.1 (by rw [hqw.1]; exact hkl.2) (by rw [hqw.1]; exact hwl))
    have HI := hide hI
    have q0 : ((n : Int) == 0) = false := beq_eq_false_iff_ne.2 (by have := hkl.1; omega)
    clear hc hq hrg hkl hqw hI
    go_enter Tryz.func61, Tryz.ntmps61
    go_wp2_with (first
      | (go_at_call 86; refine (HTk.out _ HI4.out).mono ?_; rintro e w8 ⟨rfl, hI8⟩; have HI8 := hide (PB.trans HI4.out hI8); clear hI8)
      | (go_at_call 92; refine (HA.out _ HB3.out).mono ?_; rintro e w4 ⟨rfl, hI4⟩; have HI4 := hide (PB.trans (HI.out.below HB3.out) hI4); clear hI4)
      | (go_at_call 91; refine HC.out.mono ?_; rintro e w3 ⟨rfl, hb3⟩; have HB3 := hide hb3; clear hb3)
      | fail)
    go_ret
    exact ⟨rfl, HI8.out⟩
end Go.Proofs.YtdkppdjonlldhaaGreatDoor

/- The parser's amount: a number, or a character some times. -/
namespace Go.Proofs.YtdkppdjonlldhaaGreatDoor
open Go.RowKit Go.Maps Go.Shelf

def strLen : Value → Nat | .string s => s.size | _ => 0
/-- What is left of a number, ahead of its last digits. -/
def restW (M : Int) : Wd := if M = 0 then [] else decW M.toNat
theorem rest_step (M : Int) (h0 : 0 ≤ M) : restW (M / 10) ++ [48 + (M % 10).toNat.toUInt8] = decW M.toNat := by
  unfold restW
  by_cases h : M < 10
  · rw [if_pos (by omega), decW_low (by omega), List.nil_append, show (M % 10).toNat = M.toNat by omega]
  · rw [if_neg (by omega), decW_ten (n := M.toNat) (by omega), show (M / 10).toNat = M.toNat / 10 by omega, show (M % 10).toNat = M.toNat % 10 by omega]
theorem decW_ne (n : Nat) : decW n ≠ [] := by
  by_cases h : n < 10
  · rw [decW_low h]; simp
  · rw [decW_ten (by omega)]; simp
set_option maxRecDepth 100000 in
set_option maxHeartbeats 4000000 in
theorem amountText (w : World) (B bR : Nat) (p : PS) (hI : PB B w w bR p) (hwl : p.words.length ≤ 1000000) (hws : ∀ y ∈ p.words, y.length ≤ 1000000) (n : Int) (used : Nat) (hp : prefF p.words = some (n, used)) (hn0 : ¬ n < 0) (ht : p.words[used]? ≠ some timesW) (hql : (p.text (decW n.toNat)).out.length ≤ 1000000) :
    Calls Tryz.prog 62 #[.pointer (some ⟨B, 0, none⟩)] w fun e w' => e = .returned (.bool true) ∧ PB B w w' bR ((p.text (decW n.toNat)).take used) := by
  obtain ⟨Aw, cw, hcw, hcell, hrow⟩ := hI.words
  have hb := Below.refl w.heap.size w
  have k1 := hcell w hb
  have HP := hide (prefixP w Aw p.words.length cw p.words rfl hwl hcw (hrow w hb) hws)
  rw [hp] at HP
  have hrg := prefF_bound hp
  have hle := prefF_len hp
  have hpos := prefFrom_pos _ _ _ _ hp
  have hD : (decW n.toNat).length ≤ 1000000 := by
    have : (p.text (decW n.toNat)).out.length = p.out.length + ((if p.joins then [(⟨⟨#[32]⟩, false, p.style⟩ : Gl)] else []).length + (decW n.toNat).length) := by
      unfold PS.text lettersGl
      simp only [List.length_append, List.length_map]
    omega
  have HD0 := hide (decW_ne n.toNat)
  have Hrow := hide hrow
  have Hcell := hide hcell
  have Hws := hide hws
  obtain ⟨DW, hDW⟩ : ∃ DW, decW n.toNat = DW := ⟨_, rfl⟩
  rw [hDW] at hql hD HD0 ⊢
  have HDW := hide hDW
  have HT := hide (fun (W : World) (hI : PB B w W bR p) (T : ByteArray) (hT : T.data.toList = DW) => by
    have := textP W W B bR p hI.again T (by rw [hT]; exact hql)
    rw [hT] at this
    exact this)
  have HTk := hide (fun (W : World) (hI : PB B w W bR (p.text DW)) => takeP W W B bR (p.text DW) hI.again used hpos (by show used ≤ p.words.length; exact hle.2) hwl)
  obtain ⟨NW, hNW⟩ : ∃ NW, p.words.length = NW := ⟨_, rfl⟩
  rw [hNW] at HP k1 hle Hcell hcw
  have htest : used = NW ∨ (used < NW ∧ ∃ y, p.words[used]? = some y ∧ y ≠ timesW) := by
    by_cases h : used = NW
    · exact .inl h
    · have hlt : used < p.words.length := by omega
      refine .inr ⟨by omega, p.words[used], List.getElem?_eq_getElem hlt, fun e => ht ?_⟩
      rw [List.getElem?_eq_getElem hlt, e]
  have HI := hide hI
  have Hcw := hide hcw
  have hn9 : n ≤ 999999999 := hrg.2
  have hnn : 0 ≤ n := by omega
  clear hcell hrow hp hrg hle hql hDW hI hNW hws ht hcw
  go_enter Tryz.func62, Tryz.ntmps62
  go_upto_region 4 with (first
    | (go_at_call 93; refine HP.out.mono ?_; rintro e w3 ⟨rfl, hb3⟩; have HB3 := hide hb3; have k1 := Hcell.out w3 hb3; clear hb3)
    | fail)
  go_cut [41] (fun s wx => s = .bool true ∧ wx = w3)
  case first =>
    rcases htest with hu | ⟨hu, y, hy, hyt⟩
    · have q1 : ((used : Int) == (NW : Int)) = true := by rw [hu]; exact beq_self_eq_true _
      go_wp2_with fail
      go_meet
      case rel => exact ⟨rfl, rfl⟩
    · have q1 : ((used : Int) == (NW : Int)) = false := beq_eq_false_iff_ne.2 (by omega)
      have hul : used < p.words.length := (List.getElem?_eq_some_iff.1 hy).1
      obtain ⟨b, off, rfl, hbb, hc⟩ := (Hrow.out w3 HB3.out).get1 hul
      have hyc : w3.cell? ⟨b, off + used, none⟩ = some (strV p.words[used]) := hc
      rw [(List.getElem?_eq_some_iff.1 hy).2] at hyc
      unfold strV at hyc
      obtain ⟨Y, hY⟩ : ∃ Y : ByteArray, (⟨y.toArray⟩ : ByteArray) = Y := ⟨_, rfl⟩
      have hYl : Y.data.toList = y := by rw [← hY]
      rw [hY] at hyc
      have q := (tl_eq hYl timesW).trans (decide_eq_false hyt)
      unfold timesW at q
      have g1 : (used : Int) < (NW : Int) := by omega
      have g2 : (0 : Int) ≤ (used : Int) := by omega
      clear hY hYl hc hy hul hyt
      go_wp2_with fail
      go_meet
      case rel => exact ⟨rfl, rfl⟩
  case rest =>
    obtain ⟨rfl, hwc⟩ := hcut
    subst hwc
    obtain ⟨wa, rfl⟩ : ∃ wa : World, wa = wc := ⟨_, rfl⟩
    have h3 := HB3.out
    have hDl := HD0.out
    go_wp2
    go_loopw [6, 7] (fun sv mv wr => ∃ (M : Int) (SK : ByteArray), sv = .string SK ∧ mv = .int .i64 M ∧ 0 ≤ M ∧ M ≤ 999999999 ∧ ((SK.size = 0 ∧ M = n) ∨ (0 < SK.size ∧ restW M ++ SK.data.toList = DW)) ∧ Below w.heap.size w wr) (fun sv mv _ => (intOf mv).toNat + (1 - strLen sv))
    case atStart => exact ⟨n, ⟨#[]⟩, rfl, rfl, hnn, hn9, .inl ⟨rfl, rfl⟩, h3⟩
    case round =>
      rename World => wo
      obtain ⟨M, SK, rfl, rfl, hM0, hM9, hst, hbr⟩ := hrel
      have HBr := hide hbr
      have Hst := hide hst
      have HSk := hide (Lib.size_eq SK)
      clear hbr hst
      by_cases hgo : 0 < M ∨ SK.size = 0
      · have hSl : SK.size ≤ 1000000 := by
          rcases Hst.out with ⟨h, -⟩ | ⟨-, h⟩
          · omega
          · rw [HSk.out]
            have := congrArg List.length h
            rw [List.length_append] at this
            omega
        obtain ⟨Q, hQ⟩ : ∃ Q, M / 10 = Q := ⟨_, rfl⟩
        obtain ⟨d, hd⟩ : ∃ d, M % 10 = d := ⟨_, rfl⟩
        have hd0 : 0 ≤ d := by omega
        have hd9 : d ≤ 9 := by omega
        have hQ0 : 0 ≤ Q := by omega
        have hQ9 : Q ≤ 999999999 := by omega
        have HQM := hide (show (0 < M → Q < M) by intro h; omega)
        obtain ⟨U, hU⟩ : ∃ U : ByteArray, (⟨#[48 + d.toNat.toUInt8]⟩ : ByteArray) = U := ⟨_, rfl⟩
        have hUd : Utf8.encode (48 + d) = U := by
          rw [← hU, ← utf8_dig d.toNat (by omega)]
          congr 1
          omega
        have hUl : U.data.toList = [48 + d.toNat.toUInt8] := by rw [← hU]
        have hUs : U.size = 1 := by rw [Lib.size_eq, hUl]; rfl
        have hcat : U.size + SK.size ≤ 9223372036854775807 := by omega
        have HUl := hide hUl
        have HUs := hide hUs
        have Hstep := hide (show restW Q ++ [48 + d.toNat.toUInt8] = decW M.toNat by rw [← hQ, ← hd]; exact rest_step M hM0)
        have w64 : IntKind.i64.wrap (48 + d) = 48 + d := IntWalk.i64_in _ (by omega)
        have w32 : IntKind.i32.wrap (48 + d) = 48 + d := IntWalk.i32_in _ (by omega)
        have hnew : restW Q ++ (U ++ SK).data.toList = DW := by
          rw [ba_append, HUl.out, ← List.append_assoc, Hstep.out]
          rcases Hst.out with ⟨h1, h2⟩ | ⟨h1, h2⟩
          · rw [h2, HDW.out]
            have : SK.data.toList = [] := List.eq_nil_of_length_eq_zero (by rw [← HSk.out]; exact h1)
            rw [this, List.append_nil]
          · rw [← h2]
            unfold restW
            rcases hgo with h | h
            · rw [if_neg (by omega)]
            · omega
        have Hnew := hide hnew
        have htests : (0 < M) ∨ (¬ 0 < M ∧ (SK.toList == []) = true ∧ SK.toList.isEmpty = true) := by
          by_cases h : 0 < M
          · exact .inl h
          · have hz : SK.data.toList = [] := List.eq_nil_of_length_eq_zero (by rw [← HSk.out]; rcases hgo with h' | h'; (· omega); exact h')
            exact .inr ⟨h, by rw [ByteArray.toList_eq, hz]; rfl, by rw [ByteArray.toList_eq, hz]; rfl⟩
        have Hgo := hide hgo
        clear hU hUl hUs hnew hgo
        rcases htests with h | ⟨h, q2, q3⟩
        all_goals
          go_wp2
          refine ⟨⟨M / 10, U ++ SK, rfl, rfl, by omega, by omega, .inr ⟨?_, ?_⟩, HBr.out⟩, ?_⟩
          · rw [ByteArray.size_append, HUs.out]; omega
          · rw [hQ]; exact Hnew.out
          · simp only [intOf, strLen]
            rw [ByteArray.size_append, HUs.out]
            have := Hgo.out
            omega
      · have hz : ¬ 0 < M := fun h => hgo (.inl h)
        have hz2 : ¬ SK.size = 0 := fun h => hgo (.inr h)
        have hSKne : SK.data.toList ≠ [] := fun e => hz2 (by rw [HSk.out, e]; rfl)
        have hfin : SK.data.toList = DW := by
          rcases Hst.out with ⟨h, -⟩ | ⟨-, h⟩
          · exact absurd h hz2
          · unfold restW at h
            rw [if_pos (by omega), List.nil_append] at h
            exact h
        have q2 : (SK.toList == []) = false := by rw [ByteArray.toList_eq]; exact beq_eq_false_iff_ne.2 hSKne
        have q3 : SK.toList.isEmpty = false := by rw [ByteArray.toList_eq]; cases hk : SK.data.toList with
          | nil => exact absurd hk hSKne
          | cons a b => rfl
        have Hfin := hide hfin
        clear hfin hSKne hgo
        go_wp2_with (first
          | (go_at_call 86; refine (HTk.out _ HI7.out).mono ?_; rintro e w8 ⟨rfl, hI8⟩; have HI8 := hide (PB.trans HI7.out hI8); clear hI8)
          | (go_at_call 89; refine (HT.out _ (HI.out.below HBr.out) SK Hfin.out).mono ?_; rintro e w7 ⟨rfl, hI7⟩; have HI7 := hide (PB.trans (HI.out.below HBr.out) hI7); clear hI7)
          | fail)
        go_ret
        exact ⟨rfl, HI8.out⟩
set_option maxRecDepth 100000 in
set_option maxHeartbeats 4000000 in
theorem amountTimes (w0 w : World) (hS : Spc w0) (htb : Tabs w0) (hw : Below w0.heap.size w0 w) (B bR : Nat) (p : PS) (hI : PB B w w bR p) (hB0 : w0.heap.size ≤ B) (hwl : p.words.length ≤ 1000000) (hws : ∀ y ∈ p.words, y.length ≤ 1000000) (n : Int) (used : Nat) (hp : prefF p.words = some (n, used)) (ht : p.words[used]? = some timesW)
    (r : Int) (more : Nat) (hc : charF (p.words.drop (used + 1)) = some (r, more)) (hn2 : 2 ≤ n) (hn132 : n ≤ 132) (q : PS) (hq : p.add r n.toNat = some q) (hql : q.out.length ≤ 1000000) :
    Calls Tryz.prog 62 #[.pointer (some ⟨B, 0, none⟩)] w fun e w' => e = .returned (.bool true) ∧ PB B w w' bR (q.take (used + 1 + more)) := by
  obtain ⟨Aw, cw, hcw, hcell, hrow⟩ := hI.words
  have hb := Below.refl w.heap.size w
  have k1 := hcell w hb
  have HP := hide (prefixP w Aw p.words.length cw p.words rfl hwl hcw (hrow w hb) hws)
  rw [hp] at HP
  have hrg := charF_range hc
  have hkl := charF_len hc
  have hqw := add_words hq
  have hul : used < p.words.length := (List.getElem?_eq_some_iff.1 ht).1
  rw [List.length_drop] at hkl
  obtain ⟨b, off, rfl, hbb, -⟩ := (hrow w hb).get1 (k := 0) (by omega)
  have hcell2 : ∀ W, Below w.heap.size w W → W.cell? ⟨b, off + used, none⟩ = some (strV timesW) := fun W hW => by
    obtain ⟨b', o', he, -, hc⟩ := (hrow W hW).get1 hul
    cases he
    have : W.cell? ⟨b, off + used, none⟩ = some (strV p.words[used]) := hc
    rwa [(List.getElem?_eq_some_iff.1 ht).2] at this
  have HC := hide (fun (W : World) (hW : Below w.heap.size w W) (c : Nat) (hc2 : p.words.length - (used + 1) ≤ c) => charP W (hS.below (hw.trans (hW.mono hw.size))) (some ⟨b, off + (used + 1), none⟩) (p.words.length - (used + 1)) c (p.words.drop (used + 1)) (by rw [List.length_drop]) (by omega) hc2 (by
    have h := (hrow W hW).drop (used + 1)
    rwa [Nat.mul_one] at h) (fun y hy => hws y (List.mem_of_mem_drop hy)))
  rw [hc] at HC
  obtain ⟨nn, hnn⟩ : ∃ nn : Nat, n = (nn : Int) := ⟨n.toNat, by omega⟩
  have hnt : n.toNat = nn := by omega
  rw [hnt] at hq
  have HA := hide (fun (W : World) (hb : Below w.heap.size w W) => addP w0 W htb (hw.trans (hb.mono hw.size)) B bR p (hI.below hb).again hB0 r hrg.1 hrg.2 nn (by omega) q hq hql)
  rw [← hnn] at HA
  have HTk := hide (fun (W : World) (hI : PB B w W bR q) => takeP W W B bR q hI.again (used + 1 + more) (by omega) (by rw [hqw.1]; omega) (by rw [hqw.1]; exact hwl))
  obtain ⟨NW, hNW⟩ : ∃ NW, p.words.length = NW := ⟨_, rfl⟩
  rw [hNW] at HP k1 hcell hcw hkl hul hwl HC
  have Hcell := hide hcell
  have Hcell2 := hide hcell2
  have HI := hide hI
  have q1 : ((used : Int) == (NW : Int)) = false := beq_eq_false_iff_ne.2 (by omega)
  have g1 : (used : Int) < (NW : Int) := by omega
  have g2 : (0 : Int) ≤ (used : Int) := by omega
  have e0 : ¬ n < 0 := by omega
  have e2 : ¬ n < 2 := by omega
  have e132 : ¬ 132 < n := by omega
  have w1 : IntKind.i64.wrap ((used : Int) + 1) = (used : Int) + 1 := IntWalk.i64_in _ (by omega)
  have w2 : IntKind.i64.wrap ((used : Int) + 1 + (more : Int)) = ((used + 1 + more : Nat) : Int) := by rw [IntWalk.i64_in _ (by omega)]; omega
  have g3 : (0 : Int) ≤ (used : Int) + 1 := by omega
  have g4 : (used : Int) + 1 ≤ (NW : Int) := by omega
  have g5 : (used : Int) + 1 ≤ (cw : Int) := by omega
  have g6 : ((used : Int) + 1).toNat = used + 1 := by omega
  have g7 : ¬ cw = used + 1 := by omega
  have g8 : ((more : Int) == 0) = false := beq_eq_false_iff_ne.2 (by omega)
  have g9 : NW - (used + 1) ≤ cw - (used + 1) := by omega
  clear hcell hcell2 hrow hp hrg hkl hqw hI hNW hws ht hcw hc hq hnn hnt
  go_enter Tryz.func62, Tryz.ntmps62
  go_wp2_with (first
    | (go_at_call 86; refine (HTk.out _ HI5.out).mono ?_; rintro e w8 ⟨rfl, hI8⟩; have HI8 := hide (PB.trans HI5.out hI8); clear hI8)
    | (go_at_call 92; refine (HA.out _ HB4.out).mono ?_; rintro e w5 ⟨rfl, hI5⟩; have HI5 := hide (PB.trans (HI.out.below HB4.out) hI5); clear hI5)
    | (go_at_call 91; refine (HC.out _ HB3.out _ g9).mono ?_; rintro e w4 ⟨rfl, hb4⟩; have HB4 := hide (HB3.out.trans (hb4.mono HB3.out.size)); clear hb4)
    | (go_at_call 93; refine HP.out.mono ?_; rintro e w3 ⟨rfl, hb3⟩; have HB3 := hide hb3; have k1 := Hcell.out w3 hb3; have t3 := Hcell2.out w3 hb3; unfold strV timesW at t3; clear hb3)
    | fail)
  go_ret
  exact ⟨rfl, HI8.out⟩
/-- The parser's amount, where it is one. -/
theorem readAmount (w0 w : World) (hS : Spc w0) (htb : Tabs w0) (hw : Below w0.heap.size w0 w) (B bR : Nat) (p : PS) (hI : PB B w w bR p) (hB0 : w0.heap.size ≤ B) (hwl : p.words.length ≤ 1000000) (hws : ∀ y ∈ p.words, y.length ≤ 1000000) (q : PS) (hq : amountF p = some q) (hql : q.out.length ≤ 1000000) :
    Calls Tryz.prog 62 #[.pointer (some ⟨B, 0, none⟩)] w fun e w' => e = .returned (.bool true) ∧ PB B w w' bR q := by
  unfold amountF at hq
  split at hq
  · cases hq
  · rename_i n used hp
    split at hq
    · cases hq
    · rename_i hn0
      split at hq
      · rename_i ht
        cases hq
        exact amountText w B bR p hI hwl hws n used hp hn0 ht hql
      · rename_i ht
        split at hq
        · cases hq
        · rename_i r more hc
          split at hq
          · cases hq
          · rename_i hn
            rw [Option.map_eq_some_iff] at hq
            obtain ⟨q0, hq0, rfl⟩ := hq
            exact amountTimes w0 w hS htb hw B bR p hI hB0 hwl hws n used hp (by simpa using ht) r more hc (by omega) (by omega) q0 hq0 hql
end Go.Proofs.YtdkppdjonlldhaaGreatDoor

/- The parser's part; spokentext.Glyphs. -/
namespace Go.Proofs.YtdkppdjonlldhaaGreatDoor
open Go.RowKit Go.Maps Go.Shelf

theorem readYes {B bR : Nat} {w w' : World} {q : PS} {e : Ending} (h : ReadRet B bR w (some q) e w') : e = .returned (.bool true) ∧ PB B w w' bR q := by
  rcases h with ⟨q', h1, h2, h3⟩ | ⟨h1, -⟩
  · cases h1; exact ⟨h2, h3⟩
  · cases h1
theorem readNo {B bR : Nat} {w w' : World} {e : Ending} (h : ReadRet B bR w none e w') : e = .returned (.bool false) ∧ Below w.heap.size w w' := by
  rcases h with ⟨q', h1, -⟩ | ⟨-, h2, h3⟩
  · cases h1
  · exact ⟨h2, h3⟩
theorem part_cases {p q : PS} (h : partF p = some q) : (∀ q', styledF p = some q' → q' = q) ∧ (styledF p = none → (∀ q', wordF p = some q' → q' = q) ∧ (wordF p = none → (∀ q', figuresF p = some q' → q' = q) ∧ (figuresF p = none → (∀ r n, charF p.words = some (r, n) → ∃ q0, p.add r 1 = some q0 ∧ q0.take n = q) ∧ (charF p.words = none → amountF p = some q)))) := by
  unfold partF at h
  refine ⟨fun q' h1 => ?_, fun h1 => ⟨fun q' h2 => ?_, fun h2 => ⟨fun q' h3 => ?_, fun h3 => ⟨fun r n h4 => ?_, fun h4 => ?_⟩⟩⟩⟩
  · rw [h1] at h; exact Option.some.inj h
  · rw [h1, h2] at h; exact Option.some.inj h
  · rw [h1, h2, h3] at h; exact Option.some.inj h
  · rw [h1, h2, h3, h4] at h
    rw [Option.map_eq_some_iff] at h
    exact h
  · rw [h1, h2, h3, h4] at h; exact h
theorem take_out (p : PS) (n : Nat) : (p.take n).out = p.out := rfl
set_option maxRecDepth 100000 in
set_option maxHeartbeats 4000000 in
theorem partP (w0 w : World) (hS : Spc w0) (hT : StyT w0) (htb : Tabs w0) (hw : Below w0.heap.size w0 w) (B bR nR : Nat) (p : PS) (hI : PB B w w bR p) (hR : SetAt w bR nR resL) (hB0 : w0.heap.size ≤ B) (hwl : p.words.length ≤ 1000000) (hws : ∀ y ∈ p.words, y.length ≤ 1000000) (q : PS) (hq : partF p = some q) (hql : q.out.length ≤ 1000000) :
    Calls Tryz.prog 37 #[.pointer (some ⟨B, 0, none⟩)] w fun e w' => e = .returned (.bool true) ∧ PB B w w' bR q := by
  have hBl := hI.lt
  obtain ⟨hp1, hp2⟩ := part_cases hq
  have HI := hide hI
  have HSt := hide (fun (W : World) (hb : Below w.heap.size w W) => styledP w0 W hT (hw.trans (hb.mono hw.size)) B bR p (hI.below hb).again hwl)
  have HWd := hide (fun (W : World) (hb : Below w.heap.size w W) (h : ∀ q', wordF p = some q' → q'.out.length ≤ 1000000) => wordP W B bR nR p (hI.below hb).again (hR.below hb) hwl hws h)
  have HFg := hide (fun (W : World) (hb : Below w.heap.size w W) (h : ∀ q', figuresF p = some q' → q'.out.length ≤ 1000000) => figuresP W B bR p (hI.below hb).again hwl hws h)
  have HSg := hide (fun (W : World) (hb : Below w.heap.size w W) => readSign w0 W hS htb (hw.trans (hb.mono hw.size)) B bR p (hI.below hb).again hB0 hwl hws)
  have HAm := hide (fun (W : World) (hb : Below w.heap.size w W) (h : amountF p = some q) => readAmount w0 W hS htb (hw.trans (hb.mono hw.size)) B bR p (hI.below hb).again hB0 hwl hws q h hql)
  obtain ⟨Aw, cw, hcw, hcell, -⟩ := hI.words
  have Hcell := hide hcell
  have Hp1 := hide hp1
  have Hp2 := hide hp2
  have hmf : ∀ (fn : Fn) (first cap : Array Value) (w : World), (Instr.makeFunc fn first cap).run Tryz.prog w = .ok (.func fn first cap) w := fun _ _ _ _ => rfl
  obtain ⟨NW, hNW⟩ : ∃ NW, p.words.length = NW := ⟨_, rfl⟩
  rw [hNW] at Hcell
  clear hI hR hp1 hp2 hcell hcw hNW hq
  have hW1 := (Below.refl w.heap.size w).alloc (Nat.le_refl _) (.cells #[.func (.func 58) #[.pointer (some ⟨B, 0, none⟩)] #[], .func (.func 59) #[.pointer (some ⟨B, 0, none⟩)] #[], .func (.func 60) #[.pointer (some ⟨B, 0, none⟩)] #[], .func (.func 61) #[.pointer (some ⟨B, 0, none⟩)] #[], .func (.func 62) #[.pointer (some ⟨B, 0, none⟩)] #[]] 31)
  have hblk := block_new w (.cells #[.func (.func 58) #[.pointer (some ⟨B, 0, none⟩)] #[], .func (.func 59) #[.pointer (some ⟨B, 0, none⟩)] #[], .func (.func 60) #[.pointer (some ⟨B, 0, none⟩)] #[], .func (.func 61) #[.pointer (some ⟨B, 0, none⟩)] #[], .func (.func 62) #[.pointer (some ⟨B, 0, none⟩)] #[]] 31)
  have hsz1 : (w.alloc (.cells #[.func (.func 58) #[.pointer (some ⟨B, 0, none⟩)] #[], .func (.func 59) #[.pointer (some ⟨B, 0, none⟩)] #[], .func (.func 60) #[.pointer (some ⟨B, 0, none⟩)] #[], .func (.func 61) #[.pointer (some ⟨B, 0, none⟩)] #[], .func (.func 62) #[.pointer (some ⟨B, 0, none⟩)] #[]] 31)).heap.size = w.heap.size + 1 := World.size_alloc _ _
  obtain ⟨W1, hW1e⟩ : ∃ W1, w.alloc (.cells #[.func (.func 58) #[.pointer (some ⟨B, 0, none⟩)] #[], .func (.func 59) #[.pointer (some ⟨B, 0, none⟩)] #[], .func (.func 60) #[.pointer (some ⟨B, 0, none⟩)] #[], .func (.func 61) #[.pointer (some ⟨B, 0, none⟩)] #[], .func (.func 62) #[.pointer (some ⟨B, 0, none⟩)] #[]] 31) = W1 := ⟨_, rfl⟩
  rw [hW1e] at hW1 hblk hsz1
  have HW1 := hide hW1
  have Hblk := hide (fun (W : World) (hb : Below (w.heap.size + 1) W1 W) => (hb.block w.heap.size (Nat.lt_succ_self _)).trans hblk)
  have Hbw := hide (fun (W : World) (hb : Below (w.heap.size + 1) W1 W) => hW1.trans (hb.mono (Nat.le_succ _)))
  go_enter Tryz.func37, Tryz.ntmps37
  go_wp2
  clear hW1 hblk hW1e
  go_loopw [18] (fun i wr => ∃ k : Nat, k ≤ 4 ∧ i = .int .i64 k ∧ (1 ≤ k → styledF p = none) ∧ (2 ≤ k → wordF p = none) ∧ (3 ≤ k → figuresF p = none) ∧ (4 ≤ k → charF p.words = none) ∧ Below (w.heap.size + 1) W1 wr) (fun i _ => 5 - (intOf i).toNat)
  case atStart => exact ⟨0, by omega, rfl, by omega, by omega, by omega, by omega, Below.refl _ _⟩
  case round =>
    obtain ⟨k, hk, rfl, h1, h2, h3, h4, hbr⟩ := hrel
    rename World => wo
    have hfb := Hblk.out wo hbr
    have hbw := Hbw.out wo hbr
    have c1 := Hcell.out wo hbw
    have HBr := hide hbr
    have HBw := hide hbw
    have hso := hbr.size
    rw [hsz1] at hso
    have Hnext := hide (fun (W : World) (hb : Below wo.heap.size wo W) => And.intro (hbr.trans (hb.mono hso)) (Hcell.out W (hbw.trans (hb.mono hbw.size))))
    clear hbr hbw
    obtain rfl | rfl | rfl | rfl | rfl : k = 0 ∨ k = 1 ∨ k = 2 ∨ k = 3 ∨ k = 4 := by omega
    · have cf := cell_block hfb 0
      cases hs : styledF p with
      | some q' =>
        obtain rfl : q' = q := Hp1.out q' hs
        have HC := hide (HSt.out wo HBw.out)
        rw [hs] at HC
        clear hs
        go_wp2_with (first
          | (go_at_call 58; refine HC.out.mono ?_; rintro e w6 h6; obtain ⟨rfl, hI6⟩ := readYes h6; have HI6 := hide (PB.trans (HI.out.below HBw.out) hI6); clear hI6 h6)
          | fail)
        go_ret
        exact ⟨rfl, HI6.out⟩
      | none =>
        have HC := hide (HSt.out wo HBw.out)
        rw [hs] at HC
        have Hs := hide hs
        clear hs
        go_wp2_with (first
          | (go_at_call 58; refine HC.out.mono ?_; rintro e w6 h6; obtain ⟨rfl, hb6⟩ := readNo h6; have c6 := (Hnext.out w6 hb6).2; have HB6 := hide (Hnext.out w6 hb6).1; clear hb6 h6)
          | fail)
        go_roundw
        case rel => exact ⟨1, by omega, by go_num, (by first | exact fun _ => Hs.out | exact Hs.out | trivial), (by first | omega | trivial), (by first | omega | trivial), (by first | omega | trivial), HB6.out⟩
        case measure => simp [intOf]
    · have cf := cell_block hfb 1
      have H1 := hide (h1 (Nat.le_refl 1))
      have hq2 := (Hp2.out H1.out).1
      have HC := hide (HWd.out wo HBw.out (fun q' h => by rw [hq2 q' h]; exact hql))
      cases hs : wordF p with
      | some q' =>
        obtain rfl : q' = q := hq2 q' hs
        rw [hs] at HC
        clear hs hq2
        go_wp2_with (first
          | (go_at_call 59; refine HC.out.mono ?_; rintro e w6 h6; obtain ⟨rfl, hI6⟩ := readYes h6; have HI6 := hide (PB.trans (HI.out.below HBw.out) hI6); clear hI6 h6)
          | fail)
        go_ret
        exact ⟨rfl, HI6.out⟩
      | none =>
        rw [hs] at HC
        have Hs := hide hs
        clear hs hq2
        go_wp2_with (first
          | (go_at_call 59; refine HC.out.mono ?_; rintro e w6 h6; obtain ⟨rfl, hb6⟩ := readNo h6; have c6 := (Hnext.out w6 hb6).2; have HB6 := hide (Hnext.out w6 hb6).1; clear hb6 h6)
          | fail)
        go_roundw
        case rel => exact ⟨2, by omega, by go_num, (by first | exact fun _ => H1.out | exact H1.out | trivial), (by first | exact fun _ => Hs.out | exact Hs.out | trivial), (by first | omega | trivial), (by first | omega | trivial), HB6.out⟩
        case measure => simp [intOf]
    · have cf := cell_block hfb 2
      have H1 := hide (h1 (by omega))
      have H2 := hide (h2 (Nat.le_refl 2))
      have hq2 := ((Hp2.out H1.out).2 H2.out).1
      have HC := hide (HFg.out wo HBw.out (fun q' h => by rw [hq2 q' h]; exact hql))
      cases hs : figuresF p with
      | some q' =>
        obtain rfl : q' = q := hq2 q' hs
        rw [hs] at HC
        clear hs hq2
        go_wp2_with (first
          | (go_at_call 60; refine HC.out.mono ?_; rintro e w6 h6; obtain ⟨rfl, hI6⟩ := readYes h6; have HI6 := hide (PB.trans (HI.out.below HBw.out) hI6); clear hI6 h6)
          | fail)
        go_ret
        exact ⟨rfl, HI6.out⟩
      | none =>
        rw [hs] at HC
        have Hs := hide hs
        clear hs hq2
        go_wp2_with (first
          | (go_at_call 60; refine HC.out.mono ?_; rintro e w6 h6; obtain ⟨rfl, hb6⟩ := readNo h6; have c6 := (Hnext.out w6 hb6).2; have HB6 := hide (Hnext.out w6 hb6).1; clear hb6 h6)
          | fail)
        go_roundw
        case rel => exact ⟨3, by omega, by go_num, (by first | exact fun _ => H1.out | exact H1.out | trivial), (by first | exact fun _ => H2.out | exact H2.out | trivial), (by first | exact fun _ => Hs.out | exact Hs.out | trivial), (by first | omega | trivial), HB6.out⟩
        case measure => simp [intOf]
    · have cf := cell_block hfb 3
      have H1 := hide (h1 (by omega))
      have H2 := hide (h2 (by omega))
      have H3 := hide (h3 (Nat.le_refl 3))
      have hq2 := (((Hp2.out H1.out).2 H2.out).2 H3.out).1
      cases hs : charF p.words with
      | some z =>
        obtain ⟨r, n⟩ := z
        obtain ⟨q0, hadd, rfl⟩ := hq2 r n hs
        have HC := hide ((HSg.out wo HBw.out).2 r n q0 hs hadd hql)
        clear hs hq2 hadd
        go_wp2_with (first
          | (go_at_call 61; refine HC.out.mono ?_; rintro e w6 h6; obtain ⟨rfl, hI6⟩ := h6; have HI6 := hide (PB.trans (HI.out.below HBw.out) hI6); clear hI6)
          | fail)
        go_ret
        exact ⟨rfl, HI6.out⟩
      | none =>
        have HC := hide ((HSg.out wo HBw.out).1 hs)
        have Hs := hide hs
        clear hs hq2
        go_wp2_with (first
          | (go_at_call 61; refine HC.out.mono ?_; rintro e w6 h6; obtain ⟨rfl, hb6⟩ := h6; have c6 := (Hnext.out w6 hb6).2; have HB6 := hide (Hnext.out w6 hb6).1; clear hb6)
          | fail)
        go_roundw
        case rel => exact ⟨4, by omega, by go_num, (by first | exact fun _ => H1.out | exact H1.out | trivial), (by first | exact fun _ => H2.out | exact H2.out | trivial), (by first | exact fun _ => H3.out | exact H3.out | trivial), (by first | exact fun _ => Hs.out | exact Hs.out | trivial), HB6.out⟩
        case measure => simp [intOf]
    · have cf := cell_block hfb 4
      have hq2 := (((Hp2.out (h1 (by omega))).2 (h2 (by omega))).2 (h3 (by omega))).2 (h4 (Nat.le_refl 4))
      have HC := hide (HAm.out wo HBw.out hq2)
      clear hq2
      go_wp2_with (first
        | (go_at_call 62; refine HC.out.mono ?_; rintro e w6 h6; obtain ⟨rfl, hI6⟩ := h6; have HI6 := hide (PB.trans (HI.out.below HBw.out) hI6); clear hI6)
        | fail)
      go_ret
      exact ⟨rfl, HI6.out⟩
end Go.Proofs.YtdkppdjonlldhaaGreatDoor

/- spokentext.Glyphs. -/
namespace Go.Proofs.YtdkppdjonlldhaaGreatDoor
open Go.RowKit Go.Maps Go.Shelf

/-- A part takes words and leaves no glyph out. -/
def Shr (p q : PS) : Prop := ∃ n, 1 ≤ n ∧ n ≤ p.words.length ∧ q.words = p.words.drop n ∧ p.out.length ≤ q.out.length
theorem text_out (p : PS) (s : Wd) : p.out.length ≤ (p.text s).out.length := by
  unfold PS.text
  simp only [List.length_append]; omega
theorem add_out {p q : PS} {r : Int} {n : Nat} (h : p.add r n = some q) : p.out.length ≤ q.out.length := by
  unfold PS.add at h
  split at h
  · cases h
  · split at h
    · split at h
      · cases h
      · split at h
        · cases h
        · rename_i g hg
          rw [Option.map_eq_some_iff] at h
          obtain ⟨t, -, rfl⟩ := h
          rw [List.getLast?_eq_some_iff] at hg
          obtain ⟨init, hi⟩ := hg
          rw [hi]; simp
    · cases h; simp
theorem text_take {p : PS} {s : Wd} {n : Nat} (h1 : 1 ≤ n) (h2 : n ≤ p.words.length) : Shr p ((p.text s).take n) := ⟨n, h1, h2, rfl, text_out p s⟩
theorem add_take {p q : PS} {r : Int} {k n : Nat} (h : p.add r k = some q) (h1 : 1 ≤ n) (h2 : n ≤ p.words.length) : Shr p (q.take n) := ⟨n, h1, h2, by show q.words.drop n = _; rw [(add_words h).1], show p.out.length ≤ q.out.length from add_out h⟩
theorem part_shr {p q : PS} (hwl : p.words.length ≤ 1000000) (hws : ∀ y ∈ p.words, y.length ≤ 1000000) (h : partF p = some q) : Shr p q := by
  obtain ⟨a1, a2⟩ := part_cases h
  cases h1 : styledF p with
  | some q' =>
    obtain rfl := a1 q' h1
    unfold styledF at h1
    split at h1
    · cases h1
    · rename_i x rest hw
      split at h1
      · cases h1
        exact ⟨1, Nat.le_refl 1, by rw [hw]; simp, by rw [hw]; rfl, Nat.le_refl _⟩
      · split at h1
        · cases h1
          exact ⟨1, Nat.le_refl 1, by rw [hw]; simp, by rw [hw]; rfl, Nat.le_refl _⟩
        · cases h1
  | none =>
    obtain ⟨b1, b2⟩ := a2 h1
    cases h2 : wordF p with
    | some q' =>
      obtain rfl := b1 q' h2
      rw [wordF_eq, Option.map_eq_some_iff] at h2
      obtain ⟨⟨s, m⟩, hl, rfl⟩ := h2
      obtain ⟨c1, c2, c3, c4⟩ := lit_plain (fun y hy => hws y (List.mem_of_mem_drop hy)) (by rw [List.length_drop]; omega) hl
      rw [List.length_drop] at c3
      exact text_take (by omega) (by omega)
    | none =>
      obtain ⟨d1, d2⟩ := b2 h2
      cases h3 : figuresF p with
      | some q' =>
        obtain rfl := d1 q' h3
        rw [figuresF_eq] at h3
        split at h3
        · rename_i hc
          cases h3
          have hl := figs_len (p.words.drop 1)
          rw [List.length_drop] at hl
          have h0 : 1 ≤ p.words.length := by
            cases hw : p.words with
            | nil => rw [hw] at hc; cases hc.1
            | cons a b => simp
          exact text_take (by omega) (by omega)
        · cases h3
      | none =>
        obtain ⟨e1, e2⟩ := d2 h3
        cases h4 : charF p.words with
        | some z =>
          obtain ⟨r, n⟩ := z
          obtain ⟨q0, ha, rfl⟩ := e1 r n h4
          have := charF_len h4
          exact add_take ha this.1 this.2
        | none =>
          have h5 := e2 h4
          unfold amountF at h5
          split at h5
          · cases h5
          · rename_i n used hp
            have hpos := prefFrom_pos _ _ _ _ hp
            have hple := (prefF_len hp).2
            split at h5
            · cases h5
            · split at h5
              · cases h5
                exact text_take hpos hple
              · rename_i ht
                have ht : p.words[used]? = some timesW := by simpa using ht
                have hlt := (List.getElem?_eq_some_iff.1 ht).1
                split at h5
                · cases h5
                · rename_i r more hc
                  have hcl := charF_len hc
                  rw [List.length_drop] at hcl
                  split at h5
                  · cases h5
                  · rw [Option.map_eq_some_iff] at h5
                    obtain ⟨q0, ha, rfl⟩ := h5
                    exact add_take ha (by omega) (by omega)
/-- What the parser still reads. -/
def Rd (p : PS) : Prop := p.words.length ≤ 1000000 ∧ ∀ y ∈ p.words, y.length ≤ 1000000
theorem Rd.part {p q : PS} (h : Rd p) (hs : Shr p q) : Rd q := by
  obtain ⟨n, -, -, h3, -⟩ := hs
  exact ⟨by rw [h3, List.length_drop]; have := h.1; omega, fun y hy => h.2 y (by rw [h3] at hy; exact List.mem_of_mem_drop hy)⟩
theorem steps_out {p fin : PS} (h : Steps p fin) : Rd p → p.out.length ≤ fin.out.length := by
  induction h with
  | refl => exact fun _ => Nat.le_refl _
  | step h1 _ ih =>
    intro hr
    have hs := part_shr hr.1 hr.2 h1
    have h2 := ih (hr.part hs)
    obtain ⟨n, -, -, -, h4⟩ := hs
    omega
def wordsLen (w : World) (B : Nat) : Nat := match w.cell? ⟨B, 1, none⟩ with | some (.slice _ n _) => n | _ => 0
theorem PB.wlen {B bR : Nat} {w0 W : World} {p : PS} (h : PB B w0 W bR p) : wordsLen W B = p.words.length := by
  obtain ⟨Aw, nw, cw, ov, hB, hnw, -⟩ := h
  unfold wordsLen
  rw [cell_block hB.box 1]
  exact hnw.symm
theorem PB.own {B bR : Nat} {w0 W : World} {p : PS} (h : PB B w0 W bR p) : ∃ ov, W.cell? ⟨B, 2, none⟩ = some ov ∧ W.ownsRow (B + 1) 42 3 ov p.out.length (p.out.flatMap Gl.enc) := by
  obtain ⟨Aw, nw, cw, ov, hB, -⟩ := h
  exact ⟨ov, cell_block hB.box 2, hB.own⟩
set_option maxRecDepth 100000 in
set_option maxHeartbeats 4000000 in
theorem glyphsP (w : World) (hS : Spc w) (hT : StyT w) (htb : Tabs w) (A : Option Addr) (n c : Nat) (l : List Wd) (hl : l.length = n) (hn : n ≤ 1000000) (hnc : n ≤ c) (hrow : StrRow w w.heap.size A l) (hsz : ∀ s ∈ l, s.length ≤ 1000000) (fin : PS) (hfin : Steps ⟨l, [], 0, false⟩ fin) (hfw : fin.words = []) (hfl : fin.out.length ≤ 1000000) :
    Calls Tryz.prog 20 #[.slice A n c] w fun e w' => ∃ v, e = .returned (.tuple #[v, .int .i64 0]) ∧ w'.ownsRow w.heap.size 42 3 v fin.out.length (fin.out.flatMap Gl.enc) ∧ Below w.heap.size w w' := by
  have HRs := hide (reservedP w hS)
  have Hl := hide (And.intro hl hnc)
  have Hrow := hide hrow
  have Hfin := hide hfin
  have Hrd := hide (show Rd ⟨l, [], 0, false⟩ from ⟨by rw [hl]; exact hn, hsz⟩)
  have Hfw := hide hfw
  clear hl hrow hfin hsz hfw
  go_enter Tryz.func20, Tryz.ntmps20
  go_wp2_with (first
    | (go_at_call 36; refine HRs.out.mono ?_; rintro e w5 ⟨bR, nR, rfl, hbR, hR, -, hb5⟩; have HR := hide hR; have HB5 := hide hb5; clear hb5 hR)
    | fail)
  have hlit := block_new w5 (.cells #[.map (some bR), .slice A n c, .slice none 0 0, .int .i64 0, .bool false] 71)
  have hb6 := (Below.refl w5.heap.size w5).alloc (Nat.le_refl _) (.cells #[.map (some bR), .slice A n c, .slice none 0 0, .int .i64 0, .bool false] 71)
  obtain ⟨w6, hw6⟩ : ∃ w6, w5.alloc (.cells #[.map (some bR), .slice A n c, .slice none 0 0, .int .i64 0, .bool false] 71) = w6 := ⟨_, rfl⟩
  rw [hw6] at hlit hb6 ⊢
  have h5s := HB5.out.size
  have hI6 : PB w5.heap.size w6 w6 bR ⟨l, [], 0, false⟩ := ⟨A, n, c, .slice none 0 0, ⟨hlit, World.ownsRow_nil _ _ _ _, Below.refl _ _⟩, Hl.out.1, Hl.out.2, ((Hrow.out.below (StrAt.stays _) (HB5.out.trans (hb6.mono h5s)))).more h5s⟩
  have HB6 := hide (HB5.out.trans (hb6.mono h5s))
  have HR6 := hide (HR.out.below hb6)
  have hRB := HR.out.lt
  obtain ⟨B, hB⟩ : ∃ B, w5.heap.size = B := ⟨_, rfl⟩
  rw [hB] at hI6 h5s hRB ⊢
  have HI6 := hide hI6
  clear hlit hb6 hI6 hw6 hbR hB
  go_loopw [] (fun wr => ∃ p, Steps p fin ∧ Rd p ∧ PB B w6 wr bR p) (fun wr => wordsLen wr B)
  case atStart => exact ⟨_, Hfin.out, Hrd.out, HI6.out⟩
  case round =>
    rename World => wo
    obtain ⟨p, hst, hrd, hI⟩ := hrel
    have hbw := HB6.out.trans (hI.bl.mono h5s)
    have hlen := hI.wlen
    obtain ⟨Aw, cw, hcw, hcell, -⟩ := hI.words
    have k1 := hcell wo (Below.refl _ _)
    obtain ⟨ov, k2, hown⟩ := hI.own
    obtain ⟨NW, hNW⟩ : ∃ NW, p.words.length = NW := ⟨_, rfl⟩
    rw [hNW] at k1 hlen
    have HBw := hide hbw
    have HI := hide hI
    cases hst with
    | refl =>
      obtain rfl : NW = 0 := by rw [← hNW, Hfw.out]; rfl
      obtain ⟨A9, c9, rfl⟩ := own_form hown
      have Hown := hide hown
      clear hown hcell hcw hI hbw hNW hlen
      go_wp2
      go_ret2
      exact ⟨_, rfl, own_more Hown.out (Nat.le_succ_of_le h5s), HBw.out⟩
    | step h1 h2 =>
      rename_i q
      have hshr := part_shr hrd.1 hrd.2 h1
      have hrq := hrd.part hshr
      have hq := steps_out h2 hrq
      have HP := hide (partP w wo hS hT htb hbw B bR nR p hI.again (map_block HR6.out (hI.bl.block bR hRB)) h5s hrd.1 hrd.2 q h1 (by omega))
      obtain ⟨m, hm1, hm2, hm3, -⟩ := hshr
      have hN0 : (0 : Int) < (NW : Int) := by omega
      have Hnew := hide (show Steps q fin ∧ Rd q from ⟨h2, hrq⟩)
      have Hql := hide (show q.words.length < NW by rw [hm3, List.length_drop]; omega)
      have Hlen := hide hlen
      clear hcell hcw hI hbw hNW hlen hown h1 h2 hq hm3
      go_wp2_with (first
        | (go_at_call 37; refine HP.out.mono ?_; rintro e w7 ⟨rfl, hI7⟩; have HI7 := hide (PB.trans HI.out hI7); clear hI7)
        | fail)
      go_roundw
      case rel => exact ⟨q, Hnew.out.1, Hnew.out.2, HI7.out⟩
      case measure => rw [HI7.out.wlen, Hlen.out]; exact Hql.out
end Go.Proofs.YtdkppdjonlldhaaGreatDoor
