/- Clusters: narratorref01.Valid, narratorref03, utf8stream.Valid and cluster: one error and one width of a text. -/
import Derived.Test.YtdkppdjonlldhaaGreatDoorSh1
import Derived.Test.YtdkppdjonlldhaaGreatDoorV2
import Derived.Lib.SmallJoins
namespace Go.Proofs.YtdkppdjonlldhaaGreatDoor
open Go.RowKit

def Bd (r : Int) : Prop := -2147483648 ≤ r ∧ r ≤ 2147483647
theorem valueL_bd (x : UInt8) (l : List UInt8) (h : l.length ≤ 3) : Bd (valueL (x :: l)) := by
  have hx := x.toNat_lt
  have hb : -240 ≤ valBase (l.length + 1) x.toNat ∧ valBase (l.length + 1) x.toNat ≤ 255 := by unfold valBase; split <;> (try split) <;> omega
  show Bd (valTail (valBase (l.length + 1) x.toNat) l)
  revert hb
  generalize valBase (l.length + 1) x.toNat = N
  rintro ⟨h1, h2⟩
  unfold Bd
  match l, h with
  | [], _ => simp [valTail]; omega
  | [a], _ => have := a.toNat_lt; simp [valTail]; omega
  | [a, b], _ => have := a.toNat_lt; have := b.toNat_lt; simp [valTail]; omega
  | [a, b, c], _ => have := a.toNat_lt; have := b.toNat_lt; have := c.toNat_lt; simp [valTail]; omega
theorem bd_snoc {out : List Int} {r : Int} (h : ∀ x ∈ out, Bd x) (hr : Bd r) : ∀ x ∈ out ++ [r], Bd x := fun x hx => by
  rcases List.mem_append.1 hx with h1 | h1
  · exact h x h1
  · simp at h1; subst h1; exact hr
theorem bd_byte (b : UInt8) : Bd (b.toNat : Int) := by have := b.toNat_lt; unfold Bd; omega
theorem bd_junk : Bd 0xFFFD := by unfold Bd; omega
theorem decFrom_bd : ∀ (l kept : List UInt8) (out : List Int), KeptOK kept → (∀ r ∈ out, Bd r) → (∀ r ∈ (decFrom l kept out).1, Bd r) ∧ (decFrom l kept out).1.length ≤ out.length + kept.length + l.length
  | [], kept, out, _, h => ⟨by simpa [decFrom] using h, by simp [decFrom]⟩
  | b :: rest, [], out, hk, h => by
    have mk0 : KeptOK [] := fun _ _ h => by cases h
    by_cases h1 : b.toNat < 0x80
    · rw [decFrom_low h1]
      have := decFrom_bd rest [] _ mk0 (bd_snoc h (bd_byte b))
      exact ⟨this.1, by have := this.2; simp at this ⊢; omega⟩
    · by_cases h2 : 0 < limSize b.toNat
      · rw [decFrom_lead h1 h2]
        have := decFrom_bd rest [b] _ (keptOK_one h2) h
        exact ⟨this.1, by have := this.2; simp at this ⊢; omega⟩
      · rw [decFrom_junk h1 h2]
        have := decFrom_bd rest [] _ mk0 (bd_snoc h bd_junk)
        exact ⟨this.1, by have := this.2; simp at this ⊢; omega⟩
  | b :: rest, k0 :: ks, out, hk, h => by
    have mk0 : KeptOK [] := fun _ _ h => by cases h
    have hks := hk k0 ks rfl
    have h4 := limSize_le k0.toNat
    by_cases hbad : b.toNat < limLow (ks.length + 1) k0.toNat ∨ limHigh (ks.length + 1) k0.toNat < b.toNat
    · rw [decFrom_bad hbad]
      have ho := bd_snoc h bd_junk
      by_cases h1 : b.toNat < 0x80
      · rw [decFrom_low h1]
        have := decFrom_bd rest [] _ mk0 (bd_snoc ho (bd_byte b))
        exact ⟨this.1, by have := this.2; simp at this ⊢; omega⟩
      · by_cases h2 : 0 < limSize b.toNat
        · rw [decFrom_lead h1 h2]
          have := decFrom_bd rest [b] _ (keptOK_one h2) ho
          exact ⟨this.1, by have := this.2; simp at this ⊢; omega⟩
        · rw [decFrom_junk h1 h2]
          have := decFrom_bd rest [] _ mk0 (bd_snoc ho bd_junk)
          exact ⟨this.1, by have := this.2; simp at this ⊢; omega⟩
    · by_cases hf : ks.length + 2 = limSize k0.toNat
      · rw [decFrom_full hbad hf]
        have := decFrom_bd rest [] _ mk0 (bd_snoc h (valueL_bd k0 (ks ++ [b]) (by simp; omega)))
        exact ⟨this.1, by have := this.2; simp at this ⊢; omega⟩
      · rw [decFrom_more hbad hf]
        have := decFrom_bd rest (k0 :: (ks ++ [b])) _ (fun y ys e => by cases e; simp; omega) h
        exact ⟨this.1, by have := this.2; simp at this ⊢; omega⟩
theorem dec_bd (l : List UInt8) : (∀ r ∈ (decFrom l [] []).1, Bd r) ∧ (decFrom l [] []).1.length ≤ l.length := by
  have := decFrom_bd l [] [] (fun _ _ h => by cases h) (fun r h => by simp at h)
  exact ⟨this.1, by have := this.2; simp at this; exact this⟩

/-- Decode("", s), its answers named. -/
theorem decodeOf (w : World) (s : ByteArray) (hs : s.size ≤ 4000000) : ∀ out rest, decFrom s.data.toList [] [] = (out, rest) → Calls Tryz.prog 65 #[.string ⟨#[]⟩, .string s] w fun e w' =>
    ∃ A c, e = .returned (.tuple #[.slice A out.length c, .string ⟨rest.toArray⟩]) ∧ RnRow w' w'.heap.size A out ∧ Below w.heap.size w w' := by
  intro out rest h
  have hS : ((⟨#[]⟩ : ByteArray) ++ s).data.toList = s.data.toList := by rw [Joins.data_append]; rfl
  have hd := decode01 w ⟨#[]⟩ s (by show 0 + s.size ≤ 8000000; omega)
  rw [hS] at hd
  unfold DecPost at hd
  rw [h] at hd
  exact hd

set_option maxHeartbeats 1000000 in
theorem valid01 (w : World) (s : ByteArray) (hs : s.size ≤ 4000000) : Calls Tryz.prog 42 #[.string s] w fun e w' => e = .returned (.bool (Lib.validD s.data.toList)) ∧ Below w.heap.size w w' := by
  rw [← valid01_eq]
  unfold valid01B
  obtain ⟨out, rest, h⟩ : ∃ out rest, decFrom s.data.toList [] [] = (out, rest) := ⟨_, _, rfl⟩
  have hd := fun w => decodeOf w s hs out rest h
  obtain ⟨hbd, hln⟩ := dec_bd s.data.toList
  have hsz : s.data.toList.length = s.size := rfl
  rw [h] at hbd hln
  rw [h, ← ByteArray.toList_eq]
  simp only at hbd hln ⊢
  rw [hsz] at hln
  have HD := hide hd
  have HB : Hid (∀ r ∈ out, -2147483648 ≤ r ∧ r ≤ 2147483647) := hide hbd
  clear hd h hbd hsz
  go_enter Tryz.func42, Tryz.ntmps42
  go_wp2_with (first
    | (go_at_call 65; refine (HD.out _).mono ?_; rintro e w1 ⟨A, c, rfl, hr, hb⟩)
    | (go_at_call 66; refine (encode01 _ _ _ _ hr (by omega) HB.out).mono ?_; rintro e w2 ⟨rfl, hb2⟩))
  · have e0 : rest = [] := by assumption
    go_ret
    refine ⟨ret_bool ?_, hb.trans (hb2.mono hb.size)⟩
    rw [e0]
    rw [Bool.eq_iff_iff]; simp
  · have e0 : ¬ rest = [] := by assumption
    go_ret
    exact ⟨ret_bool (by simp [e0]), hb⟩

/-- Why a text is no cluster. -/
def clErr (l : List UInt8) : Int :=
  if l = [] ∨ Lib.validD l = false then 3
  else match runesD l with
    | [] => 3
    | r :: rs => if cw r < 1 ∨ rs.all isMark = false then 9 else if 3 < rs.length then 5 else 0
def clW (l : List UInt8) : Int := if clErr l = 0 then cw ((runesD l).headD 0) else 0

theorem runesD_ne {l : List UInt8} (h : l ≠ []) : ∃ r rs, runesD l = r :: rs := by
  unfold runesD
  cases hl : l.length with
  | zero => exact absurd (List.eq_nil_of_length_eq_zero hl) h
  | succ n => exact ⟨_, _, by rw [runesL, if_neg h]⟩

theorem mark_cw {r : Int} (h : isMark r = true) : cw r < 1 := by
  unfold cw; split
  · omega
  · simp

theorem all_take_succ {α : Type} (p : α → Bool) (l : List α) (k : Nat) (hk : k < l.length) : (l.take (k + 1)).all p = ((l.take k).all p && p l[k]) := by
  rw [List.take_succ_eq_append_getElem hk, List.all_append]; simp
theorem all_not {α : Type} (p : α → Bool) (l : List α) (k : Nat) (hk : k < l.length) (h : p l[k] = false) : l.all p = false := by
  rw [List.all_eq_false]; exact ⟨_, List.getElem_mem hk, by simp [h]⟩

set_option maxHeartbeats 400000 in
theorem marked (w : World) (A : Option Addr) (c : Nat) (l : List Int) (h : RnRow w w.heap.size A l) (hl : l.length ≤ 8000000) :
    Calls Tryz.prog 48 #[.slice A l.length c] w fun e w' => e = .returned (.bool (l.all isMark)) ∧ Below w.heap.size w w' := by
  have HH := hide h
  clear h
  go_enter Tryz.func48, Tryz.ntmps48
  go_wp2
  go_loopw [7] (fun i wr => ∃ k : Nat, k ≤ l.length ∧ i = .int .i64 k ∧ (l.take k).all isMark = true ∧ Below w.heap.size w wr) (fun i _ => l.length - (intOf i).toNat)
  case atStart => exact ⟨0, Nat.zero_le _, rfl, by simp, Below.refl _ _⟩
  case round =>
    obtain ⟨k, hk, rfl, ha, hb⟩ := hrel
    have Ha := hide ha
    clear ha
    by_cases hlt : k < l.length
    · obtain ⟨b, off, rfl, hbb, hc⟩ := HH.out.get1 hlt
      have hcell := (hb.cell (p := ⟨b, off + k, none⟩) hbb).trans hc
      clear hc
      cases hm : isMark l[k] with
      | true =>
        go_wp2_with (go_at_call 71; refine (markP _ _).mono ?_; rintro e w1 ⟨rfl, hb1⟩)
        go_roundw
        case rel => exact ⟨k + 1, by omega, by go_num, by rw [all_take_succ _ _ _ hlt, Ha.out, hm]; rfl, hb.trans (hb1.mono hb.size)⟩
        case measure => simp [intOf]; omega
      | false =>
        go_wp2_with (go_at_call 71; refine (markP _ _).mono ?_; rintro e w1 ⟨rfl, hb1⟩)
        go_ret
        exact ⟨ret_bool (all_not _ _ _ hlt hm).symm, hb.trans (hb1.mono hb.size)⟩
    · go_wp2
      go_ret
      exact ⟨ret_bool (by have h := Ha.out; rw [List.take_of_length_le (by omega)] at h; exact h.symm), hb⟩

theorem validP (w : World) (s : ByteArray) (hs : s.size ≤ 8000000) (hT : Tabs w) : Calls Tryz.prog 46 #[.string s] w fun e w' => e = .returned (.bool (Lib.validD s.data.toList)) ∧ Below w.heap.size w w' := by
  have H := fun w hT => validLib s w hs hT
  have H := hide H
  have HT := hide hT
  clear hT
  go_enter Tryz.func46, Tryz.ntmps46
  go_wp2_with (go_at_call 70; refine (H.out _ HT.out).mono ?_; rintro e w1 ⟨rfl, hb⟩)
  go_ret
  exact ⟨rfl, hb⟩

theorem clErr_syntax {l : List UInt8} (h : l = [] ∨ Lib.validD l = false) : clErr l = 3 := by unfold clErr; rw [if_pos h]
theorem clErr_cons {l : List UInt8} {r : Int} {rs : List Int} (h : ¬ (l = [] ∨ Lib.validD l = false)) (hr : runesD l = r :: rs) : clErr l = if cw r < 1 ∨ rs.all isMark = false then 9 else if 3 < rs.length then 5 else 0 := by
  unfold clErr; rw [if_neg h, hr]

set_option maxHeartbeats 1000000 in
theorem checkCl (w : World) (s : ByteArray) (hs : s.size ≤ 4000000) (hT : Tabs w) : Calls Tryz.prog 30 #[.string s] w fun e w' => e = .returned (.int .i64 (clErr s.data.toList)) ∧ Below w.heap.size w w' := by
  have HT := hide hT
  clear hT
  obtain ⟨l, hl⟩ : ∃ l, s.data.toList = l := ⟨_, rfl⟩
  have hl' : s.toList = l := by rw [ByteArray.toList_eq]; exact hl
  have hsz : l.length = s.size := by rw [← hl]; rfl
  rw [hl]
  by_cases h0 : l = []
  · have E := hide (clErr_syntax (Or.inl h0))
    have h1 : s.toList = [] := by rw [hl']; exact h0
    rw [E.out]
    clear hl hl' hsz
    go_enter Tryz.func30, Tryz.ntmps30
    go_wp2
    go_ret
    exact ⟨rfl, Below.refl _ _⟩
  · have h1 : (s.toList.isEmpty) = false := by rw [hl']; simp [h0]
    have h2 : ¬ s.toList = [] := by rw [hl']; exact h0
    cases hv : Lib.validD l with
    | false =>
      have E := hide (clErr_syntax (Or.inr hv))
      rw [E.out]
      have HV : Hid (Lib.validD s.data.toList = false) := hide (by rw [hl]; exact hv)
      clear hl hl' hsz hv
      go_enter Tryz.func30, Tryz.ntmps30
      go_wp2_with (go_at_call 46; refine (validP _ s (by omega) HT.out).mono ?_; rw [HV.out]; rintro e w1 ⟨rfl, hb⟩)
      go_ret
      exact ⟨rfl, hb⟩
    | true =>
      obtain ⟨r, rs, hr⟩ := runesD_ne h0
      have E := clErr_cons (l := l) (by simp [h0, hv]) hr
      have hlen := runesD_len l
      rw [hr] at hlen
      obtain ⟨V, hV⟩ : ∃ V, clErr l = V := ⟨_, rfl⟩
      rw [hV]
      rw [hV] at E
      have HE := hide E
      have HV : Hid (Lib.validD s.data.toList = true) := hide (by rw [hl]; exact hv)
      have HR : Hid (runesD s.data.toList = r :: rs) := hide (by rw [hl]; exact hr)
      simp only [List.length_cons] at hlen
      have hlen2 : rs.length < 4000000 := by omega
      clear hl hl' hsz hv E hr hlen h0 hV
      go_enter Tryz.func30, Tryz.ntmps30
      go_wp2_with (first
        | (go_at_call 46; refine (validP _ s (by omega) HT.out).mono ?_; rw [HV.out]; rintro e w1 ⟨rfl, hb⟩)
        | (refine wpList_runes _ (.tmp 11) 9 83 21 rfl rfl Tryz.underlying9 Tryz.underlying83 Tryz.underlying21 s rfl (by omega) ?_; rw [HR.out]; intro w2 A c hb2 hrow hc; obtain ⟨b, off, rfl, hbl, c0⟩ := hrow.get1 (k := 0) (by simp); simp only [One, Nat.add_zero, List.getElem_cons_zero] at c0)
        | (go_at_call 47; refine (widthP _ _).mono ?_; rintro e w3 ⟨rfl, hb3⟩; have hrow3 := (hrow.below (One.stays _ _) hb3).more hb3.size; have hbx := (hb.trans (hb2.mono hb.size)).trans (hb3.mono (Nat.le_trans hb.size hb2.size)))
        | (go_at_call 48; refine (marked _ _ _ rs (by first | exact Sl.nil (by simp at hc; omega) | exact hrow3.drop 1) (by omega)).mono ?_; rintro e w4 ⟨rfl, hb4⟩; have hby := hbx.trans (hb4.mono hbx.size)))
      all_goals go_ret
      all_goals first
        | exact ⟨ret_int (by rw [HE.out, if_pos (Or.inl (by assumption))]), hbx⟩
        | exact ⟨ret_int (by rw [HE.out, if_pos (Or.inr (by assumption))]), hby⟩
        | exact ⟨ret_int (by rw [HE.out, if_neg (by rintro (h | h) <;> simp_all <;> omega), if_pos (by omega)]), hby⟩
        | exact ⟨ret_int (by rw [HE.out, if_neg (by rintro (h | h) <;> simp_all <;> omega), if_neg (by omega)]), hby⟩
        | (have hx : cw r < 1 ∨ (!rs.all isMark) = true := by assumption
           exact ⟨ret_int (by rw [HE.out, if_pos (by simpa using hx)]), hby⟩)

set_option maxHeartbeats 1000000 in
theorem runesP (w : World) (s : ByteArray) (hs : s.size ≤ 4000000) (hT : Tabs w) : Calls Tryz.prog 49 #[.string s] w fun e w' => ∃ A c, e = .returned (.slice A (if clErr s.data.toList = 0 then runesD s.data.toList else []).length c) ∧ RnRow w' w'.heap.size A (if clErr s.data.toList = 0 then runesD s.data.toList else []) ∧ Below w.heap.size w w' := by
  have H := hide (checkCl w s hs hT)
  clear hT
  by_cases h0 : clErr s.data.toList = 0
  · rw [if_pos h0]
    rw [h0] at H
    obtain ⟨l, hl⟩ : ∃ l, runesD s.data.toList = l := ⟨_, rfl⟩
    rw [hl]
    have HL := hide hl
    clear h0 hl
    go_enter Tryz.func49, Tryz.ntmps49
    go_wp2_with (first
      | (go_at_call 30; refine (H.out).mono ?_; rintro e w1 ⟨rfl, hb⟩)
      | (refine wpList_runes _ (.tmp 6) 9 83 21 rfl rfl Tryz.underlying9 Tryz.underlying83 Tryz.underlying21 s rfl (by omega) ?_; rw [HL.out]; intro w2 A c hb2 hrow hc))
    go_ret
    exact ⟨A, c, rfl, hrow, hb.trans (hb2.mono hb.size)⟩
  · rw [if_neg h0]
    have hne : ((clErr s.data.toList) != 0) = true := by simp [h0]
    clear h0
    go_enter Tryz.func49, Tryz.ntmps49
    go_wp2_with (go_at_call 30; refine (H.out).mono ?_; rintro e w1 ⟨rfl, hb⟩)
    go_ret
    exact ⟨none, 0, rfl, Sl.nil rfl, hb⟩

set_option maxHeartbeats 1000000 in
theorem widthCl (w : World) (s : ByteArray) (hs : s.size ≤ 4000000) (hT : Tabs w) : Calls Tryz.prog 31 #[.string s] w fun e w' => e = .returned (.int .i64 (clW s.data.toList)) ∧ Below w.heap.size w w' := by
  have H := hide (runesP w s hs hT)
  clear hT
  unfold clW
  by_cases h0 : clErr s.data.toList = 0
  · rw [if_pos h0]
    simp only [h0, if_true] at H
    obtain ⟨l, hl⟩ : ∃ l, runesD s.data.toList = l := ⟨_, rfl⟩
    have hne : s.data.toList ≠ [] := by
      intro h; rw [h] at h0; revert h0; decide
    obtain ⟨r, rs, hr⟩ := runesD_ne hne
    have hlen := runesD_len s.data.toList
    have hsz : s.data.toList.length = s.size := rfl
    rw [hr] at hlen
    rw [hr] at H ⊢
    rw [List.headD_cons]
    simp only [List.length_cons] at hlen
    have hlen2 : rs.length < 4000000 := by omega
    clear h0 hl hlen hsz hne hr
    go_enter Tryz.func31, Tryz.ntmps31
    go_wp2_with (first
      | (go_at_call 49; refine (H.out).mono ?_; rintro e w1 ⟨A, c, rfl, hrow, hb⟩; obtain ⟨b, off, rfl, hbl, c0⟩ := hrow.get1 (k := 0) (by simp); simp only [One, Nat.add_zero, List.getElem_cons_zero] at c0)
      | (go_at_call 47; refine (widthP _ _).mono ?_; rintro e w3 ⟨rfl, hb3⟩))
    go_ret
    exact ⟨rfl, hb.trans (hb3.mono hb.size)⟩
  · rw [if_neg h0]
    simp only [h0, if_false] at H
    clear h0
    go_enter Tryz.func31, Tryz.ntmps31
    go_wp2_with (go_at_call 49; refine (H.out).mono ?_; rintro e w1 ⟨A, c, rfl, hrow, hb⟩)
    go_ret
    exact ⟨rfl, hb⟩
end Go.Proofs.YtdkppdjonlldhaaGreatDoor
