/- Joined: SP35, SP39, SP36. -/
import Derived.Test.YtdkppdjonlldhaaGreatDoorJ7
import Derived.Test.YtdkppdjonlldhaaGreatDoorJ12
import Derived.Deep.CutBlock
/- The parser's word: a word of letters, in small letters, with a capital or in capitals. -/
namespace Go.Proofs.YtdkppdjonlldhaaGreatDoor
open Go.RowKit Go.Maps Go.Shelf

/-- What a reader of a part answers. -/
def ReadRet (B bR : Nat) (w : World) (o : Option PS) (e : Ending) (w' : World) : Prop := (∃ q, o = some q ∧ e = .returned (.bool true) ∧ PB B w w' bR q) ∨ (o = none ∧ e = .returned (.bool false) ∧ Below w.heap.size w w')
theorem plain_small {s : Wd} (h : plainB s = true) : s ≠ [] ∧ ∀ b ∈ s, 97 ≤ b.toNat ∧ b.toNat ≤ 122 := by
  unfold plainB at h
  rw [Bool.and_eq_true, List.all_eq_true] at h
  refine ⟨fun e => by rw [e] at h; exact absurd h.1 (by decide), fun b hb => by simpa using h.2 b hb⟩
theorem plain_app {s t : Wd} (hs : s = [] ∨ plainB s = true) (ht : plainB t = true) : plainB (s ++ t) = true := by
  rcases hs with rfl | hs
  · exact ht
  · unfold plainB at hs ht ⊢
    rw [Bool.and_eq_true] at hs ht ⊢
    refine ⟨by cases s <;> simp_all, ?_⟩
    rw [List.all_append, hs.2, ht.2]; rfl
theorem spelled_plain : ∀ (l : List Wd) (s : Wd) (i : Nat) (z : Wd) (m : Nat), (s = [] ∨ plainB s = true) → spelledF l s i = some (z, m) → plainB z = true ∧ i < m ∧ m ≤ i + l.length ∧ z.length ≤ s.length + l.length
  | [], _, _, _, _, _, h => by cases h
  | x :: l, s, i, z, m, hs, h => by
    rw [spelled_eq] at h
    split at h
    · rename_i hc
      cases h
      refine ⟨by rcases hs with e | e; (· exact absurd e hc.2); exact e, by omega, by rw [List.length_cons]; omega, by omega⟩
    · split at h
      · rename_i hc
        obtain ⟨h1, h2, h3, h4⟩ := spelled_plain l (s ++ x) (i + 1) z m (.inr (plain_app hs hc.1)) h
        rw [List.length_append, hc.2] at h4
        exact ⟨h1, by omega, by rw [List.length_cons]; omega, by rw [List.length_cons]; omega⟩
      · cases h
theorem lit_plain {l : List Wd} (hw : ∀ x ∈ l, x.length ≤ 1000000) (hl : l.length ≤ 1000000) {s : Wd} {m : Nat} (h : literalF l = some (s, m)) : plainB s = true ∧ 1 ≤ m ∧ m ≤ l.length ∧ s.length ≤ 1000000 := by
  cases l with
  | nil => cases h
  | cons x r =>
    rw [literal_eq] at h
    split at h
    · rename_i hc
      rw [Bool.and_eq_true] at hc
      cases r with
      | nil => exact absurd hc.2 (by simp [firstPlain])
      | cons y r =>
        cases h
        exact ⟨hc.2, by omega, by simp, hw y (by simp)⟩
    · split at h
      · rename_i hc
        rw [Bool.and_eq_true] at hc
        cases h
        exact ⟨hc.1, by omega, by simp, hw s (by simp)⟩
      · split at h
        · obtain ⟨h1, h2, h3, h4⟩ := spelled_plain r [] 1 s m (.inl rfl) h
          rw [List.length_cons] at hl
          refine ⟨h1, by omega, by rw [List.length_cons]; omega, ?_⟩
          have : ([] : Wd).length = 0 := rfl
          omega
        · cases h
theorem small_ascii {s : Wd} (h : plainB s = true) : ∀ (j : Nat) (b : UInt8), s[j]? = some b → b.toNat < 128 := fun j b hb => by
  have := (plain_small h).2 b (List.mem_of_getElem? hb)
  omega
theorem PB.box {B bR : Nat} {w0 W : World} {p : PS} (h : PB B w0 W bR p) : ∃ cs : List Value, W.heap[B]? = some (.cells (Value.map (some bR) :: cs).toArray 71 (0, 0)) := by
  obtain ⟨_, _, _, _, h, -⟩ := h
  exact ⟨_, h.box⟩
theorem wordF_eq (p : PS) : wordF p = (literalF (p.words.drop (casedN p))).map fun x => (p.text (raiseW p x.1)).take (casedN p + x.2) := rfl
set_option maxRecDepth 100000 in
set_option maxHeartbeats 4000000 in
theorem wordNil (w : World) (B bR nR : Nat) (p : PS) (hp : p.words = []) (hI : PB B w w bR p) (hR : SetAt w bR nR resL) :
    Calls Tryz.prog 59 #[.pointer (some ⟨B, 0, none⟩)] w (ReadRet B bR w (wordF p)) := by
  have hF : wordF p = none := by
    rw [wordF_eq, hp]; simp; rfl
  rw [hF]
  have HI := hide hI
  obtain ⟨Aw, nw, cw, ov, hB, hnw, hcw, hr⟩ := hI
  obtain ⟨ws, out, st, jo⟩ := p
  dsimp only at hp hnw
  subst hp
  obtain rfl : nw = 0 := hnw.symm
  have HBx := hide hB
  have HN := hide (fun (W : World) (hI : PB B w W bR ⟨[], out, st, jo⟩) => nextP W w B bR ⟨[], out, st, jo⟩ hI)
  have HL := hide (fun (W : World) (hb : Below w.heap.size w W) (A : Option Addr) (c : Nat) => literalP W B bR nR (HI.out.below hb).box (hR.below hb) A 0 c [] rfl (by omega) (Sl.nil rfl) (fun s hs => by cases hs))
  have hBl := hB.lt
  have hb := Below.refl w.heap.size w
  clear hB hr hnw hcw hF hR
  cases Aw
  all_goals
    go_enter Tryz.func59, Tryz.ntmps59
    go_wp2_with (first
      | (go_at_call 87; refine (HL.out _ HB3.out _ _).mono ?_; rintro e w4 ⟨rfl, hb4⟩; rw [show litV (literalF []) = .tuple #[.string ⟨#[]⟩, .int .i64 0] from rfl]; have HB4 := hide (HB3.out.trans (hb4.mono HB3.out.size)); clear hb4)
      | (go_at_call 85; refine (HN.out _ (HI.out.below HB2.out)).mono ?_; rintro e w3 ⟨rfl, hb3⟩; have HB3 := hide (HB2.out.trans (hb3.mono HB2.out.size)); have k1 := cell_block (HBx.out.below HB3.out).box 1; clear hb3)
      | (go_at_call 85; refine (HN.out _ HI.out).mono ?_; rintro e w2 ⟨rfl, hb2⟩; have HB2 := hide hb2; clear hb2)
      | fail)
    go_ret
    exact .inr ⟨rfl, rfl, HB4.out⟩

set_option maxRecDepth 100000 in
set_option maxHeartbeats 4000000 in
theorem wordCaps (w : World) (B bR nR : Nat) (x : Wd) (r : List Wd) (out : List Gl) (st : Int) (jo : Bool) (hx : x = capsW) (hI : PB B w w bR ⟨x :: r, out, st, jo⟩) (hR : SetAt w bR nR resL) (hwl : (x :: r).length ≤ 1000000) (hws : ∀ y ∈ x :: r, y.length ≤ 1000000) (hq : ∀ q, wordF ⟨x :: r, out, st, jo⟩ = some q → q.out.length ≤ 1000000) :
    Calls Tryz.prog 59 #[.pointer (some ⟨B, 0, none⟩)] w (ReadRet B bR w (wordF ⟨x :: r, out, st, jo⟩)) := by
  have hc : casedN ⟨x :: r, out, st, jo⟩ = 1 := by unfold casedN; rw [hx]; rfl
  have hra : ∀ s, raiseW ⟨x :: r, out, st, jo⟩ s = s.map upB := fun s => by unfold raiseW; rw [hx]; rfl
  have h1 : x ≠ capW := by rw [hx]; decide
  have h2 : x = capsW := hx
  have hF : wordF ⟨x :: r, out, st, jo⟩ = (literalF ((x :: r).drop 1)).map fun y => (PS.text ⟨x :: r, out, st, jo⟩ (raiseW ⟨x :: r, out, st, jo⟩ y.1)).take (1 + y.2) := by rw [wordF_eq, hc]
  obtain ⟨WL, hWL⟩ : ∃ WL, (x :: r).drop 1 = WL := ⟨_, rfl⟩
  rw [hWL] at hF
  have hWl : WL.length + 1 = (x :: r).length := by rw [← hWL, List.length_drop, List.length_cons]; omega
  have hWm : ∀ y ∈ WL, y.length ≤ 1000000 := fun y hy => hws y (List.mem_of_mem_drop (hWL ▸ hy))
  have hpl := fun s m h => @lit_plain WL hWm (by omega) s m h
  obtain ⟨LF, hLF⟩ : ∃ LF, literalF WL = LF := ⟨_, rfl⟩
  obtain ⟨WF, hWF⟩ : ∃ WF, wordF ⟨x :: r, out, st, jo⟩ = WF := ⟨_, rfl⟩
  rw [hLF] at hF
  rw [hWF] at hF hq ⊢
  have HI := hide hI
  obtain ⟨Aw, nw, cw, ov, hB, hnw, hcw, hr⟩ := hI
  dsimp only at hnw hr
  obtain ⟨b, off, rfl, hbb, -⟩ := hr.get1 (k := 0) (by simp)
  have hrA : StrRow w B (some ⟨b, off + 1, none⟩) WL := by
    have h := hr.drop 1
    rwa [hWL, Nat.mul_one] at h
  have HrA := hide (fun (W : World) (hb : Below w.heap.size w W) => ((hrA.below (StrAt.stays _) (hb.mono (Nat.le_of_lt hB.lt))).more (Nat.le_trans (Nat.le_of_lt hB.lt) hb.size) : StrRow W W.heap.size (some ⟨b, off + 1, none⟩) WL))
  have HrB := hide (fun (hz : cw = 1) (W : World) => (Sl.nil (by omega) : StrRow W W.heap.size (some ⟨b, off, none⟩) WL))
  have HBx := hide hB
  have HN := hide (fun (W : World) (hI : PB B w W bR ⟨x :: r, out, st, jo⟩) => nextP W w B bR ⟨x :: r, out, st, jo⟩ hI)
  obtain ⟨S, hS⟩ : ∃ S : ByteArray, (⟨x.toArray⟩ : ByteArray) = S := ⟨_, rfl⟩
  have hSl : S.data.toList = x := by rw [← hS]
  have q1 := (tl_eq hSl capW).trans (decide_eq_false h1)
  have q2 := (tl_eq hSl capsW).trans (decide_eq_true h2)
  unfold capW at q1
  unfold capsW at q2
  dsimp only [List.headD] at HN
  rw [hS] at HN
  have HL := hide (fun (W : World) (hb : Below w.heap.size w W) (A : Option Addr) (c : Nat) (hr : StrRow W W.heap.size A WL) => literalP W B bR nR (HI.out.below hb).box (hR.below hb) A (nw - 1) c WL (by omega) (by omega) hr hWm)
  have HLF := hide hLF
  have hBl := hB.lt
  have hb := Below.refl w.heap.size w
  have i0 : ((1 : Nat) : Int) ≤ (nw : Int) := by rw [← hnw, List.length_cons]; omega
  have i1 : ((1 : Nat) : Int) ≤ (cw : Int) := by omega
  have hcw0 : cw ≠ 0 := by rw [List.length_cons] at hnw; omega
  have Hnw := hide (And.intro hnw hcw)
  clear hB hr hnw hcw hR hrA hc hS hLF hWF hx h1 h2
  cases LF with
  | none =>
    obtain rfl : WF = none := hF
    have HLV := hide (show litV none = .tuple #[.string ⟨#[]⟩, .int .i64 0] from rfl)
    clear hq hpl hra
    go_enter Tryz.func59, Tryz.ntmps59
    go_wp2_with (first
      | (go_at_call 87; refine (HL.out _ HBN.out _ _ (by first | exact HrA.out _ HBN.out | exact HrB.out (by assumption) _)).mono ?_; rintro e w4 ⟨rfl, hb4⟩; rw [HLF.out, HLV.out]; have HB4 := hide (HBN.out.trans (hb4.mono HBN.out.size)); clear hb4)
      | (go_at_call 85; refine (HN.out _ (HI.out.below HB2.out)).mono ?_; rintro e w3 ⟨rfl, hb3⟩; have HBN := hide (HB2.out.trans (hb3.mono HB2.out.size)); have k1 := cell_block (HBx.out.below HBN.out).box 1; clear hb3)
      | (go_at_call 85; refine (HN.out _ HI.out).mono ?_; rintro e w2 ⟨rfl, hb2⟩; have HB2 := hide hb2; clear hb2)
      | fail)
    all_goals
      go_ret
      exact .inr ⟨rfl, rfl, HB4.out⟩
  | some z =>
    obtain ⟨s, m⟩ := z
    have hps := hpl s m HLF.out
    have hm1 := hps.2.1
    have hm2 := hps.2.2.1
    obtain ⟨Z, hZ⟩ : ∃ Z : ByteArray, (⟨s.toArray⟩ : ByteArray) = Z := ⟨_, rfl⟩
    have hZl : Z.data.toList = s := by rw [← hZ]
    have HLV := hide (show litV (some (s, m)) = .tuple #[.string Z, .int .i64 m] by rw [← hZ]; rfl)
    obtain ⟨T, hT⟩ : ∃ T : ByteArray, (⟨(Z.data.toList.map upB).toArray⟩ : ByteArray) = T := ⟨_, rfl⟩
    have hTl : T.data.toList = s.map upB := by rw [← hT, hZl]
    have HU := hide (fun (W : World) => upP W Z (by rw [Lib.size_eq, hZl]; exact hps.2.2.2) (by rw [hZl]; exact small_ascii hps.1))
    have HUZ := hide hT
    obtain ⟨q, hqe⟩ : ∃ q, (PS.text ⟨x :: r, out, st, jo⟩ T.data.toList).take (1 + m) = q := ⟨_, rfl⟩
    have hFq : WF = some q := by rw [hF, ← hqe, hTl]; simp only [Option.map_some, hra]
    have hTb := hq q hFq
    have hTb2 : (PS.text ⟨x :: r, out, st, jo⟩ T.data.toList).out.length ≤ 1000000 := by rw [← hqe] at hTb; exact hTb
    have HT := hide (fun (W : World) (hI : PB B W W bR ⟨x :: r, out, st, jo⟩) => textP W W B bR ⟨x :: r, out, st, jo⟩ hI T hTb2)
    have HTk := hide (fun (W : World) (hI : PB B W W bR (PS.text ⟨x :: r, out, st, jo⟩ T.data.toList)) => takeP W W B bR (PS.text ⟨x :: r, out, st, jo⟩ T.data.toList) hI (1 + m) (by omega) (by show _ ≤ (x :: r).length; omega) hwl)
    rw [hqe] at HTk
    have qm : ((m : Int) == 0) = false := beq_eq_false_iff_ne.2 (by omega)
    have hcw1 : ¬ cw = 1 := by obtain ⟨hn1, hn2⟩ := Hnw.out; omega
    have hwm : IntKind.i64.wrap (1 + (m : Int)) = ((1 + m : Nat) : Int) := wrap_add1 (by omega)
    obtain rfl : WF = some q := hFq
    clear hF hq hpl hra hps hZ hqe hTb hTb2 hZl hTl
    go_enter Tryz.func59, Tryz.ntmps59
    go_wp2_with (first
      | (go_at_call 86; refine (HTk.out _ HI7.out.again).mono ?_; rintro e w8 ⟨rfl, hI8⟩; have HI8 := hide (HI7.out.trans hI8); clear hI8)
      | (go_at_call 89; refine (HT.out _ (HI.out.below HB6.out).again).mono ?_; rintro e w7 ⟨rfl, hI7⟩; have HI7 := hide ((HI.out.below HB6.out).trans hI7); clear hI7)
      | (go_at_call 88; refine (HU.out _).mono ?_; rintro e w6 ⟨rfl, hb6⟩; rw [HUZ.out]; have HB6 := hide (HB5.out.trans (hb6.mono HB5.out.size)); clear hb6)
      | (go_at_call 85; refine (HN.out _ (HI.out.below HB4.out)).mono ?_; rintro e w5 ⟨rfl, hb5⟩; have HB5 := hide (HB4.out.trans (hb5.mono HB4.out.size)); clear hb5)
      | (go_at_call 87; refine (HL.out _ HBN.out _ _ (by first | exact HrA.out _ HBN.out | exact HrB.out (by assumption) _)).mono ?_; rintro e w4 ⟨rfl, hb4⟩; rw [HLF.out, HLV.out]; have HB4 := hide (HBN.out.trans (hb4.mono HBN.out.size)); clear hb4)
      | (go_at_call 85; refine (HN.out _ (HI.out.below HB2.out)).mono ?_; rintro e w3 ⟨rfl, hb3⟩; have HBN := hide (HB2.out.trans (hb3.mono HB2.out.size)); have k1 := cell_block (HBx.out.below HBN.out).box 1; clear hb3)
      | (go_at_call 85; refine (HN.out _ HI.out).mono ?_; rintro e w2 ⟨rfl, hb2⟩; have HB2 := hide hb2; clear hb2)
      | fail)
    go_ret
    exact .inl ⟨q, rfl, rfl, HI8.out⟩
set_option maxRecDepth 100000 in
set_option maxHeartbeats 4000000 in
theorem wordCap (w : World) (B bR nR : Nat) (x : Wd) (r : List Wd) (out : List Gl) (st : Int) (jo : Bool) (hx : x = capW) (hI : PB B w w bR ⟨x :: r, out, st, jo⟩) (hR : SetAt w bR nR resL) (hwl : (x :: r).length ≤ 1000000) (hws : ∀ y ∈ x :: r, y.length ≤ 1000000) (hq : ∀ q, wordF ⟨x :: r, out, st, jo⟩ = some q → q.out.length ≤ 1000000) :
    Calls Tryz.prog 59 #[.pointer (some ⟨B, 0, none⟩)] w (ReadRet B bR w (wordF ⟨x :: r, out, st, jo⟩)) := by
  have hc : casedN ⟨x :: r, out, st, jo⟩ = 1 := by unfold casedN; rw [hx]; rfl
  have h1 : x = capW := hx
  have h2 : x ≠ capsW := by rw [hx]; decide
  have hra : ∀ s, raiseW ⟨x :: r, out, st, jo⟩ s = (s.take 1).map upB ++ s.drop 1 := fun s => by unfold raiseW; rw [if_neg (by simpa using h2), hc, if_pos rfl]
  have hF : wordF ⟨x :: r, out, st, jo⟩ = (literalF ((x :: r).drop 1)).map fun y => (PS.text ⟨x :: r, out, st, jo⟩ (raiseW ⟨x :: r, out, st, jo⟩ y.1)).take (1 + y.2) := by rw [wordF_eq, hc]
  obtain ⟨WL, hWL⟩ : ∃ WL, (x :: r).drop 1 = WL := ⟨_, rfl⟩
  rw [hWL] at hF
  have hWl : WL.length + 1 = (x :: r).length := by rw [← hWL, List.length_drop, List.length_cons]; omega
  have hWm : ∀ y ∈ WL, y.length ≤ 1000000 := fun y hy => hws y (List.mem_of_mem_drop (hWL ▸ hy))
  have hpl := fun s m h => @lit_plain WL hWm (by omega) s m h
  obtain ⟨LF, hLF⟩ : ∃ LF, literalF WL = LF := ⟨_, rfl⟩
  obtain ⟨WF, hWF⟩ : ∃ WF, wordF ⟨x :: r, out, st, jo⟩ = WF := ⟨_, rfl⟩
  rw [hLF] at hF
  rw [hWF] at hF hq ⊢
  have HI := hide hI
  obtain ⟨Aw, nw, cw, ov, hB, hnw, hcw, hr⟩ := hI
  dsimp only at hnw hr
  obtain ⟨b, off, rfl, hbb, -⟩ := hr.get1 (k := 0) (by simp)
  have hrA : StrRow w B (some ⟨b, off + 1, none⟩) WL := by
    have h := hr.drop 1
    rwa [hWL, Nat.mul_one] at h
  have HrA := hide (fun (W : World) (hb : Below w.heap.size w W) => ((hrA.below (StrAt.stays _) (hb.mono (Nat.le_of_lt hB.lt))).more (Nat.le_trans (Nat.le_of_lt hB.lt) hb.size) : StrRow W W.heap.size (some ⟨b, off + 1, none⟩) WL))
  have HrB := hide (fun (hz : cw = 1) (W : World) => (Sl.nil (by omega) : StrRow W W.heap.size (some ⟨b, off, none⟩) WL))
  have HBx := hide hB
  have HN := hide (fun (W : World) (hI : PB B w W bR ⟨x :: r, out, st, jo⟩) => nextP W w B bR ⟨x :: r, out, st, jo⟩ hI)
  obtain ⟨S, hS⟩ : ∃ S : ByteArray, (⟨x.toArray⟩ : ByteArray) = S := ⟨_, rfl⟩
  have hSl : S.data.toList = x := by rw [← hS]
  have q1 := (tl_eq hSl capW).trans (decide_eq_true h1)
  have q2 := (tl_eq hSl capsW).trans (decide_eq_false h2)
  unfold capW at q1
  unfold capsW at q2
  dsimp only [List.headD] at HN
  rw [hS] at HN
  have HL := hide (fun (W : World) (hb : Below w.heap.size w W) (A : Option Addr) (c : Nat) (hr : StrRow W W.heap.size A WL) => literalP W B bR nR (HI.out.below hb).box (hR.below hb) A (nw - 1) c WL (by omega) (by omega) hr hWm)
  have HLF := hide hLF
  have hBl := hB.lt
  have hb := Below.refl w.heap.size w
  have i0 : ((1 : Nat) : Int) ≤ (nw : Int) := by rw [← hnw, List.length_cons]; omega
  have i1 : ((1 : Nat) : Int) ≤ (cw : Int) := by omega
  have hcw0 : cw ≠ 0 := by rw [List.length_cons] at hnw; omega
  have Hnw := hide (And.intro hnw hcw)
  clear hB hr hnw hcw hR hrA hc hS hLF hWF hx h1 h2
  cases LF with
  | none =>
    obtain rfl : WF = none := hF
    have HLV := hide (show litV none = .tuple #[.string ⟨#[]⟩, .int .i64 0] from rfl)
    clear hq hpl hra
    go_enter Tryz.func59, Tryz.ntmps59
    go_wp2_with (first
      | (go_at_call 87; refine (HL.out _ HBN.out _ _ (by first | exact HrA.out _ HBN.out | exact HrB.out (by assumption) _)).mono ?_; rintro e w4 ⟨rfl, hb4⟩; rw [HLF.out, HLV.out]; have HB4 := hide (HBN.out.trans (hb4.mono HBN.out.size)); clear hb4)
      | (go_at_call 85; refine (HN.out _ HI.out).mono ?_; rintro e w2 ⟨rfl, hb2⟩; have HBN := hide hb2; have k1 := cell_block (HBx.out.below HBN.out).box 1; clear hb2)
      | fail)
    all_goals
      go_ret
      exact .inr ⟨rfl, rfl, HB4.out⟩
  | some z =>
    obtain ⟨s, m⟩ := z
    have hps := hpl s m HLF.out
    have hm1 := hps.2.1
    have hm2 := hps.2.2.1
    obtain ⟨Z, hZ⟩ : ∃ Z : ByteArray, (⟨s.toArray⟩ : ByteArray) = Z := ⟨_, rfl⟩
    have hZl : Z.data.toList = s := by rw [← hZ]
    have HLV := hide (show litV (some (s, m)) = .tuple #[.string Z, .int .i64 m] by rw [← hZ]; rfl)
    have hZ1 : 1 ≤ Z.size := by
      rw [Lib.size_eq, hZl]
      have := (plain_small hps.1).1
      exact List.length_pos_iff.2 this
    have hZe : (Z.extract 0 1).data.toList = s.take 1 := by rw [ByteArray.data_extract, Array.toList_extract, hZl]; simp [List.extract_eq_take_drop]
    have hZr : (Z.extract 1 Z.size).data.toList = s.drop 1 := by
      rw [ByteArray.data_extract, Array.toList_extract, hZl, List.extract_eq_take_drop, List.take_of_length_le]
      rw [List.length_drop, Lib.size_eq, hZl]; exact Nat.le_refl _
    have HU := hide (fun (W : World) => upP W (Z.extract 0 1) (by rw [Lib.size_eq, hZe, List.length_take]; omega) (by rw [hZe]; exact fun j b hb => small_ascii hps.1 j b (by rw [List.getElem?_take] at hb; split at hb; (· exact hb); cases hb)))
    obtain ⟨U, hU⟩ : ∃ U : ByteArray, (⟨((Z.extract 0 1).data.toList.map upB).toArray⟩ : ByteArray) = U := ⟨_, rfl⟩
    have hUl : U.data.toList = (s.take 1).map upB := by rw [← hU, hZe]
    have HUZ := hide hU
    obtain ⟨T, hT⟩ : ∃ T : ByteArray, U ++ Z.extract 1 Z.size = T := ⟨_, rfl⟩
    have hTl : T.data.toList = (s.take 1).map upB ++ s.drop 1 := by rw [← hT, ba_append, hUl, hZr]
    have hcat : U.size + (Z.extract 1 Z.size).size ≤ 9223372036854775807 := by
      rw [Lib.size_eq, Lib.size_eq, hUl, hZr, List.length_map, List.length_take, List.length_drop]
      have := hps.2.2.2
      omega
    have hcat2 : ¬ 9223372036854775807 < U.size + (Z.size - 1) := by
      rw [Lib.size_eq, Lib.size_eq, hUl, hZl, List.length_map, List.length_take]
      have := hps.2.2.2
      omega
    have g1 : (1 : Int) ≤ (Z.size : Int) := by omega
    have g0 : (0 : Int) ≤ (Z.size : Int) := by omega
    obtain ⟨q, hqe⟩ : ∃ q, (PS.text ⟨x :: r, out, st, jo⟩ T.data.toList).take (1 + m) = q := ⟨_, rfl⟩
    have hFq : WF = some q := by rw [hF, ← hqe, hTl]; simp only [Option.map_some, hra]
    have hTb := hq q hFq
    have hTb2 : (PS.text ⟨x :: r, out, st, jo⟩ T.data.toList).out.length ≤ 1000000 := by rw [← hqe] at hTb; exact hTb
    have HT := hide (fun (W : World) (hI : PB B W W bR ⟨x :: r, out, st, jo⟩) => textP W W B bR ⟨x :: r, out, st, jo⟩ hI T hTb2)
    have HTk := hide (fun (W : World) (hI : PB B W W bR (PS.text ⟨x :: r, out, st, jo⟩ T.data.toList)) => takeP W W B bR (PS.text ⟨x :: r, out, st, jo⟩ T.data.toList) hI (1 + m) (by omega) (by show _ ≤ (x :: r).length; omega) hwl)
    rw [hqe] at HTk
    have qm : ((m : Int) == 0) = false := beq_eq_false_iff_ne.2 (by omega)
    have hcw1 : ¬ cw = 1 := by obtain ⟨hn1, hn2⟩ := Hnw.out; omega
    have hwm : IntKind.i64.wrap (1 + (m : Int)) = ((1 + m : Nat) : Int) := wrap_add1 (by omega)
    obtain rfl : WF = some q := hFq
    clear hF hq hpl hra hps hZ hqe hTb hTb2 hZl hTl
    go_enter Tryz.func59, Tryz.ntmps59
    go_upto_region 10 with (first
      | (go_at_call 85; refine (HN.out _ (HI.out.below HB4.out)).mono ?_; rintro e w5 ⟨rfl, hb5⟩; have HB5 := hide (HB4.out.trans (hb5.mono HB4.out.size)); clear hb5)
      | (go_at_call 87; refine (HL.out _ HBN.out _ _ (by first | exact HrA.out _ HBN.out | exact HrB.out (by assumption) _)).mono ?_; rintro e w4 ⟨rfl, hb4⟩; rw [HLF.out, HLV.out]; have HB4 := hide (HBN.out.trans (hb4.mono HBN.out.size)); clear hb4)
      | (go_at_call 85; refine (HN.out _ HI.out).mono ?_; rintro e w2 ⟨rfl, hb2⟩; have HBN := hide hb2; have k1 := cell_block (HBx.out.below HBN.out).box 1; clear hb2)
      | fail)
    have hbd := HB5.out.drew
    have hsd := hbd.size
    refine td_begin (by kernel_rfl) ?_
    refine td_hold (fun W => Below w.heap.size w W) [] (by decide +kernel) ?_ (fun hHeld => ?_)
    · (exact hbd)
    (refine td_take 0 (v := ?_) rfl (by decide) (by kernel_rfl) (by decide +kernel) (by decide +kernel) (fun _ _ _ h => h) (by assumption) (by rfl) ?_ ?_; rotate_left; (· (intro w hSw; (try dsimp only at hSw); skip; (go_simp <;> with_reducible rfl))); (try simp only [Act.put, List.setIfInBounds_toArray, List.set_cons_zero, List.set_cons_succ]))
    (refine td_take 1 (v := ?_) rfl (by decide) (by kernel_rfl) (by decide +kernel) (by decide +kernel) (fun _ _ _ h => h) (by assumption) (by rfl) ?_ ?_; rotate_left; (· (intro w hSw; (try dsimp only at hSw); skip; (go_simp <;> with_reducible rfl))); (try simp only [Act.put, List.setIfInBounds_toArray, List.set_cons_zero, List.set_cons_succ]))
    (refine td_take 3 (v := ?_) rfl (by decide) (by kernel_rfl) (by decide +kernel) (by decide +kernel) (fun _ _ _ h => h) (by assumption) (by rfl) ?_ ?_; rotate_left; (· (intro w hSw; (try dsimp only at hSw); skip; (go_simp <;> with_reducible rfl))); (try simp only [Act.put, List.setIfInBounds_toArray, List.set_cons_zero, List.set_cons_succ]))
    (refine td_take 4 (v := ?_) rfl (by decide) (by kernel_rfl) (by decide +kernel) (by decide +kernel) (fun _ _ _ h => h) (by assumption) (by rfl) ?_ ?_; rotate_left; (· (intro w hSw; (try dsimp only at hSw); skip; (go_simp <;> with_reducible rfl))); (try simp only [Act.put, List.setIfInBounds_toArray, List.set_cons_zero, List.set_cons_succ]))
    (refine td_ready (rs := [2]) (by decide +kernel) (by decide) (by simp) ?_; refine td_cons rfl (fun K hK => ?_) td_nil; (go_simp; go_at_call 88; refine (HU.out _).mono ?_; rintro e w6 ⟨rfl, hb6⟩; rw [HUZ.out]; have hbd := hbd.trans (hb6.mono hsd); clear hb6; (first | refine hK.out _ _ ?_ ?_ | (go_wp2_with fail; refine hK.out _ _ ?_ ?_)); (· (exact hbd)); clear hK K hHeld; intro hHeld; (try simp only [Act.put, List.setIfInBounds_toArray, List.set_cons_zero, List.set_cons_succ])))
    (refine td_take 5 (v := ?_) rfl (by decide) (by kernel_rfl) (by decide +kernel) (by decide +kernel) (fun _ _ _ h => h) (by assumption) (by rfl) ?_ ?_; rotate_left; (· (intro w hSw; (try dsimp only at hSw); skip; (go_simp <;> with_reducible rfl))); (try simp only [Act.put, List.setIfInBounds_toArray, List.set_cons_zero, List.set_cons_succ]))
    (refine td_take 6 (v := ?_) rfl (by decide) (by kernel_rfl) (by decide +kernel) (by decide +kernel) (fun _ _ _ h => h) (by assumption) (by rfl) ?_ ?_; rotate_left; (· (intro w hSw; (try dsimp only at hSw); skip; (go_simp <;> with_reducible rfl))); (try simp only [Act.put, List.setIfInBounds_toArray, List.set_cons_zero, List.set_cons_succ]))
    refine And.intro (by decide +kernel) ?_
    have HB6 := hide hbd
    clear hbd
    go_wp2_with (first
      | (go_at_call 86; refine (HTk.out _ HI7.out.again).mono ?_; rintro e w8 ⟨rfl, hI8⟩; have HI8 := hide (HI7.out.trans hI8); clear hI8)
      | (go_at_call 89; refine (HT.out _ (HI.out.below HB6.out).again).mono ?_; rintro e w7 ⟨rfl, hI7⟩; have HI7 := hide ((HI.out.below HB6.out).trans hI7); clear hI7)
      | fail)
    go_ret
    exact .inl ⟨q, rfl, rfl, HI8.out⟩
set_option maxRecDepth 100000 in
set_option maxHeartbeats 4000000 in
theorem wordLow (w : World) (B bR nR : Nat) (x : Wd) (r : List Wd) (out : List Gl) (st : Int) (jo : Bool) (hx : x ≠ capW ∧ x ≠ capsW) (hI : PB B w w bR ⟨x :: r, out, st, jo⟩) (hR : SetAt w bR nR resL) (hwl : (x :: r).length ≤ 1000000) (hws : ∀ y ∈ x :: r, y.length ≤ 1000000) (hq : ∀ q, wordF ⟨x :: r, out, st, jo⟩ = some q → q.out.length ≤ 1000000) :
    Calls Tryz.prog 59 #[.pointer (some ⟨B, 0, none⟩)] w (ReadRet B bR w (wordF ⟨x :: r, out, st, jo⟩)) := by
  have h1 : x ≠ capW := hx.1
  have h2 : x ≠ capsW := hx.2
  have hc : casedN ⟨x :: r, out, st, jo⟩ = 0 := by unfold casedN; rw [if_neg (by simpa using And.intro h1 h2)]
  have hra : ∀ s, raiseW ⟨x :: r, out, st, jo⟩ s = s := fun s => by unfold raiseW; rw [if_neg (by simpa using h2), hc, if_neg (by decide)]
  have hF : wordF ⟨x :: r, out, st, jo⟩ = (literalF ((x :: r).drop 0)).map fun y => (PS.text ⟨x :: r, out, st, jo⟩ (raiseW ⟨x :: r, out, st, jo⟩ y.1)).take (0 + y.2) := by rw [wordF_eq, hc]
  obtain ⟨WL, hWL⟩ : ∃ WL, (x :: r).drop 0 = WL := ⟨_, rfl⟩
  rw [hWL] at hF
  have hWl : WL.length + 0 = (x :: r).length := by rw [← hWL, List.length_drop, List.length_cons]; omega
  have hWm : ∀ y ∈ WL, y.length ≤ 1000000 := fun y hy => hws y (List.mem_of_mem_drop (hWL ▸ hy))
  have hpl := fun s m h => @lit_plain WL hWm (by omega) s m h
  obtain ⟨LF, hLF⟩ : ∃ LF, literalF WL = LF := ⟨_, rfl⟩
  obtain ⟨WF, hWF⟩ : ∃ WF, wordF ⟨x :: r, out, st, jo⟩ = WF := ⟨_, rfl⟩
  rw [hLF] at hF
  rw [hWF] at hF hq ⊢
  have HI := hide hI
  obtain ⟨Aw, nw, cw, ov, hB, hnw, hcw, hr⟩ := hI
  dsimp only at hnw hr
  obtain ⟨b, off, rfl, hbb, -⟩ := hr.get1 (k := 0) (by simp)
  have hrA : StrRow w B (some ⟨b, off + 0, none⟩) WL := by
    have h := hr.drop 0
    rwa [hWL, Nat.mul_one] at h
  have HrA := hide (fun (W : World) (hb : Below w.heap.size w W) => ((hrA.below (StrAt.stays _) (hb.mono (Nat.le_of_lt hB.lt))).more (Nat.le_trans (Nat.le_of_lt hB.lt) hb.size) : StrRow W W.heap.size (some ⟨b, off + 0, none⟩) WL))
  have HrB := hide (fun (hz : cw = 0) (W : World) => (Sl.nil (by omega) : StrRow W W.heap.size (some ⟨b, off, none⟩) WL))
  have HBx := hide hB
  have HN := hide (fun (W : World) (hI : PB B w W bR ⟨x :: r, out, st, jo⟩) => nextP W w B bR ⟨x :: r, out, st, jo⟩ hI)
  obtain ⟨S, hS⟩ : ∃ S : ByteArray, (⟨x.toArray⟩ : ByteArray) = S := ⟨_, rfl⟩
  have hSl : S.data.toList = x := by rw [← hS]
  have q1 := (tl_eq hSl capW).trans (decide_eq_false h1)
  have q2 := (tl_eq hSl capsW).trans (decide_eq_false h2)
  unfold capW at q1
  unfold capsW at q2
  dsimp only [List.headD] at HN
  rw [hS] at HN
  have HL := hide (fun (W : World) (hb : Below w.heap.size w W) (A : Option Addr) (c : Nat) (hr : StrRow W W.heap.size A WL) => literalP W B bR nR (HI.out.below hb).box (hR.below hb) A (nw - 0) c WL (by omega) (by omega) hr hWm)
  have HLF := hide hLF
  have hBl := hB.lt
  have hb := Below.refl w.heap.size w
  have i0 : ((0 : Nat) : Int) ≤ (nw : Int) := by rw [← hnw, List.length_cons]; omega
  have i1 : ((0 : Nat) : Int) ≤ (cw : Int) := by omega
  have hcw0 : cw ≠ 0 := by rw [List.length_cons] at hnw; omega
  have Hnw := hide (And.intro hnw hcw)
  clear hB hr hnw hcw hR hrA hc hS hLF hWF hx h1 h2
  cases LF with
  | none =>
    obtain rfl : WF = none := hF
    have HLV := hide (show litV none = .tuple #[.string ⟨#[]⟩, .int .i64 0] from rfl)
    clear hq hpl hra
    go_enter Tryz.func59, Tryz.ntmps59
    go_wp2_with (first
      | (go_at_call 87; refine (HL.out _ HBN.out _ _ (by first | exact HrA.out _ HBN.out | exact HrB.out (by assumption) _)).mono ?_; rintro e w4 ⟨rfl, hb4⟩; rw [HLF.out, HLV.out]; have HB4 := hide (HBN.out.trans (hb4.mono HBN.out.size)); clear hb4)
      | (go_at_call 85; refine (HN.out _ (HI.out.below HB2.out)).mono ?_; rintro e w3 ⟨rfl, hb3⟩; have HBN := hide (HB2.out.trans (hb3.mono HB2.out.size)); have k1 := cell_block (HBx.out.below HBN.out).box 1; clear hb3)
      | (go_at_call 85; refine (HN.out _ HI.out).mono ?_; rintro e w2 ⟨rfl, hb2⟩; have HB2 := hide hb2; clear hb2)
      | fail)
    all_goals
      go_ret
      exact .inr ⟨rfl, rfl, HB4.out⟩
  | some z =>
    obtain ⟨s, m⟩ := z
    have hps := hpl s m HLF.out
    have hm1 := hps.2.1
    have hm2 := hps.2.2.1
    obtain ⟨Z, hZ⟩ : ∃ Z : ByteArray, (⟨s.toArray⟩ : ByteArray) = Z := ⟨_, rfl⟩
    have hZl : Z.data.toList = s := by rw [← hZ]
    have HLV := hide (show litV (some (s, m)) = .tuple #[.string Z, .int .i64 m] by rw [← hZ]; rfl)
    obtain ⟨T, hT⟩ : ∃ T : ByteArray, Z = T := ⟨_, rfl⟩
    have hTl : T.data.toList = s := by rw [← hT, hZl]
    subst hT
    obtain ⟨q, hqe⟩ : ∃ q, (PS.text ⟨x :: r, out, st, jo⟩ Z.data.toList).take (m) = q := ⟨_, rfl⟩
    have hFq : WF = some q := by rw [hF, ← hqe, hTl]; simp only [Option.map_some, hra, Nat.zero_add]
    have hTb := hq q hFq
    have hTb2 : (PS.text ⟨x :: r, out, st, jo⟩ Z.data.toList).out.length ≤ 1000000 := by rw [← hqe] at hTb; exact hTb
    have HT := hide (fun (W : World) (hI : PB B W W bR ⟨x :: r, out, st, jo⟩) => textP W W B bR ⟨x :: r, out, st, jo⟩ hI Z hTb2)
    have HTk := hide (fun (W : World) (hI : PB B W W bR (PS.text ⟨x :: r, out, st, jo⟩ Z.data.toList)) => takeP W W B bR (PS.text ⟨x :: r, out, st, jo⟩ Z.data.toList) hI (m) (by omega) (by show _ ≤ (x :: r).length; omega) hwl)
    rw [hqe] at HTk
    have qm : ((m : Int) == 0) = false := beq_eq_false_iff_ne.2 (by omega)
    have hcw1 : ¬ cw = 0 := by obtain ⟨hn1, hn2⟩ := Hnw.out; omega
    have hwm : IntKind.i64.wrap (m : Int) = (m : Int) := IntWalk.i64_in _ (by omega)
    obtain rfl : WF = some q := hFq
    clear hF hq hpl hra hps hZ hqe hTb hTb2 hZl hTl
    go_enter Tryz.func59, Tryz.ntmps59
    go_wp2_with (first
      | (go_at_call 86; refine (HTk.out _ HI7.out.again).mono ?_; rintro e w8 ⟨rfl, hI8⟩; have HI8 := hide (HI7.out.trans hI8); clear hI8)
      | (go_at_call 89; refine (HT.out _ (HI.out.below HB5.out).again).mono ?_; rintro e w7 ⟨rfl, hI7⟩; have HI7 := hide ((HI.out.below HB5.out).trans hI7); clear hI7)
      | (go_at_call 85; refine (HN.out _ (HI.out.below HB4.out)).mono ?_; rintro e w5 ⟨rfl, hb5⟩; have HB5 := hide (HB4.out.trans (hb5.mono HB4.out.size)); clear hb5)
      | (go_at_call 87; refine (HL.out _ HBN.out _ _ (by first | exact HrA.out _ HBN.out | exact HrB.out (by assumption) _)).mono ?_; rintro e w4 ⟨rfl, hb4⟩; rw [HLF.out, HLV.out]; have HB4 := hide (HBN.out.trans (hb4.mono HBN.out.size)); clear hb4)
      | (go_at_call 85; refine (HN.out _ (HI.out.below HB2.out)).mono ?_; rintro e w3 ⟨rfl, hb3⟩; have HBN := hide (HB2.out.trans (hb3.mono HB2.out.size)); have k1 := cell_block (HBx.out.below HBN.out).box 1; clear hb3)
      | (go_at_call 85; refine (HN.out _ HI.out).mono ?_; rintro e w2 ⟨rfl, hb2⟩; have HB2 := hide hb2; clear hb2)
      | fail)
    go_ret
    exact .inl ⟨q, rfl, rfl, HI8.out⟩
/-- parser.word, whatever the words. -/
theorem wordP (w : World) (B bR nR : Nat) (p : PS) (hI : PB B w w bR p) (hR : SetAt w bR nR resL) (hwl : p.words.length ≤ 1000000) (hws : ∀ y ∈ p.words, y.length ≤ 1000000) (hq : ∀ q, wordF p = some q → q.out.length ≤ 1000000) :
    Calls Tryz.prog 59 #[.pointer (some ⟨B, 0, none⟩)] w (ReadRet B bR w (wordF p)) := by
  obtain ⟨ws, out, st, jo⟩ := p
  cases ws with
  | nil => exact wordNil w B bR nR _ rfl hI hR
  | cons x r =>
    by_cases h1 : x = capsW
    · exact wordCaps w B bR nR x r out st jo h1 hI hR hwl hws hq
    · by_cases h2 : x = capW
      · exact wordCap w B bR nR x r out st jo h2 hI hR hwl hws hq
      · exact wordLow w B bR nR x r out st jo ⟨h2, h1⟩ hI hR hwl hws hq
end Go.Proofs.YtdkppdjonlldhaaGreatDoor

/- The parser's figures: the word digits and the digits behind it. -/
namespace Go.Proofs.YtdkppdjonlldhaaGreatDoor
open Go.RowKit Go.Maps Go.Shelf

theorem row_one {w : World} {B b off k : Nat} {l : List Wd} {y : Wd} (h : StrRow w B (some ⟨b, off, none⟩) l) (hy : l[k]? = some y) : StrRow w B (some ⟨b, off + k, none⟩) [y] := by
  obtain ⟨hk, he⟩ := List.getElem?_eq_some_iff.1 hy
  have h1 := (h.drop k).take 1
  rw [List.drop_eq_getElem_cons hk, he, List.take_succ_cons, List.take_zero, Nat.mul_one] at h1
  exact h1
theorem figs_cons (x : Wd) (l : List Wd) : figs (x :: l) = match digOf x with | some b => b :: figs l | none => [] := rfl
theorem figs_len : ∀ l : List Wd, (figs l).length ≤ l.length
  | [] => Nat.le_refl _
  | x :: l => by
    rw [figs_cons]
    have := figs_len l
    split
    · simp only [List.length_cons]; omega
    · simp
theorem utf8_dig (dn : Nat) (h : dn ≤ 9) : Utf8.encode (48 + (dn : Int)) = ⟨#[48 + dn.toUInt8]⟩ := by
  obtain rfl | rfl | rfl | rfl | rfl | rfl | rfl | rfl | rfl | rfl : dn = 0 ∨ dn = 1 ∨ dn = 2 ∨ dn = 3 ∨ dn = 4 ∨ dn = 5 ∨ dn = 6 ∨ dn = 7 ∨ dn = 8 ∨ dn = 9 := by omega
  all_goals rfl
theorem figuresF_eq (p : PS) : figuresF p = if p.words.head? = some digitsW ∧ figs (p.words.drop 1) ≠ [] then some ((p.text (figs (p.words.drop 1))).take (1 + (figs (p.words.drop 1)).length)) else none := rfl
set_option maxRecDepth 100000 in
set_option maxHeartbeats 4000000 in
theorem figuresP (w : World) (B bR : Nat) (p : PS) (hI : PB B w w bR p) (hwl : p.words.length ≤ 1000000) (hws : ∀ y ∈ p.words, y.length ≤ 1000000) (hq : ∀ q, figuresF p = some q → q.out.length ≤ 1000000) :
    Calls Tryz.prog 60 #[.pointer (some ⟨B, 0, none⟩)] w (ReadRet B bR w (figuresF p)) := by
  have HI := hide hI
  have hBl := hI.lt
  obtain ⟨Aw, nw, cw, ov, hB, hnw, hcw, hr⟩ := hI
  obtain ⟨ws, out, st, jo⟩ := p
  dsimp only at hnw hr hwl hB hws
  have HB := hide hB
  have hb := Below.refl w.heap.size w
  have HN := hide (fun (W : World) (hI : PB B w W bR ⟨ws, out, st, jo⟩) => nextP W w B bR _ hI)
  obtain ⟨S, hS⟩ : ∃ S : ByteArray, (⟨(ws.headD []).toArray⟩ : ByteArray) = S := ⟨_, rfl⟩
  have hSl : S.data.toList = ws.headD [] := by rw [← hS]
  dsimp only at HN
  rw [hS] at HN
  have hFe := figuresF_eq ⟨ws, out, st, jo⟩
  dsimp only at hFe
  obtain ⟨F, hF⟩ : ∃ F, figuresF ⟨ws, out, st, jo⟩ = F := ⟨_, rfl⟩
  rw [hF] at hFe hq ⊢
  by_cases hd : ws.head? = some digitsW
  case neg =>
    have hFk : F = none := by rw [hFe, if_neg (fun h => hd h.1)]
    subst hFk
    have hne : ws.headD [] ≠ digitsW := by
      cases ws with
      | nil => decide
      | cons x r => exact fun e => hd (by rw [← e]; rfl)
    have q := (tl_eq hSl digitsW).trans (decide_eq_false hne)
    unfold digitsW at q
    clear hB hr hFe hF hq hS hSl hd hne hnw hcw
    go_enter Tryz.func60, Tryz.ntmps60
    go_wp2_with (first
      | (go_at_call 85; refine (HN.out _ HI.out).mono ?_; rintro e w5 ⟨rfl, hb5⟩)
      | fail)
    go_ret
    exact .inr ⟨rfl, rfl, hb5⟩
  case pos =>
    cases ws with
    | nil => cases hd
    | cons x r =>
      obtain rfl : x = digitsW := by simpa using hd
      have q := (tl_eq hSl digitsW).trans (decide_eq_true rfl)
      unfold digitsW at q
      obtain ⟨b, off, rfl, hbb, -⟩ := hr.get1 (k := 0) (by simp)
      have HCell := hide (fun (W : World) (hb : Below w.heap.size w W) => cell_block (HB.out.below hb).box 1)
      have HNum := hide (fun (W : World) (hb : Below w.heap.size w W) (k : Nat) (y : Wd) (hy : (digitsW :: r)[k]? = some y) (c : Nat) => numberP W (some ⟨b, off + k, none⟩) 1 c [y] rfl (by omega) (row_one ((hr.below (StrAt.stays _) (hb.mono (Nat.le_of_lt hBl))).more (Nat.le_trans (Nat.le_of_lt hBl) hb.size)) hy) (fun s hs => by rw [List.mem_singleton.1 hs]; exact hws y (List.mem_of_getElem? hy)))
      obtain ⟨FG, hFG⟩ : ∃ FG, figs r = FG := ⟨_, rfl⟩
      have hFGl := figs_len r
      rw [List.drop_succ_cons, List.drop_zero] at hFe
      rw [hFG] at hFe hFGl
      have Hnw := hide (And.intro hnw hcw)
      have hn1 : 1 ≤ nw := by rw [← hnw, List.length_cons]; omega
      have hnl : FG.length + 1 ≤ nw := by rw [← hnw, List.length_cons]; omega
      have hnw6 : nw ≤ 1000000 := by omega
      have hcwn : nw ≤ cw := hcw
      have HFG := hide hFG
      have HFe := hide hFe
      have Hq := hide hq
      clear hB hr hFe hF hq hS hSl hd hnw hcw hFG
      go_enter Tryz.func60, Tryz.ntmps60
      go_upto_block 0 with (first
        | (go_at_call 85; refine (HN.out _ HI.out).mono ?_; rintro e w5 ⟨rfl, hb5⟩; have HB5 := hide hb5; clear hb5)
        | fail)
      go_cut [3, 4] (fun s i wx => ∃ SK : ByteArray, s = .string SK ∧ SK.data.toList = FG ∧ i = .int .i64 (1 + FG.length : Nat) ∧ Below w.heap.size w wx)
      case first =>
        go_wp2_with fail
        go_loopw [3, 4] (fun sv iv wr => ∃ (k : Nat) (SK : ByteArray), 1 ≤ k ∧ k ≤ nw ∧ iv = .int .i64 k ∧ sv = .string SK ∧ SK.size + 1 = k ∧ SK.data.toList ++ figs ((digitsW :: r).drop k) = FG ∧ Below w.heap.size w wr) (fun _ iv _ => nw - (intOf iv).toNat)
        case atStart => exact ⟨1, ⟨#[]⟩, Nat.le_refl _, hn1, rfl, rfl, rfl, HFG.out, HB5.out⟩
        case round =>
          rename World => wo
          obtain ⟨k, SK, hk1, hkn, rfl, rfl, hSKs, hfg, hbr⟩ := hrel
          have HBr := hide hbr
          have k1 := HCell.out wo hbr
          have HSl := hide (Lib.size_eq SK)
          have HSs := hide hSKs
          by_cases hlt : k < nw
          · have hkI : (k : Int) < (nw : Int) := by omega
            have hk0 : (0 : Int) ≤ (k : Int) := by omega
            have hwk : IntKind.i64.wrap ((k : Int) + 1) = (k : Int) + 1 := IntWalk.i64_in _ (by omega)
            have g1 : (k : Int) ≤ (k : Int) + 1 := by omega
            have g2 : (k : Int) + 1 ≤ (cw : Int) := by omega
            have g3 : ((k : Int) + 1).toNat = k + 1 := by omega
            have g4 : (0 : Int) ≤ (k : Int) + 1 := by omega
            have g5 : k ≤ k + 1 := by omega
            have g6 : k + 1 - k = 1 := by omega
            have g7 : ¬ cw = k := by omega
            have g8 : k < cw := by omega
            have g9 : (k : Int) ≤ max ((k : Int) + 1) 0 := by omega
            have hkl : k < (digitsW :: r).length := by rw [Hnw.out.1]; exact hlt
            have hy : (digitsW :: r)[k]? = some (digitsW :: r)[k] := List.getElem?_eq_getElem hkl
            have hdr : (digitsW :: r).drop k = (digitsW :: r)[k] :: (digitsW :: r).drop (k + 1) := List.drop_eq_getElem_cons hkl
            obtain ⟨y, hyy⟩ : ∃ y, (digitsW :: r)[k] = y := ⟨_, rfl⟩
            rw [hyy] at hy hdr
            rw [hdr, figs_cons] at hfg
            have HNy := hide (fun (W : World) (hb : Below w.heap.size w W) (c : Nat) => HNum.out W hb k y hy c)
            unfold digOf at hfg
            obtain ⟨NF, hNF⟩ : ∃ NF, numF [y] = NF := ⟨_, rfl⟩
            rw [hNF] at HNy hfg
            clear hy hdr hyy hNF hbr
            cases NF with
            | none =>
              rw [List.append_nil] at hfg
              have Hfg := hide hfg
              clear hfg
              go_wp2_with (first
                | (go_at_call 90; refine (HNy.out _ HBr.out _).mono ?_; rintro e w6 ⟨rfl, hb6⟩)
                | fail)
              go_meet
              case rel => exact ⟨SK, rfl, Hfg.out, by rw [← Hfg.out, ← HSl.out, Nat.add_comm, HSs.out], HBr.out.trans (hb6.mono HBr.out.size)⟩
            | some d =>
              by_cases hd9 : 0 ≤ d ∧ d ≤ 9
              · dsimp only at hfg
                rw [if_pos hd9] at hfg
                obtain ⟨U, hU⟩ : ∃ U : ByteArray, (⟨#[48 + d.toNat.toUInt8]⟩ : ByteArray) = U := ⟨_, rfl⟩
                have hUd : Utf8.encode (48 + d) = U := by
                  rw [← hU, ← utf8_dig d.toNat (by omega)]
                  congr 1
                  omega
                have hUl : U.data.toList = [48 + d.toNat.toUInt8] := by rw [← hU]
                have hUs : U.size = 1 := by rw [Lib.size_eq, hUl]; rfl
                have hcat : SK.size + U.size ≤ 9223372036854775807 := by omega
                have w64 : IntKind.i64.wrap (48 + d) = 48 + d := IntWalk.i64_in _ (by omega)
                have w32 : IntKind.i32.wrap (48 + d) = 48 + d := IntWalk.i32_in _ (by omega)
                have h0 : ¬ d < 0 := by omega
                have h9 : ¬ 9 < d := by omega
                have Hfg := hide hfg
                have HUl := hide hUl
                have HUs := hide hUs
                clear hfg hU hUl hUs hSKs hd9
                go_wp2_with (first
                  | (go_at_call 90; refine (HNy.out _ HBr.out _).mono ?_; rintro e w6 ⟨rfl, hb6⟩)
                  | fail)
                refine ⟨⟨k + 1, SK ++ U, by omega, by omega, by go_num, rfl, ?_, ?_, HBr.out.trans (hb6.mono HBr.out.size)⟩, by simp [intOf]; omega⟩
                · rw [ByteArray.size_append, HUs.out, HSs.out]
                · rw [ba_append, HUl.out, List.append_assoc]; exact Hfg.out
              · dsimp only at hfg
                rw [if_neg hd9, List.append_nil] at hfg
                have Hfg := hide hfg
                clear hfg
                by_cases h0 : d < 0
                · go_wp2_with (first
                    | (go_at_call 90; refine (HNy.out _ HBr.out _).mono ?_; rintro e w6 ⟨rfl, hb6⟩)
                    | fail)
                  go_meet
                  case rel => exact ⟨SK, rfl, Hfg.out, by rw [← Hfg.out, ← HSl.out, Nat.add_comm, HSs.out], HBr.out.trans (hb6.mono HBr.out.size)⟩
                · have h9 : 9 < d := by omega
                  clear hd9
                  go_wp2_with (first
                    | (go_at_call 90; refine (HNy.out _ HBr.out _).mono ?_; rintro e w6 ⟨rfl, hb6⟩)
                    | fail)
                  go_meet
                  case rel => exact ⟨SK, rfl, Hfg.out, by rw [← Hfg.out, ← HSl.out, Nat.add_comm, HSs.out], HBr.out.trans (hb6.mono HBr.out.size)⟩
          · obtain rfl : k = nw := by omega
            rw [List.drop_eq_nil_of_le (by rw [Hnw.out.1]; exact Nat.le_refl _)] at hfg
            have Hfg := hide (show SK.data.toList = FG by simpa [figs] using hfg)
            clear hfg hbr
            go_wp2_with fail
            go_meet
            case rel => exact ⟨SK, rfl, Hfg.out, by rw [← Hfg.out, ← HSl.out, ← HSs.out, Nat.add_comm], HBr.out⟩
      case rest =>
        obtain ⟨SK, rfl, hSK, rfl, hbc⟩ := hcut
        have HBc := hide hbc
        clear hbc
        by_cases hFG : FG = []
        · have hFk : F = none := by rw [HFe.out, if_neg (fun h => h.2 hFG)]
          subst hFk
          have q2 : (SK.toList == []) = true := by rw [ByteArray.toList_eq, hSK, hFG]; rfl
          have q3 : SK.toList.isEmpty = true := by rw [ByteArray.toList_eq, hSK, hFG]; rfl
          clear hSK hFG
          go_wp2
          go_ret
          exact .inr ⟨rfl, rfl, HBc.out⟩
        · obtain ⟨z, hz⟩ : ∃ z, (PS.text ⟨digitsW :: r, out, st, jo⟩ FG).take (1 + FG.length) = z := ⟨_, rfl⟩
          have hFk : F = some z := by rw [HFe.out, if_pos ⟨rfl, hFG⟩, hz]
          have hzl := Hq.out z hFk
          have hTb : (PS.text ⟨digitsW :: r, out, st, jo⟩ FG).out.length ≤ 1000000 := by rw [← hz] at hzl; exact hzl
          obtain rfl : F = some z := hFk
          have HT := hide (fun (W : World) (hI : PB B w W bR ⟨digitsW :: r, out, st, jo⟩) => textP W W B bR ⟨digitsW :: r, out, st, jo⟩ hI.again SK (by rw [hSK]; exact hTb))
          rw [hSK] at HT
          have HTk := hide (fun (W : World) (hI : PB B w W bR (PS.text ⟨digitsW :: r, out, st, jo⟩ FG)) => takeP W W B bR (PS.text ⟨digitsW :: r, out, st, jo⟩ FG) hI.again (1 + FG.length) (by omega) (by show _ ≤ (digitsW :: r).length; rw [Hnw.out.1]; omega) hwl)
          rw [hz] at HTk
          have q2 : (SK.toList == []) = false := by rw [ByteArray.toList_eq, hSK]; exact beq_eq_false_iff_ne.2 hFG
          have q3 : SK.toList.isEmpty = false := by rw [ByteArray.toList_eq, hSK]; cases FG with
            | nil => exact absurd rfl hFG
            | cons a b => rfl
          obtain ⟨M, hM⟩ : ∃ M, 1 + FG.length = M := ⟨_, rfl⟩
          rw [hM] at HTk ⊢
          clear hSK hFG hz hzl hTb hM
          go_wp2_with (first
            | (go_at_call 86; refine (HTk.out _ HI7.out).mono ?_; rintro e w8 ⟨rfl, hI8⟩; have HI8 := hide (PB.trans HI7.out hI8); clear hI8)
            | (go_at_call 89; refine (HT.out _ (HI.out.below HBc.out)).mono ?_; rintro e w7 ⟨rfl, hI7⟩; have HI7 := hide (PB.trans (HI.out.below HBc.out) hI7); clear hI7)
            | fail)
          go_ret
          exact .inl ⟨z, rfl, rfl, HI8.out⟩
end Go.Proofs.YtdkppdjonlldhaaGreatDoor

/- The parser's style words. -/
namespace Go.Proofs.YtdkppdjonlldhaaGreatDoor
open Go.RowKit Go.Maps Go.Shelf

def idxV (o : Option Nat) : Value := match o with | some k => .int .i64 k | none => .int .i64 (-1)
theorem find_at {l : List Wd} {x : Wd} {k : Nat} (h : l[k]? = some x) (hn : ∀ (j : Nat) (y : Wd), j < k → l[j]? = some y → y ≠ x) : l.findIdx? (· == x) = some k := by
  obtain ⟨hk, he⟩ := List.getElem?_eq_some_iff.1 h
  rw [List.findIdx?_eq_some_iff_getElem]
  refine ⟨hk, by rw [he]; exact beq_self_eq_true x, fun j hj => ?_⟩
  have := hn j (l[j]) hj (List.getElem?_eq_getElem _)
  simpa using this
theorem find_no {l : List Wd} {x : Wd} (hn : ∀ (j : Nat) (y : Wd), j < l.length → l[j]? = some y → y ≠ x) : l.findIdx? (· == x) = none := by
  rw [List.findIdx?_eq_none_iff]
  intro y hy
  obtain ⟨j, hj, rfl⟩ := List.getElem_of_mem hy
  simpa using hn j _ hj (List.getElem?_eq_getElem _)
set_option maxRecDepth 100000 in
set_option maxHeartbeats 1000000 in
theorem indexStrP (w : World) (b off n c : Nat) (l : List Wd) (hl : l.length = n) (hn : n ≤ 1000000) (hrow : StrRow w w.heap.size (some ⟨b, off, none⟩) l) (T : ByteArray) (x : Wd) (hT : T.data.toList = x) :
    Calls Tryz.prog 84 #[.slice (some ⟨b, off, none⟩) n c, .string T] w fun e w' => e = .returned (idxV (l.findIdx? (· == x))) ∧ Below w.heap.size w w' := by
  have hb := Below.refl w.heap.size w
  have Hl := hide hl
  have Hcell := hide (fun (k : Nat) (y : Wd) (hy : l[k]? = some y) (W : World) (hW : Below w.heap.size w W) => show W.cell? ⟨b, off + k, none⟩ = some (strV y) from by
    have hk := (List.getElem?_eq_some_iff.1 hy).1
    obtain ⟨b', o', he, hb', hc⟩ := hrow (by omega)
    cases he
    have := hc k y hy
    rw [Nat.mul_one] at this
    exact (hW.cell (p := ⟨b, off + k, none⟩) hb').trans this)
  obtain ⟨R, hR⟩ : ∃ R, l.findIdx? (· == x) = R := ⟨_, rfl⟩
  have HR := hide hR
  rw [hR]
  clear hl hrow hR
  go_enter Tryz.func84, Tryz.ntmps84
  go_wp2
  go_loopw [8] (fun i wr => ∃ k : Nat, k ≤ n ∧ i = .int .i64 k ∧ (∀ (j : Nat) (y : Wd), j < k → l[j]? = some y → y ≠ x) ∧ Below w.heap.size w wr) (fun i _ => n - (intOf i).toNat)
  case atStart => exact ⟨0, Nat.zero_le _, rfl, fun j _ h => absurd h (Nat.not_lt_zero _), hb⟩
  case round =>
    obtain ⟨k, hk, rfl, hall, hbr⟩ := hrel
    rename World => wo
    have HA := hide hall
    have HB := hide hbr
    by_cases hlt : k < n
    · have hkI : (k : Int) < (n : Int) := by omega
      have hk0 : (0 : Int) ≤ (k : Int) := by omega
      have hkl : k < l.length := by rw [Hl.out]; exact hlt
      have hy : l[k]? = some l[k] := List.getElem?_eq_getElem hkl
      obtain ⟨y, hyy⟩ : ∃ y, l[k] = y := ⟨_, rfl⟩
      rw [hyy] at hy
      have hyc := Hcell.out k y hy wo hbr
      unfold strV at hyc
      obtain ⟨Y, hY⟩ : ∃ Y : ByteArray, (⟨y.toArray⟩ : ByteArray) = Y := ⟨_, rfl⟩
      have hYl : Y.data.toList = y := by rw [← hY]
      rw [hY] at hyc
      have Hy := hide hy
      clear hall hbr hyy hY hy
      by_cases he : y = x
      · have q : (T.toList == Y.toList) = true := by rw [ByteArray.toList_eq, ByteArray.toList_eq, hT, hYl, he]; exact beq_self_eq_true x
        obtain rfl : R = some k := HR.out.symm.trans (find_at (he ▸ Hy.out) HA.out)
        clear he hYl
        go_wp2
        go_ret
        exact ⟨rfl, HB.out⟩
      · have q : (T.toList == Y.toList) = false := by rw [ByteArray.toList_eq, ByteArray.toList_eq, hT, hYl]; exact beq_eq_false_iff_ne.2 (fun e => he e.symm)
        have He := hide he
        clear he hYl
        go_wp2
        go_roundw
        case rel => exact ⟨k + 1, by omega, by go_num, fun j y2 hj hy2 => by
          by_cases e : j = k
          · subst e
            rw [Hy.out] at hy2
            cases hy2
            exact He.out
          · exact HA.out j y2 (by omega) hy2, HB.out⟩
        case measure => simp [intOf]; omega
    · obtain rfl : k = n := by omega
      obtain rfl : R = none := HR.out.symm.trans (find_no (by rw [Hl.out]; exact hall))
      clear hall hbr
      go_wp2
      go_ret
      exact ⟨rfl, HB.out⟩
theorem sty_row {w : World} (h : StyT w) : StrRow w w.heap.size (some ⟨0, 0, none⟩) stylL := fun _ => by
  refine ⟨0, 0, rfl, sty_lt h, fun k x hx => ?_⟩
  have hk := (List.getElem?_eq_some_iff.1 hx).1
  have h1 := sty_cell h k hk
  show w.cell? ⟨_, 0 + k * 1, none⟩ = some (strV x)
  rw [Nat.mul_one, Nat.zero_add, h1, List.getD_eq_getElem?_getD, hx]; rfl
set_option maxRecDepth 100000 in
set_option maxHeartbeats 4000000 in
theorem styledP (w0 w : World) (hT : StyT w0) (hw : Below w0.heap.size w0 w) (B bR : Nat) (p : PS) (hI : PB B w w bR p) (hwl : p.words.length ≤ 1000000) :
    Calls Tryz.prog 58 #[.pointer (some ⟨B, 0, none⟩)] w (ReadRet B bR w (styledF p)) := by
  have HI := hide hI
  have hBl := hI.lt
  obtain ⟨Aw, nw, cw, ov, hB, hnw, hcw, hr⟩ := hI
  obtain ⟨ws, out, st, jo⟩ := p
  dsimp only at hnw hr hwl hB
  have HB := hide hB
  have Hr := hide hr
  have HIx := hide (fun (W : World) (hb : Below w.heap.size w W) (T : ByteArray) (x : Wd) (h : T.data.toList = x) => indexStrP W 0 0 4 4 stylL rfl (by omega) (((sty_row hT).below (StrAt.stays _) (hw.trans (hb.mono hw.size))).more (Nat.le_trans hw.size hb.size)) T x h)
  have hb := Below.refl w.heap.size w
  have hbd := hb.drew
  cases ws with
  | nil =>
    have HN := hide (fun (W : World) (hI : PB B w W bR ⟨[], out, st, jo⟩) => nextP W w B bR _ hI)
    have hF : styledF ⟨[], out, st, jo⟩ = none := rfl
    rw [hF]
    have hx0 : stylL.findIdx? (· == ([] : Wd)) = none := by decide
    have hx : idxV (stylL.findIdx? (· == ([] : Wd))) = .int .i64 (-1) := by rw [hx0]; rfl
    have Hx := hide hx
    obtain ⟨S, hS⟩ : ∃ S : ByteArray, (⟨([] : Wd).toArray⟩ : ByteArray) = S := ⟨_, rfl⟩
    have hSl : S.data.toList = [] := by rw [← hS]
    dsimp only [List.headD] at HN
    rw [hS] at HN
    have HSl := hide hSl
    have q := (tl_eq hSl joinedW).trans (decide_eq_false (by decide))
    unfold joinedW at q
    clear hB hr hnw hcw hF hT hw hx hx0 hS hSl
    go_enter Tryz.func58, Tryz.ntmps58
    go_upto_region 1 with fail
    refine td_begin (by kernel_rfl) ?_
    refine td_hold (fun W => Below w.heap.size w W) [] (by decide +kernel) ?_ (fun hHeld => ?_)
    · (exact hbd)
    (refine td_take 0 (v := ?_) rfl (by decide) (by kernel_rfl) (by decide +kernel) (by decide +kernel) (fun _ _ _ h => h) (by assumption) (by rfl) ?_ ?_; rotate_left; (· (intro w hSw; (try dsimp only at hSw); skip; (go_simp <;> with_reducible rfl))); (try simp only [Act.put, List.setIfInBounds_toArray, List.set_cons_zero, List.set_cons_succ]))
    (refine td_take 1 (v := ?_) rfl (by decide) (by kernel_rfl) (by decide +kernel) (by decide +kernel) (fun _ _ _ h => h) (by assumption) (by rfl) ?_ ?_; rotate_left; (· (intro w hSw; (try dsimp only at hSw); skip; (go_simp <;> with_reducible rfl))); (try simp only [Act.put, List.setIfInBounds_toArray, List.set_cons_zero, List.set_cons_succ]))
    (refine td_ready (rs := [2]) (by decide +kernel) (by decide) (by simp) ?_; refine td_cons rfl (fun K hK => ?_) td_nil; (go_simp; go_at_call 85; refine (HN.out _ (HI.out.below hbd)).mono ?_; rintro e w3 ⟨rfl, hb3⟩; have hbd := hbd.trans (hb3.mono hbd.size); clear hb3; (first | refine hK.out _ _ ?_ ?_ | (go_wp2_with fail; refine hK.out _ _ ?_ ?_)); (· (exact hbd)); clear hK K hHeld; intro hHeld; (try simp only [Act.put, List.setIfInBounds_toArray, List.set_cons_zero, List.set_cons_succ])))
    (refine td_ready (rs := [3]) (by decide +kernel) (by decide) (by simp) ?_; refine td_cons rfl (fun K hK => ?_) td_nil; (go_simp; go_at_call 84; refine (HIx.out _ hbd S [] HSl.out).mono ?_; rintro e w4 ⟨rfl, hb4⟩; rw [Hx.out]; have hbd := hbd.trans (hb4.mono hbd.size); clear hb4; (first | refine hK.out _ _ ?_ ?_ | (go_wp2_with fail; refine hK.out _ _ ?_ ?_)); (· (exact hbd)); clear hK K hHeld; intro hHeld; (try simp only [Act.put, List.setIfInBounds_toArray, List.set_cons_zero, List.set_cons_succ])))
    (refine td_take 4 (v := ?_) rfl (by decide) (by kernel_rfl) (by decide +kernel) (by decide +kernel) (fun _ _ _ h => h) (by assumption) (by rfl) ?_ ?_; rotate_left; (· (intro w hSw; (try dsimp only at hSw); skip; (go_simp <;> with_reducible rfl))); (try simp only [Act.put, List.setIfInBounds_toArray, List.set_cons_zero, List.set_cons_succ]))
    refine And.intro (by decide +kernel) ?_
    have HBD := hide hbd
    clear hbd
    go_wp2_with (first
      | (go_at_call 85; refine (HN.out _ (HI.out.below HBD.out)).mono ?_; rintro e w5 ⟨rfl, hb5⟩; have HB5 := hide (HBD.out.trans (hb5.mono HBD.out.size)); clear hb5)
      | fail)
    go_ret
    exact .inr ⟨rfl, rfl, HB5.out⟩
  | cons x r =>
    obtain ⟨b, off, rfl, hbb, -⟩ := hr.get1 (k := 0) (by simp)
    have HN := hide (fun (W : World) (hI : PB B w W bR ⟨x :: r, out, st, jo⟩) => nextP W w B bR _ hI)
    obtain ⟨S, hS⟩ : ∃ S : ByteArray, (⟨x.toArray⟩ : ByteArray) = S := ⟨_, rfl⟩
    have hSl : S.data.toList = x := by rw [← hS]
    dsimp only [List.headD] at HN
    rw [hS] at HN
    have Hw := hide (And.intro hnw hcw)
    have HSl := hide hSl
    have HStep := hide (fun (z : Int) (j2 : Bool) (W : World) (H : BoxO B w W 71 #[.map (some bR), .slice (some ⟨b, off, none⟩) nw cw, ov, .int .i64 z, .bool j2] 42 3 ov out.length (out.flatMap Gl.enc)) => show PB B w W bR ⟨x :: r, out, z, j2⟩ from ⟨some ⟨b, off, none⟩, nw, cw, ov, H, hnw, hcw, hr.below (StrAt.stays _) H.bl⟩)
    have HTk := hide (fun (z : Int) (j2 : Bool) (W : World) (hI : PB B w W bR ⟨x :: r, out, z, j2⟩) => takeP W W B bR ⟨x :: r, out, z, j2⟩ hI.again 1 (Nat.le_refl 1) (by show 1 ≤ (x :: r).length; simp) hwl)
    rw [show (((1 : Nat) : Int)) = 1 from rfl] at HTk
    have hFe : styledF ⟨x :: r, out, st, jo⟩ = match stylL.findIdx? (· == x) with
      | some k => some ⟨r, out, k, false⟩
      | none => if x = joinedW then some ⟨r, out, st, false⟩ else none := rfl
    obtain ⟨F, hF⟩ : ∃ F, styledF ⟨x :: r, out, st, jo⟩ = F := ⟨_, rfl⟩
    rw [hF] at hFe ⊢
    obtain ⟨K, hK⟩ : ∃ K, stylL.findIdx? (· == x) = K := ⟨_, rfl⟩
    rw [hK] at hFe
    have HKK := hide (show idxV (stylL.findIdx? (· == x)) = idxV K by rw [hK])
    clear hB hr hnw hcw hF hT hw hS
    cases K with
    | some k =>
      have hk4 : k < 4 := by
        have h := hK
        rw [List.findIdx?_eq_some_iff_getElem] at h
        exact h.1
      have hFk : F = some ⟨r, out, k, false⟩ := hFe
      subst hFk
      have HKV := hide (show idxV (some k) = .int .i64 (k : Int) from rfl)
      have g1 : ¬ (k : Int) < 0 := by omega
      have g2 : (0 : Int) ≤ (k : Int) := by omega
      clear hFe hK hSl
      go_enter Tryz.func58, Tryz.ntmps58
      go_upto_region 1 with fail
      refine td_begin (by kernel_rfl) ?_
      refine td_hold (fun W => Below w.heap.size w W) [] (by decide +kernel) ?_ (fun hHeld => ?_)
      · (exact hbd)
      (refine td_take 0 (v := ?_) rfl (by decide) (by kernel_rfl) (by decide +kernel) (by decide +kernel) (fun _ _ _ h => h) (by assumption) (by rfl) ?_ ?_; rotate_left; (· (intro w hSw; (try dsimp only at hSw); skip; (go_simp <;> with_reducible rfl))); (try simp only [Act.put, List.setIfInBounds_toArray, List.set_cons_zero, List.set_cons_succ]))
      (refine td_take 1 (v := ?_) rfl (by decide) (by kernel_rfl) (by decide +kernel) (by decide +kernel) (fun _ _ _ h => h) (by assumption) (by rfl) ?_ ?_; rotate_left; (· (intro w hSw; (try dsimp only at hSw); skip; (go_simp <;> with_reducible rfl))); (try simp only [Act.put, List.setIfInBounds_toArray, List.set_cons_zero, List.set_cons_succ]))
      (refine td_ready (rs := [2]) (by decide +kernel) (by decide) (by simp) ?_; refine td_cons rfl (fun K hK => ?_) td_nil; (go_simp; go_at_call 85; refine (HN.out _ (HI.out.below hbd)).mono ?_; rintro e w3 ⟨rfl, hb3⟩; have hbd := hbd.trans (hb3.mono hbd.size); clear hb3; (first | refine hK.out _ _ ?_ ?_ | (go_wp2_with fail; refine hK.out _ _ ?_ ?_)); (· (exact hbd)); clear hK K hHeld; intro hHeld; (try simp only [Act.put, List.setIfInBounds_toArray, List.set_cons_zero, List.set_cons_succ])))
      (refine td_ready (rs := [3]) (by decide +kernel) (by decide) (by simp) ?_; refine td_cons rfl (fun K hK => ?_) td_nil; (go_simp; go_at_call 84; refine (HIx.out _ hbd S x HSl.out).mono ?_; rintro e w4 ⟨rfl, hb4⟩; rw [HKK.out, HKV.out]; have hbd := hbd.trans (hb4.mono hbd.size); clear hb4; (first | refine hK.out _ _ ?_ ?_ | (go_wp2_with fail; refine hK.out _ _ ?_ ?_)); (· (exact hbd)); clear hK K hHeld; intro hHeld; (try simp only [Act.put, List.setIfInBounds_toArray, List.set_cons_zero, List.set_cons_succ])))
      (refine td_take 4 (v := ?_) rfl (by decide) (by kernel_rfl) (by decide +kernel) (by decide +kernel) (fun _ _ _ h => h) (by assumption) (by rfl) ?_ ?_; rotate_left; (· (intro w hSw; (try dsimp only at hSw); skip; (go_simp <;> with_reducible rfl))); (try simp only [Act.put, List.setIfInBounds_toArray, List.set_cons_zero, List.set_cons_succ]))
      refine And.intro (by decide +kernel) ?_
      have hB3 := HB.out.below hbd
      obtain ⟨w3', hw3'⟩ : ∃ w3', w4 = w3' := ⟨_, rfl⟩
      rw [hw3'] at hB3 ⊢
      clear hbd
      have k3 := cell_block hB3.box 3
      have f3 := frozen_block hB3.box 3
      have hB4 : BoxO B w (w3'.setCell ⟨B, 3, none⟩ (.int .i64 (k : Int))) 71 #[.map (some bR), .slice (some ⟨b, off, none⟩) nw cw, ov, .int .i64 (k : Int), .bool jo] 42 3 ov out.length (out.flatMap Gl.enc) := hB3.set 3 _
      have k4 := cell_block hB4.box 4
      have f4 := frozen_block hB4.box 4
      have hB5 : BoxO B w ((w3'.setCell ⟨B, 3, none⟩ (.int .i64 (k : Int))).setCell ⟨B, 4, none⟩ (.bool false)) 71 #[.map (some bR), .slice (some ⟨b, off, none⟩) nw cw, ov, .int .i64 (k : Int), .bool false] 42 3 ov out.length (out.flatMap Gl.enc) := hB4.set 4 _
      have HP5 := hide (HStep.out _ _ _ hB5)
      clear hB3 hB4 hB5
      go_wp2_with (first
        | (go_at_call 86; refine (HTk.out _ _ _ HP5.out).mono ?_; rintro e w8 ⟨rfl, hI8⟩; have HI8 := hide (PB.trans HP5.out hI8); clear hI8)
        | fail)
      go_ret
      exact .inl ⟨_, rfl, rfl, HI8.out⟩
    | none =>
      have HKV := hide (show idxV none = .int .i64 (-1) from rfl)
      by_cases hj : x = joinedW
      · have hFk : F = some ⟨r, out, st, false⟩ := by rw [hFe]; exact if_pos hj
        subst hFk
        have q := (tl_eq hSl joinedW).trans (decide_eq_true hj)
        unfold joinedW at q
        clear hFe hK hSl hj
        go_enter Tryz.func58, Tryz.ntmps58
        go_upto_region 1 with fail
        refine td_begin (by kernel_rfl) ?_
        refine td_hold (fun W => Below w.heap.size w W) [] (by decide +kernel) ?_ (fun hHeld => ?_)
        · (exact hbd)
        (refine td_take 0 (v := ?_) rfl (by decide) (by kernel_rfl) (by decide +kernel) (by decide +kernel) (fun _ _ _ h => h) (by assumption) (by rfl) ?_ ?_; rotate_left; (· (intro w hSw; (try dsimp only at hSw); skip; (go_simp <;> with_reducible rfl))); (try simp only [Act.put, List.setIfInBounds_toArray, List.set_cons_zero, List.set_cons_succ]))
        (refine td_take 1 (v := ?_) rfl (by decide) (by kernel_rfl) (by decide +kernel) (by decide +kernel) (fun _ _ _ h => h) (by assumption) (by rfl) ?_ ?_; rotate_left; (· (intro w hSw; (try dsimp only at hSw); skip; (go_simp <;> with_reducible rfl))); (try simp only [Act.put, List.setIfInBounds_toArray, List.set_cons_zero, List.set_cons_succ]))
        (refine td_ready (rs := [2]) (by decide +kernel) (by decide) (by simp) ?_; refine td_cons rfl (fun K hK => ?_) td_nil; (go_simp; go_at_call 85; refine (HN.out _ (HI.out.below hbd)).mono ?_; rintro e w3 ⟨rfl, hb3⟩; have hbd := hbd.trans (hb3.mono hbd.size); clear hb3; (first | refine hK.out _ _ ?_ ?_ | (go_wp2_with fail; refine hK.out _ _ ?_ ?_)); (· (exact hbd)); clear hK K hHeld; intro hHeld; (try simp only [Act.put, List.setIfInBounds_toArray, List.set_cons_zero, List.set_cons_succ])))
        (refine td_ready (rs := [3]) (by decide +kernel) (by decide) (by simp) ?_; refine td_cons rfl (fun K hK => ?_) td_nil; (go_simp; go_at_call 84; refine (HIx.out _ hbd S x HSl.out).mono ?_; rintro e w4 ⟨rfl, hb4⟩; rw [HKK.out, HKV.out]; have hbd := hbd.trans (hb4.mono hbd.size); clear hb4; (first | refine hK.out _ _ ?_ ?_ | (go_wp2_with fail; refine hK.out _ _ ?_ ?_)); (· (exact hbd)); clear hK K hHeld; intro hHeld; (try simp only [Act.put, List.setIfInBounds_toArray, List.set_cons_zero, List.set_cons_succ])))
        (refine td_take 4 (v := ?_) rfl (by decide) (by kernel_rfl) (by decide +kernel) (by decide +kernel) (fun _ _ _ h => h) (by assumption) (by rfl) ?_ ?_; rotate_left; (· (intro w hSw; (try dsimp only at hSw); skip; (go_simp <;> with_reducible rfl))); (try simp only [Act.put, List.setIfInBounds_toArray, List.set_cons_zero, List.set_cons_succ]))
        refine And.intro (by decide +kernel) ?_
        have HBD := hide hbd
        clear hbd
        go_wp2_with (first
          | (go_at_call 86; refine (HTk.out _ _ _ HP5.out).mono ?_; rintro e w8 ⟨rfl, hI8⟩; have HI8 := hide (PB.trans HP5.out hI8); clear hI8)
          | (go_at_call 85; refine (HN.out _ (HI.out.below HBD.out)).mono ?_; rintro e w5 ⟨rfl, hb5⟩; have hB5 := HB.out.below (HBD.out.trans (hb5.mono HBD.out.size)); have k5 := cell_block hB5.box 4; have f5 := frozen_block hB5.box 4; have HP5 := hide (HStep.out _ _ _ (show BoxO B w (w5.setCell ⟨B, 4, none⟩ (.bool false)) 71 #[.map (some bR), .slice (some ⟨b, off, none⟩) nw cw, ov, .int .i64 st, .bool false] 42 3 ov out.length (out.flatMap Gl.enc) from hB5.set 4 _)); clear hb5 hB5)
          | fail)
        go_ret
        exact .inl ⟨_, rfl, rfl, HI8.out⟩
      · have hFk : F = none := by rw [hFe]; exact if_neg hj
        subst hFk
        have q := (tl_eq hSl joinedW).trans (decide_eq_false hj)
        unfold joinedW at q
        clear hFe hK hSl hj
        go_enter Tryz.func58, Tryz.ntmps58
        go_upto_region 1 with fail
        refine td_begin (by kernel_rfl) ?_
        refine td_hold (fun W => Below w.heap.size w W) [] (by decide +kernel) ?_ (fun hHeld => ?_)
        · (exact hbd)
        (refine td_take 0 (v := ?_) rfl (by decide) (by kernel_rfl) (by decide +kernel) (by decide +kernel) (fun _ _ _ h => h) (by assumption) (by rfl) ?_ ?_; rotate_left; (· (intro w hSw; (try dsimp only at hSw); skip; (go_simp <;> with_reducible rfl))); (try simp only [Act.put, List.setIfInBounds_toArray, List.set_cons_zero, List.set_cons_succ]))
        (refine td_take 1 (v := ?_) rfl (by decide) (by kernel_rfl) (by decide +kernel) (by decide +kernel) (fun _ _ _ h => h) (by assumption) (by rfl) ?_ ?_; rotate_left; (· (intro w hSw; (try dsimp only at hSw); skip; (go_simp <;> with_reducible rfl))); (try simp only [Act.put, List.setIfInBounds_toArray, List.set_cons_zero, List.set_cons_succ]))
        (refine td_ready (rs := [2]) (by decide +kernel) (by decide) (by simp) ?_; refine td_cons rfl (fun K hK => ?_) td_nil; (go_simp; go_at_call 85; refine (HN.out _ (HI.out.below hbd)).mono ?_; rintro e w3 ⟨rfl, hb3⟩; have hbd := hbd.trans (hb3.mono hbd.size); clear hb3; (first | refine hK.out _ _ ?_ ?_ | (go_wp2_with fail; refine hK.out _ _ ?_ ?_)); (· (exact hbd)); clear hK K hHeld; intro hHeld; (try simp only [Act.put, List.setIfInBounds_toArray, List.set_cons_zero, List.set_cons_succ])))
        (refine td_ready (rs := [3]) (by decide +kernel) (by decide) (by simp) ?_; refine td_cons rfl (fun K hK => ?_) td_nil; (go_simp; go_at_call 84; refine (HIx.out _ hbd S x HSl.out).mono ?_; rintro e w4 ⟨rfl, hb4⟩; rw [HKK.out, HKV.out]; have hbd := hbd.trans (hb4.mono hbd.size); clear hb4; (first | refine hK.out _ _ ?_ ?_ | (go_wp2_with fail; refine hK.out _ _ ?_ ?_)); (· (exact hbd)); clear hK K hHeld; intro hHeld; (try simp only [Act.put, List.setIfInBounds_toArray, List.set_cons_zero, List.set_cons_succ])))
        (refine td_take 4 (v := ?_) rfl (by decide) (by kernel_rfl) (by decide +kernel) (by decide +kernel) (fun _ _ _ h => h) (by assumption) (by rfl) ?_ ?_; rotate_left; (· (intro w hSw; (try dsimp only at hSw); skip; (go_simp <;> with_reducible rfl))); (try simp only [Act.put, List.setIfInBounds_toArray, List.set_cons_zero, List.set_cons_succ]))
        refine And.intro (by decide +kernel) ?_
        have HBD := hide hbd
        clear hbd
        go_wp2_with (first
          | (go_at_call 85; refine (HN.out _ (HI.out.below HBD.out)).mono ?_; rintro e w5 ⟨rfl, hb5⟩; have HB5 := hide (HBD.out.trans (hb5.mono HBD.out.size)); clear hb5)
          | fail)
        go_ret
        exact .inr ⟨rfl, rfl, HB5.out⟩
end Go.Proofs.YtdkppdjonlldhaaGreatDoor
