/- scriptcode's assembler: a line. -/
import Derived.Test.YtonnjokjbknngaaDoorZ7b
import Derived.Test.YtonnjokjbknngaaDoorTail
import Derived.Deep.RegionHeld3
import Derived.StillTailTactics
import Derived.WalkArith
import Derived.Deep.CutBlock
namespace Go.Proofs.YtonnjokjbknngaaDoor
open Go.RowKit Go.Maps Go.Lib Go.Shelf

/-- What a line's call comes to. -/
def LineRet (B : Nat) (w0 : World) (r : Int × St) (e : Ending) (w' : World) : Prop := e = .returned (.int .i64 r.1) ∧ Below B w0 w' ∧ (r.1 = 0 → (∃ vc vl nt nb, AsmAt w' B vc vl nt nb r.2) ∧ StrKept w0 w')
theorem lineRet_err {B : Nat} {w0 w' : World} {r : Int × St} {z : Int} (h : r.1 = z) (hz : z ≠ 0) (hb : Below B w0 w') : LineRet B w0 r (.returned (.int .i64 z)) w' := ⟨by rw [h], hb, fun h0 => absurd (h.symm.trans h0) hz⟩
theorem lineRet_ok {B : Nat} {w0 w' : World} {r : Int × St} {st : St} (h : r = (0, st)) (hA : ∃ vc vl nt nb, AsmAt w' B vc vl nt nb st) (hk : StrKept w0 w') (hb : Below B w0 w') : LineRet B w0 r (.returned (.int .i64 0)) w' := by
  subst h; exact ⟨rfl, hb, fun _ => ⟨hA, hk⟩⟩

theorem map_ne_row {w : World} {P : Program} {t : TypeId} {R : Value → Option (DataW Unit × List MemPlace)} {b n : Nat} {D : DataW Unit} (h : w.ownsMap P t R b n D) {B : Nat} {e : TypeId} {sz m : Nat} {v : Value} {xs : List Value} (hr : w.ownsRow B e sz v m xs) : some b ≠ v.ownBlock := by
  obtain ⟨es, clock, h1, -⟩ := h
  rcases hr.2 with ⟨rfl, -⟩ | ⟨g, cap, cur, rfl, -, hh, -⟩
  · simp [Value.ownBlock]
  · simp only [Value.ownBlock, ne_eq, Option.some.injEq]
    rintro rfl
    rw [h1] at hh; cases hh
theorem blk_set {w : World} {b i : Nat} {cs : Array Value} {t : TypeId} {fr : Nat × Nat} (h : w.heap[b]? = some (.cells cs t fr)) (u : Value) : (w.setCell ⟨b, i, none⟩ u).heap[b]? = some (.cells (cs.setIfInBounds i u) t fr) := by
  simp [World.setCell, Array.getElem?_modify, h]
/-- Ahead of the append: the instruction in its box, its label in the map. -/
def Rel2 (B : Nat) (w0 w : World) (st : St) (no op : Int) (bx : Nat) (AC : Option Addr) (cc : Nat) (vl : Value) (nb : Nat) (ans : Int × St) : Prop :=
  ∃ (arg : Int) (t : BS) (nt : Nat), ans = st.add no ⟨op, arg⟩ t ∧ w.heap[bx]? = some (.cells #[.int .i64 op, .int .i64 arg] 41) ∧ w.heap[B + 2]? = some (.cells #[.slice AC st.code.length cc, vl, .map (some B), .map (some (B + 1))] 53) ∧
    OwnIns w B (.slice AC st.code.length cc) st.code ∧ OwnInts w B vl st.lines ∧ TgtAt w B nt (st.tgts ++ [t]) ∧ nt ≤ st.code.length + 1 ∧ LabAt w (B + 1) nb st.labs ∧ Below B w0 w ∧ StrKept w0 w
theorem own_set {w : World} {B : Nat} {e : TypeId} {sz n : Nat} {v : Value} {xs : List Value} (h : w.ownsRow B e sz v n xs) {p : Addr} {cs : Array Value} {t : TypeId} {fr : Nat × Nat} (hb : w.heap[p.block]? = some (.cells cs t fr)) (hne : e ≠ t) (u : Value) : (w.setCell p u).ownsRow B e sz v n xs := by
  refine h.kept (row := some p.block) ⟨rfl, rfl, rfl, by simp [World.setCell], fun k _ hk => Below.heap_setCell w p u k (fun he => hk (by rw [he]))⟩ (.inr ?_)
  rcases h.2 with ⟨rfl, -⟩ | ⟨g, cap, cur, rfl, -, hh, -⟩
  · simp [Value.ownBlock]
  · simp only [Value.ownBlock, ne_eq, Option.some.injEq]
    rintro rfl
    rw [hb] at hh
    cases hh
    exact hne rfl
theorem own_set' {w : World} {B : Nat} {e : TypeId} {sz n : Nat} {v : Value} {xs : List Value} (h : w.ownsRow B e sz v n xs) {p : Addr} (hne : v.ownBlock ≠ some p.block) (u : Value) : (w.setCell p u).ownsRow B e sz v n xs :=
  h.kept (row := some p.block) ⟨rfl, rfl, rfl, by simp [World.setCell], fun k _ hk => Below.heap_setCell w p u k (fun he => hk (by rw [he]))⟩ (.inr hne)
theorem map_ne_cells {w : World} {P : Program} {t : TypeId} {R : Value → Option (DataW Unit × List MemPlace)} {b n : Nat} {D : DataW Unit} (h : w.ownsMap P t R b n D) {g : Nat} {cs : Array Value} {e : TypeId} {fr : Nat × Nat} (hg : w.heap[g]? = some (.cells cs e fr)) : b ≠ g := by
  obtain ⟨es, clock, h1, -⟩ := h
  rintro rfl
  rw [h1] at hg; cases hg
/-- A line that is neither a remark nor a label. -/
def opLine (no : Int) (op : Int) (r : List BS) (st : St) : Int × St :=
  if op = -1 then (6, st)
  else if op = 1 then
    (match r with
    | [a] => (match numOf 1000000000 a with
      | none => (3, st)
      | some n => if n < -999999999 ∨ 999999999 < n then (2, st) else st.add no ⟨1, n⟩ [])
    | _ => (3, st))
  else if op = 17 ∨ op = 18 then
    (match r with
    | [a] => if labB a then st.add no ⟨op, 0⟩ a else (3, st)
    | _ => (3, st))
  else if r = [] then st.add no ⟨op, 0⟩ [] else (3, st)
theorem lineF_op (no : Int) (w : BS) (r : List BS) (st : St) (h1 : ¬ w.head? = some 35) (h2 : ¬ (r = [] ∧ w.getLast? = some 58)) : lineF no (w :: r) st = opLine no (opOf w) r st := by
  unfold lineF opLine
  dsimp only
  rw [if_neg h1, if_neg h2]
  by_cases e1 : opOf w = -1
  · rw [if_pos e1, if_pos e1]
  · rw [if_neg e1, if_neg e1]
    rfl
theorem suffix_colon (s : BS) : Lib.hasSuffix s [58] = decide (s.getLast? = some 58) := by
  unfold Lib.hasSuffix
  rw [Bool.eq_iff_iff, List.isSuffixOf_iff_suffix, decide_eq_true_iff]
  constructor
  · rintro ⟨t, ht⟩
    rw [← ht]; simp
  · intro h
    obtain ⟨t, ht⟩ := List.getLast?_eq_some_iff.1 h
    exact ⟨t, ht.symm⟩
theorem trim_colon {s : BS} (h : s.getLast? = some 58) : Lib.trimSuffix s [58] = s.dropLast := by
  unfold Lib.trimSuffix
  rw [suffix_colon, decide_eq_true h, if_pos rfl, List.dropLast_eq_take]
  rfl

set_option maxRecDepth 100000 in
set_option maxHeartbeats 3000000 in
theorem lineP (w : World) (B : Nat) (vc vl : Value) (nt nb : Nat) (st : St) (no : Int) (g c : Nat) (ws : List BS) (hA : AsmAt w B vc vl nt nb st) (hlab : st.labs.length ≤ 3000000)
    (hg : g < w.heap.size) (hws : ∀ k x, ws[k]? = some x → w.cell? ⟨g, k, none⟩ = some (strV x)) (hne : ∀ x ∈ ws, x ≠ []) (hsz : ∀ x ∈ ws, x.length ≤ 3000000) (hwl : ws.length ≤ 3000000) :
    Calls Tryd.prog 30 #[.pointer (some ⟨B + 2, 0, none⟩), .int .i64 no, .slice (some ⟨g, 0, none⟩) ws.length c] w (LineRet B w (lineF no ws st)) := by
  have hrf := Below.refl B w
  have hlt := hA.lt
  match ws, hws, hne, hsz, hwl with
  | [], _, _, _, _ =>
    have HR := hide (show lineF no [] st = (0, st) from rfl)
    have HA := hide hA
    clear hA
    go_enter Tryd.func30, Tryd.ntmps30
    go_wp2
    go_ret
    exact lineRet_ok HR.out ⟨_, _, _, _, HA.out⟩ (StrKept.refl w) hrf
  | S0 :: r, hws, hne, hsz, hwl =>
    obtain ⟨s0, hs0⟩ : ∃ s : ByteArray, (⟨S0.toArray⟩ : ByteArray) = s := ⟨_, rfl⟩
    have hs0l : s0.data.toList = S0 := by rw [← hs0]
    have c0 : w.cell? ⟨g, 0, none⟩ = some (.string s0) := by rw [hws 0 S0 rfl, ← hs0]; rfl
    have hs0z : s0.size = S0.length := by rw [← hs0l]; rfl
    have hs0p : 0 < s0.size := by rw [hs0z]; exact List.length_pos_iff.2 (hne S0 (by simp))
    have hs0m : s0.size ≤ 3000000 := by rw [hs0z]; exact hsz S0 (by simp)
    obtain ⟨N, hN⟩ : ∃ n, (S0 :: r).length = n := ⟨_, rfl⟩
    have hN1 : 1 ≤ N := by rw [← hN]; simp
    have hN2 : N ≤ 3000000 := by rw [← hN]; exact hwl
    have hrN : r = [] ↔ N = 1 := by rw [← hN]; cases r <;> simp
    have hr2 : ∀ a, r = [a] ↔ (N = 2 ∧ r.head? = some a) := fun a => by
      rw [← hN]
      match r with
      | [] => simp
      | [x] => simp
      | x :: y :: t => simp
    rw [hN]
    have hNI : ¬ (N : Int) < 1 := by omega
    have hN0 : ((N : Int) == 0) = false := by rw [beq_eq_false_iff_ne]; omega
    have hNp : (0 : Int) < (N : Int) := by omega
    have hNn : 0 < N := hN1
    have hNle : (0 : Int) ≤ 0 := by omega
    have hz0 : (0 : Int) < (s0.size : Int) := by omega
    obtain ⟨b0, hb0⟩ : ∃ b, s0[0]'hs0p = b := ⟨_, rfl⟩
    have hhd : S0.head? = some b0 := by
      rw [← hb0, get_at, hs0l]
      match S0, hne S0 (by simp) with
      | x :: t, _ => rfl
    have HA := hide hA
    have Hws := hide hws
    have Hhd := hide hhd
    have HrN := hide hrN
    have Hr2 := hide hr2
    have Hs0 := hide hs0l
    have Hsz := hide hsz
    clear hA hws hhd hrN hr2 hs0l hs0 hs0z hsz hne hN hwl
    clear hws hne hsz hwl
    by_cases h35 : b0 = 35
    · have q1 : ((b0.toNat : Int) == 35) = true := by rw [h35]; rfl
      have HR := hide (show lineF no (S0 :: r) st = (0, st) by unfold lineF; dsimp only; rw [Hhd.out, h35, if_pos rfl])
      clear h35
      go_enter Tryd.func30, Tryd.ntmps30
      go_wp2
      go_ret
      exact lineRet_ok HR.out ⟨_, _, _, _, HA.out⟩ (StrKept.refl w) hrf
    have q35 : ((b0.toNat : Int) == 35) = false := by
      rw [beq_eq_false_iff_ne]
      intro h
      exact h35 (UInt8.toNat_inj.1 (by show b0.toNat = 35; omega))
    have Hh35 := hide (show ¬ S0.head? = some 35 by rw [Hhd.out]; simpa using h35)
    have hCS := Any.strings_CutSuffix laysCutS s0 ⟨#[58]⟩ w (by omega)
    obtain ⟨NM, hNM⟩ : ∃ n : ByteArray, ⟨(Lib.trimSuffix s0.data.toList [58]).toArray⟩ = n := ⟨_, rfl⟩
    obtain ⟨IS, hIS⟩ : ∃ b, Lib.hasSuffix s0.data.toList [58] = b := ⟨_, rfl⟩
    have HCS := hide (show Calls Tryd.prog 52 #[.string s0, .string ⟨#[58]⟩] w fun e w' => e = .returned (.tuple #[.string NM, .bool IS]) ∧ w' = w from by rw [← hNM, ← hIS]; exact hCS)
    have hNMl : NM.data.toList = Lib.trimSuffix S0 [58] := by rw [← hNM, Hs0.out]
    have hISl : IS = decide (S0.getLast? = some 58) := by rw [← hIS, Hs0.out, suffix_colon]
    have HNM := hide hNMl
    have HIS := hide hISl
    clear h35 hCS hNM hIS hNMl hISl
    obtain ⟨AC, cc, hvc⟩ := own_form HA.out.code
    subst hvc
    by_cases hlb : r = [] ∧ S0.getLast? = some 58
    · obtain ⟨hr, h58⟩ := hlb
      have hIS : IS = true := by rw [HIS.out, h58]; rfl
      subst hIS
      have hN1' : ((N : Int) == 1) = true := by rw [HrN.out.1 hr]; rfl
      have hnm : NM.data.toList = S0.dropLast := by rw [HNM.out, trim_colon h58]
      have hnmz : NM.size ≤ 3000000 := by
        have h1 : NM.size = S0.dropLast.length := by rw [← hnm]; rfl
        have h2 := Hsz.out S0 (by simp)
        rw [List.length_dropLast] at h1
        omega
      have HL := hide (labelP w NM hnmz)
      obtain ⟨LB, hLB⟩ : ∃ b, labB NM.data.toList = b := ⟨_, rfl⟩
      rw [hLB] at HL
      have hF : lineF no (S0 :: r) st = (if LB = false then (3, st) else if (findL NM.data.toList st.labs).isSome then (7, st) else (0, ⟨st.code, st.lines, st.labs ++ [(NM.data.toList, st.code.length)], st.tgts⟩)) := by
        unfold lineF
        dsimp only
        rw [if_neg Hh35.out, if_pos ⟨hr, h58⟩, ← hnm, hLB]
      have HF := hide hF
      have hkey := WideMaps.keyOf_string_mk (P := Tryd.prog) (k := 9) Tryd.underlying9 (s := NM) (by unfold maxLen; omega)
      have Hkey := hide hkey
      have hHas := labD_has NM.data.toList st.labs
      clear hr h58 hnm hF hLB hkey HIS HNM
      cases LB with
      | false =>
        have HR := hide (show (lineF no (S0 :: r) st).1 = 3 by rw [HF.out, if_pos rfl])
        clear hHas HF
        go_enter Tryd.func30, Tryd.ntmps30
        go_wp2_with (first
          | (go_at_call 52; refine HCS.out.mono ?_; rintro e w1 ⟨rfl, rfl⟩)
          | (go_at_call 53; refine HL.out.mono ?_; rintro e w2 ⟨rfl, hb2⟩)
          | fail)
        go_ret
        exact lineRet_err HR.out (by decide) (hb2.mono (by omega))
      | true =>
        obtain ⟨FB, hFB⟩ : ∃ b, (findL NM.data.toList st.labs).isSome = b := ⟨_, rfl⟩
        rw [hFB] at HF hHas
        obtain ⟨HD, hHD⟩ : ∃ b, has (labD st.labs) (.string NM.data.toList) = b := ⟨_, rfl⟩
        rw [hHD] at hHas
        have HHD := hide hHD
        have HFB := hide hFB
        subst hHas
        clear hHD hFB
        have HAl := hide (fun W (hb : Below w.heap.size w W) => HA.out.below hb)
        have Hcl := hide (fun W (hb : Below w.heap.size w W) => (HA.out.below hb).cells)
        cases HD with
        | true =>
          have HR := hide (show (lineF no (S0 :: r) st).1 = 7 by rw [HF.out]; rfl)
          clear HF
          go_enter Tryd.func30, Tryd.ntmps30
          go_wp2_with (first
            | (go_at_call 52; refine HCS.out.mono ?_; rintro e w1 ⟨rfl, rfl⟩)
            | (go_at_call 53; refine HL.out.mono ?_; rintro e w2 ⟨rfl, hb2⟩; obtain ⟨x0, x1, x2, x3⟩ := Hcl.out w2 hb2)
            | (at_lookup; refine wpList_lookup_own_ok_int _ rfl _ _ 50 rfl 9 3 .i64 (string_keyed Tryd.underlying9) Tryd.underlying50 Tryd.underlying3 (by kernel_rfl) (B + 1) nb (labD st.labs) rfl (HAl.out w2 hb2).lab _ _ rfl Hkey.out ?_; intro ci hat hwc; rw [HHD.out])
            | fail)
          go_ret
          exact lineRet_err HR.out (by decide) (hb2.mono (by omega))
        | false =>
          have HR := hide (show lineF no (S0 :: r) st = (0, ⟨st.code, st.lines, st.labs ++ [(NM.data.toList, st.code.length)], st.tgts⟩) by rw [HF.out]; rfl)
          have Hfn := hide (show findL NM.data.toList st.labs = none by have := HFB.out; cases h : findL NM.data.toList st.labs; rfl; rw [h] at this; cases this)
          have hwf : (Lit.int .i64 (st.code.length : Int)).wf = true := Go.WalkArith.wf_i64 (by have := HA.out.small; omega)
          have Hwf := hide hwf
          have Hnb := hide HA.out.nb
          clear HF HFB hwf
          go_enter Tryd.func30, Tryd.ntmps30
          go_wp2_with (first
            | (go_at_call 52; refine HCS.out.mono ?_; rintro e w1 ⟨rfl, rfl⟩)
            | (go_at_call 53; refine HL.out.mono ?_; rintro e w2 ⟨rfl, hb2⟩; obtain ⟨x0, x1, x2, x3⟩ := Hcl.out w2 hb2)
            | (at_lookup; refine wpList_lookup_own_ok_int _ rfl _ _ 50 rfl 9 3 .i64 (string_keyed Tryd.underlying9) Tryd.underlying50 Tryd.underlying3 (by kernel_rfl) (B + 1) nb (labD st.labs) rfl (HAl.out w2 hb2).lab _ _ rfl Hkey.out ?_; intro ci hat hwc; rw [HHD.out])
            | fail)
          obtain ⟨wd, hwd⟩ : ∃ wd, wd = w2.drew := ⟨_, rfl⟩
          have hdr : Below w2.heap.size w2 wd := by rw [hwd]; exact (Below.refl _ _).drew
          have hA2 := (HAl.out w2 hb2).below hdr
          have HA2 := hide hA2
          have Hwd := hide hwd
          have Hb2d := hide (hb2.trans (hdr.mono hb2.size))
          obtain ⟨y0, y1, y2, y3⟩ := hA2.cells
          clear hwd hA2 hdr x0 x1 x2 x3
          refine wp_region_still_tail 10 (by kernel_rfl) (by kernel_rfl) ?_
          change wpStill _ _ w2.drew (fun a' => wpList _ _ _ _ a' w2.drew) _ _
          rw [← Hwd.out]
          simp only [List.take_succ_cons, List.take_zero, List.drop_succ_cons, List.drop_zero]
          repeat still_step
          refine wpStill_nil ?_
          go_wp2_with (first
            | (at_mapUpdate; refine wpList_mapUpdate_own _ rfl _ _ _ 50 rfl 9 3 (string_keyed Tryd.underlying9) Tryd.underlying50 _ (B + 1) nb (labD st.labs) rfl HA2.out.lab (by have := Hnb.out; unfold maxLen; omega) _ _ _ rfl rfl Hkey.out _ [] (plainElem_int Tryd.underlying3 Hwf.out) ?_; intro w3 hown3 hg3; have HO3 := hide hown3; have HG3 := hide hg3; clear hown3 hg3)
            | fail)
          go_ret
          have hbl : ∀ k, k < wd.heap.size → k ≠ B + 1 → w3.heap[k]? = wd.heap[k]? := fun k hk hne => HG3.out.block k hk (fun h => hne (Option.some.inj h))
          have hltd := HA2.out.lt
          refine lineRet_ok HR.out ⟨.slice AC st.code.length cc, vl, nt, nb + 1, ?_⟩ ((StrKept.of_below Hb2d.out).trans (StrKept.of_map HA2.out.lab HG3.out)) ((Hb2d.out.mono (by omega)).grown HG3.out (by omega) (fun k hk => by cases hk; omega))
          exact ⟨(hbl _ hltd (by omega)).trans HA2.out.box, HA2.out.code.kept HG3.out (.inr (map_ne_row HA2.out.lab HA2.out.code).symm), HA2.out.lines.kept HG3.out (.inr (map_ne_row HA2.out.lab HA2.out.lines).symm), map_block HA2.out.tgt (hbl B (by omega) (by omega)),
            by unfold LabAt; rw [labD_snoc]; exact HO3.out, HA2.out.llen, HA2.out.tlen, HA2.out.small, HA2.out.nt, by have := HA2.out.nb; simp; omega, by
              rw [List.map_append, List.nodup_append]
              refine ⟨HA2.out.nodup, by simp, ?_⟩
              intro x hx y hy
              simp at hy
              subst hy
              intro he
              subst he
              exact findL_mem Hfn.out hx⟩
    · have hcond : IS = false ∨ (IS = true ∧ ((N : Int) == 1) = false) := by
        cases hI : IS with
        | false => exact .inl rfl
        | true =>
          right
          refine ⟨rfl, ?_⟩
          rw [beq_eq_false_iff_ne]
          intro h
          refine hlb ⟨HrN.out.2 (by omega), ?_⟩
          have := HIS.out
          rw [hI] at this
          exact of_decide_eq_true this.symm
      obtain ⟨OP, hOP⟩ : ∃ o, opOf S0 = o := ⟨_, rfl⟩
      have hrng := opOf_rng S0
      rw [hOP] at hrng
      have hF := lineF_op no S0 r st Hh35.out hlb
      rw [hOP] at hF
      have HF := hide hF
      have HNm := hide (fun W => namesP W)
      have HIx := hide (fun (W : World) base g' c' (h : W.ownsRow base 9 1 (.slice (some ⟨g', 0, none⟩) 21 c') 21 (opNames.map strV)) => indexP W base g' c' h s0)
      rw [Hs0.out, hOP] at HIx
      clear hF hlb hOP Hh35 HIS HNM Hhd
      go_enter Tryd.func30, Tryd.ntmps30
      go_upto_region 4 with (first
        | (go_at_call 52; refine HCS.out.mono ?_; rintro e w1 ⟨rfl, rfl⟩)
        | fail)
      go_cut [37] (fun v wx => v = .bool false ∧ wx = w1)
      case first =>
        rcases hcond with rfl | ⟨rfl, q⟩
        all_goals
          go_wp2_with fail
          go_meet
          case rel => exact ⟨rfl, rfl⟩
      case rest =>
        obtain ⟨rfl, rfl⟩ := hcut
        clear hcond HCS
        obtain ⟨wa, rfl⟩ : ∃ wa : World, wa = wc := ⟨_, rfl⟩
        go_upto_region 12 with fail
        go_cut [11] (fun v wx => ∃ bx : Nat, v = .pointer (some ⟨bx, 0, none⟩) ∧ wx.heap[bx]? = some (.cells #[.int .i64 OP, .int .i64 0] 41) ∧ wa.heap.size ≤ bx ∧ Below wa.heap.size wa wx)
        case first =>
          have HS := hide (fun W (hb : Below wa.heap.size wa W) => (hb.cell (p := ⟨g, 0, none⟩) hg).trans c0)
          have hbd := (Below.refl wa.heap.size wa).drew
          have hbA := ((Below.refl wa.heap.size wa).alloc (Nat.le_refl _) (.cells #[.int .i64 0, .int .i64 0] 41)).drew
          have HbZ := hide (block_new wa (.cells #[.int .i64 0, .int .i64 0] 41))
          have Hset := hide (fun (W : World) (h : W.heap[wa.heap.size]? = some (.cells #[.int .i64 0, .int .i64 0] 41)) => (show ((W.setCell ⟨wa.heap.size, 0, none⟩ (.int .i64 OP)).setCell ⟨wa.heap.size, 1, none⟩ (.int .i64 0)).heap[wa.heap.size]? = some (.cells #[.int .i64 OP, .int .i64 0] 41) from by simpa using blk_set (i := 1) (blk_set (i := 0) h (.int .i64 OP)) (.int .i64 0)))
          go_region_held3 (fun W2 => W2.cell? ⟨g, 0, none⟩ = some (.string s0))
            (first | exact HS.out _ hb3 | exact HS.out _ hb2 | exact HS.out _ hbd | exact HS.out _ hbA | exact HS.out _ (hb3.alloc hb3.size _) | exact HS.out _ (hb2.alloc hb2.size _) | exact HS.out _ ((hb2.setCell (Nat.le_refl _) _).setCell (Nat.le_refl _) _))
            (first
              | (go_at_call 54; refine (HIx.out _ _ g' c' hown2).mono ?_; rintro e w3 ⟨rfl, rfl⟩; have hb3 := hb2)
              | (go_at_call 54; refine (HIx.out (w2.alloc (.cells #[.int .i64 0, .int .i64 0] 41)) _ g' c' (hown2.alloc _)).mono ?_; rintro e w3 ⟨rfl, rfl⟩; have hb3 := hb2.alloc hb2.size (.cells #[.int .i64 0, .int .i64 0] 41))
              | (go_at_call 27; refine (HNm.out wa.drew).mono ?_; rintro e w2 ⟨g', c', rfl, hown2, hbF⟩; have hb2 := hbd.trans (hbF.mono hbd.size); have hZ : True := trivial)
              | (go_at_call 27; refine (HNm.out _).mono ?_; rintro e w2 ⟨g', c', rfl, hown2, hbF⟩; have hb2 := hbA.trans (hbF.mono hbA.size); have hZ := (hbF.block wa.heap.size (by simp)).trans HbZ.out; have zc0 : w2.cell? ⟨wa.heap.size, 0, none⟩ = some (.int .i64 0) := cell_block hZ 0; have zc1 : w2.cell? ⟨wa.heap.size, 1, none⟩ = some (.int .i64 0) := cell_block hZ 1; have zf0 := frozen_block hZ 0; have zf1 := frozen_block hZ 1)
              | fail)
          all_goals
            go_wp2_with fail
            go_meet
            case rel =>
              first
                | exact ⟨_, rfl, block_new _ _, hb2.size, hb2.alloc hb2.size _⟩
                | exact ⟨_, rfl, Hset.out _ hZ, Nat.le_refl _, (hb2.setCell (Nat.le_refl _) _).setCell (Nat.le_refl _) _⟩
        case rest =>
          obtain ⟨bx, rfl, hbx, hbx2, hbc⟩ := hcut
          have z0 := cell_block hbx 0
          have z1 := cell_block hbx 1
          have zf1 := frozen_block hbx 1
          have HAc := HA.out.below hbc
          have hbB : Below B wa wc := hbc.mono (by omega)
          have Hbx := hide hbx
          have hgc : g < wc.heap.size := Nat.lt_of_lt_of_le hg hbc.size
          have Hws2 := hide (fun k x hx => (hbc.cell (p := ⟨g, k, none⟩) hg).trans (Hws.out k x hx))
          have HSK := hide (StrKept.of_below hbc)
          have HAc := hide HAc
          have HbB := hide hbB
          have Hdis := hide (fun k (h : (Value.slice AC st.code.length cc).ownBlock = some k) => (HA.out.code.lt k h).2)
          clear HNm HIx hbc hbB hbx Hws c0
          by_cases hm1 : OP = -1
          · have HR := hide (show (lineF no (S0 :: r) st).1 = 6 by rw [HF.out]; unfold opLine; rw [if_pos hm1])
            subst hm1
            clear HF hrng
            go_wp2
            go_ret
            exact lineRet_err HR.out (by decide) HbB.out
          have hrng2 : 0 ≤ OP ∧ OP ≤ 20 := by rcases hrng with h | h; exact absurd h hm1; exact h
          have e0 : (OP == -1) = false := by rw [beq_eq_false_iff_ne]; exact hm1
          obtain ⟨MN, hMN⟩ : ∃ m : Int, (if OP = 1 ∨ OP = 17 ∨ OP = 18 then 2 else 1) = m := ⟨_, rfl⟩
          have HMN := hide hMN
          clear hMN hrng
          go_upto_block 0 with fail
          go_cut [12] (fun v wx => v = .int .i64 MN ∧ wx = wc)
          case first =>
            have hc : ((OP == 1) = true ∧ MN = 2) ∨ ((OP == 1) = false ∧ (OP == 17) = true ∧ MN = 2) ∨ ((OP == 1) = false ∧ (OP == 17) = false ∧ (OP == 18) = true ∧ MN = 2) ∨ ((OP == 1) = false ∧ (OP == 17) = false ∧ (OP == 18) = false ∧ MN = 1) := by
              have := HMN.out
              by_cases h1 : OP = 1
              · left; rw [if_pos (.inl h1)] at this; exact ⟨by rw [h1]; rfl, this.symm⟩
              · by_cases h2 : OP = 17
                · right; left; rw [if_pos (.inr (.inl h2))] at this; exact ⟨by rw [h2]; rfl, by rw [h2]; rfl, this.symm⟩
                · by_cases h3 : OP = 18
                  · right; right; left; rw [if_pos (.inr (.inr h3))] at this; exact ⟨by rw [h3]; rfl, by rw [h3]; rfl, by rw [h3]; rfl, this.symm⟩
                  · right; right; right; rw [if_neg (by omega)] at this; exact ⟨by simpa using h1, by simpa using h2, by simpa using h3, this.symm⟩
            rcases hc with ⟨h1, rfl⟩ | ⟨h1, h2, rfl⟩ | ⟨h1, h2, h3, rfl⟩ | ⟨h1, h2, h3, rfl⟩
            all_goals
              go_wp2_with fail
              go_meet
              case rel => exact ⟨rfl, rfl⟩
          case rest =>
            obtain ⟨rfl, rfl⟩ := hcut
            obtain ⟨wb, hwb⟩ : ∃ wb : World, wb = wc := ⟨_, rfl⟩
            rw [← hwb] at z0 z1 zf1 HAc hgc Hws2 HSK HbB Hbx ⊢
            clear hwb
            by_cases hNM : (N : Int) = MN
            case neg =>
              have q : ((N : Int) != MN) = true := by simpa using hNM
              have HR := hide (show (lineF no (S0 :: r) st).1 = 3 by
                rw [HF.out]
                unfold opLine
                rw [if_neg hm1]
                have hMN := HMN.out
                by_cases h1 : OP = 1
                · rw [if_pos h1]
                  rw [if_pos (.inl h1)] at hMN
                  match r, Hr2 with
                  | [a], Hr2 => exact absurd ((Hr2.out a).1 rfl).1 (by omega)
                  | [], _ => rfl
                  | _ :: _ :: _, _ => rfl
                · rw [if_neg h1]
                  by_cases h2 : OP = 17 ∨ OP = 18
                  · rw [if_pos h2]
                    rw [if_pos (.inr h2)] at hMN
                    match r, Hr2 with
                    | [a], Hr2 => exact absurd ((Hr2.out a).1 rfl).1 (by omega)
                    | [], _ => rfl
                    | _ :: _ :: _, _ => rfl
                  · rw [if_neg h2]
                    rw [if_neg (by omega)] at hMN
                    rw [if_neg (fun h => hNM (by rw [HrN.out.1 h, ← hMN]; rfl))])
              clear hNM HF HMN
              go_wp2
              go_ret
              exact lineRet_err HR.out (by decide) HbB.out
            have q : ((N : Int) != MN) = false := by simpa using hNM
            clear hrng2 e0
            go_upto_block 1 with fail
            go_cut [] (fun wx => Rel2 B wa wx st no OP bx AC cc vl nb (lineF no (S0 :: r) st))
            case first =>
              have hop : (OP = 1) ∨ (OP = 17 ∨ OP = 18) ∨ (OP ≠ 1 ∧ OP ≠ 17 ∧ OP ≠ 18) := by omega
              rcases hop with hop | hop | ⟨o1, o2, o3⟩
              · -- push
                have hMN := HMN.out
                rw [if_pos (.inl hop)] at hMN
                have hN2' : N = 2 := by omega
                subst hop
                obtain ⟨a, hr⟩ : ∃ a, r = [a] := by
                  have h := Hr2.out
                  match r, h with
                  | [a], _ => exact ⟨a, rfl⟩
                  | [], h => exact absurd (HrN.out.1 rfl) (by omega)
                  | x :: y :: t, h => exact absurd ((h x).2 ⟨hN2', rfl⟩) (by simp)
                subst hr
                have ha1 : wb.cell? ⟨g, 1, none⟩ = some (strV a) := Hws2.out 1 a rfl
                obtain ⟨a0, ha0⟩ : ∃ s : ByteArray, (⟨a.toArray⟩ : ByteArray) = s := ⟨_, rfl⟩
                have ha0l : a0.data.toList = a := by rw [← ha0]
                unfold strV at ha1
                rw [ha0] at ha1
                have haz : a0.size ≤ 3000000 := by
                  have h1 : a0.size = a.length := by rw [← ha0l]; rfl
                  have := Hsz.out a (by simp)
                  omega
                have HNu := hide (numberP wb a0 haz)
                rw [ha0l] at HNu
                have hF := HF.out
                unfold opLine at hF
                rw [if_neg hm1, if_pos rfl] at hF
                have h1N : (1 : Int) < (N : Int) := by omega
                have h1Nn : 1 < N := by omega
                obtain ⟨R, hR⟩ : ∃ o, numOf 1000000000 a = o := ⟨_, rfl⟩
                dsimp only at hF
                rw [hR] at HNu hF
                have Hcl := hide (fun W (hb : Below wb.heap.size wb W) => And.intro (block_below Hbx.out hb (block_lt Hbx.out)) (HAc.out.below hb))
                clear ha0l hR HMN hMN hN2' ha0 HF
                cases R with
                | none =>
                  have HR := hide (show (lineF no [S0, a] st).1 = 3 by rw [hF])
                  unfold numRet at HNu
                  dsimp only at HNu
                  clear hF
                  go_wp2_with (first
                    | (go_at_call 55; refine HNu.out.mono ?_; rintro e w2 ⟨rfl, hb2⟩)
                    | fail)
                  go_ret
                  exact lineRet_err HR.out (by decide) (HbB.out.trans (hb2.mono (by have := HAc.out.lt; omega)))
                | some z =>
                  dsimp only at hF
                  unfold numRet at HNu
                  dsimp only at HNu
                  by_cases hz : z < -999999999 ∨ 999999999 < z
                  · have HR := hide (show (lineF no [S0, a] st).1 = 2 by rw [hF, if_pos hz])
                    have hq : decide (z < -999999999) = true ∨ (decide (z < -999999999) = false ∧ decide (999999999 < z) = true) := by
                      by_cases h : z < -999999999
                      · exact .inl (decide_eq_true h)
                      · exact .inr ⟨decide_eq_false h, decide_eq_true (by omega)⟩
                    clear hF hz
                    rcases hq with hq | ⟨hq, hq2⟩
                    all_goals
                      go_wp2_with (first
                        | (go_at_call 55; refine HNu.out.mono ?_; rintro e w2 ⟨rfl, hb2⟩)
                        | fail)
                      go_ret
                      exact lineRet_err HR.out (by decide) (HbB.out.trans (hb2.mono (by have := HAc.out.lt; omega)))
                  · have HR := hide (show lineF no [S0, a] st = st.add no ⟨1, z⟩ [] by rw [hF, if_neg hz])
                    have hq : decide (z < -999999999) = false := decide_eq_false (by omega)
                    have hq2 : decide (999999999 < z) = false := decide_eq_false (by omega)
                    clear hF hz
                    go_wp2_with (first
                      | (go_at_call 55; refine HNu.out.mono ?_; rintro e w2 ⟨rfl, hb2⟩; have Hb2 := hide hb2; obtain ⟨bb2, -⟩ := Hcl.out w2 hb2; have y1 := cell_block bb2 1; have yf1 := frozen_block bb2 1; have Bb2 := hide bb2; clear hb2 bb2)
                      | fail)
                    go_meet
                    case rel =>
                      have hA2 := HAc.out.below Hb2.out
                      have hbxB : bx ≠ B + 2 := by
                        intro he
                        have h1 := hA2.box
                        rw [← he, Bb2.out] at h1
                        cases h1
                      exact ⟨z, [], nt, HR.out, by simpa using blk_set (i := 1) Bb2.out (.int .i64 z), block_far hA2.box (fun h => hbxB h.symm) _,
                        own_set' hA2.code (p := ⟨bx, 1, none⟩) (fun he => absurd (Hdis.out bx he) (by omega)) _, own_set hA2.lines Bb2.out (by decide) _, by
                          unfold TgtAt
                          rw [tgtD_none]
                          exact map_block hA2.tgt (Below.heap_setCell _ _ _ _ (map_ne_cells hA2.tgt Bb2.out)), by have := hA2.nt; omega,
                        map_block hA2.lab (Below.heap_setCell _ _ _ _ (map_ne_cells hA2.lab Bb2.out)), (HbB.out.trans (Hb2.out.mono (by have := HAc.out.lt; omega))).setCell (by show B ≤ bx; omega) _, (HSK.out.trans (StrKept.of_below Hb2.out)).trans (StrKept.of_set (p := ⟨bx, 1, none⟩) Bb2.out (by decide))⟩
              · -- a jump
                have hMN := HMN.out
                rw [if_pos (.inr hop)] at hMN
                have hN2' : N = 2 := by omega
                obtain ⟨a, hr⟩ : ∃ a, r = [a] := by
                  have h := Hr2.out
                  match r, h with
                  | [a], _ => exact ⟨a, rfl⟩
                  | [], h => exact absurd (HrN.out.1 rfl) (by omega)
                  | x :: y :: t, h => exact absurd ((h x).2 ⟨hN2', rfl⟩) (by simp)
                subst hr
                have ha1 : wb.cell? ⟨g, 1, none⟩ = some (strV a) := Hws2.out 1 a rfl
                obtain ⟨a0, ha0⟩ : ∃ s : ByteArray, (⟨a.toArray⟩ : ByteArray) = s := ⟨_, rfl⟩
                have ha0l : a0.data.toList = a := by rw [← ha0]
                unfold strV at ha1
                rw [ha0] at ha1
                have haz : a0.size ≤ 3000000 := by
                  have h1 : a0.size = a.length := by rw [← ha0l]; rfl
                  have := Hsz.out a (by simp)
                  omega
                have HLa := hide (labelP wb a0 haz)
                rw [ha0l] at HLa
                have hF := HF.out
                unfold opLine at hF
                rw [if_neg hm1, if_neg (by omega), if_pos hop] at hF
                dsimp only at hF
                have h1M : (1 : Int) < MN := by omega
                have h1N : (1 : Int) < (N : Int) := by omega
                have h1Nn : 1 < N := by omega
                have hq1 : (OP == 1) = false := by rw [beq_eq_false_iff_ne]; omega
                have hq2 : (OP == 17) = true ∨ ((OP == 17) = false ∧ (OP == 18) = true) := by
                  rcases hop with h | h
                  · left; rw [h]; rfl
                  · right; rw [h]; exact ⟨rfl, rfl⟩
                obtain ⟨LB, hLB⟩ : ∃ b, labB a = b := ⟨_, rfl⟩
                rw [hLB] at HLa hF
                have Hcl := hide (fun W (hb : Below wb.heap.size wb W) => And.intro ((hb.cell (p := ⟨g, 1, none⟩) hgc).trans ha1) (And.intro (block_below Hbx.out hb (block_lt Hbx.out)) (HAc.out.below hb)))
                have Hal := hide ha0l
                have HLB := hide hLB
                clear ha0l HMN hMN hN2' ha0 HF hop hm1 hLB
                cases LB with
                | false =>
                  have HR := hide (show (lineF no [S0, a] st).1 = 3 by rw [hF]; rfl)
                  clear hF
                  rcases hq2 with hq2 | ⟨hq2, hq3⟩
                  all_goals
                    go_wp2_with (first
                      | (go_at_call 53; refine HLa.out.mono ?_; rintro e w2 ⟨rfl, hb2⟩)
                      | fail)
                    go_ret
                    exact lineRet_err HR.out (by decide) (HbB.out.trans (hb2.mono (by have := HAc.out.lt; omega)))
                | true =>
                  have HR := hide (show lineF no [S0, a] st = st.add no ⟨OP, 0⟩ a by rw [hF]; rfl)
                  have hane : a ≠ [] := by
                    rintro rfl
                    have := HLB.out
                    cases this
                  have hwf : (Lit.int .i64 (st.code.length : Int)).wf = true := Go.WalkArith.wf_i64 (by have := HA.out.small; omega)
                  have Hwf := hide hwf
                  have Hane := hide hane
                  clear hF hwf hane
                  rcases hq2 with hq2 | ⟨hq2, hq3⟩
                  all_goals
                    go_wp2_with (first
                      | (go_at_call 53; refine HLa.out.mono ?_; rintro e w2 ⟨rfl, hb2⟩)
                      | fail)
                    obtain ⟨wd, hwd⟩ : ∃ wd, wd = w2.drew := ⟨_, rfl⟩
                    have hdr : Below w2.heap.size w2 wd := by rw [hwd]; exact (Below.refl _ _).drew
                    have hb2d := hb2.trans (hdr.mono hb2.size)
                    obtain ⟨ya, yb, hA2⟩ := Hcl.out wd hb2d
                    have HA2 := hide hA2
                    have Hbb := hide yb
                    have Hwd := hide hwd
                    have Hb2d := hide hb2d
                    obtain ⟨y0, y1, y2, y3⟩ := hA2.cells
                    clear hwd hA2 hdr z0 z1 zf1 ha1 hb2d yb
                    refine wp_region_still_tail 12 (by kernel_rfl) (by kernel_rfl) ?_
                    change wpStill _ _ w2.drew (fun a' => wpList _ _ _ _ a' w2.drew) _ _
                    rw [← Hwd.out]
                    simp only [List.take_succ_cons, List.take_zero, List.drop_succ_cons, List.drop_zero]
                    repeat still_step
                    refine wpStill_nil ?_
                    go_wp2_with (first
                      | (at_mapUpdate; refine wpList_mapUpdate_own _ rfl _ _ _ 49 rfl 3 9 (int_keyed Tryd.underlying3) Tryd.underlying49 _ B nt (tgtD st.tgts) rfl HA2.out.tgt (by have := HA2.out.nt; have := HA2.out.small; unfold maxLen; omega) _ _ _ rfl rfl (keyOf_int_mk Tryd.underlying3 Hwf.out) _ [] (plainElem_string Tryd.underlying9 (by unfold maxLen; omega)) ?_; intro w3 hown3 hg3; have HO3 := hide hown3; have HG3 := hide hg3; clear hown3 hg3)
                      | fail)
                    go_meet
                    case rel =>
                      have hltd := HA2.out.lt
                      have hbl : ∀ k, k < wd.heap.size → k ≠ B → w3.heap[k]? = wd.heap[k]? := fun k hk hne => HG3.out.block k hk (fun h => hne (Option.some.inj h))
                      refine ⟨0, a, nt + 1, HR.out, (hbl bx (block_lt Hbb.out) (fun he => map_ne_cells HA2.out.tgt Hbb.out he.symm)).trans Hbb.out, (hbl _ hltd (by omega)).trans HA2.out.box,
                        HA2.out.code.kept HG3.out (.inr (map_ne_row HA2.out.tgt HA2.out.code).symm), HA2.out.lines.kept HG3.out (.inr (map_ne_row HA2.out.tgt HA2.out.lines).symm), ?_, by have := HA2.out.nt; omega,
                        map_block HA2.out.lab (hbl (B + 1) (by omega) (by omega)), ((HbB.out.trans (Hb2d.out.mono (by have := HAc.out.lt; omega))).grown HG3.out (by omega) (fun k hk => by cases hk; omega)), (HSK.out.trans (StrKept.of_below Hb2d.out)).trans (StrKept.of_map HA2.out.tgt HG3.out)⟩
                      have h3 := HO3.out
                      rw [Hal.out] at h3
                      unfold TgtAt
                      rw [tgtD_snoc _ Hane.out, HA2.out.tlen]
                      exact h3
              · have hMN := HMN.out
                rw [if_neg (by omega)] at hMN
                have hrn : r = [] := HrN.out.2 (by omega)
                have hF := HF.out
                unfold opLine at hF
                rw [if_neg hm1, if_neg o1, if_neg (by omega), if_pos hrn] at hF
                have HR := hide hF
                have hq1 : (OP == 1) = false := by simpa using o1
                have hq2 : (OP == 17) = false := by simpa using o2
                have hq3 : (OP == 18) = false := by simpa using o3
                clear hF HF hMN HMN hrn hm1
                go_wp2_with fail
                go_meet
                case rel =>
                  exact ⟨0, [], nt, HR.out, Hbx.out, HAc.out.box, HAc.out.code, HAc.out.lines, by unfold TgtAt; rw [tgtD_none]; exact HAc.out.tgt, by have := HAc.out.nt; omega, HAc.out.lab, HbB.out, HSK.out⟩
            case rest =>
              obtain ⟨arg, t, nt', hans, hb, hbox, hcode, hlines, htgt, hnt, hlab, hbl, hsk⟩ := hcut
              clear HF HMN Hws2 HAc HbB HSK Hbx z0 z1 zf1 hgc q
              have y0 := cell_block hbox 0
              have y1 := cell_block hbox 1
              have yf0 := frozen_block hbox 0
              have yf1 := frozen_block hbox 1
              have d0 := cell_block hb 0
              have d1 := cell_block hb 1
              by_cases h5 : st.code.length = 500
              · have HR := hide (show (lineF no (S0 :: r) st).1 = 5 by rw [hans]; unfold St.add; rw [if_pos h5])
                have q5 : ((st.code.length : Int) == 500) = true := by rw [h5]; rfl
                clear hans h5
                go_wp2
                go_ret
                exact lineRet_err HR.out (by decide) hbl
              · have HR := hide (show lineF no (S0 :: r) st = (0, ⟨st.code ++ [⟨OP, arg⟩], st.lines ++ [no], st.labs, st.tgts ++ [t]⟩) by rw [hans]; unfold St.add; rw [if_neg h5])
                have q5 : ((st.code.length : Int) == 500) = false := by rw [beq_eq_false_iff_ne]; omega
                have hle5 : st.code.length ≤ 499 := by have := HA.out.small; omega
                have hle6 : st.lines.length ≤ 499 := by have := HA.out.llen; omega
                obtain ⟨esT, clT, hT1, hT2⟩ := htgt
                have HN2 := hide (show NotRow (.cells #[.slice AC st.code.length cc, vl, .map (some B), .map (some (B + 1))] 53) from ⟨fun cs fr he => (by cases he), fun cs fr he => (by cases he)⟩)
                have HNX := hide (show ∀ cs fr, Obj.cells #[.int .i64 OP, .int .i64 arg] 41 ≠ Obj.cells cs 3 fr from fun cs fr he => by cases he)
                have HNY := hide (show ∀ cs fr, Obj.cells #[.int .i64 OP, .int .i64 arg] 41 ≠ Obj.cells cs 53 fr from fun cs fr he => by cases he)
                obtain ⟨esL, clL, hL1, hL2⟩ := hlab
                have hI : I38 B bx wa wc _ _ _ _ (.slice AC st.code.length cc) vl _ _ _ _ := ⟨hbox, hT1, hL1, hb, hcode, hlines, hbl, hsk, by have := block_lt hbox; omega, fun he => absurd (Hdis.out bx he) (by omega)⟩
                have HI := hide hI
                have HNT := hide (show NotRow (.map esT clT) from ⟨fun cs fr he => (by cases he), fun cs fr he => (by cases he)⟩)
                have HNL := hide (show NotRow (.map esL clL) from ⟨fun cs fr he => (by cases he), fun cs fr he => (by cases he)⟩)
                have HTm := hide (fun (w' : World) (h : w'.heap[B]? = some (.map esT clT)) => (show TgtAt w' B nt' (st.tgts ++ [t]) from ⟨esT, clT, h, hT2⟩))
                have HLm := hide (fun (w' : World) (h : w'.heap[B + 1]? = some (.map esL clL)) => (show LabAt w' (B + 1) nb st.labs from ⟨esL, clL, h, hL2⟩))
                clear hans h5 hI hb hbox hcode hlines hT1 hL1 hT2 hL2 hbl hsk
                go_wp2
                clear y0 y1 yf0 yf1 d0 d1 q5
                refine td_begin (by kernel_rfl) ?_
                (refine tda_take 0 (v := ?_) rfl (by kernel_rfl) (by decide +kernel) (by decide +kernel) (fun _ _ _ h => h) (by rfl) ?_ ?_; rotate_left; (· (intro w; (go_simp <;> with_reducible rfl))); (try simp only [Act.put, List.setIfInBounds_toArray, List.set_cons_zero, List.set_cons_succ]))
                (refine tda_take 1 (v := ?_) rfl (by kernel_rfl) (by decide +kernel) (by decide +kernel) (fun _ _ _ h => h) (by rfl) ?_ ?_; rotate_left; (· (intro w; (go_simp <;> with_reducible rfl))); (try simp only [Act.put, List.setIfInBounds_toArray, List.set_cons_zero, List.set_cons_succ]))
                (refine tda_take 2 (v := ?_) rfl (by kernel_rfl) (by decide +kernel) (by decide +kernel) (fun _ _ _ h => h) (by rfl) ?_ ?_; rotate_left; (· (intro w; (go_simp <;> with_reducible rfl))); (try simp only [Act.put, List.setIfInBounds_toArray, List.set_cons_zero, List.set_cons_succ]))
                (refine tda_take 3 (v := ?_) rfl (by kernel_rfl) (by decide +kernel) (by decide +kernel) (fun _ _ _ h => h) (by rfl) ?_ ?_; rotate_left; (· (intro w; (go_simp <;> with_reducible rfl))); (try simp only [Act.put, List.setIfInBounds_toArray, List.set_cons_zero, List.set_cons_succ]))
                (refine tda_take 4 (v := ?_) rfl (by kernel_rfl) (by decide +kernel) (by decide +kernel) (fun _ _ _ h => h) (by rfl) ?_ ?_; rotate_left; (· (intro w; (go_simp <;> with_reducible rfl))); (try simp only [Act.put, List.setIfInBounds_toArray, List.set_cons_zero, List.set_cons_succ]))
                (refine tda_take 9 (v := ?_) rfl (by kernel_rfl) (by decide +kernel) (by decide +kernel) (fun _ _ _ h => h) (by rfl) ?_ ?_; rotate_left; (· (intro w; (go_simp <;> with_reducible rfl))); (try simp only [Act.put, List.setIfInBounds_toArray, List.set_cons_zero, List.set_cons_succ]))
                (refine tda_take 10 (v := ?_) rfl (by kernel_rfl) (by decide +kernel) (by decide +kernel) (fun _ _ _ h => h) (by rfl) ?_ ?_; rotate_left; (· (intro w; (go_simp <;> with_reducible rfl))); (try simp only [Act.put, List.setIfInBounds_toArray, List.set_cons_zero, List.set_cons_succ]))
                (refine tda_take 11 (v := ?_) rfl (by kernel_rfl) (by decide +kernel) (by decide +kernel) (fun _ _ _ h => h) (by rfl) ?_ ?_; rotate_left; (· (intro w; (go_simp <;> with_reducible rfl))); (try simp only [Act.put, List.setIfInBounds_toArray, List.set_cons_zero, List.set_cons_succ]))
                (refine tda_take 13 (v := ?_) rfl (by kernel_rfl) (by decide +kernel) (by decide +kernel) (fun _ _ _ h => h) (by rfl) ?_ ?_; rotate_left; (· (intro w; (go_simp <;> with_reducible rfl))); (try simp only [Act.put, List.setIfInBounds_toArray, List.set_cons_zero, List.set_cons_succ]))
                refine td_hold (fun W2 => W2.cell? ⟨B + 2, 0, none⟩ = some (.slice AC st.code.length cc) ∧ W2.cell? ⟨B + 2, 1, none⟩ = some vl ∧ W2.cell? ⟨bx, 0, none⟩ = some (.int .i64 OP) ∧ W2.cell? ⟨bx, 1, none⟩ = some (.int .i64 arg)) [16, 17, 18, 19, 20, 21] (by decide +kernel) ?_ (fun hHeld => ?_)
                · (first | with_reducible exact I38.keep (I38.drew HI.out) | with_reducible exact I38.keep (I38.drew (I38.alloc HI.out _)) | with_reducible exact I38.keep (I38.drew (I38.alloc (I38.alloc HI.out _) _)) | with_reducible exact I38.keep HI6.out | with_reducible exact I38.keep (I38.alloc HI6.out _) | with_reducible exact I38.keep HI7.out)
                (refine td_take 5 (v := ?_) rfl (by decide) (by kernel_rfl) (by decide +kernel) (by decide +kernel) (fun _ _ _ h => h) (by assumption) (by rfl) ?_ ?_; rotate_left; (· (intro w hSw; (try dsimp only at hSw); (go_simp <;> with_reducible rfl))); (try simp only [Act.put, List.setIfInBounds_toArray, List.set_cons_zero, List.set_cons_succ]))
                (refine td_take 6 (v := ?_) rfl (by decide) (by kernel_rfl) (by decide +kernel) (by decide +kernel) (fun _ _ _ h => h) (by assumption) (by rfl) ?_ ?_; rotate_left; (· (intro w hSw; (try dsimp only at hSw); (go_simp <;> with_reducible rfl))); (try simp only [Act.put, List.setIfInBounds_toArray, List.set_cons_zero, List.set_cons_succ]))
                (refine td_take 12 (v := ?_) rfl (by decide) (by kernel_rfl) (by decide +kernel) (by decide +kernel) (fun _ _ _ h => h) (by assumption) (by rfl) ?_ ?_; rotate_left; (· (intro w hSw; (try dsimp only at hSw); (go_simp <;> with_reducible rfl))); (try simp only [Act.put, List.setIfInBounds_toArray, List.set_cons_zero, List.set_cons_succ]))
                repeat' (first
                  | (refine td_ready (rs := [7, 14]) (by decide +kernel) (by decide) (by simp) ?_; refine td_cons rfl (fun K hK => ?_) (td_cons rfl (fun K hK => ?_) (td_nil)); (focus (go_simp; (first | refine hK.out _ _ ?_ ?_ | (go_wp2_with fail; refine hK.out _ _ ?_ ?_)); (· (first | with_reducible exact I38.keep (I38.drew HI.out) | with_reducible exact I38.keep (I38.drew (I38.alloc HI.out _)) | with_reducible exact I38.keep (I38.drew (I38.alloc (I38.alloc HI.out _) _)) | with_reducible exact I38.keep HI6.out | with_reducible exact I38.keep (I38.alloc HI6.out _) | with_reducible exact I38.keep HI7.out)); clear hK K hHeld; intro hHeld; (try simp only [Act.put, List.setIfInBounds_toArray, List.set_cons_zero, List.set_cons_succ]))); rotate_left; (focus (go_simp; (first | refine hK.out _ _ ?_ ?_ | (go_wp2_with fail; refine hK.out _ _ ?_ ?_)); (· (first | with_reducible exact I38.keep (I38.drew HI.out) | with_reducible exact I38.keep (I38.drew (I38.alloc HI.out _)) | with_reducible exact I38.keep (I38.drew (I38.alloc (I38.alloc HI.out _) _)) | with_reducible exact I38.keep HI6.out | with_reducible exact I38.keep (I38.alloc HI6.out _) | with_reducible exact I38.keep HI7.out)); clear hK K hHeld; intro hHeld; (try simp only [Act.put, List.setIfInBounds_toArray, List.set_cons_zero, List.set_cons_succ]))); rotate_left)
                  | (refine td_ready (rs := [8, 14]) (by decide +kernel) (by decide) (by simp) ?_; refine td_cons rfl (fun K hK => ?_) (td_cons rfl (fun K hK => ?_) (td_nil)); (focus (refine step_code (by first | with_reducible exact I38.drew (I38.alloc HI.out _) | with_reducible exact I38.drew (I38.alloc (I38.alloc HI.out _) _)) (.tmp 131) (.tmp 133) (by rfl) (by rfl) (by rfl) _ OP arg (by rfl) (by first | exact block_new wc _ | exact block_alloc (block_new wc _) _ | exact block_new' (by simp)) (by omega) HN2.out HNT.out HNL.out ?_; intro g6 cap6 w6 hI6 hk6; have HI6 := hide hI6; have Hk6 := hide hk6; clear hI6 hk6; (first | refine hK.out _ _ ?_ ?_ | (go_wp2_with fail; refine hK.out _ _ ?_ ?_)); (· (first | with_reducible exact I38.keep (I38.drew HI.out) | with_reducible exact I38.keep (I38.drew (I38.alloc HI.out _)) | with_reducible exact I38.keep (I38.drew (I38.alloc (I38.alloc HI.out _) _)) | with_reducible exact I38.keep HI6.out | with_reducible exact I38.keep (I38.alloc HI6.out _) | with_reducible exact I38.keep HI7.out)); clear hK K hHeld; intro hHeld; (try simp only [Act.put, List.setIfInBounds_toArray, List.set_cons_zero, List.set_cons_succ]))); rotate_left; (focus (go_simp; (first | refine hK.out _ _ ?_ ?_ | (go_wp2_with fail; refine hK.out _ _ ?_ ?_)); (· (first | with_reducible exact I38.keep (I38.drew HI.out) | with_reducible exact I38.keep (I38.drew (I38.alloc HI.out _)) | with_reducible exact I38.keep (I38.drew (I38.alloc (I38.alloc HI.out _) _)) | with_reducible exact I38.keep HI6.out | with_reducible exact I38.keep (I38.alloc HI6.out _) | with_reducible exact I38.keep HI7.out)); clear hK K hHeld; intro hHeld; (try simp only [Act.put, List.setIfInBounds_toArray, List.set_cons_zero, List.set_cons_succ]))); rotate_left)
                  | (refine td_ready (rs := [7]) (by decide +kernel) (by decide) (by simp) ?_; refine td_cons rfl (fun K hK => ?_) (td_nil); (focus (go_simp; (first | refine hK.out _ _ ?_ ?_ | (go_wp2_with fail; refine hK.out _ _ ?_ ?_)); (· (first | with_reducible exact I38.keep (I38.drew HI.out) | with_reducible exact I38.keep (I38.drew (I38.alloc HI.out _)) | with_reducible exact I38.keep (I38.drew (I38.alloc (I38.alloc HI.out _) _)) | with_reducible exact I38.keep HI6.out | with_reducible exact I38.keep (I38.alloc HI6.out _) | with_reducible exact I38.keep HI7.out)); clear hK K hHeld; intro hHeld; (try simp only [Act.put, List.setIfInBounds_toArray, List.set_cons_zero, List.set_cons_succ]))); rotate_left)
                  | (refine td_ready (rs := [8]) (by decide +kernel) (by decide) (by simp) ?_; refine td_cons rfl (fun K hK => ?_) (td_nil); (focus (refine step_code (by first | with_reducible exact I38.drew (I38.alloc HI.out _) | with_reducible exact I38.drew (I38.alloc (I38.alloc HI.out _) _)) (.tmp 131) (.tmp 133) (by rfl) (by rfl) (by rfl) _ OP arg (by rfl) (by first | exact block_new wc _ | exact block_alloc (block_new wc _) _ | exact block_new' (by simp)) (by omega) HN2.out HNT.out HNL.out ?_; intro g6 cap6 w6 hI6 hk6; have HI6 := hide hI6; have Hk6 := hide hk6; clear hI6 hk6; (first | refine hK.out _ _ ?_ ?_ | (go_wp2_with fail; refine hK.out _ _ ?_ ?_)); (· (first | with_reducible exact I38.keep (I38.drew HI.out) | with_reducible exact I38.keep (I38.drew (I38.alloc HI.out _)) | with_reducible exact I38.keep (I38.drew (I38.alloc (I38.alloc HI.out _) _)) | with_reducible exact I38.keep HI6.out | with_reducible exact I38.keep (I38.alloc HI6.out _) | with_reducible exact I38.keep HI7.out)); clear hK K hHeld; intro hHeld; (try simp only [Act.put, List.setIfInBounds_toArray, List.set_cons_zero, List.set_cons_succ]))); rotate_left)
                  | (refine td_ready (rs := [14]) (by decide +kernel) (by decide) (by simp) ?_; refine td_cons rfl (fun K hK => ?_) (td_nil); (focus (go_simp; (first | refine hK.out _ _ ?_ ?_ | (go_wp2_with fail; refine hK.out _ _ ?_ ?_)); (· (first | with_reducible exact I38.keep (I38.drew HI.out) | with_reducible exact I38.keep (I38.drew (I38.alloc HI.out _)) | with_reducible exact I38.keep (I38.drew (I38.alloc (I38.alloc HI.out _) _)) | with_reducible exact I38.keep HI6.out | with_reducible exact I38.keep (I38.alloc HI6.out _) | with_reducible exact I38.keep HI7.out)); clear hK K hHeld; intro hHeld; (try simp only [Act.put, List.setIfInBounds_toArray, List.set_cons_zero, List.set_cons_succ]))); rotate_left)
                  | (refine td_ready (rs := [15]) (by decide +kernel) (by decide) (by simp) ?_; refine td_cons rfl (fun K hK => ?_) (td_nil); (focus (refine step_line (by first | with_reducible exact I38.alloc HI6.out _ | with_reducible exact HI6.out) (.tmp 138) (.tmp 140) (by rfl) (by rfl) (by rfl) _ no (by rfl) (by first | exact block_new w6 _ | exact Hk6.out _ _ _ (block_new' (by simp)) | exact Hk6.out _ _ _ (block_alloc (block_new wc _) _)) (by omega) HN2.out HNT.out HNL.out HNX.out ?_; intro g7 cap7 w7 hI7 hk7; have HI7 := hide hI7; clear hI7 hk7; obtain ⟨y70, y71, yf70, yf71⟩ := HI7.out.cells; (first | refine hK.out _ _ ?_ ?_ | (go_wp2_with fail; refine hK.out _ _ ?_ ?_)); (· (first | with_reducible exact I38.keep (I38.drew HI.out) | with_reducible exact I38.keep (I38.drew (I38.alloc HI.out _)) | with_reducible exact I38.keep (I38.drew (I38.alloc (I38.alloc HI.out _) _)) | with_reducible exact I38.keep HI6.out | with_reducible exact I38.keep (I38.alloc HI6.out _) | with_reducible exact I38.keep HI7.out)); clear hK K hHeld; intro hHeld; (try simp only [Act.put, List.setIfInBounds_toArray, List.set_cons_zero, List.set_cons_succ]))); rotate_left)
                  | fail)
                all_goals (refine td_last (rs := [16]) (by decide +kernel) (by decide) ?_)
                all_goals clear hHeld
                repeat' (first
                  | (refine tda_ready (rs := [16]) (by decide +kernel) (by simp) ?_; refine tda_cons rfl (fun K hK => ?_) (tda_nil); (focus (go_simp; refine hK.out _ _ ?_; clear hK K; (try simp only [Act.put, List.setIfInBounds_toArray, List.set_cons_zero, List.set_cons_succ]))); rotate_left)
                  | (refine tda_ready (rs := [17]) (by decide +kernel) (by simp) ?_; refine tda_cons rfl (fun K hK => ?_) (tda_nil); (focus (go_simp; refine hK.out _ _ ?_; clear hK K; (try simp only [Act.put, List.setIfInBounds_toArray, List.set_cons_zero, List.set_cons_succ]))); rotate_left)
                  | (refine tda_ready (rs := [18]) (by decide +kernel) (by simp) ?_; refine tda_cons rfl (fun K hK => ?_) (tda_nil); (focus (go_simp; refine hK.out _ _ ?_; clear hK K; (try simp only [Act.put, List.setIfInBounds_toArray, List.set_cons_zero, List.set_cons_succ]))); rotate_left)
                  | (refine tda_ready (rs := [19]) (by decide +kernel) (by simp) ?_; refine tda_cons rfl (fun K hK => ?_) (tda_nil); (focus (go_simp; refine hK.out _ _ ?_; clear hK K; (try simp only [Act.put, List.setIfInBounds_toArray, List.set_cons_zero, List.set_cons_succ]))); rotate_left)
                  | (refine tda_ready (rs := [20]) (by decide +kernel) (by simp) ?_; refine tda_cons rfl (fun K hK => ?_) (tda_nil); (focus (go_simp; refine hK.out _ _ ?_; clear hK K; (try simp only [Act.put, List.setIfInBounds_toArray, List.set_cons_zero, List.set_cons_succ]))); rotate_left)
                  | (refine tda_ready (rs := [21]) (by decide +kernel) (by simp) ?_; refine tda_cons rfl (fun K hK => ?_) (tda_nil); (focus (go_simp; refine hK.out _ _ ?_; clear hK K; (try simp only [Act.put, List.setIfInBounds_toArray, List.set_cons_zero, List.set_cons_succ]))); rotate_left)
                  | fail)
                all_goals refine tda_done (by decide +kernel) ?_
                all_goals
                  go_wp2
                  go_ret
                  have hfin := HI7.out.fin (u0 := .slice (some ⟨g6, 0, none⟩) (st.code.length + 1) cap6) (u1 := .slice (some ⟨g7, 0, none⟩) (st.lines.length + 1) cap7) HNY.out
                  exact lineRet_ok HR.out ⟨_, _, nt', nb, hfin.asm (by simp) (by simp [Ins.enc]) (by simp) (by simp) HTm.out HLm.out (by have := HA.out.llen; simp; omega) (by have := HA.out.tlen; simp; omega) (by simp; omega) (by simp; omega) HA.out.nb HA.out.nodup⟩ hfin.sk hfin.bl
end Go.Proofs.YtonnjokjbknngaaDoor
