/- scriptcode.Assemble. -/
import Derived.Test.YtonnjokjbknngaaDoorZ8
import Derived.Test.YtonnjokjbknngaaDoorZ9a
import Derived.Maps.StringElems
import Derived.Deep.QuietTactic
import Derived.BigQuiet
import Derived.WalkArith
namespace Go.Proofs.YtonnjokjbknngaaDoor
open Go.RowKit Go.Maps Go.Lib Go.Shelf

theorem splitQ (w : World) (s : ByteArray) (hs : s.size ≤ 3000000) (hm : Mx w) (n : Nat) (hn : (linesB s.data.toList).length = n) : Calls Tryd.prog 19 #[.string s, .string ⟨#[10]⟩] w fun e w' =>
    ∃ (g : Nat) (cs : Array Value), e = .returned (.slice (some ⟨g, 0, none⟩) n n) ∧ w.heap.size ≤ g ∧ w'.heap[g]? = some (.cells cs 9) ∧ (∀ (k : Nat) (x : BS), (linesB s.data.toList)[k]? = some x → cs[k]? = some (strV x)) ∧ Below w.heap.size w w' := by
  obtain ⟨-, m, hm1⟩ := hm
  have h := Any.strings_Split laysSplit (by kernel_rfl) s ⟨#[10]⟩ m w (by omega) hm1 (by decide)
  have hlen : (linesB s.data.toList).length = Lib.countB s ⟨#[10]⟩ + 1 := by
    rw [← split_lines s, List.length_map]
    exact Lib.splitB_all _ (by decide) 0 _ s rfl
  refine h.mono ?_
  rintro e w' ⟨rfl, rfl⟩
  refine ⟨w.heap.size, _, by rw [← hn, hlen], Nat.le_refl _, block_new w _, fun k x hx => ?_, (Below.refl _ w).alloc (Nat.le_refl _) _⟩
  rw [strs_of _ _ (split_lines s)]
  simp [hx]

theorem wpList_lookup_own_ok_str {P : Program} (w : World) {ops : Array Oper} {rest : List Oper} {o : Oper} {a : Act} {Q : Exit → Act → World → Prop} (hg : o.guard = none) (m x : Operand) (t : TypeId) (hop : o.op = Op.lookup t m x true)
    (k e : TypeId) (K : Keyed P k) (ht : P.underlying t = some (.map k e)) (he : P.underlying e = some .string) (hz : (zeroValue e).run P w = .ok (.string ⟨#[]⟩) w) (b n : Nat) (D : DataW Unit)
    (hm : a.eval m = .map (some b)) (hown : w.ownsMap P k (plainElem P e) b n D) (key : Value) (kl : Lit) (hx : a.eval x = key) (hkey : keyOf P k key = some kl)
    (hK : ∀ c : ByteArray, D.atKey kl (.lit (.string [])) = .lit (.string c.data.toList) → c.size ≤ maxLen → wpList P ops Q rest (a.put o.dst (.tuple #[.string c, .bool (Maps.has D kl)])) w) :
    wpList P ops Q (o :: rest) a w :=
  wpList_lookup_own_ok w hg m x t hop k e K ht (plainElem P e) hz (.lit (.string [])) [] (plainElem_string he (by decide)) b n D hm hown key kl hx hkey (fun v ps hv => by
    obtain ⟨c, rfl, hc, hwc⟩ := plainElem_string_inv he hv
    exact hK c (congrArg Prod.fst hc) hwc)

/-- What Assemble's call comes to. -/
def AsmRet (w : World) (src : BS) (e : Ending) (w' : World) : Prop := ∃ v, e = .returned (.tuple #[v, .int .i64 (asmF src).2.1, .int .i64 (asmF src).1]) ∧ OwnIns w' w.heap.size v (asmF src).2.2 ∧ Below w.heap.size w w'
theorem asmRet_err {w w' : World} {src : BS} {er no : Int} (h : asmF src = (er, no, [])) (hb : Below w.heap.size w w') : AsmRet w src (.returned (.tuple #[.slice none 0 0, .int .i64 no, .int .i64 er])) w' := by
  refine ⟨.slice none 0 0, by rw [h], ?_, hb⟩
  rw [h]
  exact World.ownsRow_nil _ _ _ _
theorem asmRet_ok {w w' : World} {src : BS} {v : Value} {l : List Ins} (h : asmF src = (0, 0, l)) (hown : OwnIns w' w.heap.size v l) (hb : Below w.heap.size w w') : AsmRet w src (.returned (.tuple #[v, .int .i64 0, .int .i64 0])) w' := by
  refine ⟨v, by rw [h], ?_, hb⟩
  rw [h]
  exact hown

theorem AsmAt.patch {w : World} {B gc n c k : Nat} {vl : Value} {nt nb : Nat} {done r : List Ins} {x : Ins} {lines : List Int} {labs : List (BS × Nat)} {tgts : List BS} (h : AsmAt w B (.slice (some ⟨gc, 0, none⟩) n c) vl nt nb ⟨done ++ x :: r, lines, labs, tgts⟩) (hn : n = (done ++ x :: r).length) (hd : done.length = k) (a : Int) :
    AsmAt (w.setCell ⟨gc, k * 2 + 1, none⟩ (.int .i64 a)) B (.slice (some ⟨gc, 0, none⟩) n c) vl nt nb ⟨done ++ ⟨x.op, a⟩ :: r, lines, labs, tgts⟩ := by
  subst hn hd
  obtain ⟨hst, hg⟩ := h.code.stored (done.length * 2 + 1) (.int .i64 a)
  have hk : ∀ j o', w.heap[j]? = some o' → (∀ cs fr, o' ≠ Obj.cells cs 41 fr) → (w.setCell ⟨gc, done.length * 2 + 1, none⟩ (.int .i64 a)).heap[j]? = some o' := fun j o' hj hne => (hg.block j (block_lt hj) (row_ne h.code hj hne)).trans hj
  have hlen : (done ++ (⟨x.op, a⟩ : Ins) :: r).length = (done ++ x :: r).length := by simp
  refine ⟨hk _ _ h.box (by intro a b he; cases he), ?_, own_other h.lines h.code (by decide) hg, ?_, ?_, by rw [hlen]; exact h.llen, by rw [hlen]; exact h.tlen, by rw [hlen]; exact h.small, by rw [hlen]; exact h.nt, h.nb, h.nodup⟩
  · show World.ownsRow _ _ _ _ _ (done ++ (⟨x.op, a⟩ : Ins) :: r).length _
    rw [hlen, ← flat_set]
    exact hst
  · obtain ⟨es, clk, h1, h2⟩ := h.tgt
    exact ⟨es, clk, hk _ _ h1 (by intro a b he; cases he), h2⟩
  · obtain ⟨es, clk, h1, h2⟩ := h.lab
    exact ⟨es, clk, hk _ _ h1 (by intro a b he; cases he), h2⟩
theorem below_drewN {B : Nat} {a w : World} (h : Below B a w) (n : Nat) : Below B a (w.drewN n) := ⟨h.os, h.tape, h.output, h.size, h.block⟩

set_option maxRecDepth 100000 in
set_option maxHeartbeats 3000000 in
theorem asmP (w : World) (s : ByteArray) (hs : s.size ≤ 2900000) (hm : Mx w) : Calls Tryd.prog 12 #[.string s] w (AsmRet w s.data.toList) := by
  have hmm := @run_makeMap Tryd.prog
  have hbW := (((Below.refl w.heap.size w).alloc (Nat.le_refl _) (.map #[] 0)).alloc (by simp) (.map #[] 0)).alloc (by simp; omega) (.cells #[.slice none 0 0, .slice none 0 0, .map (some w.heap.size), .map (some (w.heap.size + 1))] 53)
  have hA1 : AsmAt (((w.alloc (.map #[] 0)).alloc (.map #[] 0)).alloc (.cells #[.slice none 0 0, .slice none 0 0, .map (some w.heap.size), .map (some (w.heap.size + 1))] 53)) w.heap.size (.slice none 0 0) (.slice none 0 0) 0 0 St.zero :=
    ⟨block_new' (by simp), World.ownsRow_nil _ _ _ _, World.ownsRow_nil _ _ _ _, (World.ownsMap_made w _ _ _).alloc _ |>.alloc _, by
      have h := (World.ownsMap_made (H := Unit) (w.alloc (.map #[] 0)) Tryd.prog 9 (plainElem (H := Unit) Tryd.prog 3)).alloc (.cells #[.slice none 0 0, .slice none 0 0, .map (some w.heap.size), .map (some (w.heap.size + 1))] 53)
      rw [World.size_alloc] at h
      exact h, rfl, rfl, by simp [St.zero], Nat.le_refl _, Nat.le_refl _, by simp [St.zero]⟩
  obtain ⟨WS, hWS⟩ : ∃ l, linesB s.data.toList = l := ⟨_, rfl⟩
  obtain ⟨n, hn⟩ : ∃ n, WS.length = n := ⟨_, rfl⟩
  have hlb := lines_bd s.data.toList []
  have hsl : s.data.toList.length = s.size := rfl
  have Hlsz := hide (show ∀ x ∈ WS, x.length ≤ 2900000 from fun x hx => by
    have := hlb.1 x (by rw [← hWS] at hx; exact hx)
    simp at this; omega)
  have hn2 : n ≤ 3000001 := by
    have := hlb.2
    rw [← hn, ← hWS]
    show (linesG s.data.toList []).length ≤ _
    omega
  have HSp := hide (fun (W : World) (hW : Mx W) => splitQ W s (by omega) hW n (by rw [hWS]; exact hn))
  simp only [hWS] at HSp
  have HWS := hide hWS
  have Hn := hide hn
  have HAs := hide (fun W (hb : Below _ _ W) => hA1.below hb)
  have Hmb := hide (hm.below hbW)
  clear hlb hsl hWS hn hA1 hm hs
  go_enter Tryd.func12, Tryd.ntmps12
  go_wp2_with (first
    | (go_at_call 19; refine (HSp.out _ Hmb.out).mono ?_; rintro e w2 ⟨g, cs, rfl, hg, hblk, hcs, hb2⟩)
    | fail)
  have hA2 := HAs.out w2 hb2
  have hbw2 := hbW.trans (hb2.mono hbW.size)
  have Hcs := hide hcs
  clear hcs hb2 hg hbW hmm HSp Hmb HAs
  go_loopw [20] (fun i wr => ∃ (k : Nat) (st : St) (vc vl : Value) (nt nb : Nat), k ≤ n ∧ i = .int .i64 k ∧ AsmAt wr w.heap.size vc vl nt nb st ∧ JOk st ∧ st.labs.length ≤ k ∧ linesF 0 (WS.map wordsB) St.zero = linesF k ((WS.drop k).map wordsB) st ∧ wr.heap[g]? = some (.cells cs 9) ∧ Below w.heap.size w wr) (fun i _ => n - (intOf i).toNat)
  case atStart => exact ⟨0, St.zero, _, _, 0, 0, Nat.zero_le _, rfl, hA2, jok_zero, Nat.zero_le _, by simp, hblk, hbw2⟩
  case round =>
    clear hA2 hbw2 hblk
    obtain ⟨k, st, vc, vl, nt, nb, hk, rfl, hA, hJ, hlab, hlin, hblk, hbr⟩ := hrel
    rename World => wo
    have HA := hide hA
    have HJ := hide hJ
    have Hblk := hide hblk
    by_cases hlt : k < n
    · have hltI : (k : Int) < (n : Int) := by omega
      have hkW : k < WS.length := by rw [Hn.out]; exact hlt
      obtain ⟨x, hx⟩ : ∃ x, WS[k]? = some x := ⟨_, List.getElem?_eq_getElem hkW⟩
      have hdr : WS.drop k = x :: WS.drop (k + 1) := drop_head hx
      have hc : wo.cell? ⟨g, k, none⟩ = some (strV x) := (cell_block hblk k).trans (Hcs.out k x hx)
      have hxz := Hlsz.out x (List.mem_of_getElem? hx)
      obtain ⟨sk, hsk⟩ : ∃ s : ByteArray, (⟨x.toArray⟩ : ByteArray) = s := ⟨_, rfl⟩
      have hskl : sk.data.toList = x := by rw [← hsk]
      unfold strV at hc
      rw [hsk] at hc
      have hskz : sk.size ≤ 3000000 := by rw [← hskl] at hxz; exact Nat.le_trans hxz (by omega)
      have hwd := wordsP wo sk hskz
      rw [hskl] at hwd
      obtain ⟨WD, hWD⟩ : ∃ l, wordsB x = l := ⟨_, rfl⟩
      rw [hWD] at hwd
      have hbd := words_bd x []
      have hd1 : ∀ y ∈ WD, y ≠ [] := fun y hy => wordsG_ne x [] y (by rw [← hWD] at hy; exact hy)
      have hd2 : ∀ y ∈ WD, y.length ≤ 3000000 := fun y hy => by
        have := hbd.1 y (by rw [← hWD] at hy; exact hy)
        simp at this; omega
      have hd3 : WD.length ≤ 3000000 := by
        have := hbd.2
        rw [← hWD]
        show (wordsG x []).length ≤ _
        omega
      obtain ⟨er, st', hr⟩ : ∃ er st', lineF ((k : Int) + 1) WD st = (er, st') := ⟨_, _, rfl⟩
      rw [hdr, List.map_cons, hWD, linesF_cons, hr] at hlin
      dsimp only at hlin
      have HLn := hide (fun (W : World) (g' c' : Nat) (hb : Below wo.heap.size wo W) (hg' : g' < W.heap.size) (hc : ∀ k x, WD[k]? = some x → W.cell? ⟨g', k, none⟩ = some (strV x)) => lineP W w.heap.size vc vl nt nb st ((k : Int) + 1) g' c' WD (HA.out.below hb) (by omega) hg' hc hd1 hd2 hd3)
      rw [hr] at HLn
      have HWd := hide hwd
      have HB := hide hbr
      have Hwo := hide (show w.heap.size ≤ wo.heap.size by have := HA.out.lt; omega)
      clear hwd hbd hd1 hd2 hd3 hWD hdr hx hxz hsk hskl hA hJ hblk hbr
      by_cases he : er = 0
      · rw [if_pos he] at hlin
        have hq := lineF_ok (no := (k : Int) + 1) (ws := WD) HJ.out (by rw [hr]; exact he)
        rw [hr] at hq
        dsimp only at hq
        subst he
        have Hq := hide hq
        have Hlin := hide hlin
        clear hq hlin hr
        go_wp2_with (first
          | (go_at_call 31; refine HWd.out.mono ?_; rintro e w3 ⟨g', rfl, -, hgl, hcl, hb3⟩; have Hcl := hide hcl; have Hb3 := hide hb3; clear hcl hb3)
          | (go_at_call 30; refine (HLn.out w3 g' _ Hb3.out hgl Hcl.out).mono ?_; rintro e w4 ⟨he4, hb4, hok⟩; dsimp only at he4 hok; subst he4; obtain ⟨⟨vc', vl', nt', nb', hA4⟩, hsk⟩ := hok rfl; have HA4 := hide hA4; have Hsk := hide hsk; have Hb4 := hide hb4; clear hok hA4 hsk hb4)
          | fail)
        go_roundw
        case rel => exact ⟨k + 1, st', vc', vl', nt', nb', by omega, by go_num, HA4.out, Hq.out.1, by have := Hq.out.2; omega, Hlin.out, Hsk.out.2 _ _ _ ((Hb3.out.block _ (block_lt Hblk.out)).trans Hblk.out), (HB.out.trans (Hb3.out.mono Hwo.out)).trans Hb4.out⟩
        case measure => simp [intOf]; omega
      · rw [if_neg he] at hlin
        have HE := hide (asm_err (src := s.data.toList) (by rw [HWS.out]; exact hlin) he)
        have hq : (er != 0) = true := by simpa using he
        clear hlin hr he
        go_wp2_with (first
          | (go_at_call 31; refine HWd.out.mono ?_; rintro e w3 ⟨g', rfl, -, hgl, hcl, hb3⟩; have Hcl := hide hcl; have Hb3 := hide hb3; clear hcl hb3)
          | (go_at_call 30; refine (HLn.out w3 g' _ Hb3.out hgl Hcl.out).mono ?_; rintro e w4 ⟨he4, hb4, hok⟩; dsimp only at he4 hok; subst he4; have Hb4 := hide hb4; clear hok hb4)
          | fail)
        go_ret3
        exact asmRet_err HE.out ((HB.out.trans (Hb3.out.mono Hwo.out)).trans Hb4.out)
    · obtain rfl : k = n := by omega
      rw [List.drop_of_length_le (by rw [Hn.out]; exact Nat.le_refl _)] at hlin
      have HQ := hide (asm_ok (src := s.data.toList) (st := st) (no := 0) (by rw [HWS.out]; exact hlin))
      obtain ⟨A2, c2, rfl⟩ := own_form hA.code
      obtain ⟨NC, hNC⟩ : ∃ m, st.code.length = m := ⟨_, rfl⟩
      have y0 : wo.cell? ⟨w.heap.size + 1 + 1, 0, none⟩ = some (.slice A2 st.code.length c2) := hA.cells.1
      rw [hNC] at y0 HA hA
      have hNC5 : NC ≤ 500 := by have := hA.small; omega
      have HNC := hide hNC
      have hA0 := HA.out
      clear HA Hcs HWS Hn Hlsz hlin hblk Hblk hlab hJ hA hNC
      go_wp2
      go_loopw [42] (fun i wr => ∃ (k : Nat) (done : List Ins), k ≤ NC ∧ i = .int .i64 k ∧ AsmAt wr w.heap.size (.slice A2 NC c2) vl nt nb ⟨done ++ st.code.drop k, st.lines, st.labs, st.tgts⟩ ∧ JumpsAt st k done ∧ Below w.heap.size w wr) (fun i _ => NC - (intOf i).toNat)
      case atStart => exact ⟨0, [], Nat.zero_le _, rfl, hA0, jumpsAt_zero st, hbr⟩
      case round =>
        clear y0 hA0 hbr
        obtain ⟨k, done, hk, rfl, hA, hJu, hbr⟩ := hrel
        rename World => wp
        have y0 : wp.cell? ⟨w.heap.size + 1 + 1, 0, none⟩ = some (.slice A2 NC c2) := hA.cells.1
        have HA := hide hA
        have HJu := hide hJu
        have HB := hide hbr
        by_cases hlt : k < NC
        · have hltI : (k : Int) < (NC : Int) := by omega
          have hkC : k < st.code.length := by rw [HNC.out]; exact hlt
          have hkL : k < st.lines.length := by have := hA.llen; have := HJ.out.1; have h5 := hA.tlen; dsimp only at *; omega
          have hkT : k < st.tgts.length := by have := HJ.out.1; omega
          obtain ⟨x, hx⟩ : ∃ x, st.code[k]? = some x := ⟨_, List.getElem?_eq_getElem hkC⟩
          obtain ⟨ln, hln⟩ : ∃ x, st.lines[k]? = some x := ⟨_, List.getElem?_eq_getElem hkL⟩
          obtain ⟨t, ht⟩ : ∃ x, st.tgts[k]? = some x := ⟨_, List.getElem?_eq_getElem hkT⟩
          have htd : st.tgts.getD k [] = t := by simp [List.getD, ht]
          have hjx := HJ.out.2 k x t hx ht
          have y2 : wp.cell? ⟨w.heap.size + 1 + 1, 2, none⟩ = some (.map (some w.heap.size)) := hA.cells.2.2.1
          have hh1 := tgtD_has st.tgts k hkT
          rw [htd] at hh1
          have hwf : (Lit.int .i64 (k : Int)).wf = true := Go.WalkArith.wf_i64 (by omega)
          have Hwf := hide hwf
          have hdrop := drop_head hx
          by_cases hj : x.op = 17 ∨ x.op = 18
          · have htn : t ≠ [] := hjx.2 hj
            rw [decide_eq_true htn] at hh1
            have HH1 := hide hh1
            have HAt1 := hide (show (tgtD st.tgts).atKey (.int .i64 (k : Int)) (.lit (.string [])) = .lit (.string t) by rw [tgtD_at st.tgts k _ hkT (by rw [htd]; exact htn), htd])
            have y3 : wp.cell? ⟨w.heap.size + 1 + 1, 3, none⟩ = some (.map (some (w.heap.size + 1))) := hA.cells.2.2.2
            have y1 : wp.cell? ⟨w.heap.size + 1 + 1, 1, none⟩ = some vl := hA.cells.2.1
            obtain ⟨gl, cl, hvl, -, -⟩ := hA.lines.form (by dsimp only; omega)
            subst hvl
            dsimp only at y1
            have cln : wp.cell? ⟨gl, k, none⟩ = some (.int .i64 ln) := (hA.lines.cellAt k (by dsimp only; omega)).trans (by simp [hln])
            obtain ⟨NL, hNL⟩ : ∃ m, st.lines.length = m := ⟨_, rfl⟩
            rw [hNL] at y1 hkL
            have hkLI : (k : Int) < (NL : Int) := by omega
            have hk0 : (0 : Int) ≤ (k : Int) := by omega
            have Hx := hide hx
            have Hln := hide hln
            have Ht := hide ht
            have Hj := hide hj
            have HNL := hide hNL
            have hdrop2 : done ++ st.code.drop k = done ++ x :: st.code.drop (k + 1) := by rw [hdrop]
            have Hdrop2 := hide hdrop2
            clear hA hJu hbr hjx htd hh1 hwf hdrop hj hx hln ht hNL htn hdrop2
            cases hf : findL t st.labs with
            | none =>
              have HF := hide (show has (labD st.labs) (.string t) = false by rw [labD_has, hf]; rfl)
              obtain ⟨jr, hjr⟩ := jumps_name HJu.out Hx.out Hln.out Ht.out Hj.out hf
              have HR := hide (show asmF s.data.toList = (6, ln, []) by rw [HQ.out, hjr]; rfl)
              clear hf hjr
              go_wp2_with (first
                | (at_lookup; refine wpList_lookup_own_ok_str _ rfl _ _ 49 rfl 3 9 (int_keyed Tryd.underlying3) Tryd.underlying49 Tryd.underlying9 (by kernel_rfl) w.heap.size nt (tgtD st.tgts) rfl HA.out.tgt _ _ rfl (keyOf_int_mk Tryd.underlying3 Hwf.out) ?_; intro cc hat hcz; rw [HH1.out]; have Hct := hide (show t = cc.data.toList by have h := HAt1.out.symm.trans hat; simpa using h); have Hcz := hide hcz; clear hat hcz)
                | (at_lookup; refine wpList_lookup_own_ok_int _ rfl _ _ 50 rfl 9 3 .i64 (string_keyed Tryd.underlying9) Tryd.underlying50 Tryd.underlying3 (by kernel_rfl) (w.heap.size + 1) nb (labD st.labs) rfl HA.out.lab _ _ rfl (WideMaps.keyOf_string_mk (P := Tryd.prog) (k := 9) Tryd.underlying9 (s := cc) Hcz.out) ?_; intro ci hat hwc; rw [← Hct.out, HF.out]; clear hat hwc)
                | fail)
              go_quiet (fail)
              go_wp2
              go_ret3
              exact asmRet_err HR.out (below_drewN HB.out _)
            | some a =>
              have HF := hide (show has (labD st.labs) (.string t) = true by rw [labD_has, hf]; rfl)
              have HAt2 := hide (show (labD st.labs).atKey (.string t) (.lit (.int .i64 0)) = .lit (.int .i64 (a : Int)) by
                unfold labD
                rw [lab_at t _ _ _ isMap_empty HA.out.nodup, hf])
              by_cases ha : a ≤ k
              · obtain ⟨jr, hjr⟩ := jumps_range HJu.out Hx.out Hln.out Ht.out Hj.out hf ha
                have HR := hide (show asmF s.data.toList = (2, ln, []) by rw [HQ.out, hjr]; rfl)
                have Ha := hide ha
                clear hf hjr ha
                go_wp2_with (first
                  | (at_lookup; refine wpList_lookup_own_ok_str _ rfl _ _ 49 rfl 3 9 (int_keyed Tryd.underlying3) Tryd.underlying49 Tryd.underlying9 (by kernel_rfl) w.heap.size nt (tgtD st.tgts) rfl HA.out.tgt _ _ rfl (keyOf_int_mk Tryd.underlying3 Hwf.out) ?_; intro cc hat hcz; rw [HH1.out]; have Hct := hide (show t = cc.data.toList by have h := HAt1.out.symm.trans hat; simpa using h); have Hcz := hide hcz; clear hat hcz)
                  | (at_lookup; refine wpList_lookup_own_ok_int _ rfl _ _ 50 rfl 9 3 .i64 (string_keyed Tryd.underlying9) Tryd.underlying50 Tryd.underlying3 (by kernel_rfl) (w.heap.size + 1) nb (labD st.labs) rfl HA.out.lab _ _ rfl (WideMaps.keyOf_string_mk (P := Tryd.prog) (k := 9) Tryd.underlying9 (s := cc) Hcz.out) ?_; intro ci hat hwc; rw [← Hct.out] at hat; rw [← Hct.out, HF.out]; have Hci := hide (show (a : Int) = ci by have h := HAt2.out.symm.trans hat; simpa using h); have hle : ci ≤ (k : Int) := (by have h1 := Hci.out; have h2 := Ha.out; omega); clear hat hwc)
                  | fail)
                go_quiet (fail)
                go_wp2
                go_ret3
                exact asmRet_err HR.out (below_drewN HB.out _)
              · have HJ2 := hide (jumps_set HJu.out Hx.out Hln.out Ht.out Hj.out hf ha)
                have hAx := HA.out
                rw [Hdrop2.out] at hAx
                obtain ⟨gc, cc2, hvc, -, -⟩ := hAx.code.form (by show 0 < (done ++ x :: st.code.drop (k + 1)).length; rw [List.length_append, List.length_cons]; omega)
                have hlenE : NC = (done ++ x :: st.code.drop (k + 1)).length := by injection hvc
                have hA2g : A2 = some ⟨gc, 0, none⟩ := by injection hvc
                subst hA2g
                have hdl : done.length = k := HJu.out.1
                have hcode := own_eq hAx.code hlenE.symm rfl
                have ccell : wp.cell? ⟨gc, k * 2 + 1, none⟩ = some (.int .i64 x.arg) := (hcode.cellAt (k * 2 + 1) (by omega)).trans (by
                  have := flat_get (enc := Ins.enc) (sz := 2) (fun _ => rfl) (done ++ x :: st.code.drop (k + 1)) k x 1 (.int .i64 x.arg) (by rw [List.getElem?_append_right (by omega), hdl]; simp) rfl
                  exact this)
                have cfr : wp.frozen? ⟨gc, k * 2 + 1, none⟩ = false := hcode.frozenAt _
                have hgB := (hcode.lt gc rfl).1
                have Hlaw := hide (fun (ci : Int) (hci : (a : Int) = ci) => (show AsmAt (wp.setCell ⟨gc, k * 2 + 1, none⟩ (.int .i64 ci)) w.heap.size (.slice (some ⟨gc, 0, none⟩) NC c2) (.slice (some ⟨gl, 0, none⟩) st.lines.length cl) nt nb ⟨(done ++ [⟨x.op, a⟩]) ++ st.code.drop (k + 1), st.lines, st.labs, st.tgts⟩ by
                  have := hAx.patch hlenE hdl a
                  rw [← hci, List.append_assoc, List.singleton_append]
                  exact this))
                have Ha := hide ha
                have Hgb := hide hgB
                clear hf ha hAx hvc hlenE hdl hcode hgB
                go_wp2_with (first
                  | (at_lookup; refine wpList_lookup_own_ok_str _ rfl _ _ 49 rfl 3 9 (int_keyed Tryd.underlying3) Tryd.underlying49 Tryd.underlying9 (by kernel_rfl) w.heap.size nt (tgtD st.tgts) rfl HA.out.tgt _ _ rfl (keyOf_int_mk Tryd.underlying3 Hwf.out) ?_; intro cc hat hcz; rw [HH1.out]; have Hct := hide (show t = cc.data.toList by have h := HAt1.out.symm.trans hat; simpa using h); have Hcz := hide hcz; clear hat hcz)
                  | (at_lookup; refine wpList_lookup_own_ok_int _ rfl _ _ 50 rfl 9 3 .i64 (string_keyed Tryd.underlying9) Tryd.underlying50 Tryd.underlying3 (by kernel_rfl) (w.heap.size + 1) nb (labD st.labs) rfl HA.out.lab _ _ rfl (WideMaps.keyOf_string_mk (P := Tryd.prog) (k := 9) Tryd.underlying9 (s := cc) Hcz.out) ?_; intro ci hat hwc; rw [← Hct.out] at hat; rw [← Hct.out, HF.out]; have Hci := hide (show (a : Int) = ci by have h := HAt2.out.symm.trans hat; simpa using h); have hle : (k : Int) < ci := (by have h1 := Hci.out; have h2 := Ha.out; omega); clear hat hwc)
                  | fail)
                go_roundw
                case rel => exact ⟨k + 1, done ++ [⟨x.op, a⟩], by omega, by go_num, Hlaw.out ci Hci.out, HJ2.out, HB.out.setCell Hgb.out _⟩
                case measure => simp [intOf]; omega
          · have hte : t = [] := Classical.byContradiction fun h => hj (hjx.1 h)
            rw [hte] at hh1
            have HH1 := hide (show has (tgtD st.tgts) (.int .i64 (k : Int)) = false from hh1)
            have HJ2 := hide (jumps_skip HJu.out hx hln ht hj)
            have HA2 := hide (show AsmAt wp w.heap.size (.slice A2 NC c2) vl nt nb ⟨(done ++ [x]) ++ st.code.drop (k + 1), st.lines, st.labs, st.tgts⟩ by rw [List.append_assoc, List.singleton_append, ← hdrop]; exact HA.out)
            clear hA hJu hbr hjx htd hh1 hwf hdrop hj hte hx hln ht
            go_wp2_with (first
              | (at_lookup; refine wpList_lookup_own_ok_str _ rfl _ _ 49 rfl 3 9 (int_keyed Tryd.underlying3) Tryd.underlying49 Tryd.underlying9 (by kernel_rfl) w.heap.size nt (tgtD st.tgts) rfl HA.out.tgt _ _ rfl (keyOf_int_mk Tryd.underlying3 Hwf.out) ?_; intro cc hat hcz; rw [HH1.out]; clear hat hcz)
              | fail)
            go_roundw
            case rel => exact ⟨k + 1, done ++ [x], by omega, by go_num, HA2.out, HJ2.out, HB.out⟩
            case measure => simp [intOf]; omega
        · obtain rfl : k = NC := by omega
          have HJe := hide (jumps_end hJu (by rw [HNC.out]; exact Nat.le_refl _))
          have HR := hide (show asmF s.data.toList = (0, 0, done) by rw [HQ.out, HJe.out]; rfl)
          have HO := hide (show OwnIns wp w.heap.size (.slice A2 k c2) done from by
            have h := hA.code
            dsimp only at h
            rw [List.drop_of_length_le (by rw [HNC.out]; exact Nat.le_refl _), List.append_nil] at h
            exact h)
          clear hA hJu hbr HQ
          go_wp2
          go_ret3
          exact asmRet_ok HR.out HO.out HB.out
end Go.Proofs.YtonnjokjbknngaaDoor
