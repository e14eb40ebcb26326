/- The reference's Assemble. -/
import Derived.Test.YtonnjokjbknngaaDoorZ41
import Derived.Test.YtonnjokjbknngaaDoorZ9
namespace Go.Proofs.YtonnjokjbknngaaDoor
open Go.RowKit Go.Maps Go.Lib Go.Shelf

theorem refAt_zero (w : World) : RefAt (w.alloc (.cells #[.slice none 0 0, .slice none 0 0, .slice none 0 0, .slice none 0 0, .slice none 0 0] 60)) w.heap.size (fun _ => .slice none 0 0) St.zero :=
  ⟨R5.start (block_new w _) (fun i => by cases i <;> exact World.ownsRow_nil _ _ _ _) (fun i j _ k h => by cases h), rfl, rfl, by simp [St.zero]⟩
theorem str_form {w : World} {B : Nat} {v : Value} {l : List BS} (h : OwnStr w B v l) (h0 : 0 < l.length) :
    ∃ (g cap : Nat) (cs : Array Value), v = .slice (some ⟨g, 0, none⟩) l.length cap ∧ B ≤ g ∧ g < w.heap.size ∧ w.heap[g]? = some (.cells cs 9) ∧ ∀ (k : Nat) (x : BS), l[k]? = some x → cs[k]? = some (strV x) := by
  have hc := h
  rcases h.2 with ⟨rfl, h1⟩ | ⟨g, cap, cur, rfl, hg, hh, _⟩
  · omega
  · refine ⟨g, cap, cur, rfl, hg, block_lt hh, hh, fun k x hx => ?_⟩
    have hk := (List.getElem?_eq_some_iff.1 hx).1
    have := hc.cellAt k (by omega)
    rw [cell_block hh, List.getElem?_map, hx] at this
    exact this
theorem linesG_pos : ∀ (l cur : BS), 0 < (linesG l cur).length
  | [], cur => by unfold linesG; simp
  | c :: t, cur => by
    unfold linesG
    split
    · simp
    · exact linesG_pos t _
/-- The block of a slice that is no row of the state stays, whatever a line does. -/
theorem R5.other {B : Nat} {w0 W : World} {v0 v : Fld → Value} {bs : Array Value} {n : Fld → Nat} {x : Fld → List Value} (h : R5 B w0 W v0 bs v n x) {g : Nat} {o : Obj} (hg : w0.heap[g]? = some o) (hB : B ≠ g) (hv : ∀ i, (v0 i).ownBlock ≠ some g) : W.heap[g]? = some o ∧ ∀ i, (v i).ownBlock ≠ some g :=
  ⟨(h.std g (block_lt hg) (fun e => hB e.symm) hv).trans hg, fun i hi => by
    rcases h.new i g hi with ⟨j, hj⟩ | hj
    · exact hv j hj
    · have := block_lt hg; omega⟩
theorem lens_same {st : St} {k : Nat} {done : List Ins} (h : (done ++ st.code.drop k).length = st.code.length) : lensOf ⟨done ++ st.code.drop k, st.lines, st.labs, st.tgts⟩ = lensOf st := funext fun i => by
  cases i
  · exact h
  all_goals rfl
theorem R5.patch {B : Nat} {W : World} {v : Fld → Value} {n : Fld → Nat} {gc c k : Nat} {done r : List Ins} {x : Ins} {lines : List Int} {labs : List (BS × Nat)} {tgts : List BS} (h : R5 B W W v (box5 v) v n (rowsOf ⟨done ++ x :: r, lines, labs, tgts⟩)) (hv : v .code = .slice (some ⟨gc, 0, none⟩) (n .code) c) (hd : done.length = k) (a : Int) :
    R5 B (W.setCell ⟨gc, k * 2 + 1, none⟩ (.int .i64 a)) (W.setCell ⟨gc, k * 2 + 1, none⟩ (.int .i64 a)) v (box5 v) v n (rowsOf ⟨(done ++ [⟨x.op, a⟩]) ++ r, lines, labs, tgts⟩) := by
  subst hd
  have hc := h.own .code
  rw [hv] at hc
  obtain ⟨hst, hg⟩ := hc.stored (done.length * 2 + 1) (.int .i64 a)
  have h2 := h.app .code (g := gc) (cap := c) (nx := n .code) hst (by rw [hv]; exact hg) (.inl (by rw [hv]; rfl))
  have e1 : upd v .code (.slice (some ⟨gc, 0, none⟩) (n .code) c) = v := funext fun i => by
    by_cases hi : i = .code
    · subst hi; rw [upd_same, hv]
    · rw [upd_other _ _ hi]
  have e2 : upd n .code (n .code) = n := funext fun i => by
    by_cases hi : i = .code
    · subst hi; rw [upd_same]
    · rw [upd_other _ _ hi]
  have e3 : upd (rowsOf ⟨done ++ x :: r, lines, labs, tgts⟩) .code ((rowsOf ⟨done ++ x :: r, lines, labs, tgts⟩ .code).set (done.length * 2 + 1) (.int .i64 a)) = rowsOf ⟨(done ++ [⟨x.op, a⟩]) ++ r, lines, labs, tgts⟩ := funext fun i => by
    by_cases hi : i = .code
    · subst hi
      rw [upd_same]
      show ((done ++ x :: r).flatMap Ins.enc).set (done.length * 2 + 1) (.int .i64 a) = ((done ++ [(⟨x.op, a⟩ : Ins)]) ++ r).flatMap Ins.enc
      rw [flat_set, List.append_assoc]; rfl
    · rw [upd_other _ _ hi]
      cases i
      · exact absurd rfl hi
      all_goals rfl
  rw [e1, e2] at h2
  have h3 := h2.again
  have e4 := e3
  rw [show (rowsOf ⟨done ++ x :: r, lines, labs, tgts⟩ .code).set (done.length * 2 + 1) (.int .i64 a) = (rowsOf ⟨(done ++ [⟨x.op, a⟩]) ++ r, lines, labs, tgts⟩ .code) from by rw [← e3, upd_same]] at h3 e4
  rw [e4] at h3
  exact h3

set_option maxRecDepth 100000 in
set_option maxHeartbeats 3000000 in
theorem assembleR (w : World) (s : ByteArray) (hs : s.size ≤ 1000) : Calls Tryd.prog 13 #[.string s] w (AsmRet w s.data.toList) := by
  have hA1 := refAt_zero w
  have hbW := (Below.refl w.heap.size w).alloc (Nat.le_refl _) (.cells #[.slice none 0 0, .slice none 0 0, .slice none 0 0, .slice none 0 0, .slice none 0 0] 60)
  obtain ⟨WS, hWS⟩ : ∃ l, linesB s.data.toList = l := ⟨_, rfl⟩
  obtain ⟨n, hn⟩ : ∃ n, WS.length = n := ⟨_, rfl⟩
  have hlb := lines_bd s.data.toList []
  have hsl : s.data.toList.length = s.size := rfl
  have Hlsz := hide (show ∀ x ∈ WS, x.length ≤ 1000 from fun x hx => by
    have := hlb.1 x (by rw [← hWS] at hx; exact hx)
    simp at this; omega)
  have hn2 : n ≤ 1001 := by
    have := hlb.2
    rw [← hn, ← hWS]
    show (linesG s.data.toList []).length ≤ _
    omega
  have hn0 : 0 < n := by rw [← hn, ← hWS]; exact linesG_pos _ _
  have HSp := hide (fun (W : World) => linesR W s hs)
  simp only [hWS] at HSp
  have HWS := hide hWS
  have Hn := hide hn
  have HA1 := hide hA1
  have HbW := hide hbW
  clear hlb hsl hWS hn hs hA1 hbW
  go_enter Tryd.func13, Tryd.ntmps13
  go_wp2_with (first
    | (go_at_call 32; refine (HSp.out _).mono ?_; rintro e w2 ⟨vL, rfl, hownL, hb2⟩; obtain ⟨g, cL, cs, rfl, hgB, -, hblk, hcs⟩ := str_form hownL (by rw [Hn.out]; exact hn0); rw [Hn.out]; have Hblk := hide hblk; have Hcs := hide hcs; have HgB := hide hgB; have Hb2 := hide hb2; clear hownL hblk hcs hgB hb2)
    | fail)
  have hgB : w.heap.size < g := by have := HgB.out; simp at this; omega
  have hA2 := hide (show RefAt w2 w.heap.size (fun _ => .slice none 0 0) St.zero from ⟨(HA1.out.r5.below Hb2.out).again, HA1.out.llen, HA1.out.tlen, HA1.out.small⟩)
  have hbw2 := hide (HbW.out.trans (Hb2.out.mono HbW.out.size))
  clear HSp HA1 HbW Hb2 HgB
  go_loopw [7] (fun i wr => ∃ (k : Nat) (st : St) (v : Fld → Value), k ≤ n ∧ i = .int .i64 k ∧ RefAt wr w.heap.size v st ∧ JOk st ∧ st.labs.length ≤ k ∧ linesF 0 (WS.map wordsB) St.zero = linesF k ((WS.drop k).map wordsB) st ∧ wr.heap[g]? = some (.cells cs 9) ∧ (∀ i, (v i).ownBlock ≠ some g) ∧ Below w.heap.size w wr) (fun i _ => n - (intOf i).toNat)
  case atStart => exact ⟨0, St.zero, _, Nat.zero_le _, rfl, hA2.out, jok_zero, Nat.zero_le _, by simp, Hblk.out, (fun i h => by cases h), hbw2.out⟩
  case round =>
    clear hA2 hbw2 Hblk
    obtain ⟨k, st, v, hk, rfl, hA, hJ, hlab, hlin, hblk, hvg, hbr⟩ := hrel
    rename World => wo
    have HA := hide hA
    have HJ := hide hJ
    have Hblk := hide hblk
    have Hvg := hide hvg
    have HB := hide hbr
    by_cases hlt : k < n
    · have hltI : (k : Int) < (n : Int) := by omega
      have hkW : k < WS.length := by rw [Hn.out]; exact hlt
      obtain ⟨x, hx⟩ : ∃ x, WS[k]? = some x := ⟨_, List.getElem?_eq_getElem hkW⟩
      have hdr : WS.drop k = x :: WS.drop (k + 1) := drop_head hx
      have hc : wo.cell? ⟨g, k, none⟩ = some (strV x) := (cell_block hblk k).trans (Hcs.out k x hx)
      have hxz := Hlsz.out x (List.mem_of_getElem? hx)
      obtain ⟨sk, hsk⟩ : ∃ s : ByteArray, (⟨x.toArray⟩ : ByteArray) = s := ⟨_, rfl⟩
      have hskl : sk.data.toList = x := by rw [← hsk]
      unfold strV at hc
      rw [hsk] at hc
      have hskz : sk.size ≤ 1000 := by rw [← hskl] at hxz; exact hxz
      have hwd := wordsR wo sk hskz
      rw [hskl] at hwd
      obtain ⟨WD, hWD⟩ : ∃ l, wordsB x = l := ⟨_, rfl⟩
      rw [hWD] at hwd
      have hbd := words_bd x []
      have hd1 : ∀ y ∈ WD, y ≠ [] := fun y hy => wordsG_ne x [] y (by rw [← hWD] at hy; exact hy)
      have hd2 : ∀ y ∈ WD, y.length ≤ 1000 := fun y hy => by
        have := hbd.1 y (by rw [← hWD] at hy; exact hy)
        simp at this; omega
      have hd3 : WD.length ≤ 1001 := by
        have := hbd.2
        rw [← hWD]
        show (wordsG x []).length ≤ _
        omega
      obtain ⟨er, st', hr⟩ : ∃ er st', lineF ((k : Int) + 1) WD st = (er, st') := ⟨_, _, rfl⟩
      rw [hdr, List.map_cons, hWD, linesF_cons, hr] at hlin
      dsimp only at hlin
      have HWd := hide hwd
      have Hwo := hide (show w.heap.size ≤ wo.heap.size from Nat.le_of_lt hA.r5.lt)
      have hkl1 : st.labs.length ≤ 2000 := by omega
      clear hwd hbd hdr hx hxz hsk hskl hA hblk hbr hWD hJ hvg
      match WD, hd1, hd2, hd3, hr, HWd with
      | [], _, _, _, hr, HWd =>
        obtain ⟨rfl, rfl⟩ : (0 : Int) = er ∧ st = st' := by unfold lineF at hr; exact ⟨congrArg Prod.fst hr, congrArg Prod.snd hr⟩
        rw [if_pos rfl] at hlin
        have Hlin := hide hlin
        clear hlin hr hlt
        go_wp2_with (first
          | (go_at_call 33; refine HWd.out.mono ?_; rintro e w3 ⟨v3, rfl, hown3, hb3⟩; obtain ⟨A3, c3, rfl⟩ := own_form hown3; have Hb3 := hide hb3; clear hown3 hb3; simp only [List.length_nil])
          | fail)
        go_roundw
        case rel => exact ⟨k + 1, st, v, by omega, by go_num, ⟨(HA.out.r5.below Hb3.out).again, HA.out.llen, HA.out.tlen, HA.out.small⟩, HJ.out, by omega, Hlin.out, (Hb3.out.block _ (block_lt Hblk.out)).trans Hblk.out, Hvg.out, HB.out.trans (Hb3.out.mono Hwo.out)⟩
        case measure => simp [intOf]; omega
      | w0 :: r, hd1, hd2, hd3, hr, HWd =>
        obtain ⟨N, hN⟩ : ∃ N, r.length + 1 = N := ⟨_, rfl⟩
        have hN0 : 0 < N := by omega
        have hN0I : (0 : Int) < (N : Int) := by omega
        have qN : ((N : Int) == 0) = false := by rw [beq_eq_false_iff_ne]; omega
        have hw0 := hd1 w0 (by simp)
        obtain ⟨s0, hs0⟩ : ∃ s : ByteArray, (⟨w0.toArray⟩ : ByteArray) = s := ⟨_, rfl⟩
        have hs0l : s0.data.toList = w0 := by rw [← hs0]
        have hs0z : 0 < s0.size := by
          have h1 : s0.size = w0.length := by rw [← hs0l]; rfl
          have := List.length_pos_iff.2 hw0
          omega
        obtain ⟨d, hd⟩ : ∃ d, s0[0]'hs0z = d := ⟨_, rfl⟩
        have hhd : w0.head? = some d := by
          rw [← hd, get_at, hs0l]
          cases w0 with
          | nil => exact absurd rfl hw0
          | cons a b => rfl
        have Hs0 := hide (show strV w0 = .string s0 by unfold strV; rw [hs0])
        have Hlen := hide (show (w0 :: r).length = N from hN)
        have HN := hide hN
        have hNz : N ≤ 1001 := by rw [← hN]; exact hd3
        have l0 := d.toNat_lt
        have hs0I : (0 : Int) < (s0.size : Int) := by omega
        by_cases h35 : d = 35
        · have q35 : ((d.toNat : Int) == 35) = true := by rw [h35]; rfl
          obtain ⟨rfl, rfl⟩ : (0 : Int) = er ∧ st = st' := by
            unfold lineF at hr
            dsimp only at hr
            rw [if_pos (by rw [hhd, h35])] at hr
            exact ⟨congrArg Prod.fst hr, congrArg Prod.snd hr⟩
          rw [if_pos rfl] at hlin
          have Hlin := hide hlin
          clear hlin hr hlt hd1 hd2 hd3 hs0 hs0l hhd h35 hw0 hN
          go_wp2_with (first
            | (go_at_call 33; refine HWd.out.mono ?_; rintro e w3 ⟨v3, rfl, hown3, hb3⟩; obtain ⟨g3, c3, cs3, rfl, -, hg3, hblk3, hcs3⟩ := str_form hown3 (by rw [Hlen.out]; exact hN0); have c30 : w3.cell? ⟨g3, 0, none⟩ = some (.string s0) := (by rw [cell_block hblk3 0, ← Hs0.out]; exact hcs3 0 w0 rfl); rw [Hlen.out]; have Hb3 := hide hb3; clear hown3 hb3 hblk3 hcs3)
            | fail)
          go_roundw
          case rel => exact ⟨k + 1, st, v, by omega, by go_num, ⟨(HA.out.r5.below Hb3.out).again, HA.out.llen, HA.out.tlen, HA.out.small⟩, HJ.out, by omega, Hlin.out, (Hb3.out.block _ (block_lt Hblk.out)).trans Hblk.out, Hvg.out, HB.out.trans (Hb3.out.mono Hwo.out)⟩
          case measure => simp [intOf]; omega
        · have q35 : ((d.toNat : Int) == 35) = false := by
            rw [beq_eq_false_iff_ne]; intro h; exact h35 (UInt8.toNat_inj.1 (by show d.toNat = 35; omega))
          have HLn := hide (fun (W : World) (g' c' : Nat) (hb : Below wo.heap.size wo W) (hg' : g' < W.heap.size) (hc : ∀ k x, (w0 :: r)[k]? = some x → W.cell? ⟨g', k, none⟩ = some (strV x)) => lineR W w.heap.size v st ⟨(HA.out.r5.below hb).again, HA.out.llen, HA.out.tlen, HA.out.small⟩ hkl1 ((k : Int) + 1) w0 r N g' c' HN.out hg' hc hd2 hw0 (by rw [hhd]; intro h; exact h35 (Option.some.inj h)))
          rw [hr] at HLn
          by_cases he : er = 0
          · rw [if_pos he] at hlin
            have hq := lineF_ok (no := (k : Int) + 1) (ws := w0 :: r) HJ.out (by rw [hr]; exact he)
            rw [hr] at hq
            dsimp only at hq
            subst he
            have Hq := hide hq
            have Hlin := hide hlin
            clear hlin hr hlt hd1 hd2 hd3 hs0 hs0l hhd h35 hw0 hN hq
            go_wp2_with (first
              | (go_at_call 34; refine (HLn.out w3 g3 _ Hb3.out hg3 Hcl.out).mono ?_; rintro e w4 ⟨he4, hb4, hok⟩; dsimp only at he4 hok; subst he4; obtain ⟨v', hR5, hl1, hl2, hl3⟩ := hok rfl; have Hok := hide (And.intro hR5 (And.intro hl1 (And.intro hl2 hl3))); have Hb4 := hide hb4; clear hok hR5 hl1 hl2 hl3 hb4)
              | (go_at_call 33; refine HWd.out.mono ?_; rintro e w3 ⟨v3, rfl, hown3, hb3⟩; obtain ⟨g3, c3, cs3, rfl, -, hg3, hblk3, hcs3⟩ := str_form hown3 (by rw [Hlen.out]; exact hN0); have c30 : w3.cell? ⟨g3, 0, none⟩ = some (.string s0) := (by rw [cell_block hblk3 0, ← Hs0.out]; exact hcs3 0 w0 rfl); rw [Hlen.out]; have Hcl := hide (show ∀ k x, (w0 :: r)[k]? = some x → w3.cell? ⟨g3, k, none⟩ = some (strV x) from fun k x hx => (cell_block hblk3 k).trans (hcs3 k x hx)); have Hb3 := hide hb3; clear hown3 hb3 hblk3 hcs3)
              | fail)
            go_roundw
            case rel =>
              obtain ⟨hR5, hl1, hl2, hl3⟩ := Hok.out
              obtain ⟨ho1, ho2⟩ := hR5.other ((Hb3.out.block _ (block_lt Hblk.out)).trans Hblk.out) (by omega) Hvg.out
              exact ⟨k + 1, st', v', by omega, by go_num, ⟨hR5.again, hl1, hl2, hl3⟩, Hq.out.1, by have := Hq.out.2; omega, Hlin.out, ho1, ho2, (HB.out.trans (Hb3.out.mono Hwo.out)).trans Hb4.out⟩
            case measure => simp [intOf]; omega
          · rw [if_neg he] at hlin
            have HE := hide (asm_err (src := s.data.toList) (by rw [HWS.out]; exact hlin) he)
            have hq : (er != 0) = true := by simpa using he
            clear hlin hr hlt hd1 hd2 hd3 hs0 hs0l hhd h35 hw0 hN he
            go_wp2_with (first
              | (go_at_call 34; refine (HLn.out w3 g3 _ Hb3.out hg3 Hcl.out).mono ?_; rintro e w4 ⟨he4, hb4, hok⟩; dsimp only at he4 hok; subst he4; have Hb4 := hide hb4; clear hok hb4)
              | (go_at_call 33; refine HWd.out.mono ?_; rintro e w3 ⟨v3, rfl, hown3, hb3⟩; obtain ⟨g3, c3, cs3, rfl, -, hg3, hblk3, hcs3⟩ := str_form hown3 (by rw [Hlen.out]; exact hN0); have c30 : w3.cell? ⟨g3, 0, none⟩ = some (.string s0) := (by rw [cell_block hblk3 0, ← Hs0.out]; exact hcs3 0 w0 rfl); rw [Hlen.out]; have Hcl := hide (show ∀ k x, (w0 :: r)[k]? = some x → w3.cell? ⟨g3, k, none⟩ = some (strV x) from fun k x hx => (cell_block hblk3 k).trans (hcs3 k x hx)); have Hb3 := hide hb3; clear hown3 hb3 hblk3 hcs3)
              | fail)
            go_ret3
            exact asmRet_err HE.out ((HB.out.trans (Hb3.out.mono Hwo.out)).trans Hb4.out)
    · obtain rfl : k = n := by omega
      rw [List.drop_of_length_le (by rw [Hn.out]; exact Nat.le_refl _)] at hlin
      have HQ := hide (asm_ok (src := s.data.toList) (st := st) (no := 0) (by rw [HWS.out]; exact hlin))
      obtain ⟨NC, hNC⟩ : ∃ m, st.code.length = m := ⟨_, rfl⟩
      obtain ⟨A2, c2, hv2⟩ := own_form (hA.r5.own .code)
      have hv2' : v .code = .slice A2 NC c2 := by rw [← hNC]; exact hv2
      have hNC5 : NC ≤ 500 := by have := hA.small; omega
      have hlabz : st.labs.length ≤ 100000 := by omega
      have HNC := hide hNC
      have Hv2 := hide hv2'
      have Hll := hide (And.intro hA.llen hA.tlen)
      have hR0 := hide hA.r5
      clear HA Hcs HWS Hn Hlsz hlin hblk Hblk hlab hJ hA hNC hv2 hv2' hvg Hvg hn2 hn0 hk hbr hlt
      go_wp2
      go_loopw [10] (fun i wr => ∃ (k : Nat) (done : List Ins), k ≤ NC ∧ i = .int .i64 k ∧ R5 w.heap.size wr wr v (box5 v) v (lensOf st) (rowsOf ⟨done ++ st.code.drop k, st.lines, st.labs, st.tgts⟩) ∧ JumpsAt st k done ∧ Below w.heap.size w wr) (fun i _ => NC - (intOf i).toNat)
      case atStart => exact ⟨0, [], Nat.zero_le _, rfl, hR0.out, jumpsAt_zero st, HB.out⟩
      case round =>
        clear hR0 HB
        obtain ⟨k, done, hk, rfl, hR, hJu, hbr⟩ := hrel
        rename World => wp
        have y0 : wp.cell? ⟨w.heap.size, 0, none⟩ = some (.slice A2 NC c2) := by rw [← Hv2.out]; exact cell_block hR.box 0
        have HR5 := hide hR
        have HJu := hide hJu
        have HB := hide hbr
        by_cases hlt : k < NC
        · have hltI : (k : Int) < (NC : Int) := by omega
          have hkC : k < st.code.length := by rw [HNC.out]; exact hlt
          have hkL : k < st.lines.length := by rw [Hll.out.1]; exact hkC
          have hkT : k < st.tgts.length := by rw [Hll.out.2]; exact hkC
          obtain ⟨x, hx⟩ : ∃ x, st.code[k]? = some x := ⟨_, List.getElem?_eq_getElem hkC⟩
          obtain ⟨ln, hln⟩ : ∃ x, st.lines[k]? = some x := ⟨_, List.getElem?_eq_getElem hkL⟩
          obtain ⟨t, ht⟩ : ∃ x, st.tgts[k]? = some x := ⟨_, List.getElem?_eq_getElem hkT⟩
          have hdrop := drop_head hx
          have hdl : done.length = k := hJu.1
          obtain ⟨gc, cc, hvc, -, -⟩ := own_last' (hR.own .code) (m := k) (by show k < st.code.length; exact hkC)
          have hcc := (Hv2.out).symm.trans hvc
          have hA2g : A2 = some ⟨gc, 0, none⟩ := by injection hcc
          subst hA2g
          have hcode := hR.own .code
          rw [hvc] at hcode
          have hrc : rowsOf ⟨done ++ st.code.drop k, st.lines, st.labs, st.tgts⟩ .code = (done ++ x :: st.code.drop (k + 1)).flatMap Ins.enc := by rw [hdrop]; rfl
          rw [hrc] at hcode
          have hge : (done ++ x :: st.code.drop (k + 1))[k]? = some x := by rw [List.getElem?_append_right (by omega), hdl]; simp
          have cop : wp.cell? ⟨gc, k * 2, none⟩ = some (.int .i64 x.op) := (hcode.cellAt (k * 2) (by show k * 2 < st.code.length * 2; omega)).trans (flat_get (enc := Ins.enc) (sz := 2) (fun _ => rfl) _ k x 0 _ hge rfl)
          have carg : wp.cell? ⟨gc, k * 2 + 1, none⟩ = some (.int .i64 x.arg) := (hcode.cellAt (k * 2 + 1) (by show k * 2 + 1 < st.code.length * 2; omega)).trans (flat_get (enc := Ins.enc) (sz := 2) (fun _ => rfl) _ k x 1 _ hge rfl)
          have cfr : wp.frozen? ⟨gc, k * 2 + 1, none⟩ = false := hcode.frozenAt _
          have HJb := hide (fun W => jumpP W x.op)
          by_cases hj : x.op = 17 ∨ x.op = 18
          · have hjb : jumpB x.op = true := decide_eq_true hj
            rw [hjb] at HJb
            obtain ⟨gl, cl, hvl, -, -⟩ := own_last' (hR.own .lines) (m := k) (by show k < st.lines.length; exact hkL)
            obtain ⟨gt, ct, hvt, -, -⟩ := own_last' (hR.own .tgts) (m := k) (by show k < st.tgts.length; exact hkT)
            have hol := hR.own .lines
            have hot := hR.own .tgts
            rw [hvl] at hol
            rw [hvt] at hot
            have y1 : wp.cell? ⟨w.heap.size, 1, none⟩ = some (.slice (some ⟨gl, 0, none⟩) st.lines.length cl) := by rw [show (Value.slice (some ⟨gl, 0, none⟩) st.lines.length cl) = v .lines from hvl.symm]; exact cell_block hR.box 1
            have y2 : wp.cell? ⟨w.heap.size, 2, none⟩ = some (.slice (some ⟨gt, 0, none⟩) st.tgts.length ct) := by rw [show (Value.slice (some ⟨gt, 0, none⟩) st.tgts.length ct) = v .tgts from hvt.symm]; exact cell_block hR.box 2
            have cln : wp.cell? ⟨gl, k, none⟩ = some (.int .i64 ln) := (hol.cellAt k (by show k < st.lines.length * 1; omega)).trans (by show (st.lines.map (Value.int .i64))[k]? = _; simp [hln])
            have ctg : wp.cell? ⟨gt, k, none⟩ = some (strV t) := (hot.cellAt k (by show k < st.tgts.length * 1; omega)).trans (by show (st.tgts.map strV)[k]? = _; simp [ht])
            rw [Hll.out.1, HNC.out] at y1
            rw [Hll.out.2, HNC.out] at y2
            obtain ⟨TS, hTS⟩ : ∃ s : ByteArray, (⟨t.toArray⟩ : ByteArray) = s := ⟨_, rfl⟩
            have hTl : TS.data.toList = t := by rw [← hTS]
            unfold strV at ctg
            rw [hTS] at ctg
            have hfd := findR wp w.heap.size v ⟨done ++ st.code.drop k, st.lines, st.labs, st.tgts⟩ (by rw [lens_same (by simp; omega)]; exact hR) TS hlabz
            rw [hTl] at hfd
            dsimp only at hfd
            have Hx := hide hx
            have Hln := hide hln
            have Ht := hide ht
            have Hj := hide hj
            have hp := fun a => (show R5 w.heap.size (wp.setCell ⟨gc, k * 2 + 1, none⟩ (.int .i64 a)) (wp.setCell ⟨gc, k * 2 + 1, none⟩ (.int .i64 a)) v (box5 v) v (lensOf st) (rowsOf ⟨(done ++ [⟨x.op, a⟩]) ++ st.code.drop (k + 1), st.lines, st.labs, st.tgts⟩) from R5.patch (by rw [← hdrop]; exact hR) hvc hdl a)
            have hgw : w.heap.size ≤ gc := ((hR.own .code).lt gc (by rw [hvc]; rfl)).1
            have Hp := hide hp
            have Hgw := hide hgw
            clear hR hJu hbr hdrop hj hx hln ht hjb hvl hvt hol hot hTS hTl hrc hge hcode hvc hcc hp hgw hdl hkC hkL hkT
            cases hf : findL t st.labs with
            | none =>
              obtain ⟨jr, hjr⟩ := jumps_name HJu.out Hx.out Hln.out Ht.out Hj.out hf
              have HR := hide (show asmF s.data.toList = (6, ln, []) by rw [HQ.out, hjr]; rfl)
              rw [hf] at hfd
              unfold findV at hfd
              dsimp only at hfd
              have HFd := hide hfd
              clear hf hjr hfd
              go_wp2_with (first
                | (go_at_call 36; (with_reducible refine HFd.out.mono ?_); rintro e w5 ⟨rfl, rfl⟩)
                | (go_at_call 35; (with_reducible refine (HJb.out _).mono ?_); rintro e w5 ⟨rfl, rfl⟩)
                | fail)
              go_quiet (fail)
              go_wp2
              go_ret3
              exact asmRet_err HR.out (below_drewN HB.out _)
            | some a =>
              rw [hf] at hfd
              unfold findV at hfd
              dsimp only at hfd
              have HFd := hide hfd
              by_cases ha : a ≤ k
              · obtain ⟨jr, hjr⟩ := jumps_range HJu.out Hx.out Hln.out Ht.out Hj.out hf ha
                have HR := hide (show asmF s.data.toList = (2, ln, []) by rw [HQ.out, hjr]; rfl)
                have haI : (a : Int) ≤ (k : Int) := by omega
                clear hf hjr hfd
                go_wp2_with (first
                  | (go_at_call 36; (with_reducible refine HFd.out.mono ?_); rintro e w5 ⟨rfl, rfl⟩)
                  | (go_at_call 35; (with_reducible refine (HJb.out _).mono ?_); rintro e w5 ⟨rfl, rfl⟩)
                  | fail)
                go_quiet (fail)
                go_wp2
                go_ret3
                exact asmRet_err HR.out (below_drewN HB.out _)
              · have HJ2 := hide (jumps_set HJu.out Hx.out Hln.out Ht.out Hj.out hf ha)
                have haI : ¬ (a : Int) ≤ (k : Int) := by omega
                have haI2 : (k : Int) < (a : Int) := by omega
                clear hf hfd
                go_wp2_with (first
                  | (go_at_call 36; (with_reducible refine HFd.out.mono ?_); rintro e w5 ⟨rfl, rfl⟩)
                  | (go_at_call 35; (with_reducible refine (HJb.out _).mono ?_); rintro e w5 ⟨rfl, rfl⟩)
                  | fail)
                go_roundw
                case rel => exact ⟨k + 1, done ++ [⟨x.op, a⟩], by omega, by go_num, Hp.out a, HJ2.out, HB.out.setCell Hgw.out _⟩
                case measure => simp [intOf]; omega
          · have hjb : jumpB x.op = false := decide_eq_false hj
            rw [hjb] at HJb
            have HJ2 := hide (jumps_skip HJu.out hx hln ht hj)
            have HR2 := hide (show R5 w.heap.size wp wp v (box5 v) v (lensOf st) (rowsOf ⟨(done ++ [x]) ++ st.code.drop (k + 1), st.lines, st.labs, st.tgts⟩) by rw [List.append_assoc, List.singleton_append, ← hdrop]; exact HR5.out)
            clear hR hJu hbr hdrop hj hx hln ht hjb hrc hge hcode hvc hcc hdl hkC hkL hkT
            go_wp2_with (first
              | (go_at_call 35; (with_reducible refine (HJb.out _).mono ?_); rintro e w5 ⟨rfl, rfl⟩)
              | fail)
            go_roundw
            case rel => exact ⟨k + 1, done ++ [x], by omega, by go_num, HR2.out, HJ2.out, HB.out⟩
            case measure => simp [intOf]; omega
        · obtain rfl : k = NC := by omega
          have HJe := hide (jumps_end hJu (by rw [HNC.out]; exact Nat.le_refl _))
          have HR := hide (show asmF s.data.toList = (0, 0, done) by rw [HQ.out, HJe.out]; rfl)
          have HO := hide (show OwnIns wp w.heap.size (.slice A2 k c2) done from by
            have h := hR.own .code
            rw [Hv2.out] at h
            have e : lensOf st .code = done.length := by show st.code.length = _; rw [HNC.out, hJu.1]
            rw [e] at h
            have e2 : rowsOf ⟨done ++ st.code.drop k, st.lines, st.labs, st.tgts⟩ .code = done.flatMap Ins.enc := by
              show (done ++ st.code.drop k).flatMap Ins.enc = _
              rw [List.drop_of_length_le (by rw [HNC.out]; exact Nat.le_refl _), List.append_nil]
            rw [e2] at h
            exact h)
          clear hR hJu hbr HQ
          go_wp2
          go_ret3
          exact asmRet_ok HR.out HO.out HB.out
end Go.Proofs.YtonnjokjbknngaaDoor
