/- frames: the title of a frame. -/
import Derived.Test.YtdgmjbcfopkibaaDoorF4
import Derived.Test.YtdgmjbcfopkibaaDoorBb2
import Derived.Test.YtdgmjbcfopkibaaDoorIx
namespace Go.Proofs.YtdgmjbcfopkibaaDoor
open Go.RowKit Go.Shelf

theorem trim_sp (s : ByteArray) : Lib.trimB s.data.toList 32 = trimSp s.data.toList := rfl
theorem scanG_step (P : Nat → Nat → Nat) (t c n : Nat) (s : Int × Int) (h : 0 < n) : scanG P t c n s = scanG P t (c + 1) (n - 1) (if hasA (P t c) 10 then s else (if s.2 < 0 then (c : Int) else s.1, (c : Int))) := by
  obtain ⟨m, rfl⟩ : ∃ m, n = m + 1 := ⟨n - 1, by omega⟩
  rfl
theorem textG_step (row : List Gl) (c n : Nat) (d : Int) (h : 0 < n) : textG row c n d = (if idx row c = d then [] else txt row (idx row c)) ++ textG row (c + 1) (n - 1) (idx row c) := by
  obtain ⟨m, rfl⟩ : ∃ m, n = m + 1 := ⟨n - 1, by omega⟩
  rfl
theorem idx_bd : ∀ (l : List Gl) (c : Int), 0 ≤ c → 0 ≤ idx l c ∧ idx l c ≤ l.length + c
  | [], c, h => by unfold idx; exact ⟨h, by simp⟩
  | g :: l, c, h => by
    unfold idx
    by_cases h1 : c < glW g
    · rw [if_pos h1]; simp; omega
    · rw [if_neg h1]
      have := idx_bd l (c - glW g) (by omega)
      have h2 := glW_pos g
      simp only [List.length_cons]; omega
theorem txt_in {row : List Gl} {x : Nat} (h : x < row.length) : txt row (x : Int) = row[x].text.data.toList := by
  unfold txt
  rw [if_pos (by omega), Int.toNat_natCast, List.getD_eq_getElem?_getD, List.getElem?_eq_getElem h]; rfl
theorem txt_out {row : List Gl} {x : Nat} (h : ¬ x < row.length) : txt row (x : Int) = [] := by unfold txt; rw [if_neg (by omega)]

/-- A builder stands while others make new memory. -/
theorem bld_below {T e : TypeId} {B b : Nat} {bs : List Value} {W W' : World} (h : Lib.IsBuilderF T e B b bs W) (hb : Below W.heap.size W W') : Lib.IsBuilderF T e B b bs W' := by
  have key : ∀ p, Lib.BuilderAtF T e B b p bs W → Lib.BuilderAtF T e B b p bs W' := fun p h => by
    have hlt := h.lt
    obtain ⟨h1, v, h2, h3, h4⟩ := h
    exact ⟨h1, v, (hb.block b hlt).trans h2, h3.kept (row := none) ⟨hb.os, hb.tape, hb.output, hb.size, fun k hk _ => hb.block k hk⟩ (Classical.em _), h4⟩
  exact h.elim (fun x => .inl (key _ x)) (fun x => .inr (key _ x))
theorem bld_bytes (acc : List UInt8) (t : ByteArray) : Lib.byteCells acc ++ Lib.strCells t = Lib.byteCells (acc ++ t.data.toList) := by
  rw [Lib.byteCells_append]; rfl

set_option maxRecDepth 100000 in
set_option maxHeartbeats 4000000 in
theorem titlePicP (w : World) (bp W t l r : Nat) (A : Option Addr) (c : Nat) (v : Vw) (hP : PicAt w bp v.rows.length W v.pic) (h : Rows2 w w.heap.size A v.rows) (htame : v.Tame) (ht : t < v.rows.length) (h3 : l + 2 ≤ r) (h4 : r ≤ W) (hW : W ≤ 200) :
    Calls Tryd.prog 21 #[.slice (some ⟨bp, 0, none⟩) v.rows.length v.rows.length, v.val A c, .int .i64 (t : Int), .int .i64 (l : Int), .int .i64 (r : Int)] w fun e w' => e = .returned (.string (titleB v.pic (v.rows.getD t []) t l r)) ∧ Below w.heap.size w w' := by
  obtain ⟨width, height, rows, row0, col0, vis⟩ := v
  dsimp only at hP h htame ht ⊢
  obtain ⟨P, hPP⟩ : ∃ P, Vw.pic ⟨width, height, rows, row0, col0, vis⟩ = P := ⟨_, rfl⟩
  rw [hPP] at hP ⊢
  obtain ⟨r1, hr1⟩ : ∃ r1, r = r1 + 1 := ⟨r - 1, by omega⟩
  have hr1I : (r : Int) - 1 = (r1 : Int) := by omega
  have hr1l : l + 1 ≤ r1 := by omega
  have hr1W : r1 < W := by omega
  obtain ⟨ba, off, rfl, hba, A1, c1, d0, d1, d2⟩ := h.get1 ht
  have hget : rows.getD t [] = rows[t] := by rw [List.getD_eq_getElem?_getD, List.getElem?_eq_getElem ht]; rfl
  obtain ⟨hl140, hg40⟩ := htame.2 _ (List.getElem_mem ht)
  rw [hget]
  obtain ⟨row, hrow⟩ : ∃ row, rows[t] = row := ⟨_, rfl⟩
  rw [hrow] at d0 d2 hl140 hg40 ⊢
  obtain ⟨S, hS⟩ : ∃ S, scanG P t (l + 1) (r1 - (l + 1)) (0, -1) = S := ⟨_, rfl⟩
  have htit : titleB P row t l r = ⟨(trimSp (textG row S.1.toNat (S.2 + 1 - S.1).toNat (-1))).toArray⟩ := by
    unfold titleB titleL
    rw [show r - 1 - (l + 1) = r1 - (l + 1) by omega, hS]
  rw [htit]
  obtain ⟨m, hm⟩ : ∃ m, row.length = m := ⟨_, rfl⟩
  rw [hm] at d0 hl140
  obtain ⟨n, hn⟩ : ∃ n, rows.length = n := ⟨_, rfl⟩
  rw [hn] at hP ht ⊢
  have htI : (t : Int) < (n : Int) := by omega
  have HHas := hide (fun (W1 : World) (hb : Below w.heap.size w W1) (k : Nat) (hk : k < W) => hasP W1 bp n W t k 10 10 P (hP.below hb) ht hk rfl (by omega))
  have HIx := hide (fun (W1 : World) (hb : Below w.heap.size w W1) (col : Int) (h0 : 0 ≤ col) (h1 : col ≤ 1000) => (indexVP W1 A1 c1 row col ((d2.below (GlAt.stays _) hb).more hb.size) (by omega) (by omega) (by omega)).mono fun e w' h => (show e = .returned (.int .i64 (idx row col)) ∧ Below W1.heap.size W1 w' from ⟨by rw [h.1]; unfold index15; rw [if_neg (by omega)], h.2⟩))
  have HGl := hide (fun (W1 : World) (hb : Below w.heap.size w W1) => d2.below (GlAt.stays _) hb)
  rw [hm] at HIx
  have Hm := hide hm
  have Hg40 := hide hg40
  have HS := hide hS
  have hbx := (Below.refl w.heap.size w).alloc (Nat.le_refl _) (.cells #[.int .i64 width, .int .i64 height, .slice (some ⟨ba, off, none⟩) n c, .int .i64 row0, .int .i64 col0, .bool vis] 24)
  have hvb := block_new w (.cells #[.int .i64 width, .int .i64 height, .slice (some ⟨ba, off, none⟩) n c, .int .i64 row0, .int .i64 col0, .bool vis] 24)
  obtain ⟨W1, hW1⟩ : ∃ W1, w.alloc (.cells #[.int .i64 width, .int .i64 height, .slice (some ⟨ba, off, none⟩) n c, .int .i64 row0, .int .i64 col0, .bool vis] 24) = W1 := ⟨_, rfl⟩
  have hs1 : W1.heap.size = w.heap.size + 1 := by rw [← hW1]; simp
  have HHas1 := hide (fun (k : Nat) (hk : k < W) => HHas.out W1 (by rw [← hW1]; exact hbx) k hk)
  have e0 : ∀ (W2 : World), Below w.heap.size w W2 → W2.cell? ⟨ba, off + t, none⟩ = some (.slice A1 m c1) := fun W2 hb => (hb.cell (p := ⟨ba, off + t, none⟩) hba).trans d0
  have He0 := hide e0
  rw [hW1] at hbx hvb
  have Hbx := hide hbx
  have Hvb := hide hvb
  have Hs1 := hide hs1
  unfold Vw.val
  dsimp only
  rw [hn]
  clear hP h htame hr1 d0 d1 d2 hget hrow hS htit hm hn hPP HHas hbx hvb hs1 e0 hg40
  go_enter Tryd.func21, Tryd.ntmps21
  go_wp2
  clear hW1
  go_loop [11, 12, 13] (fun f la cc => ∃ (k : Nat) (F L : Int), l + 1 ≤ k ∧ k ≤ r1 ∧ f = .int .i64 F ∧ la = .int .i64 L ∧ cc = .int .i64 (k : Int) ∧ (0 ≤ F ∧ F ≤ k ∧ -1 ≤ L ∧ L < k) ∧ scanG P t k (r1 - k) (F, L) = S) (fun _ _ cc => r1 - (intOf cc).toNat)
  case atStart => exact ⟨l + 1, 0, -1, Nat.le_refl _, hr1l, rfl, rfl, by go_num, by omega, HS.out⟩
  case round =>
    clear HS
    obtain ⟨k, F, L, h0, h1, rfl, rfl, rfl, hbd, hg⟩ := hrel
    by_cases hlt : k < r1
    · have hltI : (k : Int) < (r1 : Int) := by omega
      have HHk := hide (HHas1.out k (by omega))
      rw [scanG_step _ _ _ _ _ (by omega)] at hg
      obtain ⟨q, hq⟩ : ∃ q, hasA (P t k) 10 = q := ⟨_, rfl⟩
      rw [hq] at HHk hg
      clear hq
      cases q with
      | true =>
        have Hg := hide (show scanG P t (k + 1) (r1 - k - 1) (F, L) = S from hg)
        clear hg
        go_wp2_with (go_at_call 34; (with_reducible refine HHk.out.mono ?_); rintro e w0 ⟨rfl, rfl⟩)
        go_round
        case rel => exact ⟨k + 1, F, L, by omega, by omega, rfl, rfl, by go_num, by omega, by rw [← Nat.sub_sub]; exact Hg.out⟩
        case measure => simp [intOf]; omega
      | false =>
        by_cases hL : L < 0
        · have Hg := hide (show scanG P t (k + 1) (r1 - k - 1) ((k : Int), (k : Int)) = S by
            rw [← hg, if_neg (by decide)]; dsimp only; rw [if_pos hL])
          have qL : decide (L < 0) = true := decide_eq_true hL
          clear hg
          go_wp2_with (go_at_call 34; (with_reducible refine HHk.out.mono ?_); rintro e w0 ⟨rfl, rfl⟩)
          go_round
          case rel => exact ⟨k + 1, k, k, by omega, by omega, rfl, rfl, by go_num, by omega, by rw [← Nat.sub_sub]; exact Hg.out⟩
          case measure => simp [intOf]; omega
        · have Hg := hide (show scanG P t (k + 1) (r1 - k - 1) (F, (k : Int)) = S by
            rw [← hg, if_neg (by decide)]; dsimp only; rw [if_neg hL])
          have qL : decide (L < 0) = false := decide_eq_false hL
          clear hg
          go_wp2_with (go_at_call 34; (with_reducible refine HHk.out.mono ?_); rintro e w0 ⟨rfl, rfl⟩)
          go_round
          case rel => exact ⟨k + 1, F, k, by omega, by omega, rfl, rfl, by go_num, by omega, by rw [← Nat.sub_sub]; exact Hg.out⟩
          case measure => simp [intOf]; omega
    · obtain rfl : k = r1 := by omega
      rw [Nat.sub_self] at hg
      have HSe := hide (show (F, L) = S from hg)
      obtain ⟨f, hf⟩ : ∃ f : Nat, F = (f : Int) := ⟨F.toNat, by omega⟩
      subst hf
      obtain ⟨N, hN⟩ : ∃ N, (L + 1 - (f : Int)).toNat = N := ⟨_, rfl⟩
      have hNL : (N : Int) = L + 1 - f ∨ (N = 0 ∧ L + 1 ≤ f) := by omega
      obtain ⟨TX, hTX⟩ : ∃ TX, textG row f N (-1) = TX := ⟨_, rfl⟩
      have HT := hide (show textG row S.1.toNat (S.2 + 1 - S.1).toNat (-1) = TX by rw [← HSe.out]; dsimp only; rw [Int.toNat_natCast, hN]; exact hTX)
      have HTX := hide hTX
      have hI0 := hide (Lib.IsBuilderF.of (Lib.fresh_isBuilder 68 5 W1))
      have hb0 := hide ((Below.refl W1.heap.size W1).alloc (Nat.le_refl _) (.cells #[.pointer none, .slice none 0 0] 68))
      clear hg hTX hlt h0 h1 HHas1 hN
      have hfL : 0 ≤ f := Nat.zero_le _
      have hf200 : f ≤ 200 := by omega
      have hL200 : L ≤ 200 := by omega
      have hN200 : N ≤ 201 := by omega
      clear hbd
      go_wp2
      go_loopw [15, 16] (fun dd cc wr => ∃ (j : Nat) (D : Int) (acc : List UInt8), j ≤ N ∧ dd = .int .i64 D ∧ cc = .int .i64 ((f : Int) + j) ∧ acc ++ textG row (f + j) (N - j) D = TX ∧ acc.length ≤ 40 * j ∧ Lib.IsBuilderF 68 5 W1.heap.size W1.heap.size (Lib.byteCells acc) wr ∧ Below W1.heap.size W1 wr) (fun _ cc _ => (L + 1 - intOf cc).toNat)
      case atStart => exact ⟨0, -1, [], Nat.zero_le _, rfl, by go_num, by simpa using HTX.out, by simp, hI0.out, hb0.out⟩
      case round =>
        clear HTX hI0 hb0
        obtain ⟨j, D, acc, hj, rfl, rfl, htx, hacc, hI, hbr⟩ := hrel
        rename World => wo
        have hs1 : w.heap.size < W1.heap.size := by rw [Hs1.out]; omega
        have hbw := Hbx.out.trans (hbr.mono (by omega))
        have hsz := hbr.size
        by_cases hlj : j < N
        · have hle : (f : Int) + j ≤ L := by omega
          have y2 : wo.cell? ⟨w.heap.size, 2, none⟩ = some (.slice (some ⟨ba, off, none⟩) n c) := cell_block (block_below Hvb.out hbr (by omega)) 2
          have y3 := He0.out wo hbw
          rw [textG_step _ _ _ _ (by omega)] at htx
          have hib := idx_bd row ((f + j : Nat) : Int) (by omega)
          obtain ⟨x, hx⟩ : ∃ x : Nat, idx row ((f + j : Nat) : Int) = (x : Int) := ⟨(idx row ((f + j : Nat) : Int)).toNat, by omega⟩
          have HI := hide (HIx.out wo hbw ((f + j : Nat) : Int) (by omega) (by omega))
          rw [hx] at HI hib htx
          have hx400 : x ≤ 400 := by rw [Hm.out] at hib; omega
          rw [show ((f + j : Nat) : Int) = (f : Int) + (j : Int) by omega] at HI
          have Hbr := hide hbr
          have HIb := hide hI
          have HN := hide hlj
          have Hhj := hide (And.intro hj hacc)
          clear hx hib hbr hI
          have hK5 := hide (fun (w5 : World) (hb5 : Below wo.heap.size wo w5) => And.intro ((hb5.cell (p := ⟨w.heap.size, 2, none⟩) (by show w.heap.size < wo.heap.size; omega)).trans y2) (He0.out w5 (hbw.trans (hb5.mono hbw.size))))
          have hW5 := hide (fun (w5 : World) (hb5 : Below wo.heap.size wo w5) => hbw.trans (hb5.mono hbw.size))
          clear hbw
          by_cases hxd : (x : Int) = D
          · have q1 : ((x : Int) != D) = false := by simpa using hxd
            have Htx := hide (show acc ++ textG row (f + j + 1) (N - j - 1) (x : Int) = TX by rw [if_pos hxd] at htx; simpa using htx)
            clear htx hxd
            go_wp2_with (go_at_call 35; (with_reducible refine HI.out.mono ?_); rintro e w5 ⟨rfl, hb5⟩; have Hb5 := hide hb5; clear hb5)
            go_roundw
            case rel => exact ⟨j + 1, x, acc, by have := HN.out; omega, rfl, int_eq (by push_cast; omega), by rw [← Nat.sub_sub]; exact Htx.out, by have := Hhj.out.2; omega, bld_below HIb.out Hb5.out, Hbr.out.trans (Hb5.out.mono hsz)⟩
            case measure => simp [intOf]; omega
          · have q1 : ((x : Int) != D) = true := by simpa using hxd
            by_cases hxm : x < m
            · have hxr : x < row.length := by rw [Hm.out]; exact hxm
              have hxI : (x : Int) < (m : Int) := by omega
              have d1 : decide ((x : Int) < (m : Int)) = true := decide_eq_true hxI
              have d1' : decide (x < m) = true := decide_eq_true hxm
              obtain ⟨tx, htxx⟩ : ∃ tx, row[x].text = tx := ⟨_, rfl⟩
              have ht40 := Hg40.out _ (List.getElem_mem hxr)
              rw [htxx] at ht40
              have Htx := hide (show (acc ++ tx.data.toList) ++ textG row (f + j + 1) (N - j - 1) (x : Int) = TX by
                rw [if_neg hxd, txt_in hxr, htxx] at htx; rw [List.append_assoc]; exact htx)
              have Hcell := hide (fun (w5 : World) (hb5 : Below wo.heap.size wo w5) => (show ∃ b o, A1 = some ⟨b, o, none⟩ ∧ w5.cell? ⟨b, o + x * 3, none⟩ = some (.string tx) by
                obtain ⟨b, o, h1, -, h2, -, -⟩ := (HGl.out w5 (hW5.out w5 hb5)).get hxr
                rw [htxx] at h2
                exact ⟨b, o, h1, h2⟩))
              have Hlen := hide (show (Lib.byteCells acc).length + tx.size ≤ 140737488355328 by rw [Lib.byteCells_length]; have := Hhj.out.2; omega)
              have ht40H := hide (show tx.data.toList.length ≤ 40 from ht40)
              clear htx hxd htxx
              go_wp2_with (first
                | (go_at_call 35; (with_reducible refine HI.out.mono ?_); rintro e w5 ⟨rfl, hb5⟩; obtain ⟨z2, z3⟩ := hK5.out w5 hb5; obtain ⟨bG, oG, hA1, c0⟩ := Hcell.out w5 hb5; subst hA1; have Hb5 := hide hb5; have hI5 := hide (bld_below HIb.out hb5); have hs5 := hb5.size; clear hb5)
                | (go_at_call 36; refine (Any.Builder_WriteString_k laysWriteString writeStringX W1.heap.size W1.heap.size _ tx _ hI5.out Hlen.out (by omega)).mono ?_; rintro e w6 ⟨rfl, hh6, hb6, -⟩; have Hh6 := hide hh6; have Hb6 := hide hb6; clear hh6 hb6)
                | fail)
              go_roundw
              case rel => exact ⟨j + 1, x, acc ++ tx.data.toList, by have := HN.out; omega, rfl, int_eq (by push_cast; omega), by rw [← Nat.sub_sub]; exact Htx.out, by rw [List.length_append]; have := Hhj.out.2; have := ht40H.out; omega, by rw [← bld_bytes]; exact Or.inr Hh6.out, (Hbr.out.trans (Hb5.out.mono hsz)).trans Hb6.out⟩
              case measure => simp [intOf]; omega
            · have d1 : decide ((x : Int) < (m : Int)) = false := decide_eq_false (by omega)
              have d1' : decide (x < m) = false := decide_eq_false hxm
              have Htx := hide (show acc ++ textG row (f + j + 1) (N - j - 1) (x : Int) = TX by
                rw [if_neg hxd, txt_out (by rw [Hm.out]; exact hxm)] at htx; simpa using htx)
              clear htx hxd
              go_wp2_with (go_at_call 35; (with_reducible refine HI.out.mono ?_); rintro e w5 ⟨rfl, hb5⟩; obtain ⟨z2, z3⟩ := hK5.out w5 hb5; have Hb5 := hide hb5; clear hb5)
              go_roundw
              case rel => exact ⟨j + 1, x, acc, by have := HN.out; omega, rfl, int_eq (by push_cast; omega), by rw [← Nat.sub_sub]; exact Htx.out, by have := Hhj.out.2; omega, bld_below HIb.out Hb5.out, Hbr.out.trans (Hb5.out.mono hsz)⟩
              case measure => simp [intOf]; omega
        · obtain rfl : j = N := by omega
          have hle : ¬ (f : Int) + j ≤ L := by omega
          rw [Nat.sub_self] at htx
          have hacc2 : acc = TX := by simpa [textG] using htx
          subst hacc2
          have HT2 := hide (show textG row S.1.toNat (S.2 + 1 - S.1).toNat (-1) = acc from HT.out)
          have hacc3 : acc.length ≤ 9000 := by omega
          obtain ⟨AS, hAS⟩ : ∃ s : ByteArray, (⟨acc.toArray⟩ : ByteArray) = s := ⟨_, rfl⟩
          have hASl : AS.data.toList = acc := by rw [← hAS]
          have hASz : AS.size ≤ 9000 := by have : AS.size = AS.data.toList.length := rfl; rw [this, hASl]; exact hacc3
          have HST := hide (Any.Builder_String_any_k laysString stringX W1.heap.size W1.heap.size acc wo hI hsz)
          rw [hAS] at HST
          have HTr := hide (fun W2 => Any.strings_Trim_one laysTrim AS 32 (by decide) W2 (by omega))
          have HR := hide (show (⟨(trimSp (textG row S.1.toNat (S.2 + 1 - S.1).toNat (-1))).toArray⟩ : ByteArray) = ⟨(Lib.trimB AS.data.toList 32).toArray⟩ by rw [HT2.out, trim_sp, hASl])
          have Hbr := hide hbr
          have Hbw := hide hbw
          clear htx hI hbr hbw hAS hASl HT HT2 hacc hacc3
          go_wp2_with (first
            | (go_at_call 38; refine HST.out.mono ?_; rintro e w6 ⟨rfl, -, hb6, -⟩; have Hb6 := hide hb6; clear hb6)
            | (go_at_call 37; refine (HTr.out _).mono ?_; rintro e w7 ⟨rfl, hw7⟩; have Hw7 := hide hw7; clear hw7)
            | fail)
          go_ret
          refine ⟨by rw [HR.out]; rfl, ?_⟩
          have hb6 := Hbw.out.trans (Hb6.out.mono (by omega))
          rcases Hw7.out with rfl | rfl
          · exact hb6
          · exact hb6.drew
end Go.Proofs.YtdgmjbcfopkibaaDoor
