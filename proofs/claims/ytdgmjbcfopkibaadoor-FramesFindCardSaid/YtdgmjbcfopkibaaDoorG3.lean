/- narratorref23.Closed and Title, for rectangles that are closed. -/
import Derived.Test.YtdgmjbcfopkibaaDoorG2
namespace Go.Proofs.YtdgmjbcfopkibaaDoor
open Go.RowKit

/-- Blanks taken off the right. -/
def rdw (l : List UInt8) : List UInt8 := (l.reverse.dropWhile (· == 32)).reverse
theorem rdw_cons (x : UInt8) (l : List UInt8) : rdw (x :: l) = if rdw l = [] then (if x == 32 then [] else [x]) else x :: rdw l := by
  unfold rdw
  rw [List.reverse_cons, List.dropWhile_append]
  by_cases h : (l.reverse.dropWhile (· == 32)) = []
  · rw [if_pos (by simp [h]), if_pos (by simp [h]), List.dropWhile_cons]
    cases x == 32 <;> rfl
  · rw [if_neg (by simpa using h), if_neg (by simpa using h)]; simp
theorem trim_swap : ∀ l : List UInt8, rdw (l.dropWhile (· == 32)) = (rdw l).dropWhile (· == 32)
  | [] => rfl
  | x :: l => by
    rw [rdw_cons]
    cases hx : x == 32 with
    | true =>
      rw [List.dropWhile_cons, if_pos hx, trim_swap l]
      by_cases h : rdw l = []
      · rw [if_pos h, h]; rfl
      · rw [if_neg h, List.dropWhile_cons, if_pos hx]
    | false =>
      rw [List.dropWhile_cons, if_neg (by simp [hx]), rdw_cons]
      by_cases h : rdw l = [] <;> simp [h, hx]
theorem trimSp_rdw (l : List UInt8) : trimSp l = rdw (l.dropWhile (· == 32)) := (trim_swap l).symm
theorem rdw_snoc (l : List UInt8) (x : UInt8) : rdw (l ++ [x]) = if x == 32 then rdw l else l ++ [x] := by
  unfold rdw
  rw [List.reverse_append, List.reverse_cons, List.reverse_nil, List.nil_append, List.singleton_append, List.dropWhile_cons]
  cases x == 32 <;> simp

theorem get_ba (s : ByteArray) (k : Nat) (h : k < s.size) : s[k]'h = s.data.toList.getD k 0 := by
  obtain ⟨⟨l⟩⟩ := s
  have h' : k < l.length := h
  show l[k] = l.getD k 0
  simp [List.getD, List.getElem?_eq_getElem h']

theorem ba_mk {s : ByteArray} {l : List UInt8} (h : s.data.toList = l) : s = ⟨l.toArray⟩ := by
  obtain ⟨⟨m⟩⟩ := s
  have h2 : m = l := h
  rw [h2]

set_option maxRecDepth 100000 in
set_option maxHeartbeats 1000000 in
theorem closedX23 (w : World) (A : Option Addr) (c : Nat) (v : Vw) (W t l b r : Nat) (h : Rows2 w w.heap.size A v.rows) (htame : v.Tame) (hok : v.ok = true) (h1 : t + 2 ≤ b) (h2 : b ≤ v.rows.length) (h3 : l + 2 ≤ r) (h4 : r ≤ W) (hW : v.width = W) :
    Calls Tryd.prog 71 #[v.val A c, .int .i64 (t : Int), .int .i64 (l : Int), .int .i64 (b : Int), .int .i64 (r : Int)] w fun e w' => e = .returned (.bool (closedB v.pic t l b r)) ∧ Below w.heap.size w w' := by
  have hbox := (Below.refl w.heap.size w).alloc (Nat.le_refl _) (.cells #[.int .i64 v.width, .int .i64 v.height, .slice A v.rows.length c, .int .i64 v.row, .int .i64 v.col, .bool v.visible] 24)
  have hvb := block_new w (.cells #[.int .i64 v.width, .int .i64 v.height, .slice A v.rows.length c, .int .i64 v.row, .int .i64 v.col, .bool v.visible] 24)
  have hni := Vw.nice htame hok
  have hWn : v.width.toNat = W := by rw [hW]; rfl
  rw [hWn] at hni
  have herr : v.err = 0 := by unfold Vw.ok at hok; simpa using hok
  have HR := hide (fun (w1 : World) (hb : Below w.heap.size w w1) => (h.below hb).more hb.size)
  have HC := hide (fun (w1 : World) (hb : Below w.heap.size w w1) => check15 w1 A c v (HR.out w1 hb) htame)
  have HX := hide (fun (w1 : World) (hb : Below w.heap.size w w1) => closed23 w1 A c v W t l b r (HR.out w1 hb) htame h1 h2 h3 h4 hW hni.height hni.w2)
  rw [herr] at HC
  have HV := hide (fun (W1 : World) (hb : Below (w.heap.size + 1) (w.alloc (.cells #[.int .i64 v.width, .int .i64 v.height, .slice A v.rows.length c, .int .i64 v.row, .int .i64 v.col, .bool v.visible] 24)) W1) => block_below hvb hb (by simp))
  have Hbox := hide hbox
  obtain ⟨q, hq⟩ : ∃ q, closedB v.pic t l b r = q := ⟨_, rfl⟩
  simp only [hq] at HX ⊢
  unfold Vw.val at HC HX ⊢
  clear h htame hni herr hok h1 h2 h3 h4 hW hWn hq hbox hvb
  go_enter Tryd.func71, Tryd.ntmps71
  go_wp2_with (first
    | (go_at_call 44; (with_reducible refine (HX.out w1 Hb1.out).mono ?_); rintro e w2 ⟨rfl, hbm⟩; have Hb2 := hide (Hb1.out.trans (hbm.mono Hb1.out.size)); clear hbm)
    | (go_at_call 22; refine (HC.out _ Hbox.out).mono ?_; rintro e w1 ⟨rfl, hbm⟩; obtain ⟨k0, k1, k2, k3, k4, k5⟩ := vbF_cells (HV.out w1 (hbm.mono (by simp))); have Hb1 := hide (Hbox.out.trans (hbm.mono (by simp))); clear hbm)
    | fail)
  go_ret
  exact ⟨rfl, Hb2.out⟩

set_option maxRecDepth 100000 in
set_option maxHeartbeats 4000000 in
theorem title23 (w : World) (A : Option Addr) (c : Nat) (v : Vw) (W t l b r : Nat) (h : Rows2 w w.heap.size A v.rows) (htame : v.Tame) (hok : v.ok = true) (h1 : t + 2 ≤ b) (h2 : b ≤ v.rows.length) (h3 : l + 2 ≤ r) (h4 : r ≤ W) (hW : v.width = W) (hcl : closedB v.pic t l b r = true) (ki i p : Int) (lb : ByteArray) :
    Calls Tryd.prog 45 #[v.val A c, Rg.val ⟨ki, i, p, t, l, b, r, lb⟩] w fun e w' => e = .returned (.string (titleB v.pic (v.rows.getD t []) t l r)) ∧ Below w.heap.size w w' := by
  obtain ⟨W0, hW0, hbox, hs0, hvb, hrb⟩ := boxes2 w v A c ⟨ki, i, p, t, l, b, r, lb⟩
  dsimp only at hW0 hrb
  have hW0' := hW0.symm
  clear hW0
  unfold Rg.val
  dsimp only
  have hni := Vw.nice htame hok
  have hWn : v.width.toNat = W := by rw [hW]; rfl
  rw [hWn] at hni
  have hw2 := hni.w2
  obtain ⟨r1, hr1⟩ : ∃ r1, r = r1 + 1 := ⟨r - 1, by omega⟩
  have hr1I : (r : Int) - 1 = (r1 : Int) := by omega
  have hr1l : l + 1 ≤ r1 := by omega
  have hr1W : r1 < W := by omega
  have hr12 : r1 ≤ 200 := by omega
  have ht : t < v.rows.length := by omega
  obtain ⟨ba, off, rfl, hba, A1, c1, d0, d1, d2⟩ := h.get1 ht
  have hget : v.rows.getD t [] = v.rows[t] := by rw [List.getD_eq_getElem?_getD, List.getElem?_eq_getElem ht]; rfl
  obtain ⟨hl140, hg40⟩ := htame.2 _ (List.getElem_mem ht)
  have hwid : r1 < widthOf (v.rows[t]) := by
    rcases Nat.lt_or_ge r1 (widthOf (v.rows[t])) with h | h
    · exact h
    · have h5 := (closedB_has hcl).2
      have h6 : v.pic t (r - 1) = picR (v.rows[t]) r1 := by unfold Vw.pic; rw [hget, show r - 1 = r1 by omega]
      rw [h6, picR_out _ _ h, hasA_zero (by omega)] at h5
      cases h5
  have HRw := hide (fun (w1 : World) (hb : Below w.heap.size w w1) => (h.below hb).more hb.size)
  have HClo := hide (fun (w1 : World) (hb : Below w.heap.size w w1) => closedX23 w1 (some ⟨ba, off, none⟩) c v W t l b r (HRw.out w1 hb) htame hok h1 h2 h3 h4 hW)
  have HHas := hide (fun (w1 : World) (hb : Below w.heap.size w w1) (k : Nat) (hk : k ≤ 1000) => has23 w1 (some ⟨ba, off, none⟩) c v t k 10 10 (HRw.out w1 hb) htame ht hk rfl (by omega) (by omega))
  rw [hcl] at HClo
  rw [hget]
  obtain ⟨P, hP⟩ : ∃ P, v.pic = P := ⟨_, rfl⟩
  rw [hP] at HHas ⊢
  obtain ⟨row, hrow⟩ : ∃ row, v.rows[t] = row := ⟨_, rfl⟩
  rw [hrow] at d0 d1 d2 hl140 hg40 hwid ⊢
  have hix : ∀ k, k ≤ r1 → ∃ (x : Nat) (hx : x < row.length), idx row (k : Int) = (x : Int) := fun k hk => by
    obtain ⟨x, hx, h1, -⟩ := picR_idx row k (by omega)
    exact ⟨x, hx, h1⟩
  obtain ⟨S, hS⟩ : ∃ S, scanG P t (l + 1) (r1 - (l + 1)) (0, -1) = S := ⟨_, rfl⟩
  obtain ⟨TL, hTL⟩ : ∃ TL, textG row S.1.toNat (S.2 + 1 - S.1).toNat (-1) = TL := ⟨_, rfl⟩
  have htit : titleB P row t l r = ⟨(rdw (TL.dropWhile (· == 32))).toArray⟩ := by
    unfold titleB titleL
    rw [show r - 1 - (l + 1) = r1 - (l + 1) by omega, hS]
    dsimp only
    rw [hTL, trimSp_rdw]
  rw [htit]
  have HIx := hide (fun (W1 : World) (hb : Below w.heap.size w W1) (col : Int) (h0 : 0 ≤ col) (h1 : col ≤ 1000) => (index15P W1 A1 c1 row col ((d2.below (GlAt.stays _) hb).more hb.size) (by omega) d1 (by omega) (by omega)).mono fun e w' h => (show e = .returned (.int .i64 (idx row col)) ∧ W1 = w' from ⟨by rw [h.1]; unfold index15; rw [if_neg (by omega)], h.2⟩))
  have HGl := hide (fun (W1 : World) (hb : Below w.heap.size w W1) => d2.below (GlAt.stays _) hb)
  have He0 := hide (fun (W2 : World) (hb : Below w.heap.size w W2) => (hb.cell (p := ⟨ba, off + t, none⟩) hba).trans d0)
  obtain ⟨m, hm⟩ : ∃ m, row.length = m := ⟨_, rfl⟩
  rw [hm] at HIx He0 hl140
  obtain ⟨n, hn⟩ : ∃ n, v.rows.length = n := ⟨_, rfl⟩
  have htI : (t : Int) < (n : Int) := by omega
  have Hm := hide hm
  have Hg40 := hide hg40
  have HS := hide hS
  have Hix := hide hix
  have HTL := hide hTL
  have hsz1 : w.heap.size < W0.heap.size := by omega
  have hsz2 : w.heap.size + 1 < W0.heap.size := by omega
  have HV := hide (fun (W2 : World) (hb : Below W0.heap.size W0 W2) => (hvb.below hb hsz1).cells)
  have HRb := hide (fun (W2 : World) (hb : Below W0.heap.size W0 W2) => (hrb.below hb hsz2).cells)
  have HB := hide (fun (W2 : World) (hb : Below W0.heap.size W0 W2) => hbox.trans (hb.mono hbox.size))
  dsimp only at HRb
  obtain ⟨k0, k1, k2, k3, k4, k5⟩ := hvb.cells
  obtain ⟨r0, r1', r2, r3, r4, r5, r6, r7⟩ := hrb.cells
  dsimp only at r0 r1' r2 r3 r4 r5 r6 r7
  have HClo := hide (HClo.out W0 hbox)
  have HHas := hide (fun (W2 : World) (hb : Below W0.heap.size W0 W2) => HHas.out W2 (hbox.trans (hb.mono hbox.size)))
  have hb0 := hide (Below.refl W0.heap.size W0)
  unfold Vw.val at HClo HHas ⊢
  rw [hn] at HClo HHas HV k2 hW0' ⊢
  have ht12 : t ≤ 1000 := by have := htame.1; omega
  have hl12 : l ≤ 1000 := by omega
  clear h htame hok h1 h2 h3 h4 hW hcl hvb hrb hbox hni hWn hr1 ht d0 d1 d2 hget hg40 hwid HRw hrow hix hS hTL htit hm hn hP hba
  go_enter Tryd.func45, Tryd.ntmps45
  go_upto_region 3 with (first
    | (go_at_call 71; (with_reducible refine HClo.out.mono ?_); rintro e w1 ⟨rfl, hbm⟩; obtain ⟨k0, k1, k2, k3, k4, k5⟩ := HV.out w1 hbm; obtain ⟨r0, r1', r2, r3, r4, r5, r6, r7⟩ := HRb.out w1 hbm; have Hb1 := hide hbm; clear hbm)
    | fail)
  clear hb0 hW0'
  go_wp2
  go_loopw [5, 6, 7] (fun f la cc wr => ∃ (k : Nat) (F L : Int), l + 1 ≤ k ∧ k ≤ r1 ∧ f = .int .i64 F ∧ la = .int .i64 L ∧ cc = .int .i64 (k : Int) ∧ (0 ≤ F ∧ F ≤ k ∧ -1 ≤ L ∧ L < k) ∧ scanG P t k (r1 - k) (F, L) = S ∧ Below W0.heap.size W0 wr) (fun _ _ cc _ => r1 - (intOf cc).toNat)
  case atStart => exact ⟨l + 1, 0, -1, Nat.le_refl _, hr1l, rfl, rfl, by go_num, by omega, HS.out, Hb1.out⟩
  case round =>
    clear HS Hb1 k0 k1 k2 k3 k4 k5 r0 r1' r2 r3 r4 r5 r6 r7
    obtain ⟨k, F, L, h0, h1, rfl, rfl, rfl, hbd, hg, hbr⟩ := hrel
    rename World => wo
    obtain ⟨k0, k1, k2, k3, k4, k5⟩ := HV.out wo hbr
    obtain ⟨r0, r1', r2, r3, r4, r5, r6, r7⟩ := HRb.out wo hbr
    have Hbr := hide hbr
    clear hbr
    by_cases hlt : k < r1
    · have hltI : (k : Int) < (r1 : Int) := by omega
      have HHk := hide (HHas.out wo Hbr.out k (by omega))
      rw [scanG_step _ _ _ _ _ (by omega)] at hg
      obtain ⟨q, hq⟩ : ∃ q, hasA (P t k) 10 = q := ⟨_, rfl⟩
      rw [hq] at HHk hg
      clear hq
      cases q with
      | true =>
        have Hg := hide (show scanG P t (k + 1) (r1 - k - 1) (F, L) = S from hg)
        clear hg
        go_wp2_with (go_at_call 43; (with_reducible refine HHk.out.mono ?_); rintro e w9 ⟨rfl, hbm⟩; have Hb9 := hide (Hbr.out.trans (hbm.mono Hbr.out.size)); clear hbm)
        go_roundw
        case rel => exact ⟨k + 1, F, L, by omega, by omega, rfl, rfl, by go_num, by omega, by rw [← Nat.sub_sub]; exact Hg.out, Hb9.out⟩
        case measure => simp [intOf]; omega
      | false =>
        by_cases hL : L < 0
        · have Hg := hide (show scanG P t (k + 1) (r1 - k - 1) ((k : Int), (k : Int)) = S by
            rw [← hg, if_neg (by decide)]; dsimp only; rw [if_pos hL])
          have qL : decide (L < 0) = true := decide_eq_true hL
          clear hg
          go_wp2_with (go_at_call 43; (with_reducible refine HHk.out.mono ?_); rintro e w9 ⟨rfl, hbm⟩; have Hb9 := hide (Hbr.out.trans (hbm.mono Hbr.out.size)); clear hbm)
          go_roundw
          case rel => exact ⟨k + 1, k, k, by omega, by omega, rfl, rfl, by go_num, by omega, by rw [← Nat.sub_sub]; exact Hg.out, Hb9.out⟩
          case measure => simp [intOf]; omega
        · have Hg := hide (show scanG P t (k + 1) (r1 - k - 1) (F, (k : Int)) = S by
            rw [← hg, if_neg (by decide)]; dsimp only; rw [if_neg hL])
          have qL : decide (L < 0) = false := decide_eq_false hL
          clear hg
          go_wp2_with (go_at_call 43; (with_reducible refine HHk.out.mono ?_); rintro e w9 ⟨rfl, hbm⟩; have Hb9 := hide (Hbr.out.trans (hbm.mono Hbr.out.size)); clear hbm)
          go_roundw
          case rel => exact ⟨k + 1, F, k, by omega, by omega, rfl, rfl, by go_num, by omega, by rw [← Nat.sub_sub]; exact Hg.out, Hb9.out⟩
          case measure => simp [intOf]; omega
    · obtain rfl : k = r1 := by omega
      rw [Nat.sub_self] at hg
      have HSe := hide (show (F, L) = S from hg)
      obtain ⟨f, hf⟩ : ∃ f : Nat, F = (f : Int) := ⟨F.toNat, by omega⟩
      subst hf
      obtain ⟨N, hN⟩ : ∃ N, (L + 1 - (f : Int)).toNat = N := ⟨_, rfl⟩
      have hNL : (N : Int) = L + 1 - f ∨ (N = 0 ∧ L + 1 ≤ f) := by omega
      have HT := hide (show [] ++ textG row (f + 0) (N - 0) (-1) = TL by
        have := HTL.out
        rw [← HSe.out] at this; dsimp only at this; rw [Int.toNat_natCast, hN] at this; exact this)
      have hfL : 0 ≤ f := Nat.zero_le _
      have hf200 : f ≤ 200 := by omega
      have hL200 : L ≤ 200 := by omega
      have hN200 : N ≤ 201 := by omega
      have hLk : L < (k : Int) := by omega
      have y3 := He0.out wo (HB.out wo Hbr.out)
      have HIxo := hide (fun (j : Nat) (hj : j ≤ k) => HIx.out wo (HB.out wo Hbr.out) (j : Int) (by omega) (by omega))
      have HGo := hide (HGl.out wo (HB.out wo Hbr.out))
      clear hg hlt h0 h1 HHas hN hbd HTL HSe HIx HGl He0
      go_wp2
      go_loop [8, 9, 11] (fun tx dd cc => ∃ (j : Nat) (D : Int) (s : ByteArray), j ≤ N ∧ tx = .string s ∧ dd = .int .i64 D ∧ cc = .int .i64 ((f : Int) + j) ∧ s.data.toList ++ textG row (f + j) (N - j) D = TL ∧ s.size ≤ 40 * j) (fun _ _ cc => (L + 1 - intOf cc).toNat)
      case atStart => exact ⟨0, -1, ⟨#[]⟩, Nat.zero_le _, rfl, rfl, by go_num, HT.out, by simp [ByteArray.size]⟩
      case round =>
        clear HT
        obtain ⟨j, D, s, hj, rfl, rfl, rfl, htx, hacc⟩ := hrel
        by_cases hlj : j < N
        · have hle : (f : Int) + j ≤ L := by omega
          rw [textG_step _ _ _ _ (by omega)] at htx
          obtain ⟨x, hxr, hx⟩ := Hix.out (f + j) (by omega)
          have HI := hide (HIxo.out (f + j) (by omega))
          rw [hx] at HI htx
          have hxm : x < m := by rw [← Hm.out]; exact hxr
          have hxI : (x : Int) < (m : Int) := by omega
          rw [show ((f + j : Nat) : Int) = (f : Int) + (j : Int) by omega] at HI
          have HN := hide hlj
          obtain ⟨bG, oG, hA1, -, g0, -, -⟩ := HGo.out.get hxr
          subst hA1
          obtain ⟨gt, hgt⟩ : ∃ gt, row[x].text = gt := ⟨_, rfl⟩
          have ht40 := Hg40.out _ (List.getElem_mem hxr)
          rw [hgt] at ht40 g0
          have ht40 : gt.size ≤ 40 := ht40
          clear hx
          by_cases hxd : (x : Int) = D
          · have q1 : ((x : Int) != D) = false := by simpa using hxd
            have Htx := hide (show s.data.toList ++ textG row (f + j + 1) (N - j - 1) (x : Int) = TL by rw [if_pos hxd] at htx; simpa using htx)
            have Hd := hide hxd
            clear htx hxd hgt
            go_wp2_with (go_at_call 70; (with_reducible refine HI.out.mono ?_); rintro e w5 ⟨rfl, rfl⟩)
            go_round
            case rel => exact ⟨j + 1, x, s, by have := HN.out; omega, rfl, by rw [Hd.out], int_eq (by push_cast; omega), by rw [← Nat.sub_sub]; exact Htx.out, by omega⟩
            case measure => simp [intOf]; omega
          · have q1 : ((x : Int) != D) = true := by simpa using hxd
            have Htx := hide (show (s ++ gt).data.toList ++ textG row (f + j + 1) (N - j - 1) (x : Int) = TL by
              rw [if_neg hxd, txt_in hxr, hgt] at htx; rw [Joins.data_append, List.append_assoc]; exact htx)
            have hcat : s.size + gt.size ≤ 9223372036854775807 := by omega
            clear htx hxd hgt
            go_wp2_with (go_at_call 70; (with_reducible refine HI.out.mono ?_); rintro e w5 ⟨rfl, rfl⟩)
            go_round
            case rel => exact ⟨j + 1, x, s ++ gt, by have := HN.out; omega, rfl, rfl, int_eq (by push_cast; omega), by rw [← Nat.sub_sub]; exact Htx.out, by rw [ByteArray.size_append]; omega⟩
            case measure => simp [intOf]; omega
        · obtain rfl : j = N := by omega
          have hle : ¬ (f : Int) + j ≤ L := by omega
          rw [Nat.sub_self] at htx
          have HD := hide (show s.data.toList.dropWhile (· == 32) = TL.dropWhile (· == 32) by rw [← htx]; simp [textG])
          have hs9 : s.size ≤ 9000 := by omega
          clear htx hacc
          go_wp2
          go_loop [8] (fun tx => ∃ (s : ByteArray), tx = .string s ∧ s.data.toList.dropWhile (· == 32) = TL.dropWhile (· == 32) ∧ s.size ≤ 9000) (fun tx => match tx with | .string s => s.size | _ => 0)
          case atStart => exact ⟨s, rfl, HD.out, hs9⟩
          case round =>
            clear HD hs9
            obtain ⟨s, rfl, hdw, hs9⟩ := hrel
            obtain ⟨L0, hL0⟩ : ∃ L0, s.data.toList = L0 := ⟨_, rfl⟩
            have hsz : s.size = L0.length := by rw [← hL0]; rfl
            rw [hL0] at hdw
            have hcase : (∃ rest, L0 = 32 :: rest) ∨ (L0 = [] ∧ s.data.toList = TL.dropWhile (· == 32)) ∨ (∃ x rest, x ≠ 32 ∧ L0 = x :: rest ∧ s.data.toList = TL.dropWhile (· == 32)) := by
              cases L0 with
              | nil => exact .inr (.inl ⟨rfl, by rw [← hdw, hL0]; rfl⟩)
              | cons x rest =>
                by_cases hx : x = 32
                · exact .inl ⟨rest, by rw [hx]⟩
                · exact .inr (.inr ⟨x, rest, hx, rfl, by rw [← hdw, hL0, List.dropWhile_cons, if_neg (by simpa using hx)]⟩)
            rcases hcase with ⟨rest, hL⟩ | hcase
            · rw [hL] at hL0 hsz hdw
              have hz : 0 < s.size := by rw [hsz]; simp
              have hzI : (0 : Int) < (s.size : Int) := by omega
              have hg0 : s[0]'hz = 32 := by rw [get_ba, hL0]; rfl
              have q1 : (s.toList != []) = true := by rw [ByteArray.toList_eq, hL0]; rfl
              have q1' : (s.toList == []) = false := by rw [ByteArray.toList_eq, hL0]; rfl
              obtain ⟨s1, hs1⟩ : ∃ s1, s.extract 1 s.size = s1 := ⟨_, rfl⟩
              have hs1l : s1.data.toList = rest := by
                rw [← hs1, Lib.extract_data, hL0, hsz]; simp
              have hs1z : s1.size = rest.length := by rw [← hs1l]; rfl
              have hsl : ∀ W : World, (Instr.slice 9 (.string s) (some (.int .i64 1)) none none).run Tryd.prog W = .ok (.string s1) W := fun W => by
                rw [run_slice_string_from_if (P := Tryd.prog) (w := W) 9 s .i64 1 Tryd.underlying9, if_pos ⟨by omega, by omega⟩, ← hs1]; rfl
              have HD := hide (show s1.data.toList.dropWhile (· == 32) = TL.dropWhile (· == 32) by rw [hs1l, ← hdw, List.dropWhile_cons, if_pos (by simp)])
              have Hz := hide (show s1.size < s.size by rw [hs1z, hsz]; simp)
              have hs19 : s1.size ≤ 9000 := by have := Hz.out; omega
              clear hL hL0 hsz hdw hs1 hs1l hs1z
              go_wp2
              go_round
              case rel => exact ⟨s1, rfl, HD.out, hs19⟩
              case measure => exact Hz.out
            · have HD := hide (show rdw s.data.toList = rdw (TL.dropWhile (· == 32)) by rcases hcase with h | ⟨x, rest, -, -, h⟩ <;> first | rw [h] | rw [h.2])
              rcases hcase with ⟨hL, -⟩ | ⟨x, rest, hx, hL, -⟩
              all_goals
                rw [hL] at hL0 hsz hdw
                first
                  | (have q1 : (s.toList != []) = false := by rw [ByteArray.toList_eq, hL0]; rfl
                     have q1' : (s.toList == []) = true := by rw [ByteArray.toList_eq, hL0]; rfl
                     clear hL hL0 hsz hdw)
                  | (have hz : 0 < s.size := by rw [hsz]; simp
                     have hzI : (0 : Int) < (s.size : Int) := by omega
                     have hg0 : s[0]'hz = x := by rw [get_ba, hL0]; rfl
                     have q1 : (s.toList != []) = true := by rw [ByteArray.toList_eq, hL0]; rfl
                     have q1' : (s.toList == []) = false := by rw [ByteArray.toList_eq, hL0]; rfl
                     have q2 : ((x.toNat : Int) == 32) = false := by
                       rw [beq_eq_false_iff_ne]; intro h; exact hx (UInt8.toNat_inj.1 (by show x.toNat = 32; omega))
                     clear hL hL0 hsz hdw hx)
              all_goals
                go_wp2
                go_loop [8] (fun tx => ∃ (s : ByteArray), tx = .string s ∧ rdw s.data.toList = rdw (TL.dropWhile (· == 32)) ∧ s.size ≤ 9000) (fun tx => match tx with | .string s => s.size | _ => 0)
                case atStart => exact ⟨s, rfl, HD.out, hs9⟩
                case round =>
                  clear HD hs9 q1 q1'
                  try clear hzI hg0
                  try clear q2
                  obtain ⟨s, rfl, hdw, hs9⟩ := hrel
                  obtain ⟨L0, hL0⟩ : ∃ L0, s.data.toList = L0 := ⟨_, rfl⟩
                  have hsz : s.size = L0.length := by rw [← hL0]; rfl
                  rw [hL0] at hdw
                  rcases List.eq_nil_or_concat L0 with hL | ⟨ini, y, hL⟩
                  · rw [hL] at hL0 hsz hdw
                    have q1 : (s.toList != []) = false := by rw [ByteArray.toList_eq, hL0]; rfl
                    have q1' : (s.toList == []) = true := by rw [ByteArray.toList_eq, hL0]; rfl
                    have HE := hide (show s = ⟨(rdw (TL.dropWhile (· == 32))).toArray⟩ by rw [← hdw]; exact ba_mk (by rw [hL0]; rfl))
                    clear hL hL0 hsz hdw
                    go_wp2
                    go_ret
                    exact ⟨by rw [← HE.out]; rfl, HB.out _ Hbr.out⟩
                  · rw [List.concat_eq_append] at hL
                    rw [hL] at hL0 hsz hdw
                    rw [List.length_append, List.length_singleton] at hsz
                    obtain ⟨z, hz⟩ : ∃ z, ini.length = z := ⟨_, rfl⟩
                    rw [hz] at hsz
                    have hlt : z < s.size := by omega
                    have hltI : (z : Int) < (s.size : Int) := by omega
                    have hixI : (s.size : Int) - 1 = (z : Int) := by omega
                    have hg0 : s[z]'hlt = y := by rw [get_ba, hL0, ← hz, List.getD_eq_getElem?_getD]; simp
                    have q1 : (s.toList != []) = true := by rw [ByteArray.toList_eq, hL0]; simp
                    have q1' : (s.toList == []) = false := by rw [ByteArray.toList_eq, hL0]; simp
                    rw [rdw_snoc] at hdw
                    by_cases hy : y = 32
                    · subst hy
                      rw [if_pos (by simp)] at hdw
                      obtain ⟨s1, hs1⟩ : ∃ s1, s.extract 0 z = s1 := ⟨_, rfl⟩
                      have hs1l : s1.data.toList = ini := by
                        rw [← hs1, Lib.extract_data, hL0, ← hz]; simp
                      have hs1z : s1.size = ini.length := by rw [← hs1l]; rfl
                      have hsl : ∀ W : World, (Instr.slice 9 (.string s) none (some (.int .i64 (z : Int))) none).run Tryd.prog W = .ok (.string s1) W := fun W => by
                        rw [run_slice_string_to_if (P := Tryd.prog) (w := W) 9 s .i64 (z : Int) Tryd.underlying9, if_pos ⟨by omega, by omega⟩, show ((z : Int)).toNat = z by omega, hs1]
                      have HD := hide (show rdw s1.data.toList = rdw (TL.dropWhile (· == 32)) by rw [hs1l]; exact hdw)
                      have Hz := hide (show s1.size < s.size by omega)
                      have hs19 : s1.size ≤ 9000 := by have := Hz.out; omega
                      clear hL hL0 hsz hdw hs1 hs1l hs1z hz
                      go_wp2
                      go_round
                      case rel => exact ⟨s1, rfl, HD.out, hs19⟩
                      case measure => exact Hz.out
                    · rw [if_neg (by simpa using hy)] at hdw
                      have q2 : ((y.toNat : Int) == 32) = false := by
                        rw [beq_eq_false_iff_ne]; intro h; exact hy (UInt8.toNat_inj.1 (by show y.toNat = 32; omega))
                      have HE := hide (show s = ⟨(rdw (TL.dropWhile (· == 32))).toArray⟩ by rw [← hdw]; exact ba_mk (by rw [hL0]))
                      clear hL hL0 hsz hdw hy hz
                      go_wp2
                      go_ret
                      exact ⟨by rw [← HE.out]; rfl, HB.out _ Hbr.out⟩
end Go.Proofs.YtdgmjbcfopkibaaDoor
