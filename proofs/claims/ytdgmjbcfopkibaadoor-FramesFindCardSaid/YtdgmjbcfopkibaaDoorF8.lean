/- frames.Find. -/
import Derived.Test.YtdgmjbcfopkibaaDoorF6
import Derived.Test.YtdgmjbcfopkibaaDoorF7
namespace Go.Proofs.YtdgmjbcfopkibaaDoor
open Go.RowKit Go.Shelf

theorem vbF_cells {w : World} {b : Nat} {v0 v1 v2 v3 v4 v5 : Value} {t : TypeId} (h : w.heap[b]? = some (.cells #[v0, v1, v2, v3, v4, v5] t (0, 0))) : w.cell? ⟨b, 0, none⟩ = some v0 ∧ w.cell? ⟨b, 1, none⟩ = some v1 ∧
    w.cell? ⟨b, 2, none⟩ = some v2 ∧ w.cell? ⟨b, 3, none⟩ = some v3 ∧ w.cell? ⟨b, 4, none⟩ = some v4 ∧ w.cell? ⟨b, 5, none⟩ = some v5 :=
  ⟨cell_block h 0, cell_block h 1, cell_block h 2, cell_block h 3, cell_block h 4, cell_block h 5⟩
theorem colsF_step (v : Vw) (t l n : Nat) (h : 0 < n) : colsF v t l n = (frameF v t l).toList ++ colsF v t (l + 1) (n - 1) := by
  obtain ⟨m, rfl⟩ : ∃ m, n = m + 1 := ⟨n - 1, by omega⟩
  rfl
theorem rowsF_step (v : Vw) (t n : Nat) (h : 0 < n) : rowsF v t n = colsF v t 0 v.width.toNat ++ rowsF v (t + 1) (n - 1) := by
  obtain ⟨m, rfl⟩ : ∃ m, n = m + 1 := ⟨n - 1, by omega⟩
  rfl
theorem mul_step {k n W j : Nat} (hk : k < n) (hj : j < W) : k * W + j < n * W := by
  have h1 : (k + 1) * W ≤ n * W := Nat.mul_le_mul_right W hk
  rw [Nat.succ_mul] at h1
  omega

set_option maxRecDepth 100000 in
set_option maxHeartbeats 4000000 in
theorem findFP (w : World) (A : Option Addr) (c : Nat) (v : Vw) (h : Rows2 w w.heap.size A v.rows) (ht : v.Tame) (hT : Tabs w) (hsm : v.ok = true → v.rows.length * v.width.toNat ≤ 200) :
    Calls Tryd.prog 10 #[v.val A c] w fun e w' => ∃ vv, e = .returned vv ∧ w'.ownsRow w.heap.size 36 8 vv (framesT v).length ((framesT v).flatMap Rg.enc) ∧ Below w.heap.size w w' := by
  have hbox := (Below.refl w.heap.size w).alloc (Nat.le_refl _) (.cells #[.int .i64 v.width, .int .i64 v.height, .slice A v.rows.length c, .int .i64 v.row, .int .i64 v.col, .bool v.visible] 24)
  have hvb : VwBox _ w.heap.size v A c := block_new w (.cells #[.int .i64 v.width, .int .i64 v.height, .slice A v.rows.length c, .int .i64 v.row, .int .i64 v.col, .bool v.visible] 24)
  have HC := hide (checkV _ A c v ((h.below hbox).more hbox.size) ht (hT.below hbox))
  unfold framesT
  cases hok : v.ok with
  | false =>
    rw [if_neg (by simp)]
    obtain ⟨V, hV⟩ : ∃ V, v.err = V := ⟨_, rfl⟩
    have h0 : (V != 0) = true := by unfold Vw.ok at hok; rw [hV] at hok; simpa using hok
    rw [hV] at HC
    clear h ht hT hok hV hvb hsm
    unfold Vw.val at HC ⊢
    go_enter Tryd.func10, Tryd.ntmps10
    go_wp2_with (go_at_call 18; refine HC.out.mono ?_; rintro e w1 ⟨rfl, hb1⟩)
    go_ret
    exact ⟨_, rfl, World.ownsRow_nil _ _ _ _, hbox.trans (hb1.mono (by simp))⟩
  | true =>
    rw [if_pos rfl]
    have h0 : v.err = 0 := by unfold Vw.ok at hok; simpa using hok
    rw [h0] at HC
    have hni := Vw.nice ht hok
    obtain ⟨W, hW⟩ : ∃ W : Nat, v.width = W := ⟨_, hni.width⟩
    have hWn : v.width.toNat = W := by rw [hW]; rfl
    have hsm := hsm hok
    rw [hWn] at hni hsm
    obtain ⟨n, hn⟩ : ∃ n, v.rows.length = n := ⟨_, rfl⟩
    have hht : v.height = n := by rw [← hn]; exact hni.height
    have HR := hide (fun (w1 : World) (hb1 : Below w.heap.size w w1) => (h.below hb1).more hb1.size)
    have HD := hide (fun (w1 : World) (hb1 : Below w.heap.size w w1) => drawP w1 A c v W ((h.below hb1).more hb1.size) hni)
    have hW2 := hni.w2
    have hn12 := ht.1
    rw [hn] at hsm hn12
    have HTi := hide (fun (w1 : World) (hb1 : Below w.heap.size w w1) (bp t l r : Nat) (hP : PicAt w1 bp n W v.pic) (h1 : t < n) (h2 : l + 2 ≤ r) (h3 : r ≤ W) => titlePicP w1 bp W t l r A c v (by rw [hn]; exact hP) ((h.below hb1).more hb1.size) ht (by rw [hn]; exact h1) h2 h3 hW2)
    have HFr := hide (fun (w1 : World) (bp t l : Nat) (hP : PicAt w1 bp n W v.pic) (h1 : t < n) (h2 : l < W) => fromPicP w1 bp n W t l v.pic hP h1 h2 (by omega) (by omega))
    rw [hn] at HTi HD
    have Hfr := hide (fun (t l : Nat) => show frameF v t l = (fromF v.pic n W t l).map (fun x => ⟨2, 0, -1, t, l, x.1, x.2, titleB v.pic (v.rows.getD t []) t l x.2⟩) by unfold frameF; rw [hn, hWn])
    obtain ⟨fs, hfs⟩ : ∃ fs, rowsF v 0 n = fs := ⟨_, rfl⟩
    rw [hn, hfs]
    have Hfs := hide (show [] ++ rowsF v 0 (n - 0) = fs from hfs)
    have HWn := hide hWn
    have Hmul := hide (fun (k j : Nat) (hk : k < n) (hj : j < W) => Nat.lt_of_lt_of_le (mul_step hk hj) hsm)
    obtain ⟨width, height, rows, row, col, vis⟩ := v
    dsimp only at hn hW hht hbox hvb HC HR HD HTi
    subst hW hht
    unfold VwBox at hvb
    unfold Vw.val at HC HD HTi ⊢
    dsimp only at hvb HC HD HTi ⊢
    rw [hn] at hbox hvb HC HD HTi ⊢
    obtain ⟨P, hP⟩ : ∃ P, Vw.pic ⟨W, n, rows, row, col, vis⟩ = P := ⟨_, rfl⟩
    rw [hP] at HD HTi HFr Hfr
    have Hvb := hide hvb
    clear h ht hT hok h0 hni hfs hWn hn hP hvb hsm
    go_enter Tryd.func10, Tryd.ntmps10
    go_wp2_with (first
      | (go_at_call 18; refine HC.out.mono ?_; rintro e w1 ⟨rfl, hb1⟩; have hvb1 := block_below Hvb.out hb1 (by simp); obtain ⟨k0, k1, k2, k3, k4, k5⟩ := vbF_cells hvb1; have hbw1 := hbox.trans (hb1.mono (by simp)))
      | (go_at_call 19; (with_reducible refine (HD.out w1 hbw1).mono ?_); rintro e w3 ⟨bp, rfl, -, hP3, hb3⟩; have hlw1 : w.heap.size < w1.heap.size := (by have := hb1.size; simp at this; omega); have hvb3 := block_below hvb1 hb3 hlw1; obtain ⟨y0, y1, y2, y3, y4, y5⟩ := vbF_cells hvb3)
      | fail)
    have HP3 := hide hP3
    have Hvb3 := hide hvb3
    have Hbw3 := hide (hbw1.trans (hb3.mono hbw1.size))
    have hlw3 : w.heap.size < w3.heap.size := by have := hb3.size; omega
    clear hP3 hvb3 hvb1 hb1 hb3 k0 k1 k2 k3 k4 k5 y0 y2 y3 y4 y5 hbox HC HD Hvb hbw1 hlw1
    go_loopw [3, 16] (fun o i wr => ∃ (k : Nat) (done : List Rg), k ≤ n ∧ i = .int .i64 (k : Int) ∧ wr.ownsRow w3.heap.size 36 8 o done.length (done.flatMap Rg.enc) ∧ done ++ rowsF ⟨W, n, rows, row, col, vis⟩ k (n - k) = fs ∧ done.length ≤ k * W ∧ Below w3.heap.size w3 wr) (fun _ i _ => n - (intOf i).toNat)
    case atStart => exact ⟨0, [], Nat.zero_le _, rfl, World.ownsRow_nil _ _ _ _, Hfs.out, by simp, Below.refl _ _⟩
    case round =>
      clear Hfs y1
      obtain ⟨k, done, hk, rfl, hown, hfs, hdl, hbo⟩ := hrel
      rename World => wo
      by_cases hlt : k < n
      · have hltI : (k : Int) < (n : Int) := by omega
        rw [rowsF_step _ _ _ (by omega)] at hfs
        have Hfs := hide (show done ++ (colsF ⟨W, n, rows, row, col, vis⟩ k 0 (W - 0) ++ rowsF ⟨W, n, rows, row, col, vis⟩ (k + 1) (n - k - 1)) = fs from hfs)
        have y0 : wo.cell? ⟨w.heap.size, 0, none⟩ = some (.int .i64 (W : Int)) := cell_block (block_below Hvb3.out hbo hlw3) 0
        have Hown := hide hown
        have Hbo := hide hbo
        have Hdl := hide hdl
        clear hfs hown hbo hdl
        go_wp2
        go_loopw [3, 21] (fun o i wr => ∃ (j : Nat) (done : List Rg), j ≤ W ∧ i = .int .i64 (j : Int) ∧ wr.ownsRow w3.heap.size 36 8 o done.length (done.flatMap Rg.enc) ∧ done ++ (colsF ⟨W, n, rows, row, col, vis⟩ k j (W - j) ++ rowsF ⟨W, n, rows, row, col, vis⟩ (k + 1) (n - k - 1)) = fs ∧ done.length ≤ k * W + j ∧ Below w3.heap.size w3 wr) (fun _ i _ => W - (intOf i).toNat)
        case atStart => exact ⟨0, done, Nat.zero_le _, rfl, Hown.out, Hfs.out, by have := Hdl.out; omega, Hbo.out⟩
        case round =>
          clear Hfs y0 Hown Hbo Hdl
          obtain ⟨j, done2, hj, rfl, hown, hfs, hdl, hbi⟩ := hrel
          rename World => wi
          have hsi := hbi.size
          by_cases hlj : j < W
          · have hljI : (j : Int) < (W : Int) := by omega
            have hPi := HP3.out.below hbi
            have HF := hide (HFr.out wi bp k j hPi hlt hlj)
            have hm := Hmul.out k j hlt hlj
            rw [colsF_step _ _ _ _ (by omega), Hfr.out k j] at hfs
            obtain ⟨F, hF⟩ : ∃ F, fromF P n W k j = F := ⟨_, rfl⟩
            rw [hF] at HF hfs
            obtain ⟨D, hD⟩ : ∃ D, done2.length = D := ⟨_, rfl⟩
            have HD2 := hide hD
            rw [hD] at hown hdl
            have hD200 : D < 200 := by omega
            obtain ⟨Ao, co, rfl⟩ := own_form hown
            have Hdl2 := hide hdl
            cases F with
            | none =>
              unfold fromV zeroRg Rg.val at HF
              dsimp only at HF
              have Hfs := hide (show done2 ++ (colsF ⟨W, n, rows, row, col, vis⟩ k (j + 1) (W - j - 1) ++ rowsF ⟨W, n, rows, row, col, vis⟩ (k + 1) (n - k - 1)) = fs by simpa using hfs)
              have Hown := hide hown
              have Hbi := hide hbi
              clear hfs hown hbi hF hD hPi hdl
              go_wp2_with (go_at_call 20; refine HF.out.mono ?_; rintro e w5 ⟨rfl, hb5⟩; have Hb5 := hide (hb5.alloc hb5.size (.cells #[.int .i64 0, .int .i64 0, .int .i64 0, .int .i64 0, .int .i64 0, .int .i64 0, .int .i64 0, .string ⟨#[]⟩] 36)); clear hb5)
              go_roundw
              case rel => exact ⟨j + 1, done2, by omega, by go_num, own_eq (own_below Hown.out Hb5.out (Nat.le_refl _)) HD2.out.symm rfl, by rw [← Nat.sub_sub]; exact Hfs.out, by rw [HD2.out]; have := Hdl2.out; omega, Hbi.out.trans (Hb5.out.mono hsi)⟩
              case measure => simp [intOf]; omega
            | some x =>
              obtain ⟨b, r⟩ := x
              obtain ⟨-, -, hb1, hb2, hr1, hr2, -, -⟩ := fromF_some hF
              unfold fromV Rg.val at HF
              dsimp only at HF
              obtain ⟨TB, hTB⟩ : ∃ TB, titleB P (rows.getD k []) k j r = TB := ⟨_, rfl⟩
              have Hfs := hide (show (done2 ++ [(⟨2, 0, -1, k, j, b, r, TB⟩ : Rg)]) ++ (colsF ⟨W, n, rows, row, col, vis⟩ k (j + 1) (W - j - 1) ++ rowsF ⟨W, n, rows, row, col, vis⟩ (k + 1) (n - k - 1)) = fs by
                rw [← hfs, ← hTB]; simp)
              have HTl := hide (fun (w1 : World) (hb1 : Below w.heap.size w w1) (hP : PicAt w1 bp n W P) => HTi.out w1 hb1 bp k j r hP hlt hr1 hr2)
              rw [hTB] at HTl
              have q200 : ((D : Int) == 200) = false := by rw [beq_eq_false_iff_ne]; omega
              have Hown := hide hown
              have Hbi := hide hbi
              have HPi := hide hPi
              have hr200 : r ≤ 200 := by omega
              clear hfs hown hbi hF hD hPi hdl hTB hb1 hb2 hr1 hr2
              go_upto_region 15 with (first
                | (go_at_call 20; refine HF.out.mono ?_; rintro e w5 ⟨rfl, hb5⟩; have Hb5 := hide hb5; clear hb5)
                | fail)
              obtain ⟨wb, hwb⟩ : ∃ wb, w5.alloc (.cells #[.int .i64 2, .int .i64 0, .int .i64 (-1), .int .i64 (k : Int), .int .i64 (j : Int), .int .i64 (b : Int), .int .i64 (r : Int), .string ⟨#[]⟩] 36) = wb := ⟨_, rfl⟩
              have hbb : Below wi.heap.size wi wb := by rw [← hwb]; exact Hb5.out.alloc Hb5.out.size _
              have hrb : RgBox wb w5.heap.size ⟨2, 0, -1, k, j, b, r, ⟨#[]⟩⟩ := by rw [← hwb]; exact block_new _ _
              have hsb : w5.heap.size < wb.heap.size := block_lt hrb
              have hw5 : w3.heap.size ≤ w5.heap.size := by have := Hb5.out.size; omega
              have hb3b := Hbi.out.trans (hbb.mono hsi)
              have hwwb := Hbw3.out.trans (hb3b.mono (by omega))
              obtain ⟨y0, y1, y2, y3, y4, y5⟩ := vbF_cells (block_below Hvb3.out hb3b hlw3)
              have z6 : wb.cell? ⟨w5.heap.size, 6, none⟩ = some (.int .i64 (r : Int)) := cell_block hrb 6
              have HT := hide (HTl.out wb hwwb (HPi.out.below hbb))
              have Hrb := hide hrb
              have Hbb := hide hbb
              rw [hwb]
              clear hwb hbb hrb hwwb hb3b
              go_cut [] from 37 to 44 (fun wx => RgBox wx w5.heap.size ⟨2, 0, -1, k, j, b, r, TB⟩ ∧ Below wi.heap.size wi wx)
              case first =>
                go_wp2_with (first
                  | (go_at_call 21; refine HT.out.mono ?_; rintro e w6 ⟨rfl, hb6⟩; have hr6 : RgBox w6 w5.heap.size ⟨2, 0, -1, k, j, b, r, ⟨#[]⟩⟩ := block_below Hrb.out hb6 hsb; have u7 : w6.cell? ⟨w5.heap.size, 7, none⟩ = some (.string ⟨#[]⟩) := cell_block hr6 7; have f7 := frozen_block hr6 7; have Hr6 := hide hr6; have Hb6 := hide hb6; clear hr6 hb6)
                  | fail)
                go_meet
                case rel =>
                  have e := blk_setF (i := 7) Hr6.out (.string TB)
                  simp only [List.setIfInBounds_toArray, List.set_cons_zero, List.set_cons_succ] at e
                  exact ⟨e, ((Hbb.out.trans (Hb6.out.mono Hbb.out.size)).setCell (p := ⟨w5.heap.size, 7, none⟩) (by show wi.heap.size ≤ w5.heap.size; exact Hb5.out.size) _)⟩
              case rest =>
                obtain ⟨hrc, hbc⟩ := hcut
                obtain ⟨z0, z1, z2, z3, z4, z5, z6', z7⟩ := hrc.cells
                have hownc := own_below Hown.out hbc (Nat.le_refl _)
                have hbc3 := Hbi.out.trans (hbc.mono hsi)
                have hsc := hbc3.size
                have Hownc := hide hownc
                have Hbc3 := hide hbc3
                clear hrc hownc hbc hbc3 y0 y1 y2 y3 y4 y5 z6
                dsimp only at z0 z1 z2 z3 z4 z5 z6' z7
                go_wp2_with (first
                  | (at_builtin; refine wpList_app wc (.tmp 45) (.tmp 47) 28 rfl (by rfl) el_region w3.heap.size _ D _ (by rfl) Hownc.out hsc #[.int .i64 2, .int .i64 0, .int .i64 (-1), .int .i64 (k : Int), .int .i64 (j : Int), .int .i64 (b : Int), .int .i64 (r : Int), .string TB] 1 1 36 _ (by rfl) rfl rfl (by simp [Value.oneCell']) (by omega) ?_; intro v7 w7 hown7 hg7; have Hown7 := hide hown7; have Hg7 := hide hg7; clear hown7 hg7)
                  | fail)
                go_roundw
                case rel =>
                  refine ⟨j + 1, done2 ++ [⟨2, 0, -1, k, j, b, r, TB⟩], by omega, by go_num, own_eq Hown7.out (by rw [List.length_append, HD2.out]; rfl) (by simp [Rg.enc]), by rw [← Nat.sub_sub]; exact Hfs.out, by rw [List.length_append, HD2.out]; have := Hdl2.out; simp; omega, below_own Hbc3.out Hownc.out Hg7.out (Nat.le_refl _) hsc⟩
                case measure => simp [intOf]; omega
          · obtain rfl : j = W := by omega
            rw [Nat.sub_self] at hfs
            have Hfs := hide (show done2 ++ rowsF ⟨j, n, rows, row, col, vis⟩ (k + 1) (n - k - 1) = fs from hfs)
            have Hown := hide hown
            have Hbi := hide hbi
            clear hfs hown hbi
            go_wp2
            go_roundw
            case rel => exact ⟨k + 1, done2, by omega, by go_num, Hown.out, by rw [← Nat.sub_sub]; exact Hfs.out, by rw [Nat.succ_mul]; omega, Hbi.out⟩
            case measure => simp [intOf]; omega
      · obtain rfl : k = n := by omega
        rw [Nat.sub_self] at hfs
        have Hfs := hide (show done = fs by simpa [rowsF] using hfs)
        have Hown := hide hown
        have Hbo := hide hbo
        clear hfs hown hbo
        go_wp2
        go_ret
        exact ⟨_, rfl, own_more (by have := Hown.out; rw [Hfs.out] at this; exact this) (by omega), Hbw3.out.trans (Hbo.out.mono (by omega))⟩
end Go.Proofs.YtdgmjbcfopkibaaDoor
