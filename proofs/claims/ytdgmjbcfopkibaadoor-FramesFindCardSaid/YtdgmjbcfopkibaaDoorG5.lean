/- narratorref23.Find, Same. -/
import Derived.Test.YtdgmjbcfopkibaaDoorG4
import Derived.Test.YtdgmjbcfopkibaaDoorF8
import Derived.Deep.RegionHeld3
namespace Go.Proofs.YtdgmjbcfopkibaaDoor
open Go.RowKit Go.Shelf

set_option maxRecDepth 100000 in
set_option maxHeartbeats 4000000 in
theorem find23 (w : World) (A : Option Addr) (c : Nat) (v : Vw) (h : Rows2 w w.heap.size A v.rows) (ht : v.Tame) (hsm : v.ok = true → v.rows.length * v.width.toNat ≤ 200) :
    Calls Tryd.prog 11 #[v.val A c] w fun e w' => ∃ vv, e = .returned vv ∧ w'.ownsRow w.heap.size 36 8 vv (framesT v).length ((framesT v).flatMap Rg.enc) ∧ Below w.heap.size w w' := by
  have hbox := (Below.refl w.heap.size w).alloc (Nat.le_refl _) (.cells #[.int .i64 v.width, .int .i64 v.height, .slice A v.rows.length c, .int .i64 v.row, .int .i64 v.col, .bool v.visible] 24)
  have hvb : VwBox _ w.heap.size v A c := block_new w (.cells #[.int .i64 v.width, .int .i64 v.height, .slice A v.rows.length c, .int .i64 v.row, .int .i64 v.col, .bool v.visible] 24)
  have HC := hide (check15 _ A c v ((h.below hbox).more hbox.size) ht)
  unfold framesT
  cases hok : v.ok with
  | false =>
    rw [if_neg (by simp)]
    obtain ⟨V, hV⟩ : ∃ V, v.err = V := ⟨_, rfl⟩
    have h0 : (V != 0) = true := by unfold Vw.ok at hok; rw [hV] at hok; simpa using hok
    rw [hV] at HC
    clear h ht hok hV hvb hsm
    unfold Vw.val at HC ⊢
    go_enter Tryd.func11, Tryd.ntmps11
    go_wp2_with (go_at_call 22; refine HC.out.mono ?_; rintro e w1 ⟨rfl, hb1⟩)
    go_ret
    exact ⟨_, rfl, World.ownsRow_nil _ _ _ _, hbox.trans (hb1.mono (by simp))⟩
  | true =>
    rw [if_pos rfl]
    have h0 : v.err = 0 := by unfold Vw.ok at hok; simpa using hok
    rw [h0] at HC
    have hni := Vw.nice ht hok
    obtain ⟨W, hW⟩ : ∃ W : Nat, v.width = W := ⟨_, hni.width⟩
    have hWn : v.width.toNat = W := by rw [hW]; rfl
    have hsm := hsm hok
    rw [hWn] at hni hsm
    have HFr := hide (fun (w1 : World) (hb1 : Below w.heap.size w w1) (t l : Nat) (h1 : t < v.rows.length) (h2 : l < W) => from23 w1 A c v W t l ((h.below hb1).more hb1.size) ht hok h1 h2 hW)
    obtain ⟨n, hn⟩ : ∃ n, v.rows.length = n := ⟨_, rfl⟩
    have hht : v.height = n := by rw [← hn]; exact hni.height
    have hn12 := ht.1
    rw [hn] at hsm hn12 HFr
    have hW200 := hni.w2
    have Hfr := hide (fun (t l : Nat) => show (frameF v t l = none ∧ fromRg v t l = zeroRg) ∨ ∃ b r TB, frameF v t l = some ⟨2, 0, -1, t, l, b, r, TB⟩ ∧ fromRg v t l = ⟨2, 0, -1, t, l, b, r, TB⟩ by
      unfold fromRg
      cases hf : frameF v t l with
      | none => exact .inl ⟨rfl, rfl⟩
      | some g =>
        unfold frameF at hf
        rw [Option.map_eq_some_iff] at hf
        obtain ⟨x, -, rfl⟩ := hf
        exact .inr ⟨_, _, _, rfl, rfl⟩)
    obtain ⟨fs, hfs⟩ : ∃ fs, rowsF v 0 n = fs := ⟨_, rfl⟩
    rw [hn, hfs]
    have Hfs := hide (show [] ++ rowsF v 0 (n - 0) = fs from hfs)
    have Hmul := hide (fun (k j : Nat) (hk : k < n) (hj : j < W) => Nat.lt_of_lt_of_le (mul_step hk hj) hsm)
    obtain ⟨width, height, rows, row, col, vis⟩ := v
    dsimp only at hn hW hht hbox hvb HC HFr
    subst hW hht
    unfold VwBox at hvb
    unfold Vw.val at HC HFr ⊢
    dsimp only at hvb HC HFr ⊢
    rw [hn] at hbox hvb HC HFr ⊢
    have Hvb := hide hvb
    clear h ht hok h0 hni hfs hWn hn hvb hsm
    go_enter Tryd.func11, Tryd.ntmps11
    go_upto_region 3 with (go_at_call 22; refine HC.out.mono ?_; rintro e w3 ⟨rfl, hb1⟩; have Hvb3 := hide (block_below Hvb.out hb1 (by simp)); have Hbw3 := hide (hbox.trans (hb1.mono (by simp))); have Hsz3 := hide (show w.heap.size < w3.heap.size by have := hb1.size; simp at this; omega); clear hb1)
    have hlw3 : w.heap.size < w3.heap.size := Hsz3.out
    clear hbox HC Hvb
    go_wp2
    go_loopw [3, 4] (fun o i wr => ∃ (k : Nat) (done : List Rg), k ≤ n ∧ i = .int .i64 (k : Int) ∧ wr.ownsRow w3.heap.size 36 8 o done.length (done.flatMap Rg.enc) ∧ done ++ rowsF ⟨W, n, rows, row, col, vis⟩ k (n - k) = fs ∧ done.length ≤ k * W ∧ Below w3.heap.size w3 wr) (fun _ i _ => n - (intOf i).toNat)
    case atStart => exact ⟨0, [], Nat.zero_le _, rfl, World.ownsRow_nil _ _ _ _, Hfs.out, by simp, Below.refl _ _⟩
    case round =>
      clear Hfs
      obtain ⟨k, done, hk, rfl, hown, hfs, hdl, hbo⟩ := hrel
      rename World => wo
      obtain ⟨y0, y1, y2, y3, y4, y5⟩ := vbF_cells (block_below Hvb3.out hbo hlw3)
      by_cases hlt : k < n
      · have hltI : (k : Int) < (n : Int) := by omega
        rw [rowsF_step _ _ _ (by omega)] at hfs
        have Hfs := hide (show done ++ (colsF ⟨W, n, rows, row, col, vis⟩ k 0 (W - 0) ++ rowsF ⟨W, n, rows, row, col, vis⟩ (k + 1) (n - k - 1)) = fs from hfs)
        have Hown := hide hown
        have Hbo := hide hbo
        have Hdl := hide hdl
        clear hfs hown hbo hdl
        go_wp2
        go_loopw [3, 5] (fun o i wr => ∃ (j : Nat) (done : List Rg), j ≤ W ∧ i = .int .i64 (j : Int) ∧ wr.ownsRow w3.heap.size 36 8 o done.length (done.flatMap Rg.enc) ∧ done ++ (colsF ⟨W, n, rows, row, col, vis⟩ k j (W - j) ++ rowsF ⟨W, n, rows, row, col, vis⟩ (k + 1) (n - k - 1)) = fs ∧ done.length ≤ k * W + j ∧ Below w3.heap.size w3 wr) (fun _ i _ => W - (intOf i).toNat)
        case atStart => exact ⟨0, done, Nat.zero_le _, rfl, Hown.out, Hfs.out, by have := Hdl.out; omega, Hbo.out⟩
        case round =>
          clear Hfs y0 y1 y2 y3 y4 y5 Hown Hbo Hdl
          obtain ⟨j, done2, hj, rfl, hown, hfs, hdl, hbi⟩ := hrel
          rename World => wi
          have hsi := hbi.size
          obtain ⟨y0, y1, y2, y3, y4, y5⟩ := vbF_cells (block_below Hvb3.out hbi hlw3)
          by_cases hlj : j < W
          · have hljI : (j : Int) < (W : Int) := by omega
            have HF := hide (HFr.out wi (Hbw3.out.trans (hbi.mono (Nat.le_of_lt hlw3))) k j hlt hlj)
            have hm := Hmul.out k j hlt hlj
            rw [colsF_step _ _ _ _ (by omega)] at hfs
            obtain ⟨D, hD⟩ : ∃ D, done2.length = D := ⟨_, rfl⟩
            have HD2 := hide hD
            rw [hD] at hown hdl
            have hD200 : D < 200 := by omega
            obtain ⟨Ao, co, rfl⟩ := own_form hown
            have Hdl2 := hide hdl
            rcases Hfr.out k j with ⟨hF, hfr⟩ | ⟨b, r, TB, hF, hfr⟩
            · rw [hF] at hfs
              rw [hfr] at HF
              unfold zeroRg Rg.val at HF
              dsimp only at HF
              have Hfs := hide (show done2 ++ (colsF ⟨W, n, rows, row, col, vis⟩ k (j + 1) (W - j - 1) ++ rowsF ⟨W, n, rows, row, col, vis⟩ (k + 1) (n - k - 1)) = fs by simpa using hfs)
              have Hown := hide hown
              have Hbi := hide hbi
              clear hfs hown hbi hF hD hdl hfr
              go_wp2_with (go_at_call 23; refine HF.out.mono ?_; rintro e w5 ⟨rfl, hb5⟩; have Hb5 := hide (hb5.alloc hb5.size (.cells #[.int .i64 0, .int .i64 0, .int .i64 0, .int .i64 0, .int .i64 0, .int .i64 0, .int .i64 0, .string ⟨#[]⟩] 36)); clear hb5)
              go_roundw
              case rel => exact ⟨j + 1, done2, by omega, by go_num, own_eq (own_below Hown.out Hb5.out (Nat.le_refl _)) HD2.out.symm rfl, by rw [← Nat.sub_sub]; exact Hfs.out, by rw [HD2.out]; have := Hdl2.out; omega, Hbi.out.trans (Hb5.out.mono hsi)⟩
              case measure => simp [intOf]; omega
            · rw [hF] at hfs
              rw [hfr] at HF
              unfold Rg.val at HF
              dsimp only at HF
              have Hfs := hide (show (done2 ++ [(⟨2, 0, -1, k, j, b, r, TB⟩ : Rg)]) ++ (colsF ⟨W, n, rows, row, col, vis⟩ k (j + 1) (W - j - 1) ++ rowsF ⟨W, n, rows, row, col, vis⟩ (k + 1) (n - k - 1)) = fs by
                rw [← hfs]; simp)
              have q200 : (D : Int) < 200 := by omega
              have Hown := hide hown
              have Hbi := hide hbi
              clear hfs hown hbi hF hD hdl hfr
              go_upto_region 11 with (first
                | (go_at_call 23; refine HF.out.mono ?_; rintro e w5 ⟨rfl, hb5⟩; have Hb5 := hide hb5; clear hb5)
                | fail)
              obtain ⟨wc, hwc⟩ : ∃ wc, w5.alloc (.cells #[.int .i64 2, .int .i64 0, .int .i64 (-1), .int .i64 (k : Int), .int .i64 (j : Int), .int .i64 b, .int .i64 r, .string TB] 36) = wc := ⟨_, rfl⟩
              have hbc : Below wi.heap.size wi wc := by rw [← hwc]; exact Hb5.out.alloc Hb5.out.size _
              have hrc : RgBox wc w5.heap.size ⟨2, 0, -1, k, j, b, r, TB⟩ := by rw [← hwc]; exact block_new _ _
              obtain ⟨z0, z1, z2, z3, z4, z5, z6, z7⟩ := hrc.cells
              have Hownc := hide (own_below Hown.out hbc (Nat.le_refl _))
              have Hbc3 := hide (Hbi.out.trans (hbc.mono hsi))
              have hsc := Hbc3.out.size
              rw [hwc]
              clear hwc hbc hrc y0 y1 y2 y3 y4 y5
              dsimp only at z0 z1 z2 z3 z4 z5 z6 z7
              go_wp2_with (first
                | (at_builtin; refine wpList_app wc (.tmp 34) (.tmp 36) 28 rfl (by rfl) el_region w3.heap.size _ D _ (by rfl) Hownc.out hsc #[.int .i64 2, .int .i64 0, .int .i64 (-1), .int .i64 (k : Int), .int .i64 (j : Int), .int .i64 b, .int .i64 r, .string TB] 1 1 36 _ (by rfl) rfl rfl (by simp [Value.oneCell']) (by omega) ?_; intro v7 w7 hown7 hg7; have Hown7 := hide hown7; have Hg7 := hide hg7; clear hown7 hg7)
                | fail)
              go_roundw
              case rel =>
                refine ⟨j + 1, done2 ++ [⟨2, 0, -1, k, j, b, r, TB⟩], by omega, by go_num, own_eq Hown7.out (by rw [List.length_append, HD2.out]; rfl) (by simp [Rg.enc]), by rw [← Nat.sub_sub]; exact Hfs.out, by rw [List.length_append, HD2.out]; have := Hdl2.out; simp; omega, below_own Hbc3.out Hownc.out Hg7.out (Nat.le_refl _) hsc⟩
              case measure => simp [intOf]; omega
          · obtain rfl : j = W := by omega
            rw [Nat.sub_self] at hfs
            have Hfs := hide (show done2 ++ rowsF ⟨j, n, rows, row, col, vis⟩ (k + 1) (n - k - 1) = fs from hfs)
            have Hown := hide hown
            have Hbi := hide hbi
            clear hfs hown hbi
            go_wp2
            go_roundw
            case rel => exact ⟨k + 1, done2, by omega, by go_num, Hown.out, by rw [← Nat.sub_sub]; exact Hfs.out, by rw [Nat.succ_mul]; omega, Hbi.out⟩
            case measure => simp [intOf]; omega
      · obtain rfl : k = n := by omega
        rw [Nat.sub_self] at hfs
        have Hfs := hide (show done = fs by simpa [rowsF] using hfs)
        have Hown := hide hown
        have Hbo := hide hbo
        clear hfs hown hbo
        go_wp2
        go_ret
        exact ⟨_, rfl, own_more (by have := Hown.out; rw [Hfs.out] at this; exact this) (by omega), Hbw3.out.trans (Hbo.out.mono (by omega))⟩
set_option maxHeartbeats 2000000 in
theorem same23P (w : World) (b1 b2 : Nat) (v1 v2 : Value) (l : List Rg) (h1 : w.ownsRow b1 36 8 v1 l.length (l.flatMap Rg.enc)) (h2 : w.ownsRow b2 36 8 v2 l.length (l.flatMap Rg.enc)) (hl : l.length ≤ 1000) :
    Calls Tryd.prog 9 #[v1, v2] w fun e w' => e = .returned (.bool true) ∧ Below w.heap.size w w' := by
  obtain ⟨A1, c1, rfl⟩ := own_form h1
  obtain ⟨A2, c2, rfl⟩ := own_form h2
  have H1 := hide h1
  have H2 := hide h2
  clear h1 h2
  obtain ⟨n, hn⟩ : ∃ n, l.length = n := ⟨_, rfl⟩
  rw [hn] at H1 H2 hl ⊢
  have Hn := hide hn
  clear hn
  go_enter Tryd.func9, Tryd.ntmps9
  go_wp2
  go_loopw [5] (fun i wr => ∃ k : Nat, k ≤ n ∧ i = .int .i64 k ∧ Below w.heap.size w wr) (fun i _ => n - (intOf i).toNat)
  case atStart => exact ⟨0, Nat.zero_le _, rfl, Below.refl _ _⟩
  case round =>
    rename World => wo
    obtain ⟨k, hk, rfl, hb⟩ := hrel
    by_cases hlt : k < n
    · obtain ⟨g1, d1, he1, -, hg1⟩ := own_form1 H1.out (by omega)
      obtain ⟨g2, d2, he2, -, hg2⟩ := own_form1 H2.out (by omega)
      cases he1
      cases he2
      obtain ⟨x, hx⟩ : ∃ x, l[k]? = some x := ⟨_, List.getElem?_eq_getElem (by rw [Hn.out]; exact hlt)⟩
      have hf : ∀ j u, (Rg.enc x)[j]? = some u → wo.cell? ⟨g1, k * 8 + j, none⟩ = some u ∧ wo.cell? ⟨g2, k * 8 + j, none⟩ = some u := fun j u hu => by
        have hj : j < 8 := (List.getElem?_eq_some_iff.1 hu).1
        have hfl := flat_get (enc := Rg.enc) (sz := 8) (fun _ => rfl) l k x j u hx hu
        exact ⟨by rw [hb.cell (p := ⟨g1, k * 8 + j, none⟩) hg1, H1.out.cellAt (k * 8 + j) (by omega), hfl], by rw [hb.cell (p := ⟨g2, k * 8 + j, none⟩) hg2, H2.out.cellAt (k * 8 + j) (by omega), hfl]⟩
      obtain ⟨x0, y0⟩ := hf 0 _ rfl
      obtain ⟨x1, y1⟩ := hf 1 _ rfl
      obtain ⟨x2, y2⟩ := hf 2 _ rfl
      obtain ⟨x3, y3⟩ := hf 3 _ rfl
      obtain ⟨x4, y4⟩ := hf 4 _ rfl
      obtain ⟨x5, y5⟩ := hf 5 _ rfl
      obtain ⟨x6, y6⟩ := hf 6 _ rfl
      obtain ⟨x7, y7⟩ := hf 7 _ rfl
      rw [Nat.add_zero] at x0 y0
      have hltn : (k : Int) < (n : Int) := by omega
      obtain ⟨xk, xi, xp, xt, xl, xb, xr, xlb⟩ := x
      dsimp only at x0 x1 x2 x3 x4 x5 x6 x7 y0 y1 y2 y3 y4 y5 y6 y7
      clear hx hf
      have hbd := hb.drew
      go_wp2
      go_region_held3 (fun W2 => W2.cell? ⟨g1, k * 8, none⟩ = some (.int .i64 xk) ∧ W2.cell? ⟨g1, k * 8 + 1, none⟩ = some (.int .i64 xi) ∧ W2.cell? ⟨g1, k * 8 + 2, none⟩ = some (.int .i64 xp) ∧ W2.cell? ⟨g1, k * 8 + 3, none⟩ = some (.int .i64 xt) ∧ W2.cell? ⟨g1, k * 8 + 4, none⟩ = some (.int .i64 xl) ∧
        W2.cell? ⟨g1, k * 8 + 5, none⟩ = some (.int .i64 xb) ∧ W2.cell? ⟨g1, k * 8 + 6, none⟩ = some (.int .i64 xr) ∧ W2.cell? ⟨g1, k * 8 + 7, none⟩ = some (.string xlb) ∧
        W2.cell? ⟨g2, k * 8, none⟩ = some (.int .i64 xk) ∧ W2.cell? ⟨g2, k * 8 + 1, none⟩ = some (.int .i64 xi) ∧ W2.cell? ⟨g2, k * 8 + 2, none⟩ = some (.int .i64 xp) ∧ W2.cell? ⟨g2, k * 8 + 3, none⟩ = some (.int .i64 xt) ∧ W2.cell? ⟨g2, k * 8 + 4, none⟩ = some (.int .i64 xl) ∧
        W2.cell? ⟨g2, k * 8 + 5, none⟩ = some (.int .i64 xb) ∧ W2.cell? ⟨g2, k * 8 + 6, none⟩ = some (.int .i64 xr) ∧ W2.cell? ⟨g2, k * 8 + 7, none⟩ = some (.string xlb)) (go_keep) (fail)
      go_wp2
      go_roundw
      case rel => exact ⟨k + 1, by omega, by go_num, hbd⟩
      case measure => simp [intOf]; omega
    · obtain rfl : k = n := by omega
      go_wp2
      go_ret
      exact ⟨rfl, hb⟩
end Go.Proofs.YtdgmjbcfopkibaaDoor
