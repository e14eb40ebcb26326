/- Chapter 45: the glyphs of cells: view.glyphs, the iterator. -/
import Derived.Test.YtdmnnjpbndngeaaDoorQ8
import Derived.Test.YtdmnnjpbndngeaaDoorK14
namespace Go.Proofs.YtdmnnjpbndngeaaDoor
open Go.RowKit Go.Shelf
attribute [local go_sem] Oper.semAt_some

theorem below_step {a x y : World} (h1 : Below a.heap.size a x) (h2 : Below x.heap.size x y) : Below a.heap.size a y := h1.trans (h2.mono h1.size)
def encG (g : Gl) : Array Value := #[.agg #[.string g.text, .bool g.wide, .int .i64 g.style]]
theorem glyCs_snoc (L : List Ce) (k : Nat) (h : k < L.length) : glyCs (L.take (k + 1)) = glyCs (L.take k) ++ glyC L[k] := by
  unfold glyCs; rw [List.take_succ_eq_append_getElem h, List.flatMap_append]; simp

theorem glyphs_of (w : World) (A : Option Addr) (N c : Nat) : Calls Tryd.prog 24 #[.slice A N c] w fun e w' => e = .returned (.func (.func 42) #[] #[.pointer (some ⟨w.heap.size, 0, none⟩)]) ∧ w' = w.alloc (.cells #[.slice A N c] 48) := by
  go_enter Tryd.func24, Tryd.ntmps24
  go_wp2
  go_ret
  exact ⟨rfl, rfl⟩

set_option maxRecDepth 100000 in
set_option maxHeartbeats 4000000 in
theorem glyphs1_in (n : Nat) (hn : 1 ≤ n) (l bl b off N c n0 bo : Nat) (A : Option Addr) (hA : 0 < N → A = some ⟨b, off, none⟩) (L : List Ce) (hN : L.length = N) (hN1 : N ≤ 1000) (J Jx : List Gl → World → Prop) (W0 : World) (hJ : AbidesFrom W0.heap.size J)
    (hY : ∀ pre x W1, J pre W1 → pre.length < N → YieldAt Fence.wide (n - 1) Tryd.prog l (encG x) W1 fun e W' =>
      (e = .returned (.bool true) ∧ J (pre ++ [x]) W' ∧ KpO n0 bo W1 W') ∨ (e = .returned (.bool false) ∧ Jx (pre ++ [x]) W'))
    (hb : b < n0 ∧ b ≠ bo)
    (hcl : W0.cell? ⟨bl, 0, none⟩ = some (.slice A N c)) (hg : ∀ (k : Nat) g, L[k]? = some g → CeAt W0 b (off + k * 5) g) (h0 : J [] W0) :
    CallsIn Fence.wide n Tryd.prog 42 #[.func (.yield l) #[] #[], .pointer (some ⟨bl, 0, none⟩)] W0 fun e W' => (∃ v, e = .returned v) ∧
      ((J (glyCs L) W') ∨ (∃ pre, Jx pre W')) := by
  have HK := hide (fun W (hk : KpO n0 bo W0 W) => (fun (k : Nat) g (h : L[k]? = some g) => (show CeAt W b (off + k * 5) g from ⟨hk _ _ hb.1 hb.2 (hg k g h).1, hk _ _ hb.1 hb.2 (hg k g h).2.1, hk _ _ hb.1 hb.2 (hg k g h).2.2.1, hk _ _ hb.1 hb.2 (hg k g h).2.2.2.1, hk _ _ hb.1 hb.2 (hg k g h).2.2.2.2⟩)))
  have HJ := hide hJ
  have HSt := hide styleP
  have Hn := hide hN
  clear hJ hg hN
  refine callsIn_of_wp Tryd.func42 rfl trivial ?_ rfl
  simp only [Tryd.ntmps42, List.size_toArray, List.length_cons, List.length_nil, Nat.reduceAdd, Nat.reduceSub, Array.replicate_succ, Array.replicate_zero, List.push_toArray, List.append_toArray, List.nil_append, List.cons_append]
  gi_wp2
  gi_loopw [8] (fun f wr => ∃ k : Nat, k ≤ N ∧ f = .int .i64 k ∧ J (glyCs (L.take k)) wr ∧ KpO n0 bo W0 wr) (fun f _ => N - (intOf f).toNat)
  case atStart => exact ⟨0, Nat.zero_le _, rfl, h0, KpO.r _ _ _⟩
  case round =>
    clear hcl h0
    rename World => wo
    obtain ⟨k, hk, rfl, hj, hkp⟩ := hrel
    by_cases hlt : k < N
    · have hltI : (k : Int) < (N : Int) := by omega
      have hkl : k < L.length := by rw [Hn.out]; exact hlt
      obtain ⟨c0, c1, c2, c3, c4⟩ := HK.out wo hkp k _ (List.getElem?_eq_getElem hkl)
      have hAA := hA (by omega)
      subst hAA
      have hsn := glyCs_snoc L k hkl
      have hlen : (glyCs (L.take k)).length < N := by
        have := glyCs_len (L.take k)
        rw [List.length_take] at this; omega
      obtain ⟨⟨tx, wd, fo, ba, fl⟩, hx⟩ : ∃ x, L[k] = x := ⟨_, rfl⟩
      rw [hx] at c0 c1 c2 c3 c4 hsn
      dsimp only at c0 c1 c2 c3 c4
      obtain ⟨W1, hW1⟩ : ∃ W1, wo.alloc (.cells #[.string tx, .int .i64 wd, .int .i64 fo, .int .i64 ba, .int .i64 fl] 47) = W1 := ⟨_, rfl⟩
      have hb1 : Below wo.heap.size wo W1 := by rw [← hW1]; exact (Below.refl _ _).alloc (Nat.le_refl _) _
      have hbk : W1.heap[wo.heap.size]? = some (.cells #[.string tx, .int .i64 wd, .int .i64 fo, .int .i64 ba, .int .i64 fl] 47 (0, 0)) := by rw [← hW1]; exact block_new wo _
      have hs1 : wo.heap.size < W1.heap.size := block_lt hbk
      have HB5 := hide (fun (W2 : World) (hb : Below W1.heap.size W1 W2) => ce_cells (block_below hbk hb hs1))
      obtain ⟨b0, b1, b2, b3, b4⟩ := ce_cells hbk
      have Hb1 := hide hb1
      have Hj := hide hj
      have Hkp := hide hkp
      have Hsn := hide hsn
      have Hlen := hide hlen
      have hbd := (Below.refl W1.heap.size W1).drew
      clear hb1 hbk hj hkp hsn hlen hx hkl
      gi_wp2
      refine wpIn_wide.2 ?_
      go_cut [5] (fun s5 wx => ∃ bg, s5 = .pointer (some ⟨bg, 0, none⟩) ∧ W1.heap.size ≤ bg ∧ Below W1.heap.size W1 wx ∧ wx.heap[bg]? = some (.cells #[.string tx, .bool (wd == 2), .int .i64 (stylF fl)] 73 (0, 0)))
      case first =>
        go_region_held3 (fun W2 => W2.cell? ⟨wo.heap.size, 0, none⟩ = some (.string tx) ∧ W2.cell? ⟨wo.heap.size, 1, none⟩ = some (.int .i64 wd) ∧ W2.cell? ⟨wo.heap.size, 2, none⟩ = some (.int .i64 fo) ∧ W2.cell? ⟨wo.heap.size, 3, none⟩ = some (.int .i64 ba) ∧ W2.cell? ⟨wo.heap.size, 4, none⟩ = some (.int .i64 fl))
          (first | exact HB5.out _ hb5 | exact HB5.out _ hbd | exact HB5.out _ (by repeat (first | exact hb5 | exact hbd | exact Below.refl _ _ | refine bD ?_ | refine bA ?_ _ | refine bS ?_ (by dsimp only; omega) _)) | exact HB5.out _ (by repeat (first | exact hbd | exact Below.refl _ _ | refine bD ?_ | refine bA ?_ _ | refine bS ?_ (by dsimp only; omega) _)))
          (first
            | (go_at_call 43; refine (HSt.out W1.drew fo ba fl).mono ?_; rintro e w5 ⟨rfl, hb5'⟩; have hb5 := hbd.trans (hb5'.mono hbd.size); clear hb5')
            | (go_at_call 43; refine (HSt.out (W1.alloc (.cells #[.string ⟨#[]⟩, .bool false, .int .i64 0] 73)).drew fo ba fl).mono ?_; rintro e w5 ⟨rfl, hb5'⟩; have hn5 := block_below (show (W1.alloc (.cells #[.string ⟨#[]⟩, .bool false, .int .i64 0] 73)).drew.heap[W1.heap.size]? = some _ from block_new W1 _) hb5' (show W1.heap.size < (W1.alloc (.cells #[.string ⟨#[]⟩, .bool false, .int .i64 0] 73)).heap.size by simp); obtain ⟨m0, m1, m2⟩ := cells3 hn5; have y0 := frozen_block hn5 0; have y1 := frozen_block hn5 1; have y2 := frozen_block hn5 2; have hb5 := below_step (bD (bA (Below.refl _ W1) _)) hb5'; clear hb5')
            | fail)
        all_goals
          go_wp2_with fail
          go_meet
          case rel =>
            first
              | exact ⟨_, rfl, hb5.size, hb5.alloc hb5.size _, block_new _ _⟩
              | exact ⟨_, rfl, Nat.le_refl _, bS (bS (bS hb5 (Nat.le_refl _) _) (Nat.le_refl _) _) (Nat.le_refl _) _, heap_setCell_same _ _ 2 _ _ _ (heap_setCell_same _ _ 1 _ _ _ (heap_setCell_same _ _ 0 _ _ _ hn5))⟩
      case rest =>
        obtain ⟨bg, rfl, hbg, hbw, hG⟩ := hcut
        obtain ⟨W5, rfl⟩ : ∃ W5 : World, W5 = wc := ⟨_, rfl⟩
        clear b0 b1 b2 b3 b4 c0 c1 c2 c3 c4 hbd hW1
        obtain ⟨d0, d1, d2, d3, d4⟩ := HB5.out W5 hbw
        obtain ⟨g0, g1, g2⟩ := cells3 hG
        have y0 := frozen_block hG 0
        have y1 := frozen_block hG 1
        have y2 := frozen_block hG 2
        have hb15 := Hb1.out.trans (hbw.mono Hb1.out.size)
        have hbgw : wo.heap.size ≤ bg := by omega
        have Hb15 := hide hb15
        have HGb := hide hG
        have hne : wo.heap.size ≠ bg := by omega
        clear hbw hb15 hG
        cases q : (bits BinOp.and IntKind.i64 fl 64 != 0) with
        | true =>
          have Hgl := hide (show glyC ⟨tx, wd, fo, ba, fl⟩ = [⟨⟨#[42]⟩, false, 3⟩] by unfold glyC hidF; dsimp only; rw [q, if_pos rfl])
          obtain ⟨W6, hW6⟩ : ∃ W6, ((W5.setCell ⟨bg, 0, none⟩ (.string ⟨#[42]⟩)).setCell ⟨bg, 1, none⟩ (.bool false)).setCell ⟨bg, 2, none⟩ (.int .i64 3) = W6 := ⟨_, rfl⟩
          have hG6 : W6.heap[bg]? = some (.cells #[.string ⟨#[42]⟩, .bool false, .int .i64 3] 73 (0, 0)) := by
            rw [← hW6]; exact heap_setCell_same _ _ 2 _ _ _ (heap_setCell_same _ _ 1 _ _ _ (heap_setCell_same _ _ 0 _ _ _ HGb.out))
          obtain ⟨m0, m1, m2⟩ := cells3 hG6
          have Hbw := hide (show Below wo.heap.size wo W6 by rw [← hW6]; exact bS (bS (bS Hb15.out hbgw _) hbgw _) hbgw _)
          have hjw := HJ.out _ _ _ none Hj.out (grown_below Hbw.out) (fun r e => by cases e)
          have hYx := hide (fun W1 hj => hY (glyCs (L.take k)) ⟨⟨#[42]⟩, false, 3⟩ W1 hj Hlen.out)
          unfold encG at hYx
          dsimp only at hYx
          clear hG6
          obtain ⟨fn, tmps, assign, body, hy, hR⟩ := hYx.out W6 hjw
          gi_wp2
          refine hR.mono ?_
          rintro e W7 (⟨rfl, hj3, hk3⟩ | ⟨rfl, hjx⟩)
          · gi_wp2
            go_roundw
            case rel => exact ⟨k + 1, by omega, by go_num, by rw [Hsn.out, Hgl.out]; exact hj3, Hkp.out.t ((KpO.of_below Hbw.out).t hk3)⟩
            case measure => simp [intOf]; omega
          · gi_wp2
            refine bodyPost_ret (results_none rfl _ _ _) rfl ?_
            exact ⟨⟨_, rfl⟩, .inr ⟨_, hjx⟩⟩
        | false =>
          by_cases hwz : wd = 0
          · have q2 : (wd == 0) = true := by rw [hwz]; rfl
            have Hgl := hide (show glyC ⟨tx, wd, fo, ba, fl⟩ = [] by unfold glyC hidF; dsimp only; rw [q, if_neg (by simp), if_pos hwz])
            have hjw := HJ.out _ _ _ none Hj.out (grown_below Hb15.out) (fun r e => by cases e)
            clear hwz
            gi_wp2
            go_roundw
            case rel => exact ⟨k + 1, by omega, by go_num, by rw [Hsn.out, Hgl.out, List.append_nil]; exact hjw, Hkp.out.t (KpO.of_below Hb15.out)⟩
            case measure => simp [intOf]; omega
          · have q2 : (wd == 0) = false := by rw [beq_eq_false_iff_ne]; exact hwz
            have Hgl := hide (show glyC ⟨tx, wd, fo, ba, fl⟩ = [⟨tx, wd == 2, stylF fl⟩] by unfold glyC hidF; dsimp only; rw [q, if_neg (by simp), if_neg hwz])
            have Hbw := Hb15
            have hjw := HJ.out _ _ _ none Hj.out (grown_below Hbw.out) (fun r e => by cases e)
            have hYx := hide (fun W1 hj => hY (glyCs (L.take k)) ⟨tx, wd == 2, stylF fl⟩ W1 hj Hlen.out)
            unfold encG at hYx
            dsimp only at hYx
            clear hwz
            obtain ⟨fn, tmps, assign, body, hy, hR⟩ := hYx.out W5 hjw
            gi_wp2
            refine hR.mono ?_
            rintro e W7 (⟨rfl, hj3, hk3⟩ | ⟨rfl, hjx⟩)
            · gi_wp2
              go_roundw
              case rel => exact ⟨k + 1, by omega, by go_num, by rw [Hsn.out, Hgl.out]; exact hj3, Hkp.out.t ((KpO.of_below Hbw.out).t hk3)⟩
              case measure => simp [intOf]; omega
            · gi_wp2
              refine bodyPost_ret (results_none rfl _ _ _) rfl ?_
              exact ⟨⟨_, rfl⟩, .inr ⟨_, hjx⟩⟩
    · obtain rfl : k = N := by omega
      rw [List.take_of_length_le (by rw [Hn.out]; exact Nat.le_refl _)] at hj
      gi_wp2
      go_end0
      exact ⟨⟨_, rfl⟩, .inl hj⟩
end Go.Proofs.YtdmnnjpbndngeaaDoor
