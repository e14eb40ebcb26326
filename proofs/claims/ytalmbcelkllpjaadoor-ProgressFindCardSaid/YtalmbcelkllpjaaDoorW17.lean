/- narratorref27.Find. -/
import Derived.Test.YtalmbcelkllpjaaDoorW9
import Derived.Deep.RegionHeld3
namespace Go.Proofs.YtalmbcelkllpjaaDoor
open Go.RowKit

set_option maxRecDepth 100000 in
set_option maxHeartbeats 4000000 in
theorem find27 (w : World) (A : Option Addr) (c : Nat) (v : Vw) (h : Rows2 w w.heap.size A v.rows) (ht : v.Tame) :
    Calls Tryd.prog 23 #[v.val A c] w fun e w' => ∃ vv, e = .returned vv ∧ w'.ownsRow w.heap.size 43 8 vv (progT v).length ((progT v).flatMap Rg.enc) ∧ Below w.heap.size w w' := by
  have hbox := (Below.refl w.heap.size w).alloc (Nat.le_refl _) (.cells #[.int .i64 v.width, .int .i64 v.height, .slice A v.rows.length c, .int .i64 v.row, .int .i64 v.col, .bool v.visible] 35)
  have hvb : VwBox _ w.heap.size v A c := block_new w (.cells #[.int .i64 v.width, .int .i64 v.height, .slice A v.rows.length c, .int .i64 v.row, .int .i64 v.col, .bool v.visible] 35)
  have HC := hide (check15 _ A c v ((h.below hbox).more hbox.size) ht)
  have HR := hide (fun (w1 : World) (hb1 : Below w.heap.size w w1) => (h.below hb1).more hb1.size)
  have Htame := hide ht.2
  have hl12 := ht.1
  unfold progT
  cases hok : v.ok with
  | false =>
    rw [if_neg (by simp)]
    obtain ⟨V, hV⟩ : ∃ V, v.err = V := ⟨_, rfl⟩
    have h0 : (V != 0) = true := by unfold Vw.ok at hok; rw [hV] at hok; simpa using hok
    rw [hV] at HC
    clear h ht hok hV hvb
    unfold Vw.val at HC ⊢
    go_enter Tryd.func23, Tryd.ntmps23
    go_wp2_with (go_at_call 36; refine HC.out.mono ?_; rintro e w1 ⟨rfl, hb1⟩)
    go_ret
    exact ⟨_, rfl, World.ownsRow_nil _ _ _ _, hbox.trans (hb1.mono (by simp))⟩
  | true =>
    rw [if_pos rfl]
    have h0 : v.err = 0 := by unfold Vw.ok at hok; simpa using hok
    rw [h0] at HC
    clear h ht hok h0
    obtain ⟨N, hN⟩ : ∃ N, v.rows.length = N := ⟨_, rfl⟩
    have HN := hide hN
    rw [hN] at hl12
    unfold Vw.val at HC ⊢
    obtain ⟨k0, k1, k2, k3, k4, k5⟩ := hvb.cells
    rw [hN] at k0 k1 k2 k3 k4 k5 HC hbox hvb ⊢
    have Hvb := hide hvb
    clear hN hvb
    go_enter Tryd.func23, Tryd.ntmps23
    go_wp2_with (go_at_call 36; refine HC.out.mono ?_; rintro e w1 ⟨rfl, hb1⟩; obtain ⟨z0, z1, z2, z3, z4, z5⟩ := (Hvb.out.below hb1 (by simp)).cells; rw [HN.out] at z2)
    have hbw1 := hbox.trans (hb1.mono (by simp))
    have Hvb1 := hide (Hvb.out.below hb1 (by simp))
    have hsw1 : w.heap.size + 1 ≤ w1.heap.size := by have := hb1.size; simp at this; omega
    clear k0 k1 k2 k3 k4 k5 z0 z1 z2 z3 z4 z5 HC Hvb hb1 hbox
    go_loopw [3, 4] (fun o i wr => ∃ k : Nat, k ≤ N ∧ i = .int .i64 k ∧ wr.ownsRow (w.heap.size + 1) 43 8 o (progL 0 (v.rows.take k)).length ((progL 0 (v.rows.take k)).flatMap Rg.enc) ∧ Below w.heap.size w wr ∧ Below (w.heap.size + 1) w1 wr) (fun _ i _ => N - (intOf i).toNat)
    case atStart => exact ⟨0, Nat.zero_le _, rfl, World.ownsRow_nil _ _ _ _, hbw1, Below.refl _ _⟩
    case round =>
      clear hbw1
      rename World => wo
      obtain ⟨k, hk, rfl, hown, hbo, hb1o⟩ := hrel
      have hw1s := hb1o.size
      have hbox1 := (Hvb1.out.below hb1o (by omega)).cells
      obtain ⟨x0, x1, x2, x3, x4, x5⟩ := hbox1
      rw [HN.out] at x2
      have hso := hbo.size
      by_cases hlt : k < N
      · have hkl : k < v.rows.length := by rw [HN.out]; exact hlt
        have Hsnoc := hide (progL_take v.rows k hkl)
        obtain ⟨hrl, hgl⟩ := Htame.out _ (List.getElem_mem (h := hkl))
        obtain ⟨r, hr⟩ : ∃ r, v.rows[k] = r := ⟨_, rfl⟩
        obtain ⟨b, off, rfl, hbb, A1, c1, d0, d1, d2⟩ := (HR.out wo hbo).get1 hkl
        rw [hr] at hrl hgl d0 d1 d2 Hsnoc
        have Hgl := hide d2
        have HI := hide (fun (w1 : World) (hb1 : Below wo.heap.size wo w1) => indicator27 w1 A1 c1 r ((d2.below (GlAt.stays _) hb1).more hb1.size) (by omega))
        have hpl := progL_len (v.rows.take k) 0
        rw [List.length_take, HN.out, Nat.min_eq_left hk] at hpl
        have Hgl2 := hide hgl
        clear hr hgl d2
        obtain ⟨P, hP⟩ : ∃ P, (progL 0 (v.rows.take k)).length = P := ⟨_, rfl⟩
        rw [hP] at hown hpl
        have HP := hide hP
        clear hP
        obtain ⟨Ao, co0, rfl⟩ := own_form hown
        cases hi : indR r with
        | none =>
          have Hn := hide (show progL 0 (v.rows.take (k + 1)) = progL 0 (v.rows.take k) by rw [Hsnoc.out]; unfold progR; rw [hi]; simp)
          rw [hi] at HI
          unfold pcE at HI
          dsimp only at HI
          clear hi
          go_wp2_with (go_at_call 38; refine (HI.out _ (Below.refl _ _)).mono ?_; rintro e w2 ⟨rfl, hb2⟩)
          go_roundw
          case rel => exact ⟨k + 1, by omega, by go_num, own_eq (own_below hown hb2 (Nat.le_refl _)) (by rw [Hn.out, HP.out]) (by rw [Hn.out]), hbo.trans (hb2.mono hso), hb1o.trans (hb2.mono (by omega))⟩
          case measure => simp [intOf]; omega
        | some x =>
          obtain ⟨a, d, n⟩ := x
          obtain ⟨i1, i2, i3⟩ := indR_bd hi
          obtain ⟨b1, off1, rfl, hb1, -⟩ := Hgl.out.get (show 0 < r.length by omega)
          have Hs := hide (show progL 0 (v.rows.take (k + 1)) = progL 0 (v.rows.take k) ++ [⟨8, 0, -1, k, widthOf (r.take a), (k : Int) + 1, widthOf (r.take d), labelB n⟩] by rw [Hsnoc.out]; unfold progR; rw [hi]; rfl)
          rw [hi] at HI
          unfold pcE at HI
          dsimp only at HI
          have l1 : (r.take a).length = a := by rw [List.length_take]; omega
          have l2 : (r.take d).length = d := by rw [List.length_take]; omega
          have HW1 := hide (fun (w1 : World) (hb1 : Below wo.heap.size wo w1) => width15 w1 (some ⟨b1, off1, none⟩) c1 (r.take a) (((Hgl.out.take a).below (GlAt.stays _) hb1).more hb1.size) (by omega))
          have HW2 := hide (fun (w1 : World) (hb1 : Below wo.heap.size wo w1) => width15 w1 (some ⟨b1, off1, none⟩) c1 (r.take d) (((Hgl.out.take d).below (GlAt.stays _) hb1).more hb1.size) (by omega))
          have hwa : widthOf (r.take a) ≤ 280 := by have := widthOf_take_le r a; omega
          have hwd : widthOf (r.take d) ≤ 280 := by have := widthOf_take_le r d; omega
          rw [l1] at HW1
          rw [l2] at HW2
          have HIt := hide (fun (w1 : World) => digits27 w1 n i3)
          have Hlab := hide (labelB_cat n)
          have hcat : (decB n).size + 1 ≤ 9223372036854775807 := by have := decB_size n; omega
          have hcat2 : ¬ 9223372036854775807 < (decB n).size + 1 := by omega
          have hadd := fun w1 => run_string_add_sum (P := Tryd.prog) w1 (decB n) ⟨#[37]⟩ hcat
          obtain ⟨W1, hW1⟩ : ∃ W1, widthOf (r.take a) = W1 := ⟨_, rfl⟩
          obtain ⟨W2, hW2⟩ : ∃ W2, widthOf (r.take d) = W2 := ⟨_, rfl⟩
          rw [hW1] at HW1 Hs hwa
          rw [hW2] at HW2 Hs hwd
          have hkw : IntKind.i64.wrap ((k : Int) + 1) = (k : Int) + 1 := IntWalk.i64_in _ (by omega)
          have ha0 : (0 : Int) ≤ (a : Int) := by omega
          have hac : (a : Int) ≤ (c1 : Int) := by omega
          have hd0 : (0 : Int) ≤ (d : Int) := by omega
          have hdc : (d : Int) ≤ (c1 : Int) := by omega
          clear hi l1 l2 hW1 hW2
          go_wp2_with (first
            | (go_at_call 38; refine (HI.out _ (Below.refl _ _)).mono ?_; rintro e w2 ⟨rfl, hb2⟩)
            | fail)
          have hdr : Below wo.heap.size wo w2.drew := hb2.drew
          have hbX : Below wo.heap.size wo (w2.alloc (.cells #[.int .i64 8, .int .i64 0, .int .i64 (-1), .int .i64 k, .int .i64 W1, .int .i64 ((k : Int) + 1), .int .i64 W2, .string (decB n ++ ⟨#[37]⟩)] 43)).drew := (hb2.alloc hb2.size _).drew
          have hownX := own_below hown hbX (Nat.le_refl _)
          have hsX := hbX.size
          have hsX' : w.heap.size + 1 ≤ (w2.alloc (.cells #[.int .i64 8, .int .i64 0, .int .i64 (-1), .int .i64 k, .int .i64 W1, .int .i64 ((k : Int) + 1), .int .i64 W2, .string (decB n ++ ⟨#[37]⟩)] 43)).drew.heap.size := by omega
          have hcX : ∀ j u, (Rg.enc ⟨8, 0, -1, k, W1, (k : Int) + 1, W2, decB n ++ ⟨#[37]⟩⟩)[j]? = some u → (w2.alloc (.cells #[.int .i64 8, .int .i64 0, .int .i64 (-1), .int .i64 k, .int .i64 W1, .int .i64 ((k : Int) + 1), .int .i64 W2, .string (decB n ++ ⟨#[37]⟩)] 43)).drew.cell? ⟨w2.heap.size, 0 + j, none⟩ = some u := fun j u hu => by
            rw [Nat.zero_add]
            refine (cell_block (w := (w2.alloc (.cells #[.int .i64 8, .int .i64 0, .int .i64 (-1), .int .i64 k, .int .i64 W1, .int .i64 ((k : Int) + 1), .int .i64 W2, .string (decB n ++ ⟨#[37]⟩)] 43)).drew) (block_new w2 _) j).trans ?_
            rw [← Array.getElem?_toList]
            exact hu
          have hbwX := hbo.trans (hbX.mono hso)
          clear x0 x1 x2 x3 x4 x5
          go_region_held3 (fun _ => True) (trivial)
            (first
              | (refine step_apps el_region (w2.alloc (.cells #[.int .i64 8, .int .i64 0, .int .i64 (-1), .int .i64 k, .int .i64 W1, .int .i64 ((k : Int) + 1), .int .i64 W2, .string (decB n ++ ⟨#[37]⟩)] 43)).drew (.tmp 32) (.tmp 48) (by rfl) (by rfl) (w.heap.size + 1) _ P _ (by rfl) hownX hsX' w2.heap.size 0 1 1 (Rg.enc ⟨8, 0, -1, k, W1, (k : Int) + 1, W2, decB n ++ ⟨#[37]⟩⟩) (by rfl) (by omega) rfl hcX (by simp [Rg.enc, Value.oneCell']) (by omega) (P + 1) rfl ?_; intro g6 cap6 w6 hown6 hg6 _)
              | (go_at_call 37; (with_reducible refine (HW1.out _ hdr).mono ?_); rintro e w3 ⟨rfl, rfl⟩)
              | (go_at_call 37; (with_reducible refine (HW2.out _ hdr).mono ?_); rintro e w3 ⟨rfl, rfl⟩)
              | (go_at_call 39; refine (HIt.out _).mono ?_; rintro e w3 ⟨rfl, rfl⟩)
              | fail)
          have hb6 := below_own hbwX hownX hg6 (Nat.le_succ _) hbwX.size
          have hb16 := below_own (hb1o.trans (hbX.mono (by omega))) hownX hg6 (Nat.le_refl _) hsX'
          go_wp2
          go_roundw
          case rel => exact ⟨k + 1, by omega, by go_num, own_eq hown6 (by rw [Hs.out]; simp [HP.out]) (by rw [Hs.out, ← Hlab.out]; simp), hb6, hb16⟩
          case measure => simp [intOf]; omega
      · obtain rfl : k = N := by omega
        have HTk := hide (show v.rows.take k = v.rows by rw [← HN.out, List.take_length])
        go_wp2
        go_ret
        exact ⟨_, rfl, own_eq (own_more hown (by omega)) (by rw [HTk.out]) (by rw [HTk.out]), hbo⟩
end Go.Proofs.YtalmbcelkllpjaaDoor
