/- progress.Find. -/
import Derived.Test.YtnhcelckgfmljaaDoorW8
namespace Go.Proofs.YtnhcelckgfmljaaDoor
open Go.RowKit

theorem labelB_cat (n : Nat) : decB n ++ ⟨#[37]⟩ = labelB n := by
  refine ByteArray.ext (Array.toList_inj.1 ?_)
  simp [decB, labelB]
/-- The glyphs between two places of a row, as a slice. -/
theorem GlRow.cut {w : World} {B b off : Nat} {l : List Gl} (h : GlRow w B (some ⟨b, off, none⟩) l) (a d : Nat) : GlRow w B (some ⟨b, off + a * 3, none⟩) ((l.take d).drop a) := (h.take d).drop a
theorem width_cut (l : List Gl) (a b : Nat) (h : a ≤ b) : widthOf (l.take a) + widthOf ((l.take b).drop a) = widthOf (l.take b) := by
  rw [← widthOf_app]
  congr 1
  have e2 : l.take a = (l.take b).take a := by rw [List.take_take, Nat.min_eq_left h]
  rw [e2, List.take_append_drop]

set_option maxRecDepth 100000 in
set_option maxHeartbeats 4000000 in
theorem findP (w : World) (A : Option Addr) (c : Nat) (v : Vw) (h : Rows2 w w.heap.size A v.rows) (ht : v.Tame) (hT : Tabs27 w) :
    Calls Tryd.prog 8 #[v.val A c] w fun e w' => ∃ vv, e = .returned vv ∧ w'.ownsRow w.heap.size 47 8 vv (progT v).length ((progT v).flatMap Rg.enc) ∧ Below w.heap.size w w' := by
  have hbox := (Below.refl w.heap.size w).alloc (Nat.le_refl _) (.cells #[.int .i64 v.width, .int .i64 v.height, .slice A v.rows.length c, .int .i64 v.row, .int .i64 v.col, .bool v.visible] 24)
  have hvb : VwBox _ w.heap.size v A c := block_new w (.cells #[.int .i64 v.width, .int .i64 v.height, .slice A v.rows.length c, .int .i64 v.row, .int .i64 v.col, .bool v.visible] 24)
  have HC := hide (checkV _ A c v ((h.below hbox).more hbox.size) ht (hT.1.below hbox))
  have HR := hide (fun (w1 : World) (hb1 : Below w.heap.size w w1) => (h.below hb1).more hb1.size)
  have HT := hide (fun (w1 : World) (hb1 : Below w.heap.size w w1) => hT.below hb1)
  have Htame := hide ht.2
  have hl12 := ht.1
  unfold progT
  cases hok : v.ok with
  | false =>
    rw [if_neg (by simp)]
    obtain ⟨V, hV⟩ : ∃ V, v.err = V := ⟨_, rfl⟩
    have h0 : (V != 0) = true := by unfold Vw.ok at hok; rw [hV] at hok; simpa using hok
    rw [hV] at HC
    clear h ht hT hok hV hvb
    unfold Vw.val at HC ⊢
    go_enter Tryd.func8, Tryd.ntmps8
    go_wp2_with (go_at_call 5; refine HC.out.mono ?_; rintro e w1 ⟨rfl, hb1⟩)
    go_ret
    exact ⟨_, rfl, World.ownsRow_nil _ _ _ _, hbox.trans (hb1.mono (by simp))⟩
  | true =>
    rw [if_pos rfl]
    have h0 : v.err = 0 := by unfold Vw.ok at hok; simpa using hok
    rw [h0] at HC
    clear h ht hT hok h0
    obtain ⟨N, hN⟩ : ∃ N, v.rows.length = N := ⟨_, rfl⟩
    have HN := hide hN
    rw [hN] at hl12
    unfold Vw.val at HC ⊢
    obtain ⟨k0, k1, k2, k3, k4, k5⟩ := hvb.cells
    rw [hN] at k0 k1 k2 k3 k4 k5 HC hbox hvb ⊢
    have Hvb := hide hvb
    clear hN hvb
    go_enter Tryd.func8, Tryd.ntmps8
    go_wp2_with (go_at_call 5; refine HC.out.mono ?_; rintro e w1 ⟨rfl, hb1⟩; obtain ⟨z0, z1, z2, z3, z4, z5⟩ := (Hvb.out.below hb1 (by simp)).cells; rw [HN.out] at z2)
    have hbw1 := hbox.trans (hb1.mono (by simp))
    clear k0 k1 k2 k3 k4 k5 z0 z1 z2 z3 z4 z5 HC Hvb hb1 hbox
    go_loopw [3, 16] (fun o i wr => ∃ k : Nat, k ≤ N ∧ i = .int .i64 k ∧ wr.ownsRow w.heap.size 47 8 o (progL 0 (v.rows.take k)).length ((progL 0 (v.rows.take k)).flatMap Rg.enc) ∧ Below w.heap.size w wr) (fun _ i _ => N - (intOf i).toNat)
    case atStart => exact ⟨0, Nat.zero_le _, rfl, World.ownsRow_nil _ _ _ _, hbw1⟩
    case round =>
      clear hbw1
      rename World => wo
      obtain ⟨k, hk, rfl, hown, hbo⟩ := hrel
      have hso := hbo.size
      by_cases hlt : k < N
      · have hkl : k < v.rows.length := by rw [HN.out]; exact hlt
        have Hsnoc := hide (progL_take v.rows k hkl)
        obtain ⟨hrl, hgl⟩ := Htame.out _ (List.getElem_mem (h := hkl))
        obtain ⟨r, hr⟩ : ∃ r, v.rows[k] = r := ⟨_, rfl⟩
        obtain ⟨b, off, rfl, hbb, A1, c1, d0, d1, d2⟩ := (HR.out wo hbo).get1 hkl
        rw [hr] at hrl hgl d0 d1 d2 Hsnoc
        have Hgl := hide d2
        have HI := hide (fun (w1 : World) (hb1 : Below wo.heap.size wo w1) => indicatorP w1 A1 c1 r ((d2.below (GlAt.stays _) hb1).more hb1.size) (by omega))
        have hpl := progL_len (v.rows.take k) 0
        rw [List.length_take, HN.out, Nat.min_eq_left hk] at hpl
        have Hgl2 := hide hgl
        clear hr hgl d2
        obtain ⟨P, hP⟩ : ∃ P, (progL 0 (v.rows.take k)).length = P := ⟨_, rfl⟩
        rw [hP] at hown hpl
        have HP := hide hP
        clear hP
        obtain ⟨Ao, co0, rfl⟩ := own_form hown
        cases hi : indR r with
        | none =>
          have Hn := hide (show progL 0 (v.rows.take (k + 1)) = progL 0 (v.rows.take k) by rw [Hsnoc.out]; unfold progR; rw [hi]; simp)
          rw [hi] at HI
          unfold pcE at HI
          dsimp only at HI
          clear hi
          go_wp2_with (go_at_call 17; refine (HI.out _ (Below.refl _ _)).mono ?_; rintro e w2 ⟨rfl, hb2⟩)
          go_roundw
          case rel => exact ⟨k + 1, by omega, by go_num, own_eq (own_below hown hb2 (Nat.le_refl _)) (by rw [Hn.out, HP.out]) (by rw [Hn.out]), hbo.trans (hb2.mono hso)⟩
          case measure => simp [intOf]; omega
        | some x =>
          obtain ⟨a, d, n⟩ := x
          obtain ⟨i1, i2, i3⟩ := indR_bd hi
          obtain ⟨b1, off1, rfl, hb1, -⟩ := Hgl.out.get (show 0 < r.length by omega)
          have Hs := hide (show progL 0 (v.rows.take (k + 1)) = progL 0 (v.rows.take k) ++ [⟨8, 0, -1, k, widthOf (r.take a), (k : Int) + 1, widthOf (r.take d), labelB n⟩] by rw [Hsnoc.out]; unfold progR; rw [hi]; rfl)
          rw [hi] at HI
          unfold pcE at HI
          dsimp only at HI
          have l1 : (r.take a).length = a := by rw [List.length_take]; omega
          have l2 : ((r.take d).drop a).length = d - a := by rw [List.length_drop, List.length_take]; omega
          have HW1 := hide (fun (w1 : World) (hb1 : Below wo.heap.size wo w1) => widthV w1 (some ⟨b1, off1, none⟩) c1 (r.take a) (((Hgl.out.take a).below (GlAt.stays _) hb1).more hb1.size) (by omega))
          have HW2 := hide (fun (w1 : World) (hb1 : Below wo.heap.size wo w1) (c2 : Nat) => widthV w1 (some ⟨b1, off1 + a * 3, none⟩) c2 ((r.take d).drop a) (((Hgl.out.cut a d).below (GlAt.stays _) hb1).more hb1.size) (by omega))
          have hwc := width_cut r a d (by omega)
          have hwl := widthOf_le r
          have hwd : widthOf (r.take d) ≤ 280 := by have := widthOf_take_le r d; omega
          rw [l1] at HW1
          rw [l2] at HW2
          have HIt := hide (fun (w1 : World) (hb1 : Below w.heap.size w w1) => itoaP w1 n i3 (HT.out w1 hb1))
          have Hlab := hide (labelB_cat n)
          have hcat : (decB n).size + 1 ≤ 9223372036854775807 := by have := decB_size n; omega
          rw [show (⟨(decL n).toArray⟩ : ByteArray) = decB n from rfl] at HIt
          obtain ⟨W1, hW1⟩ : ∃ W1, widthOf (r.take a) = W1 := ⟨_, rfl⟩
          obtain ⟨W2, hW2⟩ : ∃ W2, widthOf ((r.take d).drop a) = W2 := ⟨_, rfl⟩
          rw [hW1] at HW1 Hs hwc
          rw [hW2] at HW2 hwc
          rw [← hwc] at Hs
          have hWb : W1 + W2 ≤ 280 := by omega
          have tok : True := trivial
          clear hi l1 l2 hW1 hW2 hwc hwl hwd
          go_wp2_with (first
            | (go_at_call 17; refine (HI.out _ (Below.refl _ _)).mono ?_; rintro e w2 ⟨rfl, hb2⟩)
            | (go_at_call 12; have _t := tok; refine (HW1.out _ hb2).mono ?_; rintro e w3 ⟨rfl, hb3⟩; have hb13 := hb2.trans (hb3.mono hb2.size); clear _t tok)
            | fail)
          refine (HW2.out _ hb13 _).mono ?_
          rintro e w4 ⟨rfl, hb4⟩
          have hb14 := hb13.trans (hb4.mono hb13.size)
          have hbw4 := hbo.trans (hb14.mono hso)
          go_wp2_with (first
            | (go_at_call 18; refine (HIt.out _ hbw4).mono ?_; rintro e w5 ⟨rfl, hb5⟩; have hbo5 := hb14.trans (hb5.mono hb14.size); have hown5 := own_below hown hbo5 (Nat.le_refl _); have hbw5 := hbo.trans (hbo5.mono hso); have hs5 := hbw5.size)
            | (at_builtin; refine wpList_app w5 (.tmp 33) (.tmp 49) 33 rfl rfl el_region w.heap.size _ P _ (by rfl) hown5 hs5 _ 1 1 _ _ (by rfl) rfl rfl (by simp [Value.oneCell']) (by omega) ?_; intro v6 w6 hown6 hg6)
            | fail)
          have hb6 := below_own hbw5 hown5 hg6 (Nat.le_refl _) hs5
          go_roundw
          case rel => exact ⟨k + 1, by omega, by go_num, own_eq hown6 (by rw [Hs.out]; simp [HP.out]) (by rw [Hs.out, ← Hlab.out]; simp [Rg.enc]), hb6⟩
          case measure => simp [intOf]; omega
      · obtain rfl : k = N := by omega
        have HTk := hide (show v.rows.take k = v.rows by rw [← HN.out, List.take_length])
        go_wp2
        go_ret
        exact ⟨_, rfl, own_eq hown (by rw [HTk.out]) (by rw [HTk.out]), hbo⟩
end Go.Proofs.YtnhcelckgfmljaaDoor
