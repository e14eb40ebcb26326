/- Joined: SP30, SP31. -/
import Derived.Test.YtdkppdjonlldhaaGreatDoorJ10
import Derived.Deep.CutBlock
import Derived.Test.YtdkppdjonlldhaaGreatDoorV6
/- The speaker: a piece is said. -/
namespace Go.Proofs.YtdkppdjonlldhaaGreatDoor
open Go.RowKit Go.Maps Go.Shelf

def SayRet (B : Nat) (w : World) (s : SetV) (bM : Nat) (p : SS) (e : Ending) (w' : World) : Prop := e = .returned (.tuple #[]) ∧ ∃ ov, BoxO B w w' 66 (spkCells s bM ov p.style p.before p.silent) 9 1 ov p.out.length (p.out.map strV)
theorem StrRow.far {w : World} {B g : Nat} {l : List Wd} (h : StrRow w B (some ⟨g, 0, none⟩) l) {p : Addr} (hp : p.block ≠ g) (u : Value) : StrRow (w.setCell p u) B (some ⟨g, 0, none⟩) l := fun h0 => by
  obtain ⟨b, off, he, hb, hc⟩ := h h0
  cases he
  exact ⟨g, 0, rfl, hb, fun k x hx => (World.cell?_setCell_far _ _ _ _ hp).trans (hc k x hx)⟩
/-- Words stand while another row grows. -/
theorem StrRow.pass {w5 W w6 : World} {g : Nat} {l : List Wd} {v : Value} (h : StrRow w5 w5.heap.size (some ⟨g, 0, none⟩) l) (hW : Below w5.heap.size w5 W) (hg : W.grownBy w6 v.ownBlock) (hv : v.ownBlock ≠ some g) : StrRow w6 w6.heap.size (some ⟨g, 0, none⟩) l :=
  StrRow.grown ((h.below (StrAt.stays _) hW).more hW.size) hg (fun a ha => by cases ha; exact hv)
set_option maxRecDepth 100000 in
set_option maxHeartbeats 4000000 in
theorem sayP (w0 w : World) (hS : Spc w0) (hT : StyT w0) (hw : Below w0.heap.size w0 w) (s : SetV) (bP bM nM : Nat) (h0 : w0.heap.size ≤ bP) (ov : Value) (p : SS) (hB : BoxO bP w w 66 (spkCells s bM ov p.style p.before p.silent) 9 1 ov p.out.length (p.out.map strV))
    (hM : SetAt w bM nM vocL) (hMP : bM < bP) (hol : p.out.length ≤ 100000000) (hos : ∀ x ∈ p.out, x.length ≤ 1000000)
    (A : Option Addr) (n c : Nat) (g : Gl) (l : List Gl) (hl : l.length + 1 = n) (hn : n ≤ 60000) (hrow : GlRow w bP A (g :: l)) (hG : ∀ x ∈ g :: l, GoodG x) (hP : PieceOK g l) :
    Calls Tryz.prog 35 #[.pointer (some ⟨bP, 0, none⟩), .slice A n c] w (SayRet bP w s bM (sayF s.stg p (g :: l))) := by
  obtain ⟨b, off, rfl, hbb, x0, x1, x2⟩ := hrow.get (k := 0) (by simp)
  obtain ⟨out, pst, pbe, psi⟩ := p
  obtain ⟨ra, sd, sp, re, co, ce⟩ := s
  unfold spkCells at hB
  dsimp only at hB hol hos
  have hG0 := hG g List.mem_cons_self
  have hst0 := hG0.2.2.1
  have hst3 := hG0.2.2.2
  have hne := spokenF_ne ⟨sd, sp, re⟩ g l hG hP
  have hshort := spoken_short ⟨sd, sp, re⟩ g l hG hP (by omega)
  have hlen := spoken_len ⟨sd, sp, re⟩ g l hG
  have hwP := hB.lt
  have hwP' := Nat.le_of_lt hwP
  have HK := hide (fun (W : World) => kindP W g (good_text hG0).1)
  have HSp := hide (fun (W : World) (hb : Below w.heap.size w W) => spokenGP W (hS.below (hw.trans (hb.mono hw.size))) (some ⟨b, off, none⟩) n c g l hl hn ((hrow.below (GlAt.stays _) (hb.mono hwP')).more (Nat.le_trans hwP' hb.size)) hG hP ⟨ra, sd, sp, re, co, ce⟩)
  have hF : sayF ⟨sd, sp, re⟩ ⟨out, pst, pbe, psi⟩ (g :: l) = ⟨out ++ (linkF ⟨out, pst, pbe, psi⟩ g (spokenF ⟨sd, sp, re⟩ (g :: l)) ++ spokenF ⟨sd, sp, re⟩ (g :: l)), g.style, kindG g, false⟩ := rfl
  unfold SetV.stg
  unfold SetV.val SetV.stg at HSp
  dsimp only at HSp ⊢
  rw [hF]
  clear hF
  obtain ⟨SL, hSL⟩ : ∃ SL, spokenF ⟨sd, sp, re⟩ (g :: l) = SL := ⟨_, rfl⟩
  rw [hSL] at hne hshort hlen HSp ⊢
  obtain ⟨M, hM'⟩ : ∃ M, SL.length = M := ⟨_, rfl⟩
  rw [hM'] at hlen
  have hM18 : M ≤ 18000000 := by omega
  have hM0 : 0 < M := by
    rw [← hM']
    exact List.length_pos_iff.2 hne
  obtain ⟨N, hN'⟩ : ∃ N, out.length = N := ⟨_, rfl⟩
  rw [hN'] at hB hol
  obtain ⟨A0, c0, rfl⟩ := own_form hB.own
  have HB := hide hB
  have HM := hide hM
  have HT := hide (fun (W : World) (hb : Below bP w W) (k : Nat) (hk : k < 4) => ((hw.trans (hb.mono h0)).cell (p := ⟨0, k, none⟩) (sty_lt hT)).trans (sty_cell hT k hk))
  obtain ⟨T, wd, gs⟩ := g
  simp only [List.getElem_cons_zero, Nat.zero_mul, Nat.add_zero] at x0 x1 x2
  unfold Gl.val at HK
  dsimp only at HK hst0 hst3 ⊢
  have HX := hide (And.intro x0 (And.intro x1 x2))
  obtain ⟨K, hK⟩ : ∃ K, kindG ⟨T, wd, gs⟩ = K := ⟨_, rfl⟩
  rw [hK] at HK ⊢
  obtain ⟨LK, hLK⟩ : ∃ LK, linkF ⟨out, pst, pbe, psi⟩ ⟨T, wd, gs⟩ SL = LK := ⟨_, rfl⟩
  rw [hLK]
  have hLL : LK.length ≤ 1 := by
    rw [← hLK]; unfold linkF
    split
    · simp
    · split
      · split <;> simp
      · split <;> simp
  have HLK := hide hLK
  have HML := hide hM'
  have HNL := hide hN'
  have i1 : (0 : Int) < (n : Int) := by omega
  clear hB hM hG hP hrow hSL hM' hN' hLK hne x0 x1 x2 hG0 hl hS
  go_enter Tryz.func35, Tryz.ntmps35
  have x0 := HX.out.1
  have x1 := HX.out.2.1
  have x2 := HX.out.2.2
  go_upto_block 0 with (first
    | (go_at_call 51; refine (HK.out _).mono ?_; rintro e w2 ⟨rfl, hb2⟩; have bx := (hb2.block bP hwP).trans HB.out.box; have k0 := cell_block bx 0; have k1 := cell_block bx 1; have k2 := cell_block bx 2; have k3 := cell_block bx 3; have k4 := cell_block bx 4; have k5 := cell_block bx 5; have Hb2 := hide hb2; clear hb2 bx)
    | (go_at_call 54; refine (HSp.out _ Hb2.out).mono ?_; rintro e w3 ⟨v3, rfl, hown3, hb3⟩; have hown3' := own_eq hown3 HML.out rfl; obtain ⟨g3, c3, rfl, hg3, hg3'⟩ := own_formP hown3' hM0; have hr3 := StrRow.of_own hown3' HML.out; have Hr3 := hide hr3; have Hb3 := hide (Hb2.out.trans (hb3.mono Hb2.out.size)); have Hg3 := hide (Nat.le_trans Hb2.out.size hg3); clear hb3 hown3 hown3' hr3 hg3)
    | fail)
  have hI3 := HB.out.below Hb3.out
  have hr3 := Hr3.out
  have hw3 := Hb3.out.size
  have hTb : 0 < bP := Nat.lt_of_lt_of_le (sty_lt hT) h0
  have HG3 := Hg3
  obtain ⟨N1, hN1⟩ : ∃ N1, N + LK.length = N1 := ⟨_, rfl⟩
  have HN1 := hide hN1
  have HNE := hide (show (Value.slice A0 N c0).ownBlock ≠ some g3 from fun he => by have := (HB.out.own.lt g3 he).2; have := Hg3.out; omega)
  have hbg : bP ≠ g3 := by have := Hg3.out; omega
  have hN1b : N1 ≤ 200000000 := by omega
  clear hN1 k0 k1 k2 k3 k4 k5
  go_cut [] (fun wx => ∃ A1 c1, BoxO bP w wx 66 #[.int .i64 ra, .bool sd, .bool sp, .int .i64 re, .bool co, .int .i64 ce, .map (some bM), .slice A1 N1 c1, .int .i64 gs, .int .i64 pbe, .bool psi] 9 1 (.slice A1 N1 c1) N1 ((out ++ LK).map strV) ∧ StrRow wx wx.heap.size (some ⟨g3, 0, none⟩) SL)
  case first =>
    by_cases hst : gs = pst
    case neg =>
      have hL : [stylL.getD gs.toNat []] = LK := by rw [← HLK.out]; unfold linkF; rw [if_pos hst]
      obtain rfl : N1 = N + 1 := by rw [← HN1.out, ← hL]; rfl
      have q : (gs == pst) = false := beq_eq_false_iff_ne.2 hst
      have q' : (gs != pst) = true := by rw [bne, q]; rfl
      have y2 := (Hb3.out.cell (p := ⟨b, off + 2, none⟩) (Nat.lt_of_lt_of_le hbb hwP')).trans x2
      have y8 := cell_block hI3.box 8
      clear x0 x1 x2
      go_upto_region 2 with fail
      go_quiet (fail)
      have hb4 := below_drewN (Below.refl w3.heap.size w3) nq
      obtain ⟨w4, hw4⟩ : ∃ w4, w3.drewN nq = w4 := ⟨_, rfl⟩
      rw [hw4] at hb4 ⊢
      clear hw4 y2 y8 q q' hst
      have hI4 := hI3.below hb4
      have hr4 := (hr3.below (StrAt.stays _) hb4).more hb4.size
      have z2 := ((Hb3.out.trans (hb4.mono hw3)).cell (p := ⟨b, off + 2, none⟩) (Nat.lt_of_lt_of_le hbb hwP')).trans HX.out.2.2
      have z8 := cell_block hI4.box 8
      have f8 := frozen_block hI4.box 8
      obtain ⟨k, rfl⟩ : ∃ k : Nat, gs = (k : Int) := ⟨gs.toNat, by omega⟩
      have hI5 : BoxO bP w (w4.setCell ⟨bP, 8, none⟩ (.int .i64 (k : Int))) 66 #[.int .i64 ra, .bool sd, .bool sp, .int .i64 re, .bool co, .int .i64 ce, .map (some bM), .slice A0 N c0, .int .i64 (k : Int), .int .i64 pbe, .bool psi] 9 1 (.slice A0 N c0) N (out.map strV) := hI4.set 8 _
      have hr5 := StrRow.far hr4 (p := ⟨bP, 8, none⟩) hbg (.int .i64 (k : Int))
      have hL' : [stylL.getD k []] = LK := hL
      have Hs4 := hide (show w4.heap.size ≤ (w4.setCell ⟨bP, 8, none⟩ (.int .i64 (k : Int))).heap.size from Nat.le_of_eq (World.size_setCell _ _ _).symm)
      clear hI3 hr3 hI4 hr4 hL
      go_upto_region 4 with fail
      obtain ⟨w5, hw5⟩ : ∃ w5, w4.setCell ⟨bP, 8, none⟩ (.int .i64 (k : Int)) = w5 := ⟨_, rfl⟩
      rw [hw5] at hI5 hr5 Hs4 ⊢
      have t5 := HT.out w5 hI5.bl k (by omega)
      clear hw5 z2 z8 f8
      have hr5' := hr5.more Hs4.out
      have HI5 := hide hI5
      have Hr5 := hide hr5'
      obtain ⟨SW, hSW⟩ : ∃ SW, stylL.getD k [] = SW := ⟨_, rfl⟩
      have HT6 := hide (fun (W : World) (hb : Below bP w W) => hSW ▸ HT.out W hb k (by omega))
      rw [hSW] at t5 hL'
      have HS := hide (fun (W : World) (hb : Below w5.heap.size w5 W) => (show W.cell? ⟨bP, 7, none⟩ = some (.slice A0 N c0) ∧ W.cell? ⟨bP, 8, none⟩ = some (.int .i64 (k : Int)) ∧ W.cell? ⟨0, k, none⟩ = some (strV SW) from ⟨cell_block (hI5.below hb).box 7, cell_block (hI5.below hb).box 8, (hb.cell (p := ⟨0, k, none⟩) (show 0 < w5.heap.size by have := hI5.lt; omega)).trans t5⟩))
      have hbd := (Below.refl w5.heap.size w5).drew
      have g1 : (0 : Int) ≤ (k : Int) := by omega
      have g2 : (k : Int) < 4 := by omega
      have g3' : k < 4 := by omega
      have HL := hide hL'
      clear hI5 hr5 hr5' t5 hSW hL'
      refine td_begin (by kernel_rfl) ?_
      (refine tda_take 0 (v := ?_) rfl (by kernel_rfl) (by decide +kernel) (by decide +kernel) (fun _ _ _ h => h) (by rfl) ?_ ?_; rotate_left; (· (intro w; (go_simp <;> with_reducible rfl))); (try simp only [Act.put, List.setIfInBounds_toArray, List.set_cons_zero, List.set_cons_succ]))
      (refine tda_take 1 (v := ?_) rfl (by kernel_rfl) (by decide +kernel) (by decide +kernel) (fun _ _ _ h => h) (by rfl) ?_ ?_; rotate_left; (· (intro w; (go_simp <;> with_reducible rfl))); (try simp only [Act.put, List.setIfInBounds_toArray, List.set_cons_zero, List.set_cons_succ]))
      (refine tda_take 2 (v := ?_) rfl (by kernel_rfl) (by decide +kernel) (by decide +kernel) (fun _ _ _ h => h) (by rfl) ?_ ?_; rotate_left; (· (intro w; (go_simp <;> with_reducible rfl))); (try simp only [Act.put, List.setIfInBounds_toArray, List.set_cons_zero, List.set_cons_succ]))
      (refine tda_take 3 (v := ?_) rfl (by kernel_rfl) (by decide +kernel) (by decide +kernel) (fun _ _ _ h => h) (by rfl) ?_ ?_; rotate_left; (· (intro w; (go_simp <;> with_reducible rfl))); (try simp only [Act.put, List.setIfInBounds_toArray, List.set_cons_zero, List.set_cons_succ]))
      (refine tda_take 5 (v := ?_) rfl (by kernel_rfl) (by decide +kernel) (by decide +kernel) (fun _ _ _ h => h) (by rfl) ?_ ?_; rotate_left; (· (intro w; (go_simp <;> with_reducible rfl))); (try simp only [Act.put, List.setIfInBounds_toArray, List.set_cons_zero, List.set_cons_succ]))
      (refine tda_take 6 (v := ?_) rfl (by kernel_rfl) (by decide +kernel) (by decide +kernel) (fun _ _ _ h => h) (by rfl) ?_ ?_; rotate_left; (· (intro w; (go_simp <;> with_reducible rfl))); (try simp only [Act.put, List.setIfInBounds_toArray, List.set_cons_zero, List.set_cons_succ]))
      (refine tda_take 7 (v := ?_) rfl (by kernel_rfl) (by decide +kernel) (by decide +kernel) (fun _ _ _ h => h) (by rfl) ?_ ?_; rotate_left; (· (intro w; (go_simp <;> with_reducible rfl))); (try simp only [Act.put, List.setIfInBounds_toArray, List.set_cons_zero, List.set_cons_succ]))
      refine td_hold (fun W2 => W2.cell? ⟨bP, 7, none⟩ = some (.slice A0 N c0) ∧ W2.cell? ⟨bP, 8, none⟩ = some (.int .i64 (k : Int)) ∧ W2.cell? ⟨0, k, none⟩ = some (strV SW)) [13, 14, 15] (by decide +kernel) ?_ (fun hHeld => ?_)
      · (first | exact HS7.out | exact HS.out _ (hbd.alloc (Nat.le_refl _) _) | exact HS.out _ hbd)
      (refine td_take 4 (v := ?_) rfl (by decide) (by kernel_rfl) (by decide +kernel) (by decide +kernel) (fun _ _ _ h => h) (by assumption) (by rfl) ?_ ?_; rotate_left; (· (intro w hSw; (try dsimp only at hSw); (go_simp <;> with_reducible rfl))); (try simp only [Act.put, List.setIfInBounds_toArray, List.set_cons_zero, List.set_cons_succ]))
      (refine td_take 8 (v := ?_) rfl (by decide) (by kernel_rfl) (by decide +kernel) (by decide +kernel) (fun _ _ _ h => h) (by assumption) (by rfl) ?_ ?_; rotate_left; (· (intro w hSw; (try dsimp only at hSw); (go_simp <;> with_reducible rfl))); (try simp only [Act.put, List.setIfInBounds_toArray, List.set_cons_zero, List.set_cons_succ]))
      (refine td_take 9 (v := ?_) rfl (by decide) (by kernel_rfl) (by decide +kernel) (by decide +kernel) (fun _ _ _ h => h) (by assumption) (by rfl) ?_ ?_; rotate_left; (· (intro w hSw; (try dsimp only at hSw); (go_simp <;> with_reducible rfl))); (try simp only [Act.put, List.setIfInBounds_toArray, List.set_cons_zero, List.set_cons_succ]))
      (refine td_take 10 (v := ?_) rfl (by decide) (by kernel_rfl) (by decide +kernel) (by decide +kernel) (fun _ _ _ h => h) (by assumption) (by rfl) ?_ ?_; rotate_left; (· (intro w hSw; (try dsimp only at hSw); (go_simp <;> with_reducible rfl))); (try simp only [Act.put, List.setIfInBounds_toArray, List.set_cons_zero, List.set_cons_succ]))
      repeat' (first
        | (refine td_ready (rs := [11]) (by decide +kernel) (by decide) (by simp) ?_; refine td_cons rfl (fun K hK => ?_) (td_nil); (focus (go_simp; (first | refine hK.out _ _ ?_ ?_ | (go_wp2_with fail; refine hK.out _ _ ?_ ?_)); (· (first | exact HS7.out | exact HS.out _ (hbd.alloc (Nat.le_refl _) _) | exact HS.out _ hbd)); clear hK K hHeld; intro hHeld; (try simp only [Act.put, List.setIfInBounds_toArray, List.set_cons_zero, List.set_cons_succ]))); rotate_left)
        | (refine td_ready (rs := [12]) (by decide +kernel) (by decide) (by simp) ?_; refine td_cons rfl (fun K hK => ?_) (td_nil); (focus (refine step_word (by first | exact (HI5.out.alloc _).drew | exact HI5.out.drew.alloc _) (.tmp 37) (.tmp 44) (by rfl) (by rfl) (by omega) (by rfl) SW _ _ (by rfl) (by first | exact block_new w5 _ | exact block_new _ _) ?_; intro g6 cap6 w6 hI6 hg6; have f6 := frozen_block hI6.box 7; have k6 : w6.cell? ⟨bP, 7, none⟩ = some (.slice A0 N c0) := cell_block hI6.box 7; have Hr6 := hide (StrRow.pass Hr5.out (by first | exact ((Below.refl _ _).alloc (Nat.le_refl _) _).drew | exact (Below.refl _ _).drew.alloc (Nat.le_refl _) _) hg6 HNE.out); clear hg6; have HI6 := hide hI6; have HS7 := hide (show w6.cell? ⟨bP, 7, none⟩ = some (.slice A0 N c0) ∧ w6.cell? ⟨bP, 8, none⟩ = some (.int .i64 (k : Int)) ∧ w6.cell? ⟨0, k, none⟩ = some (strV SW) from ⟨cell_block hI6.box 7, cell_block hI6.box 8, HT6.out w6 hI6.bl⟩); (first | refine hK.out _ _ ?_ ?_ | (go_wp2_with fail; refine hK.out _ _ ?_ ?_)); (· (first | exact HS7.out | exact HS.out _ (hbd.alloc (Nat.le_refl _) _) | exact HS.out _ hbd)); clear hK K hHeld; intro hHeld; (try simp only [Act.put, List.setIfInBounds_toArray, List.set_cons_zero, List.set_cons_succ]))); rotate_left)
        | fail)
      all_goals (refine td_last (rs := [13]) (by decide +kernel) (by decide) ?_)
      all_goals clear hHeld
      repeat' (first
        | (refine tda_ready (rs := [13]) (by decide +kernel) (by simp) ?_; refine tda_cons rfl (fun K hK => ?_) (tda_nil); (focus (go_simp; refine hK.out _ _ ?_; clear hK K; (try simp only [Act.put, List.setIfInBounds_toArray, List.set_cons_zero, List.set_cons_succ]))); rotate_left)
        | (refine tda_ready (rs := [14]) (by decide +kernel) (by simp) ?_; refine tda_cons rfl (fun K hK => ?_) (tda_nil); (focus (go_simp; refine hK.out _ _ ?_; clear hK K; (try simp only [Act.put, List.setIfInBounds_toArray, List.set_cons_zero, List.set_cons_succ]))); rotate_left)
        | (refine tda_ready (rs := [15]) (by decide +kernel) (by simp) ?_; refine tda_cons rfl (fun K hK => ?_) (tda_nil); (focus (go_simp; refine hK.out _ _ ?_; clear hK K; (try simp only [Act.put, List.setIfInBounds_toArray, List.set_cons_zero, List.set_cons_succ]))); rotate_left)
        | fail)
      all_goals refine tda_done (by decide +kernel) ?_
      go_wp2_with fail
      go_meet
      case rel =>
        refine ⟨some ⟨g6, 0, none⟩, cap6, ?_, (StrRow.far Hr6.out (p := ⟨bP, 7, none⟩) hbg _).more (Nat.le_of_eq (World.size_setCell _ _ _).symm)⟩
        rw [← HL.out]
        exact HI6.out.set 7 _
    case pos =>
      subst hst
      have y2 := (Hb3.out.cell (p := ⟨b, off + 2, none⟩) (Nat.lt_of_lt_of_le hbb hwP')).trans x2
      have y8 := cell_block hI3.box 8
      have q : (gs == gs) = true := beq_self_eq_true gs
      have q' : (gs != gs) = false := by rw [bne, q]; rfl
      clear x0 x1 x2
      go_upto_region 2 with fail
      go_quiet (fail)
      have hb4 := below_drewN (Below.refl w3.heap.size w3) nq
      obtain ⟨w4, hw4⟩ : ∃ w4, w3.drewN nq = w4 := ⟨_, rfl⟩
      rw [hw4] at hb4 ⊢
      clear hw4 y2 y8 q q'
      have hI4 := hI3.below hb4
      have hr4 : StrRow w4 w4.heap.size (some ⟨g3, 0, none⟩) SL := (hr3.below (StrAt.stays _) hb4).more hb4.size
      have z9 := cell_block hI4.box 9
      have z10 := cell_block hI4.box 10
      have z7 := cell_block hI4.box 7
      have HI4 := hide hI4
      have Hr4 := hide hr4
      have hlt4 := hI4.lt
      clear hI3 hr3 hI4 hr4 hb4
      have hlink : linkF ⟨out, gs, pbe, psi⟩ ⟨T, wd, gs⟩ SL = if K ≠ 0 ∧ pbe ≠ 0 then (if psi then [] else [joinedW]) else if headNum SL = true ∧ lastNum out = true then [joinedW] else [] := by
        unfold linkF; rw [if_neg (by simp), hK]
      rw [HLK.out] at hlink
      by_cases hkb : K ≠ 0 ∧ pbe ≠ 0
      case pos =>
        rw [if_pos hkb] at hlink
        have q1 : (K == 0) = false := beq_eq_false_iff_ne.2 hkb.1
        have q2 : (pbe == 0) = false := beq_eq_false_iff_ne.2 hkb.2
        have q1' : (K != 0) = true := by rw [bne, q1]; rfl
        have q2' : (pbe != 0) = true := by rw [bne, q2]; rfl
        clear hkb
        cases psi with
        | true =>
          have hL : [] = LK := hlink.symm
          obtain rfl : N1 = N := by rw [← HN1.out, ← hL]; rfl
          have HL := hide hL
          clear hL hlink
          go_wp2_with fail
          go_meet
          case rel =>
            refine ⟨A0, c0, ?_, Hr4.out⟩
            rw [← HL.out, List.append_nil]
            exact HI4.out
        | false =>
          have hL : [joinedW] = LK := hlink.symm
          obtain rfl : N1 = N + 1 := by rw [← HN1.out, ← hL]; rfl
          have HL := hide hL
          clear hL hlink
          go_wp2_with (first
            | (at_builtin; refine list_word HI4.out (.tmp 67) (.tmp 68) rfl (by rfl) (by omega) (by rfl) joinedW _ _ (by rfl) (by rfl) ?_; intro A7 c7 w7 hI7 hg7; have f7 := frozen_block hI7.box 7; have k7 := cell_block hI7.box 7; have Hr7 := hide (StrRow.pass Hr4.out (Below.refl _ _) hg7 HNE.out); have HI7 := hide hI7; clear hI7 hg7)
            | fail)
          go_meet
          case rel =>
            refine ⟨A7, c7, ?_, (StrRow.far Hr7.out (p := ⟨bP, 7, none⟩) hbg _).more (Nat.le_of_eq (World.size_setCell _ _ _).symm)⟩
            rw [← HL.out]
            exact HI7.out.set 7 _
      case neg =>
        rw [if_neg hkb] at hlink
        have z8 := cell_block HI4.out.box 8
        clear z7 z10
        obtain ⟨X, SR, rfl⟩ : ∃ X SR, SL = X :: SR := by
          cases SL with
          | nil => exact absurd HML.out (by simp; omega)
          | cons a b => exact ⟨a, b, rfl⟩
        have hX : w4.cell? ⟨g3, 0, none⟩ = some (strV X) := by
          obtain ⟨b', o', he, -, hc⟩ := Hr4.out.get1 (k := 0) (by simp)
          cases he
          exact hc
        have hgl4 : g3 < w4.heap.size := by
          obtain ⟨b', o', he, hb', -⟩ := Hr4.out.get1 (k := 0) (by simp)
          cases he
          exact hb'
        have Hkey := hide (skey X (hshort X List.mem_cons_self))
        have Hset := hide (isNum_set X)
        obtain ⟨S0, hS0⟩ : ∃ S0 : ByteArray, (⟨X.toArray⟩ : ByteArray) = S0 := ⟨_, rfl⟩
        unfold strV at hX
        rw [hS0] at Hkey hX
        have HX4 := hide hX
        have HM4 := hide (map_block HM.out (HI4.out.bl.block bM hMP))
        have hlM : bM < w4.heap.size := by omega
        have hbc := (Below.refl w4.heap.size w4).drew
        have gM : (0 : Int) < (M : Int) := by omega
        clear hS0 hX
        go_upto_region 5 with fail
        go_cut [48] (fun s wx => s = .bool false ∧ wx = w4)
        case first =>
          by_cases hK0 : K = 0
          · subst hK0
            go_wp2_with fail
            go_meet
            case rel => exact ⟨rfl, rfl⟩
          · obtain rfl : pbe = 0 := by
              by_cases hp : pbe = 0
              · exact hp
              · exact absurd ⟨hK0, hp⟩ hkb
            have q1 : (K == 0) = false := beq_eq_false_iff_ne.2 hK0
            have q1' : (K != 0) = true := by rw [bne, q1]; rfl
            go_wp2_with fail
            go_meet
            case rel => exact ⟨rfl, rfl⟩
        case rest =>
          obtain ⟨rfl, hwc⟩ := hcut
          subst hwc
          obtain ⟨w4, rfl⟩ : ∃ w4 : World, w4 = wc := ⟨_, rfl⟩
          clear z8 z9
          by_cases hN0 : N = 0
          case pos =>
            subst hN0
            have hout : out = [] := List.eq_nil_of_length_eq_zero HNL.out
            have hL : [] = LK := by rw [hlink, hout, if_neg (by rintro ⟨-, h⟩; cases h)]
            obtain rfl : N1 = 0 := by rw [← HN1.out, ← hL]; rfl
            have HL := hide hL
            clear hL hlink hkb
            go_upto_region 8 with fail
            refine td_begin (by kernel_rfl) ?_
            refine td_hold (fun W => Below w4.heap.size w4 W) [] (by decide +kernel) ?_ (fun hHeld => ?_)
            · (exact hbc)
            (refine td_take 0 (v := ?_) rfl (by decide) (by kernel_rfl) (by decide +kernel) (by decide +kernel) (fun _ _ _ h => h) (by assumption) (by rfl) ?_ ?_; rotate_left; (· (intro w hSw; (try dsimp only at hSw); have bx := (HI4.out.below hSw).box; have k6 := cell_block bx 6; have k7 := cell_block bx 7; have y0 := (hSw.cell (p := ⟨g3, 0, none⟩) hgl4).trans HX4.out; clear bx; (go_simp <;> with_reducible rfl))); (try simp only [Act.put, List.setIfInBounds_toArray, List.set_cons_zero, List.set_cons_succ]))
            (refine td_take 1 (v := ?_) rfl (by decide) (by kernel_rfl) (by decide +kernel) (by decide +kernel) (fun _ _ _ h => h) (by assumption) (by rfl) ?_ ?_; rotate_left; (· (intro w hSw; (try dsimp only at hSw); have bx := (HI4.out.below hSw).box; have k6 := cell_block bx 6; have k7 := cell_block bx 7; have y0 := (hSw.cell (p := ⟨g3, 0, none⟩) hgl4).trans HX4.out; clear bx; (go_simp <;> with_reducible rfl))); (try simp only [Act.put, List.setIfInBounds_toArray, List.set_cons_zero, List.set_cons_succ]))
            (refine td_take 2 (v := ?_) rfl (by decide) (by kernel_rfl) (by decide +kernel) (by decide +kernel) (fun _ _ _ h => h) (by assumption) (by rfl) ?_ ?_; rotate_left; (· (intro w hSw; (try dsimp only at hSw); have bx := (HI4.out.below hSw).box; have k6 := cell_block bx 6; have k7 := cell_block bx 7; have y0 := (hSw.cell (p := ⟨g3, 0, none⟩) hgl4).trans HX4.out; clear bx; (go_simp <;> with_reducible rfl))); (try simp only [Act.put, List.setIfInBounds_toArray, List.set_cons_zero, List.set_cons_succ]))
            (refine td_take 3 (v := ?_) rfl (by decide) (by kernel_rfl) (by decide +kernel) (by decide +kernel) (fun _ _ _ h => h) (by assumption) (by rfl) ?_ ?_; rotate_left; (· (intro w hSw; (try dsimp only at hSw); have bx := (HI4.out.below hSw).box; have k6 := cell_block bx 6; have k7 := cell_block bx 7; have y0 := (hSw.cell (p := ⟨g3, 0, none⟩) hgl4).trans HX4.out; clear bx; (go_simp <;> with_reducible rfl))); (try simp only [Act.put, List.setIfInBounds_toArray, List.set_cons_zero, List.set_cons_succ]))
            (refine td_take 4 (v := ?_) rfl (by decide) (by kernel_rfl) (by decide +kernel) (by decide +kernel) (fun _ _ _ h => h) (by assumption) (by rfl) ?_ ?_; rotate_left; (· (intro w hSw; (try dsimp only at hSw); have bx := (HI4.out.below hSw).box; have k6 := cell_block bx 6; have k7 := cell_block bx 7; have y0 := (hSw.cell (p := ⟨g3, 0, none⟩) hgl4).trans HX4.out; clear bx; (go_simp <;> with_reducible rfl))); (try simp only [Act.put, List.setIfInBounds_toArray, List.set_cons_zero, List.set_cons_succ]))
            (refine td_take 5 (v := ?_) rfl (by decide) (by kernel_rfl) (by decide +kernel) (by decide +kernel) (fun _ _ _ h => h) (by assumption) (by rfl) ?_ ?_; rotate_left; (· (intro w hSw; (try dsimp only at hSw); have bx := (HI4.out.below hSw).box; have k6 := cell_block bx 6; have k7 := cell_block bx 7; have y0 := (hSw.cell (p := ⟨g3, 0, none⟩) hgl4).trans HX4.out; clear bx; (go_simp <;> with_reducible rfl))); (try simp only [Act.put, List.setIfInBounds_toArray, List.set_cons_zero, List.set_cons_succ]))
            (refine td_take 6 (v := ?_) rfl (by decide) (by kernel_rfl) (by decide +kernel) (by decide +kernel) (fun _ _ _ h => h) (by assumption) (by rfl) ?_ ?_; rotate_left; (· (intro w hSw; (try dsimp only at hSw); have bx := (HI4.out.below hSw).box; have k6 := cell_block bx 6; have k7 := cell_block bx 7; have y0 := (hSw.cell (p := ⟨g3, 0, none⟩) hgl4).trans HX4.out; clear bx; (go_simp <;> with_reducible rfl))); (try simp only [Act.put, List.setIfInBounds_toArray, List.set_cons_zero, List.set_cons_succ]))
            (refine td_skip 7 rfl (by decide) (by kernel_rfl) (by decide +kernel) (by decide +kernel) (fun _ _ _ h => h) (by assumption) (by rfl) ?_; (try simp only [Act.put, List.setIfInBounds_toArray, List.set_cons_zero, List.set_cons_succ]))
            (refine td_skip 8 rfl (by decide) (by kernel_rfl) (by decide +kernel) (by decide +kernel) (fun _ _ _ h => h) (by assumption) (by rfl) ?_; (try simp only [Act.put, List.setIfInBounds_toArray, List.set_cons_zero, List.set_cons_succ]))
            (refine td_skip 9 rfl (by decide) (by kernel_rfl) (by decide +kernel) (by decide +kernel) (fun _ _ _ h => h) (by assumption) (by rfl) ?_; (try simp only [Act.put, List.setIfInBounds_toArray, List.set_cons_zero, List.set_cons_succ]))
            (refine td_skip 10 rfl (by decide) (by kernel_rfl) (by decide +kernel) (by decide +kernel) (fun _ _ _ h => h) (by assumption) (by rfl) ?_; (try simp only [Act.put, List.setIfInBounds_toArray, List.set_cons_zero, List.set_cons_succ]))
            (refine td_skip 11 rfl (by decide) (by kernel_rfl) (by decide +kernel) (by decide +kernel) (fun _ _ _ h => h) (by assumption) (by rfl) ?_; (try simp only [Act.put, List.setIfInBounds_toArray, List.set_cons_zero, List.set_cons_succ]))
            (refine td_skip 12 rfl (by decide) (by kernel_rfl) (by decide +kernel) (by decide +kernel) (fun _ _ _ h => h) (by assumption) (by rfl) ?_; (try simp only [Act.put, List.setIfInBounds_toArray, List.set_cons_zero, List.set_cons_succ]))
            (refine td_skip 13 rfl (by decide) (by kernel_rfl) (by decide +kernel) (by decide +kernel) (fun _ _ _ h => h) (by assumption) (by rfl) ?_; (try simp only [Act.put, List.setIfInBounds_toArray, List.set_cons_zero, List.set_cons_succ]))
            (refine td_skip 14 rfl (by decide) (by kernel_rfl) (by decide +kernel) (by decide +kernel) (fun _ _ _ h => h) (by assumption) (by rfl) ?_; (try simp only [Act.put, List.setIfInBounds_toArray, List.set_cons_zero, List.set_cons_succ]))
            (refine td_take 15 (v := ?_) rfl (by decide) (by kernel_rfl) (by decide +kernel) (by decide +kernel) (fun _ _ _ h => h) (by assumption) (by rfl) ?_ ?_; rotate_left; (· (intro w hSw; (try dsimp only at hSw); have bx := (HI4.out.below hSw).box; have k6 := cell_block bx 6; have k7 := cell_block bx 7; have y0 := (hSw.cell (p := ⟨g3, 0, none⟩) hgl4).trans HX4.out; clear bx; (go_simp <;> with_reducible rfl))); (try simp only [Act.put, List.setIfInBounds_toArray, List.set_cons_zero, List.set_cons_succ]))
            (refine td_take 16 (v := ?_) rfl (by decide) (by kernel_rfl) (by decide +kernel) (by decide +kernel) (fun _ _ _ h => h) (by assumption) (by rfl) ?_ ?_; rotate_left; (· (intro w hSw; (try dsimp only at hSw); have bx := (HI4.out.below hSw).box; have k6 := cell_block bx 6; have k7 := cell_block bx 7; have y0 := (hSw.cell (p := ⟨g3, 0, none⟩) hgl4).trans HX4.out; clear bx; (go_simp <;> with_reducible rfl))); (try simp only [Act.put, List.setIfInBounds_toArray, List.set_cons_zero, List.set_cons_succ]))
            (refine td_skip 17 rfl (by decide) (by kernel_rfl) (by decide +kernel) (by decide +kernel) (fun _ _ _ h => h) (by assumption) (by rfl) ?_; (try simp only [Act.put, List.setIfInBounds_toArray, List.set_cons_zero, List.set_cons_succ]))
            (refine td_skip 18 rfl (by decide) (by kernel_rfl) (by decide +kernel) (by decide +kernel) (fun _ _ _ h => h) (by assumption) (by rfl) ?_; (try simp only [Act.put, List.setIfInBounds_toArray, List.set_cons_zero, List.set_cons_succ]))
            (refine td_skip 19 rfl (by decide) (by kernel_rfl) (by decide +kernel) (by decide +kernel) (fun _ _ _ h => h) (by assumption) (by rfl) ?_; (try simp only [Act.put, List.setIfInBounds_toArray, List.set_cons_zero, List.set_cons_succ]))
            (refine td_skip 20 rfl (by decide) (by kernel_rfl) (by decide +kernel) (by decide +kernel) (fun _ _ _ h => h) (by assumption) (by rfl) ?_; (try simp only [Act.put, List.setIfInBounds_toArray, List.set_cons_zero, List.set_cons_succ]))
            (refine td_skip 21 rfl (by decide) (by kernel_rfl) (by decide +kernel) (by decide +kernel) (fun _ _ _ h => h) (by assumption) (by rfl) ?_; (try simp only [Act.put, List.setIfInBounds_toArray, List.set_cons_zero, List.set_cons_succ]))
            (refine td_skip 22 rfl (by decide) (by kernel_rfl) (by decide +kernel) (by decide +kernel) (fun _ _ _ h => h) (by assumption) (by rfl) ?_; (try simp only [Act.put, List.setIfInBounds_toArray, List.set_cons_zero, List.set_cons_succ]))
            (refine td_skip 23 rfl (by decide) (by kernel_rfl) (by decide +kernel) (by decide +kernel) (fun _ _ _ h => h) (by assumption) (by rfl) ?_; (try simp only [Act.put, List.setIfInBounds_toArray, List.set_cons_zero, List.set_cons_succ]))
            (refine td_skip 24 rfl (by decide) (by kernel_rfl) (by decide +kernel) (by decide +kernel) (fun _ _ _ h => h) (by assumption) (by rfl) ?_; (try simp only [Act.put, List.setIfInBounds_toArray, List.set_cons_zero, List.set_cons_succ]))
            (refine td_skip 25 rfl (by decide) (by kernel_rfl) (by decide +kernel) (by decide +kernel) (fun _ _ _ h => h) (by assumption) (by rfl) ?_; (try simp only [Act.put, List.setIfInBounds_toArray, List.set_cons_zero, List.set_cons_succ]))
            (refine td_skip 26 rfl (by decide) (by kernel_rfl) (by decide +kernel) (by decide +kernel) (fun _ _ _ h => h) (by assumption) (by rfl) ?_; (try simp only [Act.put, List.setIfInBounds_toArray, List.set_cons_zero, List.set_cons_succ]))
            (refine td_skip 27 rfl (by decide) (by kernel_rfl) (by decide +kernel) (by decide +kernel) (fun _ _ _ h => h) (by assumption) (by rfl) ?_; (try simp only [Act.put, List.setIfInBounds_toArray, List.set_cons_zero, List.set_cons_succ]))
            (refine td_skip 28 rfl (by decide) (by kernel_rfl) (by decide +kernel) (by decide +kernel) (fun _ _ _ h => h) (by assumption) (by rfl) ?_; (try simp only [Act.put, List.setIfInBounds_toArray, List.set_cons_zero, List.set_cons_succ]))
            (refine td_skip 29 rfl (by decide) (by kernel_rfl) (by decide +kernel) (by decide +kernel) (fun _ _ _ h => h) (by assumption) (by rfl) ?_; (try simp only [Act.put, List.setIfInBounds_toArray, List.set_cons_zero, List.set_cons_succ]))
            (refine td_skip 30 rfl (by decide) (by kernel_rfl) (by decide +kernel) (by decide +kernel) (fun _ _ _ h => h) (by assumption) (by rfl) ?_; (try simp only [Act.put, List.setIfInBounds_toArray, List.set_cons_zero, List.set_cons_succ]))
            (refine td_skip 31 rfl (by decide) (by kernel_rfl) (by decide +kernel) (by decide +kernel) (fun _ _ _ h => h) (by assumption) (by rfl) ?_; (try simp only [Act.put, List.setIfInBounds_toArray, List.set_cons_zero, List.set_cons_succ]))
            (refine td_skip 32 rfl (by decide) (by kernel_rfl) (by decide +kernel) (by decide +kernel) (fun _ _ _ h => h) (by assumption) (by rfl) ?_; (try simp only [Act.put, List.setIfInBounds_toArray, List.set_cons_zero, List.set_cons_succ]))
            (refine td_skip 33 rfl (by decide) (by kernel_rfl) (by decide +kernel) (by decide +kernel) (fun _ _ _ h => h) (by assumption) (by rfl) ?_; (try simp only [Act.put, List.setIfInBounds_toArray, List.set_cons_zero, List.set_cons_succ]))
            (refine td_take 34 (v := ?_) rfl (by decide) (by kernel_rfl) (by decide +kernel) (by decide +kernel) (fun _ _ _ h => h) (by assumption) (by rfl) ?_ ?_; rotate_left; (· (intro w hSw; (try dsimp only at hSw); have bx := (HI4.out.below hSw).box; have k6 := cell_block bx 6; have k7 := cell_block bx 7; have y0 := (hSw.cell (p := ⟨g3, 0, none⟩) hgl4).trans HX4.out; clear bx; (go_simp <;> with_reducible rfl))); (try simp only [Act.put, List.setIfInBounds_toArray, List.set_cons_zero, List.set_cons_succ]))
            (refine td_take 35 (v := ?_) rfl (by decide) (by kernel_rfl) (by decide +kernel) (by decide +kernel) (fun _ _ _ h => h) (by assumption) (by rfl) ?_ ?_; rotate_left; (· (intro w hSw; (try dsimp only at hSw); have bx := (HI4.out.below hSw).box; have k6 := cell_block bx 6; have k7 := cell_block bx 7; have y0 := (hSw.cell (p := ⟨g3, 0, none⟩) hgl4).trans HX4.out; clear bx; (go_simp <;> with_reducible rfl))); (try simp only [Act.put, List.setIfInBounds_toArray, List.set_cons_zero, List.set_cons_succ]))
            refine And.intro (by decide +kernel) ?_
            go_wp2_with fail
            go_meet
            case rel =>
              refine ⟨A0, c0, ?_, (Hr4.out.below (StrAt.stays _) hbc).more hbc.size⟩
              rw [← HL.out, List.append_nil]
              exact HI4.out.below hbc
          case neg =>
            obtain ⟨m, rfl⟩ : ∃ m, N = m + 1 := ⟨N - 1, by omega⟩
            obtain ⟨Y, hY⟩ : ∃ Y, out[m]? = some Y := ⟨out[m]'(by rw [HNL.out]; omega), List.getElem?_eq_getElem _⟩
            have hlast : lastNum out = isNum Y := by
              unfold lastNum
              rw [List.getLast?_eq_getElem?, HNL.out, Nat.add_sub_cancel, hY]
            obtain ⟨gO, cO, hA, hgO, hgO'⟩ := own_formP HI4.out.own (by omega)
            cases hA
            have hYc : w4.cell? ⟨gO, m, none⟩ = some (strV Y) := by
              rw [HI4.out.own.cellAt m (by omega), List.getElem?_map, hY]; rfl
            have Hkey2 := hide (skey Y (hos Y (List.mem_of_getElem? hY)))
            have Hset2 := hide (isNum_set Y)
            obtain ⟨S2, hS2⟩ : ∃ S2 : ByteArray, (⟨Y.toArray⟩ : ByteArray) = S2 := ⟨_, rfl⟩
            unfold strV at hYc
            rw [hS2] at Hkey2 hYc
            have HY4 := hide hYc
            have g0 : (0 : Int) < (m : Int) + 1 := by omega
            have gm : (m : Int) < (m : Int) + 1 := by omega
            have hwm : IntKind.i64.wrap (m : Int) = (m : Int) := IntWalk.i64_in _ (by omega)
            have gz : (0 : Int) ≤ (m : Int) := by omega
            have hhead : headNum (X :: SR) = isNum X := rfl
            rw [hhead, hlast] at hlink
            obtain ⟨I0, hI0⟩ : ∃ I0, isNum X = I0 := ⟨_, rfl⟩
            obtain ⟨I2, hI2⟩ : ∃ I2, isNum Y = I2 := ⟨_, rfl⟩
            rw [hI0] at Hset hlink
            rw [hI2] at Hset2 hlink
            clear hI0 hI2 hhead hlast hS2 hYc hY hkb hN0
            go_upto_region 8 with fail
            cases I0 with
            | false =>
              have hL : [] = LK := by rw [hlink]; rfl
              obtain rfl : N1 = m + 1 := by rw [← HN1.out, ← hL]; rfl
              have HL := hide hL
              clear hL hlink
              refine td_begin (by kernel_rfl) ?_
              refine td_hold (fun W => Below w4.heap.size w4 W) [] (by decide +kernel) ?_ (fun hHeld => ?_)
              · (exact hbc)
              (refine td_take 0 (v := ?_) rfl (by decide) (by kernel_rfl) (by decide +kernel) (by decide +kernel) (fun _ _ _ h => h) (by assumption) (by rfl) ?_ ?_; rotate_left; (· (intro w hSw; (try dsimp only at hSw); have bx := (HI4.out.below hSw).box; have k6 := cell_block bx 6; have k7 := cell_block bx 7; have y0 := (hSw.cell (p := ⟨g3, 0, none⟩) hgl4).trans HX4.out; have y2 := (hSw.cell (p := ⟨gO, m, none⟩) hgO').trans HY4.out; clear bx; (go_simp <;> with_reducible rfl))); (try simp only [Act.put, List.setIfInBounds_toArray, List.set_cons_zero, List.set_cons_succ]))
              (refine td_take 1 (v := ?_) rfl (by decide) (by kernel_rfl) (by decide +kernel) (by decide +kernel) (fun _ _ _ h => h) (by assumption) (by rfl) ?_ ?_; rotate_left; (· (intro w hSw; (try dsimp only at hSw); have bx := (HI4.out.below hSw).box; have k6 := cell_block bx 6; have k7 := cell_block bx 7; have y0 := (hSw.cell (p := ⟨g3, 0, none⟩) hgl4).trans HX4.out; have y2 := (hSw.cell (p := ⟨gO, m, none⟩) hgO').trans HY4.out; clear bx; (go_simp <;> with_reducible rfl))); (try simp only [Act.put, List.setIfInBounds_toArray, List.set_cons_zero, List.set_cons_succ]))
              (refine td_take 2 (v := ?_) rfl (by decide) (by kernel_rfl) (by decide +kernel) (by decide +kernel) (fun _ _ _ h => h) (by assumption) (by rfl) ?_ ?_; rotate_left; (· (intro w hSw; (try dsimp only at hSw); have bx := (HI4.out.below hSw).box; have k6 := cell_block bx 6; have k7 := cell_block bx 7; have y0 := (hSw.cell (p := ⟨g3, 0, none⟩) hgl4).trans HX4.out; have y2 := (hSw.cell (p := ⟨gO, m, none⟩) hgO').trans HY4.out; clear bx; (go_simp <;> with_reducible rfl))); (try simp only [Act.put, List.setIfInBounds_toArray, List.set_cons_zero, List.set_cons_succ]))
              (refine td_take 3 (v := ?_) rfl (by decide) (by kernel_rfl) (by decide +kernel) (by decide +kernel) (fun _ _ _ h => h) (by assumption) (by rfl) ?_ ?_; rotate_left; (· (intro w hSw; (try dsimp only at hSw); have bx := (HI4.out.below hSw).box; have k6 := cell_block bx 6; have k7 := cell_block bx 7; have y0 := (hSw.cell (p := ⟨g3, 0, none⟩) hgl4).trans HX4.out; have y2 := (hSw.cell (p := ⟨gO, m, none⟩) hgO').trans HY4.out; clear bx; (go_simp <;> with_reducible rfl))); (try simp only [Act.put, List.setIfInBounds_toArray, List.set_cons_zero, List.set_cons_succ]))
              (refine td_take 4 (v := ?_) rfl (by decide) (by kernel_rfl) (by decide +kernel) (by decide +kernel) (fun _ _ _ h => h) (by assumption) (by rfl) ?_ ?_; rotate_left; (· (intro w hSw; (try dsimp only at hSw); have bx := (HI4.out.below hSw).box; have k6 := cell_block bx 6; have k7 := cell_block bx 7; have y0 := (hSw.cell (p := ⟨g3, 0, none⟩) hgl4).trans HX4.out; have y2 := (hSw.cell (p := ⟨gO, m, none⟩) hgO').trans HY4.out; clear bx; (go_simp <;> with_reducible rfl))); (try simp only [Act.put, List.setIfInBounds_toArray, List.set_cons_zero, List.set_cons_succ]))
              (refine td_take 5 (v := ?_) rfl (by decide) (by kernel_rfl) (by decide +kernel) (by decide +kernel) (fun _ _ _ h => h) (by assumption) (by rfl) ?_ ?_; rotate_left; (· (intro w hSw; (try dsimp only at hSw); have bx := (HI4.out.below hSw).box; have k6 := cell_block bx 6; have k7 := cell_block bx 7; have y0 := (hSw.cell (p := ⟨g3, 0, none⟩) hgl4).trans HX4.out; have y2 := (hSw.cell (p := ⟨gO, m, none⟩) hgO').trans HY4.out; clear bx; (go_simp <;> with_reducible rfl))); (try simp only [Act.put, List.setIfInBounds_toArray, List.set_cons_zero, List.set_cons_succ]))
              (refine td_take 6 (v := ?_) rfl (by decide) (by kernel_rfl) (by decide +kernel) (by decide +kernel) (fun _ _ _ h => h) (by assumption) (by rfl) ?_ ?_; rotate_left; (· (intro w hSw; (try dsimp only at hSw); have bx := (HI4.out.below hSw).box; have k6 := cell_block bx 6; have k7 := cell_block bx 7; have y0 := (hSw.cell (p := ⟨g3, 0, none⟩) hgl4).trans HX4.out; have y2 := (hSw.cell (p := ⟨gO, m, none⟩) hgO').trans HY4.out; clear bx; (go_simp <;> with_reducible rfl))); (try simp only [Act.put, List.setIfInBounds_toArray, List.set_cons_zero, List.set_cons_succ]))
              (refine td_take 7 (v := ?_) rfl (by decide) (by kernel_rfl) (by decide +kernel) (by decide +kernel) (fun _ _ _ h => h) (by assumption) (by rfl) ?_ ?_; rotate_left; (· (intro w hSw; (try dsimp only at hSw); have bx := (HI4.out.below hSw).box; have k6 := cell_block bx 6; have k7 := cell_block bx 7; have y0 := (hSw.cell (p := ⟨g3, 0, none⟩) hgl4).trans HX4.out; have y2 := (hSw.cell (p := ⟨gO, m, none⟩) hgO').trans HY4.out; clear bx; (go_simp <;> with_reducible rfl))); (try simp only [Act.put, List.setIfInBounds_toArray, List.set_cons_zero, List.set_cons_succ]))
              (refine td_take 8 (v := ?_) rfl (by decide) (by kernel_rfl) (by decide +kernel) (by decide +kernel) (fun _ _ _ h => h) (by assumption) (by rfl) ?_ ?_; rotate_left; (· (intro w hSw; (try dsimp only at hSw); have bx := (HI4.out.below hSw).box; have k6 := cell_block bx 6; have k7 := cell_block bx 7; have y0 := (hSw.cell (p := ⟨g3, 0, none⟩) hgl4).trans HX4.out; have y2 := (hSw.cell (p := ⟨gO, m, none⟩) hgO').trans HY4.out; clear bx; (go_simp <;> with_reducible rfl))); (try simp only [Act.put, List.setIfInBounds_toArray, List.set_cons_zero, List.set_cons_succ]))
              (refine td_take 9 (v := ?_) rfl (by decide) (by kernel_rfl) (by decide +kernel) (by decide +kernel) (fun _ _ _ h => h) (by assumption) (by rfl) ?_ ?_; rotate_left; (· (intro w hSw; (try dsimp only at hSw); have bx := (HI4.out.below hSw).box; have k6 := cell_block bx 6; have k7 := cell_block bx 7; have y0 := (hSw.cell (p := ⟨g3, 0, none⟩) hgl4).trans HX4.out; have y2 := (hSw.cell (p := ⟨gO, m, none⟩) hgO').trans HY4.out; clear bx; (go_simp <;> with_reducible rfl))); (try simp only [Act.put, List.setIfInBounds_toArray, List.set_cons_zero, List.set_cons_succ]))
              (refine td_take 10 (v := ?_) rfl (by decide) (by kernel_rfl) (by decide +kernel) (by decide +kernel) (fun _ _ _ h => h) (by assumption) (by rfl) ?_ ?_; rotate_left; (· (intro w hSw; (try dsimp only at hSw); have bx := (HI4.out.below hSw).box; have k6 := cell_block bx 6; have k7 := cell_block bx 7; have y0 := (hSw.cell (p := ⟨g3, 0, none⟩) hgl4).trans HX4.out; have y2 := (hSw.cell (p := ⟨gO, m, none⟩) hgO').trans HY4.out; clear bx; (go_simp <;> with_reducible rfl))); (try simp only [Act.put, List.setIfInBounds_toArray, List.set_cons_zero, List.set_cons_succ]))
              (refine td_take 11 (v := ?_) rfl (by decide) (by kernel_rfl) (by decide +kernel) (by decide +kernel) (fun _ _ _ h => h) (by assumption) (by rfl) ?_ ?_; rotate_left; (· (intro w hSw; (try dsimp only at hSw); have bx := (HI4.out.below hSw).box; have k6 := cell_block bx 6; have k7 := cell_block bx 7; have y0 := (hSw.cell (p := ⟨g3, 0, none⟩) hgl4).trans HX4.out; have y2 := (hSw.cell (p := ⟨gO, m, none⟩) hgO').trans HY4.out; clear bx; (go_simp <;> with_reducible rfl))); (try simp only [Act.put, List.setIfInBounds_toArray, List.set_cons_zero, List.set_cons_succ]))
              (refine td_take 12 (v := ?_) rfl (by decide) (by kernel_rfl) (by decide +kernel) (by decide +kernel) (fun _ _ _ h => h) (by assumption) (by rfl) ?_ ?_; rotate_left; (· (intro w hSw; (try dsimp only at hSw); have bx := (HI4.out.below hSw).box; have k6 := cell_block bx 6; have k7 := cell_block bx 7; have y0 := (hSw.cell (p := ⟨g3, 0, none⟩) hgl4).trans HX4.out; have y2 := (hSw.cell (p := ⟨gO, m, none⟩) hgO').trans HY4.out; clear bx; (go_simp <;> with_reducible rfl))); (try simp only [Act.put, List.setIfInBounds_toArray, List.set_cons_zero, List.set_cons_succ]))
              (refine td_take 13 (v := ?_) rfl (by decide) (by kernel_rfl) (by decide +kernel) (by decide +kernel) (fun _ _ _ h => h) (by assumption) (by rfl) ?_ ?_; rotate_left; (· (intro w hSw; (try dsimp only at hSw); have bx := (HI4.out.below hSw).box; have k6 := cell_block bx 6; have k7 := cell_block bx 7; have y0 := (hSw.cell (p := ⟨g3, 0, none⟩) hgl4).trans HX4.out; have y2 := (hSw.cell (p := ⟨gO, m, none⟩) hgO').trans HY4.out; clear bx; (go_simp <;> with_reducible rfl))); (try simp only [Act.put, List.setIfInBounds_toArray, List.set_cons_zero, List.set_cons_succ]))
              (refine td_take 14 (v := ?_) rfl (by decide) (by kernel_rfl) (by decide +kernel) (by decide +kernel) (fun _ _ _ h => h) (by assumption) (by rfl) ?_ ?_; rotate_left; (· (intro w hSw; (try dsimp only at hSw); (refine exec_lookup_own_bool _ (.tmp 83) (.tmp 86) 63 ?_ 9 4 (string_keyed Tryz.underlying9) Tryz.underlying63 Tryz.underlying4 (by kernel_rfl) bM nM (setD vocL) ?_ (map_block HM4.out (hSw.block bM hlM)) (.string S0) _ ?_ Hkey.out _ Hset.out; all_goals rfl))); (try simp only [Act.put, List.setIfInBounds_toArray, List.set_cons_zero, List.set_cons_succ]))
              (refine td_take 15 (v := ?_) rfl (by decide) (by kernel_rfl) (by decide +kernel) (by decide +kernel) (fun _ _ _ h => h) (by assumption) (by rfl) ?_ ?_; rotate_left; (· (intro w hSw; (try dsimp only at hSw); have bx := (HI4.out.below hSw).box; have k6 := cell_block bx 6; have k7 := cell_block bx 7; have y0 := (hSw.cell (p := ⟨g3, 0, none⟩) hgl4).trans HX4.out; have y2 := (hSw.cell (p := ⟨gO, m, none⟩) hgO').trans HY4.out; clear bx; (go_simp <;> with_reducible rfl))); (try simp only [Act.put, List.setIfInBounds_toArray, List.set_cons_zero, List.set_cons_succ]))
              (refine td_take 16 (v := ?_) rfl (by decide) (by kernel_rfl) (by decide +kernel) (by decide +kernel) (fun _ _ _ h => h) (by assumption) (by rfl) ?_ ?_; rotate_left; (· (intro w hSw; (try dsimp only at hSw); have bx := (HI4.out.below hSw).box; have k6 := cell_block bx 6; have k7 := cell_block bx 7; have y0 := (hSw.cell (p := ⟨g3, 0, none⟩) hgl4).trans HX4.out; have y2 := (hSw.cell (p := ⟨gO, m, none⟩) hgO').trans HY4.out; clear bx; (go_simp <;> with_reducible rfl))); (try simp only [Act.put, List.setIfInBounds_toArray, List.set_cons_zero, List.set_cons_succ]))
              (refine td_skip 17 rfl (by decide) (by kernel_rfl) (by decide +kernel) (by decide +kernel) (fun _ _ _ h => h) (by assumption) (by rfl) ?_; (try simp only [Act.put, List.setIfInBounds_toArray, List.set_cons_zero, List.set_cons_succ]))
              (refine td_skip 18 rfl (by decide) (by kernel_rfl) (by decide +kernel) (by decide +kernel) (fun _ _ _ h => h) (by assumption) (by rfl) ?_; (try simp only [Act.put, List.setIfInBounds_toArray, List.set_cons_zero, List.set_cons_succ]))
              (refine td_skip 19 rfl (by decide) (by kernel_rfl) (by decide +kernel) (by decide +kernel) (fun _ _ _ h => h) (by assumption) (by rfl) ?_; (try simp only [Act.put, List.setIfInBounds_toArray, List.set_cons_zero, List.set_cons_succ]))
              (refine td_skip 20 rfl (by decide) (by kernel_rfl) (by decide +kernel) (by decide +kernel) (fun _ _ _ h => h) (by assumption) (by rfl) ?_; (try simp only [Act.put, List.setIfInBounds_toArray, List.set_cons_zero, List.set_cons_succ]))
              (refine td_skip 21 rfl (by decide) (by kernel_rfl) (by decide +kernel) (by decide +kernel) (fun _ _ _ h => h) (by assumption) (by rfl) ?_; (try simp only [Act.put, List.setIfInBounds_toArray, List.set_cons_zero, List.set_cons_succ]))
              (refine td_skip 22 rfl (by decide) (by kernel_rfl) (by decide +kernel) (by decide +kernel) (fun _ _ _ h => h) (by assumption) (by rfl) ?_; (try simp only [Act.put, List.setIfInBounds_toArray, List.set_cons_zero, List.set_cons_succ]))
              (refine td_skip 23 rfl (by decide) (by kernel_rfl) (by decide +kernel) (by decide +kernel) (fun _ _ _ h => h) (by assumption) (by rfl) ?_; (try simp only [Act.put, List.setIfInBounds_toArray, List.set_cons_zero, List.set_cons_succ]))
              (refine td_skip 24 rfl (by decide) (by kernel_rfl) (by decide +kernel) (by decide +kernel) (fun _ _ _ h => h) (by assumption) (by rfl) ?_; (try simp only [Act.put, List.setIfInBounds_toArray, List.set_cons_zero, List.set_cons_succ]))
              (refine td_skip 25 rfl (by decide) (by kernel_rfl) (by decide +kernel) (by decide +kernel) (fun _ _ _ h => h) (by assumption) (by rfl) ?_; (try simp only [Act.put, List.setIfInBounds_toArray, List.set_cons_zero, List.set_cons_succ]))
              (refine td_skip 26 rfl (by decide) (by kernel_rfl) (by decide +kernel) (by decide +kernel) (fun _ _ _ h => h) (by assumption) (by rfl) ?_; (try simp only [Act.put, List.setIfInBounds_toArray, List.set_cons_zero, List.set_cons_succ]))
              (refine td_skip 27 rfl (by decide) (by kernel_rfl) (by decide +kernel) (by decide +kernel) (fun _ _ _ h => h) (by assumption) (by rfl) ?_; (try simp only [Act.put, List.setIfInBounds_toArray, List.set_cons_zero, List.set_cons_succ]))
              (refine td_skip 28 rfl (by decide) (by kernel_rfl) (by decide +kernel) (by decide +kernel) (fun _ _ _ h => h) (by assumption) (by rfl) ?_; (try simp only [Act.put, List.setIfInBounds_toArray, List.set_cons_zero, List.set_cons_succ]))
              (refine td_skip 29 rfl (by decide) (by kernel_rfl) (by decide +kernel) (by decide +kernel) (fun _ _ _ h => h) (by assumption) (by rfl) ?_; (try simp only [Act.put, List.setIfInBounds_toArray, List.set_cons_zero, List.set_cons_succ]))
              (refine td_skip 30 rfl (by decide) (by kernel_rfl) (by decide +kernel) (by decide +kernel) (fun _ _ _ h => h) (by assumption) (by rfl) ?_; (try simp only [Act.put, List.setIfInBounds_toArray, List.set_cons_zero, List.set_cons_succ]))
              (refine td_skip 31 rfl (by decide) (by kernel_rfl) (by decide +kernel) (by decide +kernel) (fun _ _ _ h => h) (by assumption) (by rfl) ?_; (try simp only [Act.put, List.setIfInBounds_toArray, List.set_cons_zero, List.set_cons_succ]))
              (refine td_skip 32 rfl (by decide) (by kernel_rfl) (by decide +kernel) (by decide +kernel) (fun _ _ _ h => h) (by assumption) (by rfl) ?_; (try simp only [Act.put, List.setIfInBounds_toArray, List.set_cons_zero, List.set_cons_succ]))
              (refine td_skip 33 rfl (by decide) (by kernel_rfl) (by decide +kernel) (by decide +kernel) (fun _ _ _ h => h) (by assumption) (by rfl) ?_; (try simp only [Act.put, List.setIfInBounds_toArray, List.set_cons_zero, List.set_cons_succ]))
              (refine td_take 34 (v := ?_) rfl (by decide) (by kernel_rfl) (by decide +kernel) (by decide +kernel) (fun _ _ _ h => h) (by assumption) (by rfl) ?_ ?_; rotate_left; (· (intro w hSw; (try dsimp only at hSw); have bx := (HI4.out.below hSw).box; have k6 := cell_block bx 6; have k7 := cell_block bx 7; have y0 := (hSw.cell (p := ⟨g3, 0, none⟩) hgl4).trans HX4.out; have y2 := (hSw.cell (p := ⟨gO, m, none⟩) hgO').trans HY4.out; clear bx; (go_simp <;> with_reducible rfl))); (try simp only [Act.put, List.setIfInBounds_toArray, List.set_cons_zero, List.set_cons_succ]))
              (refine td_take 35 (v := ?_) rfl (by decide) (by kernel_rfl) (by decide +kernel) (by decide +kernel) (fun _ _ _ h => h) (by assumption) (by rfl) ?_ ?_; rotate_left; (· (intro w hSw; (try dsimp only at hSw); have bx := (HI4.out.below hSw).box; have k6 := cell_block bx 6; have k7 := cell_block bx 7; have y0 := (hSw.cell (p := ⟨g3, 0, none⟩) hgl4).trans HX4.out; have y2 := (hSw.cell (p := ⟨gO, m, none⟩) hgO').trans HY4.out; clear bx; (go_simp <;> with_reducible rfl))); (try simp only [Act.put, List.setIfInBounds_toArray, List.set_cons_zero, List.set_cons_succ]))
              refine And.intro (by decide +kernel) ?_
              go_wp2_with fail
              go_meet
              case rel =>
                refine ⟨some ⟨gO, 0, none⟩, c0, ?_, (Hr4.out.below (StrAt.stays _) hbc).more hbc.size⟩
                rw [← HL.out, List.append_nil]
                exact HI4.out.below hbc
            | true =>
              refine td_begin (by kernel_rfl) ?_
              refine td_hold (fun W => Below w4.heap.size w4 W) [] (by decide +kernel) ?_ (fun hHeld => ?_)
              · (exact hbc)
              (refine td_take 0 (v := ?_) rfl (by decide) (by kernel_rfl) (by decide +kernel) (by decide +kernel) (fun _ _ _ h => h) (by assumption) (by rfl) ?_ ?_; rotate_left; (· (intro w hSw; (try dsimp only at hSw); have bx := (HI4.out.below hSw).box; have k6 := cell_block bx 6; have k7 := cell_block bx 7; have y0 := (hSw.cell (p := ⟨g3, 0, none⟩) hgl4).trans HX4.out; have y2 := (hSw.cell (p := ⟨gO, m, none⟩) hgO').trans HY4.out; clear bx; (go_simp <;> with_reducible rfl))); (try simp only [Act.put, List.setIfInBounds_toArray, List.set_cons_zero, List.set_cons_succ]))
              (refine td_take 1 (v := ?_) rfl (by decide) (by kernel_rfl) (by decide +kernel) (by decide +kernel) (fun _ _ _ h => h) (by assumption) (by rfl) ?_ ?_; rotate_left; (· (intro w hSw; (try dsimp only at hSw); have bx := (HI4.out.below hSw).box; have k6 := cell_block bx 6; have k7 := cell_block bx 7; have y0 := (hSw.cell (p := ⟨g3, 0, none⟩) hgl4).trans HX4.out; have y2 := (hSw.cell (p := ⟨gO, m, none⟩) hgO').trans HY4.out; clear bx; (go_simp <;> with_reducible rfl))); (try simp only [Act.put, List.setIfInBounds_toArray, List.set_cons_zero, List.set_cons_succ]))
              (refine td_take 2 (v := ?_) rfl (by decide) (by kernel_rfl) (by decide +kernel) (by decide +kernel) (fun _ _ _ h => h) (by assumption) (by rfl) ?_ ?_; rotate_left; (· (intro w hSw; (try dsimp only at hSw); have bx := (HI4.out.below hSw).box; have k6 := cell_block bx 6; have k7 := cell_block bx 7; have y0 := (hSw.cell (p := ⟨g3, 0, none⟩) hgl4).trans HX4.out; have y2 := (hSw.cell (p := ⟨gO, m, none⟩) hgO').trans HY4.out; clear bx; (go_simp <;> with_reducible rfl))); (try simp only [Act.put, List.setIfInBounds_toArray, List.set_cons_zero, List.set_cons_succ]))
              (refine td_take 3 (v := ?_) rfl (by decide) (by kernel_rfl) (by decide +kernel) (by decide +kernel) (fun _ _ _ h => h) (by assumption) (by rfl) ?_ ?_; rotate_left; (· (intro w hSw; (try dsimp only at hSw); have bx := (HI4.out.below hSw).box; have k6 := cell_block bx 6; have k7 := cell_block bx 7; have y0 := (hSw.cell (p := ⟨g3, 0, none⟩) hgl4).trans HX4.out; have y2 := (hSw.cell (p := ⟨gO, m, none⟩) hgO').trans HY4.out; clear bx; (go_simp <;> with_reducible rfl))); (try simp only [Act.put, List.setIfInBounds_toArray, List.set_cons_zero, List.set_cons_succ]))
              (refine td_take 4 (v := ?_) rfl (by decide) (by kernel_rfl) (by decide +kernel) (by decide +kernel) (fun _ _ _ h => h) (by assumption) (by rfl) ?_ ?_; rotate_left; (· (intro w hSw; (try dsimp only at hSw); have bx := (HI4.out.below hSw).box; have k6 := cell_block bx 6; have k7 := cell_block bx 7; have y0 := (hSw.cell (p := ⟨g3, 0, none⟩) hgl4).trans HX4.out; have y2 := (hSw.cell (p := ⟨gO, m, none⟩) hgO').trans HY4.out; clear bx; (go_simp <;> with_reducible rfl))); (try simp only [Act.put, List.setIfInBounds_toArray, List.set_cons_zero, List.set_cons_succ]))
              (refine td_take 5 (v := ?_) rfl (by decide) (by kernel_rfl) (by decide +kernel) (by decide +kernel) (fun _ _ _ h => h) (by assumption) (by rfl) ?_ ?_; rotate_left; (· (intro w hSw; (try dsimp only at hSw); have bx := (HI4.out.below hSw).box; have k6 := cell_block bx 6; have k7 := cell_block bx 7; have y0 := (hSw.cell (p := ⟨g3, 0, none⟩) hgl4).trans HX4.out; have y2 := (hSw.cell (p := ⟨gO, m, none⟩) hgO').trans HY4.out; clear bx; (go_simp <;> with_reducible rfl))); (try simp only [Act.put, List.setIfInBounds_toArray, List.set_cons_zero, List.set_cons_succ]))
              (refine td_take 6 (v := ?_) rfl (by decide) (by kernel_rfl) (by decide +kernel) (by decide +kernel) (fun _ _ _ h => h) (by assumption) (by rfl) ?_ ?_; rotate_left; (· (intro w hSw; (try dsimp only at hSw); have bx := (HI4.out.below hSw).box; have k6 := cell_block bx 6; have k7 := cell_block bx 7; have y0 := (hSw.cell (p := ⟨g3, 0, none⟩) hgl4).trans HX4.out; have y2 := (hSw.cell (p := ⟨gO, m, none⟩) hgO').trans HY4.out; clear bx; (go_simp <;> with_reducible rfl))); (try simp only [Act.put, List.setIfInBounds_toArray, List.set_cons_zero, List.set_cons_succ]))
              (refine td_take 7 (v := ?_) rfl (by decide) (by kernel_rfl) (by decide +kernel) (by decide +kernel) (fun _ _ _ h => h) (by assumption) (by rfl) ?_ ?_; rotate_left; (· (intro w hSw; (try dsimp only at hSw); have bx := (HI4.out.below hSw).box; have k6 := cell_block bx 6; have k7 := cell_block bx 7; have y0 := (hSw.cell (p := ⟨g3, 0, none⟩) hgl4).trans HX4.out; have y2 := (hSw.cell (p := ⟨gO, m, none⟩) hgO').trans HY4.out; clear bx; (go_simp <;> with_reducible rfl))); (try simp only [Act.put, List.setIfInBounds_toArray, List.set_cons_zero, List.set_cons_succ]))
              (refine td_take 8 (v := ?_) rfl (by decide) (by kernel_rfl) (by decide +kernel) (by decide +kernel) (fun _ _ _ h => h) (by assumption) (by rfl) ?_ ?_; rotate_left; (· (intro w hSw; (try dsimp only at hSw); have bx := (HI4.out.below hSw).box; have k6 := cell_block bx 6; have k7 := cell_block bx 7; have y0 := (hSw.cell (p := ⟨g3, 0, none⟩) hgl4).trans HX4.out; have y2 := (hSw.cell (p := ⟨gO, m, none⟩) hgO').trans HY4.out; clear bx; (go_simp <;> with_reducible rfl))); (try simp only [Act.put, List.setIfInBounds_toArray, List.set_cons_zero, List.set_cons_succ]))
              (refine td_take 9 (v := ?_) rfl (by decide) (by kernel_rfl) (by decide +kernel) (by decide +kernel) (fun _ _ _ h => h) (by assumption) (by rfl) ?_ ?_; rotate_left; (· (intro w hSw; (try dsimp only at hSw); have bx := (HI4.out.below hSw).box; have k6 := cell_block bx 6; have k7 := cell_block bx 7; have y0 := (hSw.cell (p := ⟨g3, 0, none⟩) hgl4).trans HX4.out; have y2 := (hSw.cell (p := ⟨gO, m, none⟩) hgO').trans HY4.out; clear bx; (go_simp <;> with_reducible rfl))); (try simp only [Act.put, List.setIfInBounds_toArray, List.set_cons_zero, List.set_cons_succ]))
              (refine td_take 10 (v := ?_) rfl (by decide) (by kernel_rfl) (by decide +kernel) (by decide +kernel) (fun _ _ _ h => h) (by assumption) (by rfl) ?_ ?_; rotate_left; (· (intro w hSw; (try dsimp only at hSw); have bx := (HI4.out.below hSw).box; have k6 := cell_block bx 6; have k7 := cell_block bx 7; have y0 := (hSw.cell (p := ⟨g3, 0, none⟩) hgl4).trans HX4.out; have y2 := (hSw.cell (p := ⟨gO, m, none⟩) hgO').trans HY4.out; clear bx; (go_simp <;> with_reducible rfl))); (try simp only [Act.put, List.setIfInBounds_toArray, List.set_cons_zero, List.set_cons_succ]))
              (refine td_take 11 (v := ?_) rfl (by decide) (by kernel_rfl) (by decide +kernel) (by decide +kernel) (fun _ _ _ h => h) (by assumption) (by rfl) ?_ ?_; rotate_left; (· (intro w hSw; (try dsimp only at hSw); have bx := (HI4.out.below hSw).box; have k6 := cell_block bx 6; have k7 := cell_block bx 7; have y0 := (hSw.cell (p := ⟨g3, 0, none⟩) hgl4).trans HX4.out; have y2 := (hSw.cell (p := ⟨gO, m, none⟩) hgO').trans HY4.out; clear bx; (go_simp <;> with_reducible rfl))); (try simp only [Act.put, List.setIfInBounds_toArray, List.set_cons_zero, List.set_cons_succ]))
              (refine td_take 12 (v := ?_) rfl (by decide) (by kernel_rfl) (by decide +kernel) (by decide +kernel) (fun _ _ _ h => h) (by assumption) (by rfl) ?_ ?_; rotate_left; (· (intro w hSw; (try dsimp only at hSw); have bx := (HI4.out.below hSw).box; have k6 := cell_block bx 6; have k7 := cell_block bx 7; have y0 := (hSw.cell (p := ⟨g3, 0, none⟩) hgl4).trans HX4.out; have y2 := (hSw.cell (p := ⟨gO, m, none⟩) hgO').trans HY4.out; clear bx; (go_simp <;> with_reducible rfl))); (try simp only [Act.put, List.setIfInBounds_toArray, List.set_cons_zero, List.set_cons_succ]))
              (refine td_take 13 (v := ?_) rfl (by decide) (by kernel_rfl) (by decide +kernel) (by decide +kernel) (fun _ _ _ h => h) (by assumption) (by rfl) ?_ ?_; rotate_left; (· (intro w hSw; (try dsimp only at hSw); have bx := (HI4.out.below hSw).box; have k6 := cell_block bx 6; have k7 := cell_block bx 7; have y0 := (hSw.cell (p := ⟨g3, 0, none⟩) hgl4).trans HX4.out; have y2 := (hSw.cell (p := ⟨gO, m, none⟩) hgO').trans HY4.out; clear bx; (go_simp <;> with_reducible rfl))); (try simp only [Act.put, List.setIfInBounds_toArray, List.set_cons_zero, List.set_cons_succ]))
              (refine td_take 14 (v := ?_) rfl (by decide) (by kernel_rfl) (by decide +kernel) (by decide +kernel) (fun _ _ _ h => h) (by assumption) (by rfl) ?_ ?_; rotate_left; (· (intro w hSw; (try dsimp only at hSw); (refine exec_lookup_own_bool _ (.tmp 83) (.tmp 86) 63 ?_ 9 4 (string_keyed Tryz.underlying9) Tryz.underlying63 Tryz.underlying4 (by kernel_rfl) bM nM (setD vocL) ?_ (map_block HM4.out (hSw.block bM hlM)) (.string S0) _ ?_ Hkey.out _ Hset.out; all_goals rfl))); (try simp only [Act.put, List.setIfInBounds_toArray, List.set_cons_zero, List.set_cons_succ]))
              (refine td_take 15 (v := ?_) rfl (by decide) (by kernel_rfl) (by decide +kernel) (by decide +kernel) (fun _ _ _ h => h) (by assumption) (by rfl) ?_ ?_; rotate_left; (· (intro w hSw; (try dsimp only at hSw); have bx := (HI4.out.below hSw).box; have k6 := cell_block bx 6; have k7 := cell_block bx 7; have y0 := (hSw.cell (p := ⟨g3, 0, none⟩) hgl4).trans HX4.out; have y2 := (hSw.cell (p := ⟨gO, m, none⟩) hgO').trans HY4.out; clear bx; (go_simp <;> with_reducible rfl))); (try simp only [Act.put, List.setIfInBounds_toArray, List.set_cons_zero, List.set_cons_succ]))
              (refine td_take 16 (v := ?_) rfl (by decide) (by kernel_rfl) (by decide +kernel) (by decide +kernel) (fun _ _ _ h => h) (by assumption) (by rfl) ?_ ?_; rotate_left; (· (intro w hSw; (try dsimp only at hSw); have bx := (HI4.out.below hSw).box; have k6 := cell_block bx 6; have k7 := cell_block bx 7; have y0 := (hSw.cell (p := ⟨g3, 0, none⟩) hgl4).trans HX4.out; have y2 := (hSw.cell (p := ⟨gO, m, none⟩) hgO').trans HY4.out; clear bx; (go_simp <;> with_reducible rfl))); (try simp only [Act.put, List.setIfInBounds_toArray, List.set_cons_zero, List.set_cons_succ]))
              (refine td_take 17 (v := ?_) rfl (by decide) (by kernel_rfl) (by decide +kernel) (by decide +kernel) (fun _ _ _ h => h) (by assumption) (by rfl) ?_ ?_; rotate_left; (· (intro w hSw; (try dsimp only at hSw); have bx := (HI4.out.below hSw).box; have k6 := cell_block bx 6; have k7 := cell_block bx 7; have y0 := (hSw.cell (p := ⟨g3, 0, none⟩) hgl4).trans HX4.out; have y2 := (hSw.cell (p := ⟨gO, m, none⟩) hgO').trans HY4.out; clear bx; (go_simp <;> with_reducible rfl))); (try simp only [Act.put, List.setIfInBounds_toArray, List.set_cons_zero, List.set_cons_succ]))
              (refine td_take 18 (v := ?_) rfl (by decide) (by kernel_rfl) (by decide +kernel) (by decide +kernel) (fun _ _ _ h => h) (by assumption) (by rfl) ?_ ?_; rotate_left; (· (intro w hSw; (try dsimp only at hSw); have bx := (HI4.out.below hSw).box; have k6 := cell_block bx 6; have k7 := cell_block bx 7; have y0 := (hSw.cell (p := ⟨g3, 0, none⟩) hgl4).trans HX4.out; have y2 := (hSw.cell (p := ⟨gO, m, none⟩) hgO').trans HY4.out; clear bx; (go_simp <;> with_reducible rfl))); (try simp only [Act.put, List.setIfInBounds_toArray, List.set_cons_zero, List.set_cons_succ]))
              (refine td_take 19 (v := ?_) rfl (by decide) (by kernel_rfl) (by decide +kernel) (by decide +kernel) (fun _ _ _ h => h) (by assumption) (by rfl) ?_ ?_; rotate_left; (· (intro w hSw; (try dsimp only at hSw); have bx := (HI4.out.below hSw).box; have k6 := cell_block bx 6; have k7 := cell_block bx 7; have y0 := (hSw.cell (p := ⟨g3, 0, none⟩) hgl4).trans HX4.out; have y2 := (hSw.cell (p := ⟨gO, m, none⟩) hgO').trans HY4.out; clear bx; (go_simp <;> with_reducible rfl))); (try simp only [Act.put, List.setIfInBounds_toArray, List.set_cons_zero, List.set_cons_succ]))
              (refine td_take 20 (v := ?_) rfl (by decide) (by kernel_rfl) (by decide +kernel) (by decide +kernel) (fun _ _ _ h => h) (by assumption) (by rfl) ?_ ?_; rotate_left; (· (intro w hSw; (try dsimp only at hSw); have bx := (HI4.out.below hSw).box; have k6 := cell_block bx 6; have k7 := cell_block bx 7; have y0 := (hSw.cell (p := ⟨g3, 0, none⟩) hgl4).trans HX4.out; have y2 := (hSw.cell (p := ⟨gO, m, none⟩) hgO').trans HY4.out; clear bx; (go_simp <;> with_reducible rfl))); (try simp only [Act.put, List.setIfInBounds_toArray, List.set_cons_zero, List.set_cons_succ]))
              (refine td_take 21 (v := ?_) rfl (by decide) (by kernel_rfl) (by decide +kernel) (by decide +kernel) (fun _ _ _ h => h) (by assumption) (by rfl) ?_ ?_; rotate_left; (· (intro w hSw; (try dsimp only at hSw); have bx := (HI4.out.below hSw).box; have k6 := cell_block bx 6; have k7 := cell_block bx 7; have y0 := (hSw.cell (p := ⟨g3, 0, none⟩) hgl4).trans HX4.out; have y2 := (hSw.cell (p := ⟨gO, m, none⟩) hgO').trans HY4.out; clear bx; (go_simp <;> with_reducible rfl))); (try simp only [Act.put, List.setIfInBounds_toArray, List.set_cons_zero, List.set_cons_succ]))
              (refine td_take 22 (v := ?_) rfl (by decide) (by kernel_rfl) (by decide +kernel) (by decide +kernel) (fun _ _ _ h => h) (by assumption) (by rfl) ?_ ?_; rotate_left; (· (intro w hSw; (try dsimp only at hSw); have bx := (HI4.out.below hSw).box; have k6 := cell_block bx 6; have k7 := cell_block bx 7; have y0 := (hSw.cell (p := ⟨g3, 0, none⟩) hgl4).trans HX4.out; have y2 := (hSw.cell (p := ⟨gO, m, none⟩) hgO').trans HY4.out; clear bx; (go_simp <;> with_reducible rfl))); (try simp only [Act.put, List.setIfInBounds_toArray, List.set_cons_zero, List.set_cons_succ]))
              (refine td_take 23 (v := ?_) rfl (by decide) (by kernel_rfl) (by decide +kernel) (by decide +kernel) (fun _ _ _ h => h) (by assumption) (by rfl) ?_ ?_; rotate_left; (· (intro w hSw; (try dsimp only at hSw); have bx := (HI4.out.below hSw).box; have k6 := cell_block bx 6; have k7 := cell_block bx 7; have y0 := (hSw.cell (p := ⟨g3, 0, none⟩) hgl4).trans HX4.out; have y2 := (hSw.cell (p := ⟨gO, m, none⟩) hgO').trans HY4.out; clear bx; (go_simp <;> with_reducible rfl))); (try simp only [Act.put, List.setIfInBounds_toArray, List.set_cons_zero, List.set_cons_succ]))
              (refine td_take 24 (v := ?_) rfl (by decide) (by kernel_rfl) (by decide +kernel) (by decide +kernel) (fun _ _ _ h => h) (by assumption) (by rfl) ?_ ?_; rotate_left; (· (intro w hSw; (try dsimp only at hSw); have bx := (HI4.out.below hSw).box; have k6 := cell_block bx 6; have k7 := cell_block bx 7; have y0 := (hSw.cell (p := ⟨g3, 0, none⟩) hgl4).trans HX4.out; have y2 := (hSw.cell (p := ⟨gO, m, none⟩) hgO').trans HY4.out; clear bx; (go_simp <;> with_reducible rfl))); (try simp only [Act.put, List.setIfInBounds_toArray, List.set_cons_zero, List.set_cons_succ]))
              (refine td_take 25 (v := ?_) rfl (by decide) (by kernel_rfl) (by decide +kernel) (by decide +kernel) (fun _ _ _ h => h) (by assumption) (by rfl) ?_ ?_; rotate_left; (· (intro w hSw; (try dsimp only at hSw); have bx := (HI4.out.below hSw).box; have k6 := cell_block bx 6; have k7 := cell_block bx 7; have y0 := (hSw.cell (p := ⟨g3, 0, none⟩) hgl4).trans HX4.out; have y2 := (hSw.cell (p := ⟨gO, m, none⟩) hgO').trans HY4.out; clear bx; (go_simp <;> with_reducible rfl))); (try simp only [Act.put, List.setIfInBounds_toArray, List.set_cons_zero, List.set_cons_succ]))
              (refine td_take 26 (v := ?_) rfl (by decide) (by kernel_rfl) (by decide +kernel) (by decide +kernel) (fun _ _ _ h => h) (by assumption) (by rfl) ?_ ?_; rotate_left; (· (intro w hSw; (try dsimp only at hSw); have bx := (HI4.out.below hSw).box; have k6 := cell_block bx 6; have k7 := cell_block bx 7; have y0 := (hSw.cell (p := ⟨g3, 0, none⟩) hgl4).trans HX4.out; have y2 := (hSw.cell (p := ⟨gO, m, none⟩) hgO').trans HY4.out; clear bx; (go_simp <;> with_reducible rfl))); (try simp only [Act.put, List.setIfInBounds_toArray, List.set_cons_zero, List.set_cons_succ]))
              (refine td_take 27 (v := ?_) rfl (by decide) (by kernel_rfl) (by decide +kernel) (by decide +kernel) (fun _ _ _ h => h) (by assumption) (by rfl) ?_ ?_; rotate_left; (· (intro w hSw; (try dsimp only at hSw); have bx := (HI4.out.below hSw).box; have k6 := cell_block bx 6; have k7 := cell_block bx 7; have y0 := (hSw.cell (p := ⟨g3, 0, none⟩) hgl4).trans HX4.out; have y2 := (hSw.cell (p := ⟨gO, m, none⟩) hgO').trans HY4.out; clear bx; (go_simp <;> with_reducible rfl))); (try simp only [Act.put, List.setIfInBounds_toArray, List.set_cons_zero, List.set_cons_succ]))
              (refine td_take 28 (v := ?_) rfl (by decide) (by kernel_rfl) (by decide +kernel) (by decide +kernel) (fun _ _ _ h => h) (by assumption) (by rfl) ?_ ?_; rotate_left; (· (intro w hSw; (try dsimp only at hSw); have bx := (HI4.out.below hSw).box; have k6 := cell_block bx 6; have k7 := cell_block bx 7; have y0 := (hSw.cell (p := ⟨g3, 0, none⟩) hgl4).trans HX4.out; have y2 := (hSw.cell (p := ⟨gO, m, none⟩) hgO').trans HY4.out; clear bx; (go_simp <;> with_reducible rfl))); (try simp only [Act.put, List.setIfInBounds_toArray, List.set_cons_zero, List.set_cons_succ]))
              (refine td_take 29 (v := ?_) rfl (by decide) (by kernel_rfl) (by decide +kernel) (by decide +kernel) (fun _ _ _ h => h) (by assumption) (by rfl) ?_ ?_; rotate_left; (· (intro w hSw; (try dsimp only at hSw); have bx := (HI4.out.below hSw).box; have k6 := cell_block bx 6; have k7 := cell_block bx 7; have y0 := (hSw.cell (p := ⟨g3, 0, none⟩) hgl4).trans HX4.out; have y2 := (hSw.cell (p := ⟨gO, m, none⟩) hgO').trans HY4.out; clear bx; (go_simp <;> with_reducible rfl))); (try simp only [Act.put, List.setIfInBounds_toArray, List.set_cons_zero, List.set_cons_succ]))
              (refine td_take 30 (v := ?_) rfl (by decide) (by kernel_rfl) (by decide +kernel) (by decide +kernel) (fun _ _ _ h => h) (by assumption) (by rfl) ?_ ?_; rotate_left; (· (intro w hSw; (try dsimp only at hSw); have bx := (HI4.out.below hSw).box; have k6 := cell_block bx 6; have k7 := cell_block bx 7; have y0 := (hSw.cell (p := ⟨g3, 0, none⟩) hgl4).trans HX4.out; have y2 := (hSw.cell (p := ⟨gO, m, none⟩) hgO').trans HY4.out; clear bx; (go_simp <;> with_reducible rfl))); (try simp only [Act.put, List.setIfInBounds_toArray, List.set_cons_zero, List.set_cons_succ]))
              (refine td_take 31 (v := ?_) rfl (by decide) (by kernel_rfl) (by decide +kernel) (by decide +kernel) (fun _ _ _ h => h) (by assumption) (by rfl) ?_ ?_; rotate_left; (· (intro w hSw; (try dsimp only at hSw); have bx := (HI4.out.below hSw).box; have k6 := cell_block bx 6; have k7 := cell_block bx 7; have y0 := (hSw.cell (p := ⟨g3, 0, none⟩) hgl4).trans HX4.out; have y2 := (hSw.cell (p := ⟨gO, m, none⟩) hgO').trans HY4.out; clear bx; (go_simp <;> with_reducible rfl))); (try simp only [Act.put, List.setIfInBounds_toArray, List.set_cons_zero, List.set_cons_succ]))
              (refine td_take 32 (v := ?_) rfl (by decide) (by kernel_rfl) (by decide +kernel) (by decide +kernel) (fun _ _ _ h => h) (by assumption) (by rfl) ?_ ?_; rotate_left; (· (intro w hSw; (try dsimp only at hSw); have bx := (HI4.out.below hSw).box; have k6 := cell_block bx 6; have k7 := cell_block bx 7; have y0 := (hSw.cell (p := ⟨g3, 0, none⟩) hgl4).trans HX4.out; have y2 := (hSw.cell (p := ⟨gO, m, none⟩) hgO').trans HY4.out; clear bx; (go_simp <;> with_reducible rfl))); (try simp only [Act.put, List.setIfInBounds_toArray, List.set_cons_zero, List.set_cons_succ]))
              (refine td_take 33 (v := ?_) rfl (by decide) (by kernel_rfl) (by decide +kernel) (by decide +kernel) (fun _ _ _ h => h) (by assumption) (by rfl) ?_ ?_; rotate_left; (· (intro w hSw; (try dsimp only at hSw); (refine exec_lookup_own_bool _ (.tmp 93) (.tmp 105) 63 ?_ 9 4 (string_keyed Tryz.underlying9) Tryz.underlying63 Tryz.underlying4 (by kernel_rfl) bM nM (setD vocL) ?_ (map_block HM4.out (hSw.block bM hlM)) (.string S2) _ ?_ Hkey2.out _ Hset2.out; all_goals rfl))); (try simp only [Act.put, List.setIfInBounds_toArray, List.set_cons_zero, List.set_cons_succ]))
              (refine td_take 34 (v := ?_) rfl (by decide) (by kernel_rfl) (by decide +kernel) (by decide +kernel) (fun _ _ _ h => h) (by assumption) (by rfl) ?_ ?_; rotate_left; (· (intro w hSw; (try dsimp only at hSw); have bx := (HI4.out.below hSw).box; have k6 := cell_block bx 6; have k7 := cell_block bx 7; have y0 := (hSw.cell (p := ⟨g3, 0, none⟩) hgl4).trans HX4.out; have y2 := (hSw.cell (p := ⟨gO, m, none⟩) hgO').trans HY4.out; clear bx; (go_simp <;> with_reducible rfl))); (try simp only [Act.put, List.setIfInBounds_toArray, List.set_cons_zero, List.set_cons_succ]))
              (refine td_take 35 (v := ?_) rfl (by decide) (by kernel_rfl) (by decide +kernel) (by decide +kernel) (fun _ _ _ h => h) (by assumption) (by rfl) ?_ ?_; rotate_left; (· (intro w hSw; (try dsimp only at hSw); have bx := (HI4.out.below hSw).box; have k6 := cell_block bx 6; have k7 := cell_block bx 7; have y0 := (hSw.cell (p := ⟨g3, 0, none⟩) hgl4).trans HX4.out; have y2 := (hSw.cell (p := ⟨gO, m, none⟩) hgO').trans HY4.out; clear bx; (go_simp <;> with_reducible rfl))); (try simp only [Act.put, List.setIfInBounds_toArray, List.set_cons_zero, List.set_cons_succ]))
              refine And.intro (by decide +kernel) ?_
              cases I2 with
              | false =>
                have hL : [] = LK := by rw [hlink]; rfl
                obtain rfl : N1 = m + 1 := by rw [← HN1.out, ← hL]; rfl
                have HL := hide hL
                clear hL hlink
                go_wp2_with fail
                go_meet
                case rel =>
                  refine ⟨some ⟨gO, 0, none⟩, c0, ?_, (Hr4.out.below (StrAt.stays _) hbc).more hbc.size⟩
                  rw [← HL.out, List.append_nil]
                  exact HI4.out.below hbc
              | true =>
                have hL : [joinedW] = LK := by rw [hlink]; rfl
                obtain rfl : N1 = m + 1 + 1 := by rw [← HN1.out, ← hL]; rfl
                have HL := hide hL
                have HI5 := hide (HI4.out.below hbc)
                have Hr5 := hide ((Hr4.out.below (StrAt.stays _) hbc).more hbc.size)
                obtain ⟨w5, hw5⟩ : ∃ w5, w4.drew = w5 := ⟨_, rfl⟩
                rw [hw5] at HI5 Hr5 ⊢
                have z7 := cell_block HI5.out.box 7
                clear hL hlink hw5
                go_wp2_with (first
                  | (at_builtin; refine list_word HI5.out (.tmp 112) (.tmp 113) rfl (by rfl) (by omega) (by rfl) joinedW _ _ (by rfl) (by rfl) ?_; intro A7 c7 w7 hI7 hg7; have f7 := frozen_block hI7.box 7; have k7 := cell_block hI7.box 7; have Hr7 := hide (StrRow.pass Hr5.out (Below.refl _ _) hg7 HNE.out); have HI7 := hide hI7; clear hI7 hg7)
                  | fail)
                go_meet
                case rel =>
                  refine ⟨A7, c7, ?_, (StrRow.far Hr7.out (p := ⟨bP, 7, none⟩) hbg _).more (Nat.le_of_eq (World.size_setCell _ _ _).symm)⟩
                  rw [← HL.out]
                  exact HI7.out.set 7 _
  case rest =>
    obtain ⟨A1, c1, hI, hr⟩ := hcut
    have k7 := cell_block hI.box 7
    obtain ⟨N2, hN2⟩ : ∃ N2, N1 + M = N2 := ⟨_, rfl⟩
    have HN2 := hide hN2
    have hIlt := hI.lt
    have HI := hide hI
    have Hr := hide hr
    clear hI hr hN2 x0 x1 x2
    go_wp2_with (first
      | (at_builtin; go_loud (refine wpList_strs wc (.tmp 121) (.tmp 122) rfl (by rfl) (bP + 1) (.slice A1 N1 c1) (out ++ LK) N1 (by rfl) HI.out.own hIlt (some ⟨g3, 0, none⟩) c3 _ SL M HML.out (by rfl) Hr.out (by omega) N2 HN2.out ?_; intro v7 w7 hown7 hg7; obtain ⟨A7, c7, rfl⟩ := own_form hown7; have hI7 := HI.out.app hown7 hg7; have f7 := frozen_block hI7.box 7; have k7' := cell_block hI7.box 7; have b8 : (w7.setCell ⟨bP, 7, none⟩ (.slice A7 N2 c7)).heap[bP]? = some (.cells #[.int .i64 ra, .bool sd, .bool sp, .int .i64 re, .bool co, .int .i64 ce, .map (some bM), .slice A7 N2 c7, .int .i64 gs, .int .i64 pbe, .bool psi] 66 (0, 0)) := (hI7.set 7 _).box; have f8 := frozen_block b8 9; have k8 := cell_block b8 9; have b9 : ((w7.setCell ⟨bP, 7, none⟩ (.slice A7 N2 c7)).setCell ⟨bP, 9, none⟩ (.int .i64 K)).heap[bP]? = some (.cells #[.int .i64 ra, .bool sd, .bool sp, .int .i64 re, .bool co, .int .i64 ce, .map (some bM), .slice A7 N2 c7, .int .i64 gs, .int .i64 K, .bool psi] 66 (0, 0)) := ((hI7.set 7 _).set 9 _).box; have f9 := frozen_block b9 10; have k9 := cell_block b9 10; have HI7 := hide hI7; clear hown7 hg7 hI7 b8 b9))
      | fail)
    refine bodyPost_end (results_none rfl _ _ _) rfl ?_
    refine ⟨rfl, .slice A7 N2 c7, ?_⟩
    have h := ((HI7.out.set 7 (.slice A7 N2 c7)).set 9 (.int .i64 K)).set 10 (.bool false)
    refine BoxO.eq h ?_ ?_
    · rw [← HN2.out, ← HN1.out, ← HNL.out, ← HML.out]; simp; omega
    · rw [List.append_assoc]
end Go.Proofs.YtdkppdjonlldhaaGreatDoor

/- spokentext.Words. -/
namespace Go.Proofs.YtdkppdjonlldhaaGreatDoor
open Go.RowKit Go.Maps Go.Shelf

theorem set_range {w : World} {b : Nat} {v0 v1 v2 v3 v4 v5 : Value} {t : TypeId} {fr : Nat × Nat} (h : w.heap[b]? = some (.cells #[v0, v1, v2, v3, v4, v5] t fr)) : w.rangeAt b 0 [v0, v1, v2, v3, v4, v5] := fun j v hj => by
  rw [Nat.zero_add, cell_block h]
  match j, hj with
  | 0, hj => exact hj
  | 1, hj => exact hj
  | 2, hj => exact hj
  | 3, hj => exact hj
  | 4, hj => exact hj
  | 5, hj => exact hj
  | j + 6, hj => simp at hj
def sliceLen : Value → Nat | .slice _ n _ => n | _ => 0
theorem slice_len {l : List Gl} {w : World} {B b off : Nat} (h : GlRow w B (some ⟨b, off, none⟩) l) (k : Nat) : GlRow w B (some ⟨b, off + k * 3, none⟩) (l.drop k) := h.drop k
theorem good_cl {g : Gl} (h : GoodG g) : clErr g.text.data.toList = 0 := h.1
set_option maxRecDepth 100000 in
set_option maxHeartbeats 4000000 in
theorem wordsSP (w : World) (hS : Spc w) (hT : StyT w) (htb : Tabs w) (s : SetV) (hrep : s.rep = 0 ∨ 2 ≤ s.rep) (A : Option Addr) (n c : Nat) (l : List Gl) (hl : l.length = n) (hn : n ≤ 60000) (hnc : n ≤ c) (hrow : GlRow w w.heap.size A l) (hG : ∀ x ∈ l, GoodG x) :
    Calls Tryz.prog 19 #[.slice A n c, s.val] w (SmallRet w (wordsF s.stg l)) := by
  obtain ⟨ra, sd, sp, re, co, ce⟩ := s
  dsimp only at hrep
  have hb1 := (Below.refl w.heap.size w).alloc (Nat.le_refl _) (.cells #[.int .i64 ra, .bool sd, .bool sp, .int .i64 re, .bool co, .int .i64 ce] 26)
  have hbx1 := block_new w (.cells #[.int .i64 ra, .bool sd, .bool sp, .int .i64 re, .bool co, .int .i64 ce] 26)
  have hsz1 : (w.alloc (.cells #[.int .i64 ra, .bool sd, .bool sp, .int .i64 re, .bool co, .int .i64 ce] 26)).heap.size = w.heap.size + 1 := World.size_alloc _ _
  have Hb1 := hide hb1
  have Hbx := hide (fun (W : World) (hb : Below (w.heap.size + 1) (w.alloc (.cells #[.int .i64 ra, .bool sd, .bool sp, .int .i64 re, .bool co, .int .i64 ce] 26)) W) => (hb.block w.heap.size (by omega)).trans hbx1)
  have Hbw := hide (fun (W : World) (hb : Below (w.heap.size + 1) (w.alloc (.cells #[.int .i64 ra, .bool sd, .bool sp, .int .i64 re, .bool co, .int .i64 ce] 26)) W) => hb1.trans (hb.mono (Nat.le_succ _)))
  unfold SetV.val SetV.stg
  dsimp only
  have HCk := hide (fun (W : World) (hb : Below w.heap.size w W) (g : Gl) (hg : GoodG g) => checkCl W g.text (by have := good_len hg; omega) (htb.below hb))
  have Hl := hide hl
  have Hrow := hide hrow
  have HGd := hide hG
  have HV := hide vocabularyP
  have hbs := Below.refl (w.heap.size + 1) (w.alloc (.cells #[.int .i64 ra, .bool sd, .bool sp, .int .i64 re, .bool co, .int .i64 ce] 26))
  clear hl hrow hG hb1 hbx1
  go_enter Tryz.func19, Tryz.ntmps19
  go_wp2
  go_loopw [11] (fun i wr => ∃ k : Nat, k ≤ n ∧ i = .int .i64 k ∧ Below (w.heap.size + 1) (w.alloc (.cells #[.int .i64 ra, .bool sd, .bool sp, .int .i64 re, .bool co, .int .i64 ce] 26)) wr) (fun i _ => n - (intOf i).toNat)
  case atStart => exact ⟨0, Nat.zero_le _, rfl, hbs⟩
  case round =>
    obtain ⟨k, hk, rfl, hbr⟩ := hrel
    rename World => wo
    have HB := hide hbr
    have hszo := hbr.size
    rw [hsz1] at hszo
    clear hbr
    by_cases hlt : k < n
    · have hkI : (k : Int) < (n : Int) := by omega
      have hkl : k < l.length := by rw [Hl.out]; exact hlt
      obtain ⟨b, off, rfl, hbb, z0, z1, z2⟩ := Hrow.out.get hkl
      have hgk := HGd.out l[k] (List.getElem_mem hkl)
      obtain ⟨X, hX⟩ : ∃ X, l[k] = X := ⟨_, rfl⟩
      rw [hX] at z0 z1 z2 hgk
      have HE := hide (good_cl hgk)
      have HC := hide (fun (W : World) (hb : Below w.heap.size w W) => HCk.out W hb X hgk)
      have hs0 := hgk.2.2.1
      have hs3 := hgk.2.2.2
      obtain ⟨T, wd, sy⟩ := X
      dsimp only at z0 z1 z2 HC HE hs0 hs3
      have hbw := Hbw.out _ HB.out
      have y0 := (hbw.cell (p := ⟨b, off + k * 3, none⟩) hbb).trans z0
      have y1 := (hbw.cell (p := ⟨b, off + k * 3 + 1, none⟩) hbb).trans z1
      have y2 := (hbw.cell (p := ⟨b, off + k * 3 + 2, none⟩) hbb).trans z2
      have hba := hide (HB.out.alloc (show w.heap.size + 1 ≤ wo.heap.size from hszo) (.cells #[.string T, .bool wd, .int .i64 sy] 42))
      have hbas := hide (show w.heap.size + 1 ≤ (wo.alloc (.cells #[.string T, .bool wd, .int .i64 sy] 42)).heap.size by rw [World.size_alloc]; omega)
      have q1 : ¬ sy < 0 := by omega
      have q2 : ¬ 3 < sy := by omega
      clear hX z0 z1 z2 hgk hbw
      go_wp2_with (first
        | (go_at_call 30; refine (HC.out _ (Hbw.out _ hba.out)).mono ?_; rintro e w6 ⟨rfl, hb6⟩; rw [HE.out]; have hB6 := hba.out.trans (hb6.mono hbas.out); clear hb6)
        | fail)
      go_roundw
      case rel => exact ⟨k + 1, by omega, by go_num, hB6⟩
      case measure => simp [intOf]; omega
    · obtain rfl : k = n := by omega
      go_upto_region 7 with fail
      have hbc := HB.out.drew
      have hsc : w.heap.size + 1 ≤ wo.drew.heap.size := hszo
      refine td_begin (by kernel_rfl) ?_
      refine td_hold (fun W => Below (w.heap.size + 1) (w.alloc (.cells #[.int .i64 ra, .bool sd, .bool sp, .int .i64 re, .bool co, .int .i64 ce] 26)) W) [] (by decide +kernel) ?_ (fun hHeld => ?_)
      · (exact hbc)
      (refine td_take 0 (v := ?_) rfl (by decide) (by kernel_rfl) (by decide +kernel) (by decide +kernel) (fun _ _ _ h => h) (by assumption) (by rfl) ?_ ?_; rotate_left; (· (intro w hSw; (try dsimp only at hSw); (refine exec_load_rowS 26 (.tmp 3) ?_ _ 0 ?_ _ _ (set_range (Hbx.out _ hSw)) Tryz.underlying26 rfl (by kernel_rfl); all_goals rfl))); (try simp only [Act.put, List.setIfInBounds_toArray, List.set_cons_zero, List.set_cons_succ]))
      (refine td_ready (rs := [1]) (by decide +kernel) (by decide) (by simp) ?_; refine td_cons rfl (fun K hK => ?_) td_nil; (go_simp; go_at_call 32; refine (HV.out _).mono ?_; rintro e w7 ⟨bM, nM, rfl, hbM, hM, hnM, hb7⟩; have hbc := hbc.trans (hb7.mono hsc); have hs7 := hb7.size; have HM := hide hM; clear hb7 hM; (first | refine hK.out _ _ ?_ ?_ | (go_wp2_with fail; refine hK.out _ _ ?_ ?_)); (· (exact hbc)); clear hK K hHeld; intro hHeld; (try simp only [Act.put, List.setIfInBounds_toArray, List.set_cons_zero, List.set_cons_succ])))
      (refine td_take 2 (v := ?_) rfl (by decide) (by kernel_rfl) (by decide +kernel) (by decide +kernel) (fun _ _ _ h => h) (by assumption) (by rfl) ?_ ?_; rotate_left; (· (intro w hSw; (try dsimp only at hSw); skip; (go_simp <;> with_reducible rfl))); (try simp only [Act.put, List.setIfInBounds_toArray, List.set_cons_zero, List.set_cons_succ]))
      (refine td_ready (rs := [3]) (by decide +kernel) (by decide) (by simp) ?_; refine td_cons rfl (fun K hK => ?_) td_nil; (go_simp; obtain ⟨w8, hw8, hst, hlit⟩ := lit_step hbc #[.int .i64 ra, .bool sd, .bool sp, .int .i64 re, .bool co, .int .i64 ce, .map (some bM), .slice none 0 0, .int .i64 0, .int .i64 0, .bool false] 66; rw [hw8]; clear hw8; have hbc := hbc.trans (hst.mono (Nat.le_trans hsc hs7)); (first | refine hK.out _ _ ?_ ?_ | (go_wp2_with fail; refine hK.out _ _ ?_ ?_)); (· (exact hbc)); clear hK K hHeld; intro hHeld; (try simp only [Act.put, List.setIfInBounds_toArray, List.set_cons_zero, List.set_cons_succ])))
      (refine td_take 4 (v := ?_) rfl (by decide) (by kernel_rfl) (by decide +kernel) (by decide +kernel) (fun _ _ _ h => h) (by assumption) (by rfl) ?_ ?_; rotate_left; (· (intro w hSw; (try dsimp only at hSw); skip; (go_simp <;> with_reducible rfl))); (try simp only [Act.put, List.setIfInBounds_toArray, List.set_cons_zero, List.set_cons_succ]))
      refine And.intro (by decide +kernel) ?_
      have HM8 := hide (HM.out.below hst)
      have hMlt := HM.out.lt
      have h0 : w.heap.size ≤ w7.heap.size := by have := hszo; have : wo.drew.heap.size = wo.heap.size := rfl; omega
      have h1 : w.heap.size + 1 ≤ w7.heap.size := by have := hszo; have : wo.drew.heap.size = wo.heap.size := rfl; omega
      have hI8 : BoxO w7.heap.size w8 w8 66 #[.int .i64 ra, .bool sd, .bool sp, .int .i64 re, .bool co, .int .i64 ce, .map (some bM), .slice none 0 0, .int .i64 0, .int .i64 0, .bool false] 9 1 (.slice none 0 0) 0 [] := ⟨hlit, World.ownsRow_nil _ _ _ _, Below.refl _ _⟩
      obtain ⟨bP, hbP⟩ : ∃ bP, w7.heap.size = bP := ⟨_, rfl⟩
      rw [hbP] at hMlt h0 h1 hI8 ⊢
      have HI8 := hide hI8
      have HB8 := hide hbc
      have Hbw8 := hide (Hbw.out _ hbc)
      obtain ⟨F, hF⟩ : ∃ F, sayAll ⟨sd, sp, re⟩ l.length ⟨[], 0, 0, false⟩ l = F := ⟨_, rfl⟩
      have HF := hide (show wordsF ⟨sd, sp, re⟩ l = F.out by rw [← hF]; rfl)
      have HF0 := hide hF
      clear hlit hst hI8 hbc HM hbM hnM hs7 hsc HV HB hbP hF
      go_wp2
      go_loopw [0, 8] (fun ls _ wr => ∃ (r : List Gl) (A' : Option Addr) (n' c' : Nat) (p : SS) (ov : Value), ls = .slice A' n' c' ∧ r.length = n' ∧ n' ≤ c' ∧ GlRow w w.heap.size A' r ∧ (∀ x ∈ r, GoodG x) ∧ BoxO bP w8 wr 66 (spkCells ⟨ra, sd, sp, re, co, ce⟩ bM ov p.style p.before p.silent) 9 1 ov p.out.length (p.out.map strV) ∧ sayAll ⟨sd, sp, re⟩ r.length p r = F ∧ p.out.length + 301 * n' ≤ 301 * k ∧ (∀ x ∈ p.out, x.length ≤ 1000000)) (fun ls _ _ => sliceLen ls)
      case atStart => exact ⟨l, A, k, c, ⟨[], 0, 0, false⟩, .slice none 0 0, rfl, Hl.out, hnc, Hrow.out, HGd.out, HI8.out, HF0.out, by simp, by simp⟩
      case round =>
        obtain ⟨r, A', n', c', p, ov, rfl, hrl, hnc', hrow', hG', hI, hsay, hcnt, hsh⟩ := hrel
        rename World => wr
        have hbr := Hbw8.out.trans (hI.bl.mono h0)
        have k7 := cell_block hI.box 7
        unfold spkCells at k7
        cases r with
        | nil =>
          obtain rfl : n' = 0 := hrl.symm
          have hFp : p = F := hsay
          have HI := hide hI
          have Hbr := hide hbr
          have HFp := hide hFp
          clear hI hsay hcnt hsh hrow' hG' hbr hFp
          go_wp2
          go_ret
          exact ⟨_, rfl, own_eq (own_more HI.out.own (Nat.le_succ_of_le h0)) (by rw [HF.out, ← HFp.out]) (by rw [HF.out, ← HFp.out]), Hbr.out⟩
        | cons g r' =>
          obtain ⟨t, r2, hr, hpc, -, -, hP⟩ := piece_ok hrep g r'
          subst hr
          rw [List.length_cons] at hrl
          obtain ⟨PL, hPL⟩ : ∃ PL, t.length + 1 = PL := ⟨_, rfl⟩
          rw [hPL] at hpc
          have hlen := hrl
          rw [List.length_append] at hlen
          have hPLn : PL ≤ n' := by omega
          have hr2l : r2.length = n' - PL := by omega
          have hGt : ∀ x ∈ g :: t, GoodG x := fun x hx => hG' x (by rcases List.mem_cons.1 hx with e | h; (· exact e ▸ List.mem_cons_self); exact List.mem_cons_of_mem _ (List.mem_append_left _ h))
          have hGr : ∀ x ∈ r2, GoodG x := fun x hx => hG' x (List.mem_cons_of_mem _ (List.mem_append_right _ hx))
          obtain ⟨b, off, rfl, hbb, -⟩ := hrow'.get (k := 0) (by simp)
          have hrowt : GlRow w w.heap.size (some ⟨b, off, none⟩) (g :: t) := by
            have := hrow'.take PL
            rwa [← hPL, List.take_succ_cons, List.take_left] at this
          have hrowr : GlRow w w.heap.size (some ⟨b, off + PL * 3, none⟩) r2 := by
            have := slice_len hrow' PL
            rwa [← hPL, List.drop_succ_cons, List.drop_left, hPL] at this
          have HPi := hide (fun (W : World) (hb : Below w.heap.size w W) => pieceP W (some ⟨b, off, none⟩) n' c' g (t ++ r2) hrl (by omega) hnc' ((hrow'.below (GlAt.stays _) hb).more hb.size) (fun x hx => good_text (hG' x hx)) re)
          rw [hpc] at HPi
          have HSk := hide (fun (W : World) (hb : Below w.heap.size w W) hblk hM => skipsP W (hS.below hb) ⟨ra, sd, sp, re, co, ce⟩ hrep bP bM nM ov p hblk hM (some ⟨b, off, none⟩) n' c' g (t ++ r2) hrl (by omega) hnc' ((hrow'.below (GlAt.stays _) hb).more hb.size) hG' PL (by omega))
          have HSay := hide (fun (W : World) (hb : Below w.heap.size w W) hB hM => sayP w W hS hT hb ⟨ra, sd, sp, re, co, ce⟩ bP bM nM h0 ov p hB hM hMlt (by omega) hsh (some ⟨b, off, none⟩) PL c' g t hPL (by omega) ((hrowt.below (GlAt.stays _) hb).more h0) hGt hP)
          have hcnt2 := sayF_len ⟨sd, sp, re⟩ p g t hGt
          have hsh2 := sayF_short ⟨sd, sp, re⟩ p g t hGt hP (by omega) hsh
          have hskip := fun h1 h2 => sayAll_skip (s := ⟨sd, sp, re⟩) p g (t ++ r2) h1 h2
          have hsayE := fun h => sayAll_say (s := ⟨sd, sp, re⟩) hrep p g t r2 (by rw [hPL]; exact hpc) h
          have hrowI : GlRow w w.heap.size (if c' = PL then some ⟨b, off, none⟩ else some ⟨b, off + PL * 3, none⟩) r2 := by
            split
            · exact Sl.nil (by omega)
            · exact hrowr
          obtain ⟨SKB, hSKB⟩ : ∃ SKB, (decide (PL = 1) && skipsF ⟨sd, sp, re⟩ p (g :: (t ++ r2))) = SKB := ⟨_, rfl⟩
          unfold SetV.stg at HSk HSay
          dsimp only at HSk HSay hskip hsayE
          rw [hSKB] at HSk
          unfold spkCells at HSk HSay hI
          dsimp only at HSk HSay hI
          have hbS := (HB8.out.trans (hI.bl.mono h1))
          have k3 := cell_block (Hbx.out _ hbS) 3
          have HI := hide hI
          have Hbr := hide hbr
          have HMr := hide (map_block HM8.out (hI.bl.block bM hMlt))
          have hltr := hI.lt
          have j0 : (0 : Int) < (n' : Int) := by omega
          have j1 : (PL : Int) ≤ (n' : Int) := by omega
          have j2 : (0 : Int) ≤ (PL : Int) := by omega
          have j3 : (PL : Int) ≤ (c' : Int) := by omega
          clear hI hbr hrow' hG' hbS hP hrowt hlen
          cases SKB with
          | true =>
            go_wp2_with (first
              | (go_at_call 33; refine (HPi.out _ Hbr.out).mono ?_; rintro e w9 ⟨rfl, hb9⟩; have HI9 := hide (HI.out.below hb9); have Hb9 := hide (Hbr.out.trans (hb9.mono Hbr.out.size)); have HM9 := hide (map_block HMr.out (hb9.block bM (by omega))); clear hb9)
              | (go_at_call 34; refine (HSk.out _ Hb9.out HI9.out.box HM9.out).mono ?_; rintro e w10 ⟨rfl, hb10⟩; have hI10 := HI9.out.below hb10; have k10 := cell_block hI10.box 10; have f10 := frozen_block hI10.box 10; have HI10 := hide hI10; clear hI10 hb10)
              | fail)
            rw [Bool.and_eq_true, decide_eq_true_eq] at hSKB
            obtain ⟨rfl, hsk⟩ := hSKB
            obtain rfl : t = [] := List.eq_nil_of_length_eq_zero (by omega)
            have hs2 := hskip hpc hsk
            refine ⟨⟨r2, _, n' - 1, c' - 1, { p with silent := true }, ov, rfl, by omega, by omega, hrowI, hGr, HI10.out.set 10 _, ?_, by simp only; omega, hsh⟩, by simp only [sliceLen]; omega⟩
            rw [← hsay]
            exact hs2.symm
          | false =>
            go_wp2_with (first
              | (go_at_call 33; refine (HPi.out _ Hbr.out).mono ?_; rintro e w9 ⟨rfl, hb9⟩; have HI9 := hide (HI.out.below hb9); have Hb9 := hide (Hbr.out.trans (hb9.mono Hbr.out.size)); have HM9 := hide (map_block HMr.out (hb9.block bM (by omega))); have hlt9 := HI9.out.lt; clear hb9)
              | (go_at_call 34; refine (HSk.out _ Hb9.out HI9.out.box HM9.out).mono ?_; rintro e w10 ⟨rfl, hb10⟩; have HI10 := hide (HI9.out.below hb10); have Hb10 := hide (Hb9.out.trans (hb10.mono Hb9.out.size)); have HM10 := hide (map_block HM9.out (hb10.block bM (by omega))); clear hb10)
              | (go_at_call 35; refine (HSay.out _ Hb10.out HI10.out.again HM10.out).mono ?_; rintro e w11 ⟨rfl, ov2, hI11⟩; have HI11 := hide (HI10.out.trans hI11); clear hI11)
              | fail)
            refine ⟨⟨r2, _, n' - PL, c' - PL, sayF ⟨sd, sp, re⟩ p (g :: t), ov2, rfl, by omega, by omega, hrowI, hGr, HI11.out, ?_, by omega, hsh2⟩, by simp only [sliceLen]; omega⟩
            rw [← hsay]
            refine (hsayE ?_).symm
            rintro ⟨h1, h2⟩
            rw [hpc] at h1
            rw [h1, h2] at hSKB
            simp at hSKB
end Go.Proofs.YtdkppdjonlldhaaGreatDoor
