/- Chapter 45: the reference of Between. -/
import Derived.Test.YtmloijhdibicdaaDoorK10
namespace Go.Proofs.YtmloijhdibicdaaDoor
open Go.RowKit Go.Shelf

theorem below_drewN {B : Nat} {w w1 : World} (h : Below B w w1) (n : Nat) : Below B w (w1.drewN n) := h.trans ⟨rfl, rfl, rfl, Nat.le_refl _, fun _ _ => rfl⟩
theorem part_succ (l : List Gl) (f j : Nat) (h : f ≤ j) (hj : j < l.length) : textB ((l.take (j + 1)).drop f) = textB ((l.take j).drop f) ++ l[j].text := by
  rw [List.take_succ_eq_append_getElem hj, List.drop_append_of_le_length (by rw [List.length_take]; omega), textB_app, textB_one]
theorem part_none (l : List Gl) (f : Nat) : textB ((l.take f).drop f) = ⟨#[]⟩ := by
  rw [List.drop_of_length_le (by rw [List.length_take]; omega)]; rfl
theorem part_past (l : List Gl) (f a j : Nat) (h : f ≤ j) (hj : j ≤ a ∨ j = f) (hge : a ≤ j) : textB ((l.take j).drop f) = textB ((l.take a).drop f) := by
  rcases hj with hj | rfl
  · rw [show j = a by omega]
  · rw [part_none, List.drop_of_length_le (by rw [List.length_take]; omega)]; rfl

/-- What has been written before row k of n. -/
def outT (f : Nat → ByteArray) (a n k : Nat) : ByteArray := if k < n then linesN (linesFrom f a k) else joinN (linesFrom f a n)
theorem outT_zero (f : Nat → ByteArray) (a n : Nat) (h : 0 < n) : outT f a n 0 = ⟨#[]⟩ := by unfold outT; rw [if_pos h]; rfl
theorem outT_mid (f : Nat → ByteArray) (a n k : Nat) (h : k + 1 < n) : outT f a n (k + 1) = outT f a n k ++ f (a + k) ++ nl := by
  unfold outT; rw [if_pos h, if_pos (by omega), linesFrom_succ, linesN_snoc]
theorem outT_last (f : Nat → ByteArray) (a n k : Nat) (h : k + 1 = n) : outT f a n (k + 1) = outT f a n k ++ f (a + k) := by
  subst h
  unfold outT; rw [if_neg (by omega), if_pos (by omega), linesFrom_succ, joinN_lines]
theorem outT_size (f : Nat → ByteArray) (M n a k : Nat) (hk : k < n) (h : ∀ j, j < n → (f (a + j)).size ≤ M) : (outT f a n k).size ≤ n * (M + 1) := by
  unfold outT; rw [if_pos hk]
  have := linesFrom_size f M k a fun j hj => h j (by omega)
  have : k * (M + 1) ≤ n * (M + 1) := Nat.mul_le_mul_right _ (by omega)
  omega

set_option maxRecDepth 100000 in
set_option maxHeartbeats 8000000 in
theorem between45P (w : World) (A : Option Addr) (c : Nat) (v : Vw) (p q : Pl) (h : Rows2 w w.heap.size A v.rows) (ht : v.Tame) :
    Calls Tryd.prog 14 #[v.val A c, p.val, q.val] w fun e w' => e = .returned (.tuple #[.string (betT v p.row p.col q.row q.col), .int .i64 (betE v p.row p.col q.row q.col)]) ∧ Below w.heap.size w w' := by
  obtain ⟨W0, hW0, hbox, hs0, hvb, hpb, hqb⟩ := boxes3 w v A c p q
  have HC := hide (check15 W0 A c v ((h.below hbox).more hbox.size) ht)
  have HP := hide (fun W1 r k => position45 W1 A c v r k)
  have HK := hide (fun w1 (hb1 : Below W0.heap.size W0 w1) => And.intro (hvb.below hb1 (by omega)).cells (And.intro (hpb.below hb1 (by omega)).cells (hqb.below hb1 (by omega)).cells))
  have HR := hide (fun w1 (hb1 : Below W0.heap.size W0 w1) => (h.below (hbox.trans (hb1.mono hbox.size))).more (hbox.trans (hb1.mono hbox.size)).size)
  have HTm := hide (fun y (hy : y < v.rows.length) => rowOf_tame ht hy)
  have HI := hide (fun w1 (hb1 : Below W0.heap.size W0 w1) (y : Nat) (hy : y < v.rows.length) col h0 h1 => index45P w1 A c v y col ((h.below (hbox.trans (hb1.mono hbox.size))).more (hbox.trans (hb1.mono hbox.size)).size) ht hy h0 h1)
  have HSz := hide (fun fr fc tr tc y (hy : y < v.rows.length) => lineB_size ht fr fc tr tc y hy)
  have hways := betWays v p.row p.col q.row q.col
  have Hok := hide (fun (h0 : v.err = 0) => (Vw.proper (show v.ok = true by unfold Vw.ok; rw [h0]; rfl)))
  obtain ⟨⟨k0, k1, k2, k3, k4, k5⟩, ⟨p0, p1, p2⟩, q0, q1, q2⟩ := HK.out W0 (Below.refl _ _)
  have Hbox := hide hbox
  have Hs0 := hide hs0
  have h12 := ht.1
  clear h ht hbox hs0 hvb hpb hqb
  subst hW0
  unfold Vw.val at HC HP HI ⊢
  unfold Pl.val
  obtain ⟨pu, pr, pc⟩ := p
  obtain ⟨qu, qr, qc⟩ := q
  dsimp only at *
  obtain ⟨E, hE⟩ : ∃ E, betE v pr pc qr qc = E := ⟨_, rfl⟩
  obtain ⟨T, hT⟩ : ∃ T, betT v pr pc qr qc = T := ⟨_, rfl⟩
  have Hdef := hide (show E = 0 → T = joinN (linesFrom (lineB v pr pc qr qc) pr.toNat (qr + 1 - pr).toNat) by rw [← hE, ← hT]; intro h0; unfold betT; rw [if_pos h0])
  unfold BetWays at hways
  rw [hE, hT] at hways ⊢
  clear hE hT
  rcases hways with ⟨he, rfl, rfl⟩ | ⟨he, hp1, rfl, rfl⟩ | ⟨he, hp1, hp2, rfl, rfl⟩ | ⟨he, hp1, hp2, h3, rfl, rfl⟩ | ⟨he, hp1, hp2, h3, h4, h5, rfl, rfl⟩ | ⟨he, hp1, hp2, h3, h4, h5, rfl⟩ | ⟨he, hp1, hp2, h3, h4, rfl⟩
  · obtain ⟨V, hV⟩ : ∃ V, v.err = V := ⟨_, rfl⟩
    rw [hV] at he HC ⊢
    clear hV HP HI HR HK HSz HTm Hok Hdef
    go_enter Tryd.func14, Tryd.ntmps14
    go_wp2_with (go_at_call 37; refine HC.out.mono ?_; rintro e w1 ⟨rfl, hb1⟩; have hbw := Hbox.out.trans (hb1.mono Hbox.out.size))
    go_ret2
    exact ⟨rfl, hbw⟩
  all_goals
    have Hpr := hide (Hok.out he)
    rw [he] at HC
    have HP1 := hide (fun W1 => HP.out W1 pr pc)
    have HP2 := hide (fun W1 => HP.out W1 qr qc)
    simp only [hp1] at HP1
    clear he Hok HP
  · clear HP2 HI HR HTm HSz Hdef Hpr hp1
    go_enter Tryd.func14, Tryd.ntmps14
    go_wp2_with (first
      | (go_at_call 37; refine HC.out.mono ?_; rintro e w1 ⟨rfl, hb1⟩; obtain ⟨⟨x0, x1, x2, x3, x4, x5⟩, ⟨y0, y1, y2⟩, z0, z1, z2⟩ := HK.out w1 hb1)
      | (go_at_call 38; refine (HP1.out _).mono ?_; rintro e w2 ⟨rfl, hb2'⟩; have hb2 := hb1.trans (hb2'.mono hb1.size); obtain ⟨⟨u0, u1, u2, u3, u4, u5⟩, ⟨r0, r1, r2⟩, s0, s1, s2⟩ := HK.out w2 hb2)
      | fail)
    go_ret2
    exact ⟨rfl, Hbox.out.trans (hb2.mono Hbox.out.size)⟩
  all_goals
    simp only [hp2] at HP2
  iterate 3
    · clear HI HR HTm HSz Hdef Hpr hp1 hp2
      go_enter Tryd.func14, Tryd.ntmps14
      go_wp2_with (first
        | (go_at_call 37; refine HC.out.mono ?_; rintro e w1 ⟨rfl, hb1⟩; obtain ⟨⟨x0, x1, x2, x3, x4, x5⟩, ⟨y0, y1, y2⟩, z0, z1, z2⟩ := HK.out w1 hb1)
        | (go_at_call 38; refine (HP2.out w2).mono ?_; rintro e w3 ⟨rfl, hb3'⟩; have hb3 := hb2.trans (hb3'.mono hb2.size); obtain ⟨⟨t0, t1, t2, t3, t4, t5⟩, ⟨a0, a1, a2⟩, b0, b1, b2⟩ := HK.out w3 hb3)
        | (go_at_call 38; refine (HP1.out _).mono ?_; rintro e w2 ⟨rfl, hb2'⟩; have hb2 := hb1.trans (hb2'.mono hb1.size); obtain ⟨⟨u0, u1, u2, u3, u4, u5⟩, ⟨r0, r1, r2⟩, s0, s1, s2⟩ := HK.out w2 hb2)
        | fail)
      go_ret2
      exact ⟨rfl, Hbox.out.trans (hb3.mono Hbox.out.size)⟩
  all_goals
    obtain ⟨g1, g2, g3, g4⟩ := posB_of hp1
    obtain ⟨g5, g6, g7, g8⟩ := posB_of hp2
    have hw2 := Hpr.out.w2
    have hh2 := Hpr.out.h2
    have hlen := Hpr.out.len
    obtain ⟨a, ha⟩ : ∃ a : Nat, pr = a := ⟨pr.toNat, by omega⟩
    have hdef := Hdef.out rfl
    rw [show pr.toNat = a by omega] at hdef
    obtain ⟨n, hn⟩ : ∃ n, (qr + 1 - pr).toNat = n := ⟨_, rfl⟩
    rw [hn] at hdef
    have hqn : qr + 1 = (a : Int) + (n : Int) := by have := h4; (try simp at this); omega
    have hn0 : 0 < n := by have := h4; (try simp at this); omega
    have hanl : a + n ≤ v.rows.length := by omega
    have Hfin := hide hdef
    have HOz := hide (fun k (hk : k < n) => outT_size (lineB v pr pc qr qc) 1000000 n a k hk fun j hj => HSz.out pr pc qr qc (a + j) (by omega))
    have HO0 := hide (outT_zero (lineB v pr pc qr qc) a n hn0)
    have Hqn := hide hqn
    have Ha := hide ha
    have hpc1 : pc ≤ 1000 := by omega
    have hqc1 : qc ≤ 1000 := by omega
    have hq60 : qr ≤ 60 := by omega
    clear hdef hn Hdef HSz Hpr hp1 hp2 hlen hqn ha
    go_enter Tryd.func14, Tryd.ntmps14
    go_wp2_with (first
      | (go_at_call 37; refine HC.out.mono ?_; rintro e w1 ⟨rfl, hb1⟩; obtain ⟨⟨x0, x1, x2, x3, x4, x5⟩, ⟨y0, y1, y2⟩, z0, z1, z2⟩ := HK.out w1 hb1)
      | (go_at_call 38; refine (HP2.out w2).mono ?_; rintro e w3 ⟨rfl, hb3'⟩; have hb3 := hb2.trans (hb3'.mono hb2.size); obtain ⟨⟨t0, t1, t2, t3, t4, t5⟩, ⟨a0, a1, a2⟩, b0, b1, b2⟩ := HK.out w3 hb3)
      | (go_at_call 38; refine (HP1.out _).mono ?_; rintro e w2 ⟨rfl, hb2'⟩; have hb2 := hb1.trans (hb2'.mono hb1.size); obtain ⟨⟨u0, u1, u2, u3, u4, u5⟩, ⟨r0, r1, r2⟩, s0, s1, s2⟩ := HK.out w2 hb2)
      | fail)
    clear x0 x1 x2 x3 x4 x5 y0 y1 y2 z0 z1 z2 u0 u1 u2 u3 u4 u5 r0 r1 r2 s0 s1 s2 k0 k1 k2 k3 k4 k5 p0 p1 p2 q0 q1 q2
    have HB3 := hide hb3
    clear hb1 hb2 hb3 hb2' hb3' HC HP1 HP2
    go_loopw [9, 10] (fun o i wr => ∃ k y : Nat, k ≤ n ∧ y = a + k ∧ i = .int .i64 y ∧ o = .string (outT (lineB v pr pc qr qc) a n k) ∧ Below w3.heap.size w3 wr) (fun _ i _ => (qr + 1 - intOf i).toNat)
    case atStart => exact ⟨0, a, Nat.zero_le _, rfl, int_eq Ha.out, by rw [HO0.out], Below.refl _ _⟩
    case round =>
      rename World => wo
      obtain ⟨k, y, hk, hyk, rfl, rfl, hbo⟩ := hrel
      have hbW := HB3.out.trans (hbo.mono HB3.out.size)
      have hqy := Hqn.out
      by_cases hlt : k < n
      · have hlt2 : (y : Int) ≤ qr := by omega
        have hy : y < v.rows.length := by omega
        have hyI : (y : Int) < (v.rows.length : Int) := by omega
        have hy12 : y < 12 := by omega
        obtain ⟨bR, oR, he, hbR, A1, c1, d0, d1, d2⟩ := (HR.out wo hbW).get1 hy
        obtain ⟨hl1, hl2⟩ := HTm.out y hy
        rw [rowOf_get hy] at d0 d1 d2
        subst he
        have Hline := hide (show lineB v pr pc qr qc y = textB (((rowOf v y).take (if (y : Int) = qr then cidx (rowOf v y) qc else (rowOf v y).length)).drop (if (y : Int) = pr then cidx (rowOf v y) pc else 0)) from rfl)
        have HIy := hide (fun w1 hb1 => HI.out w1 hb1 y hy)
        obtain ⟨row, hrow⟩ : ∃ row, rowOf v y = row := ⟨_, rfl⟩
        rw [hrow] at d0 d1 d2 hl1 hl2 Hline HIy
        clear hrow
        obtain ⟨fi, hfi⟩ : ∃ fi, (if (y : Int) = pr then cidx row pc else 0) = fi := ⟨_, rfl⟩
        obtain ⟨la, hla⟩ : ∃ la, (if (y : Int) = qr then cidx row qc else row.length) = la := ⟨_, rfl⟩
        have hlal : la ≤ row.length := by rw [← hla]; split; exact cidx_le _ _; exact Nat.le_refl _
        have hfil : fi ≤ row.length := by rw [← hfi]; split; exact cidx_le _ _; exact Nat.zero_le _
        rw [hfi, hla] at Hline
        have hoz := HOz.out k hlt
        have hoz2 : (outT (lineB v pr pc qr qc) a n k).size ≤ 100000000 := by
          have : n * (1000000 + 1) ≤ 12 * (1000000 + 1) := Nat.mul_le_mul_right _ (by omega)
          omega
        have Hmid := hide (show k + 1 < n → outT (lineB v pr pc qr qc) a n (k + 1) = outT (lineB v pr pc qr qc) a n k ++ lineB v pr pc qr qc y ++ ⟨#[10]⟩ from fun h => by rw [hyk]; exact outT_mid _ _ _ _ h)
        have Hlast := hide (show k + 1 = n → outT (lineB v pr pc qr qc) a n (k + 1) = outT (lineB v pr pc qr qc) a n k ++ lineB v pr pc qr qc y from fun h => by rw [hyk]; exact outT_last _ _ _ _ h)
        rw [Hline.out] at Hmid Hlast
        obtain ⟨S, hS⟩ : ∃ S, outT (lineB v pr pc qr qc) a n k = S := ⟨_, rfl⟩
        rw [hS] at Hmid Hlast hoz2 ⊢
        have hglz : ∀ j, (textB ((row.take j).drop fi)).size ≤ 100000 := fun j => textB_size0 (by rw [List.length_drop, List.length_take]; omega) (fun g hg => hl2 g (List.mem_of_mem_take (List.mem_of_mem_drop hg)))
        have HGz := hide hglz
        have Hgl2 := hide hl2
        have Hpart := hide (fun j (h1 : fi ≤ j) (h2 : j < row.length) => part_succ row fi j h1 h2)
        have Hpast := hide (fun j (h1 : fi ≤ j) h2 (h3 : la ≤ j) => part_past row fi la j h1 h2 h3)
        have Hfirst := hide (part_none row fi)
        have Hd2 := hide d2
        have Hhead := hide (fun W2 (hb : Below wo.heap.size wo W2) => (hb.cell (p := ⟨bR, oR + y, none⟩) hbR).trans d0)
        obtain ⟨⟨x0, x1, x2, x3, x4, x5⟩, ⟨y0, y1, y2⟩, z0, z1, z2⟩ := HK.out wo hbW
        obtain ⟨rl, hrl⟩ : ∃ rl, row.length = rl := ⟨_, rfl⟩
        have Hrl := hide hrl
        rw [hrl] at d0 Hhead hlal hfil hl1 hla
        have Hyk := hide hyk
        have Hfi := hide hfi
        have Hla := hide hla
        have Hblk := hide hbR
        clear hrl hfi hla hyk hS hl2 d1 d2 hglz hoz hy hqy
        rcases (show (((y : Int) == pr) = true ∧ fi = cidx row pc) ∨ (((y : Int) == pr) = false ∧ fi = 0) by
          by_cases h : (y : Int) = pr
          · have := Hfi.out; rw [if_pos h] at this; exact .inl ⟨by simpa using h, this.symm⟩
          · have := Hfi.out; rw [if_neg h] at this; exact .inr ⟨by simpa using h, this.symm⟩) with ⟨e1, g1⟩ | ⟨e1, g1⟩ <;>
        rcases (show (((y : Int) == qr) = true ∧ la = cidx row qc ∧ k + 1 = n ∧ ¬ (y : Int) < qr) ∨ (((y : Int) == qr) = false ∧ la = rl ∧ k + 1 < n ∧ (y : Int) < qr) by
          have hyk := Hyk.out
          have hq := Hqn.out
          by_cases h : (y : Int) = qr
          · have := Hla.out; rw [if_pos h] at this; exact .inl ⟨by simpa using h, this.symm, by omega, by omega⟩
          · have := Hla.out; rw [if_neg h] at this; exact .inr ⟨by simpa using h, this.symm, by omega, by omega⟩) with ⟨e2, g2, e3, e4⟩ | ⟨e2, g2, e3, e4⟩
        · have HI1 := hide (fun w1 hb1 => HIy.out w1 hb1 pc (by omega) hpc1)
          have HI2 := hide (fun w1 hb1 => HIy.out w1 hb1 qc (by omega) hqc1)
          try rw [← g1] at HI1
          try rw [← g2] at HI2
          have G1 := hide g1
          have G2 := hide g2
          have E3 := hide e3
          clear g1 g2 e3 Hfi Hla HIy
          have hrfl := Below.refl wo.heap.size wo
          go_wp2
          go_quiet (fail)
          go_wp2_with (first
            | (go_at_call 39; refine (HI2.out wA hbWA).mono ?_; rintro e wB ⟨rfl, hbB⟩; have hbB2 := hbA2.trans (hbB.mono hbA2.size); have hbWB := hbW.trans (hbB2.mono hbW.size); have hhB := Hhead.out wB hbB2; obtain ⟨⟨m0, m1, m2, m3, m4, m5⟩, ⟨m6, m7, m8⟩, m9, ma, mb⟩ := HK.out wB hbWB)
            | (go_at_call 39; refine (HI1.out _ (below_drewN hbW _)).mono ?_; rintro e wA ⟨rfl, hbA⟩; have hbA2 := (below_drewN hrfl _).trans hbA; have hbWA := hbW.trans (hbA2.mono hbW.size); have hhA := Hhead.out wA hbA2; obtain ⟨⟨l0, l1, l2, l3, l4, l5⟩, ⟨l6, l7, l8⟩, l9, la', lb⟩ := HK.out wA hbWA)
            | (go_at_call 39; refine (HI2.out _ (below_drewN hbW _)).mono ?_; rintro e wA ⟨rfl, hbA⟩; have hbA2 := (below_drewN hrfl _).trans hbA; have hbWA := hbW.trans (hbA2.mono hbW.size); have hhA := Hhead.out wA hbA2; obtain ⟨⟨l0, l1, l2, l3, l4, l5⟩, ⟨l6, l7, l8⟩, l9, la', lb⟩ := HK.out wA hbWA)
            | fail)
          clear HI2
          go_loop [9, 13] (fun o i => ∃ j : Nat, fi ≤ j ∧ (j ≤ la ∨ j = fi) ∧ i = .int .i64 j ∧ o = .string (S ++ textB ((row.take j).drop fi))) (fun _ i => la - (intOf i).toNat)
          case atStart => exact ⟨fi, Nat.le_refl _, .inr rfl, rfl, by rw [Hfirst.out, ba_nil]⟩
          case round =>
            obtain ⟨j, hj1, hj2, rfl, rfl⟩ := hrel
            have HJ2 := hide hj2
            clear hj2
            have hgz := HGz.out j
            by_cases hjl : j < la
            · have hjr : j < row.length := by rw [Hrl.out]; omega
              have hjI : (j : Int) < (rl : Int) := by omega
              obtain ⟨bk, off, he, hbb, c0, c1', c2⟩ := (Hd2.out.below (GlAt.stays _) hbB2).get hjr
              subst he
              have Hnx := hide (Hpart.out j hj1 hjr)
              have hgt := Hgl2.out _ (List.getElem_mem hjr)
              obtain ⟨⟨gt, gw, gs⟩, hx⟩ : ∃ x, row[j] = x := ⟨_, rfl⟩
              rw [hx] at c0 c1' c2 Hnx hgt
              dsimp only at c0 c1' c2 hgt
              obtain ⟨X, hX⟩ : ∃ X, textB ((row.take j).drop fi) = X := ⟨_, rfl⟩
              rw [hX] at Hnx hgz ⊢
              clear hx hX
              have hcat : (S ++ X).size + gt.size ≤ 9223372036854775807 := by rw [ByteArray.size_append]; omega
              go_wp2
              go_round
              case rel => exact ⟨j + 1, by omega, .inl (by omega), by go_num, by rw [Hnx.out, ← ba_assoc]⟩
              case measure => simp [intOf]; omega
            · have Hend := hide (Hpast.out j hj1 HJ2.out (by omega))
              rw [Hend.out] at hgz ⊢
              obtain ⟨X, hX⟩ : ∃ X, textB ((row.take la).drop fi) = X := ⟨_, rfl⟩
              rw [hX] at hgz Hmid Hlast ⊢
              clear hX
              have hnls : (⟨#[10]⟩ : ByteArray).size = 1 := rfl
              have hcat : (S ++ X).size + (⟨#[10]⟩ : ByteArray).size ≤ 9223372036854775807 := by rw [ByteArray.size_append, hnls]; omega
              have hcat1 : (S ++ X).size + 1 ≤ 9223372036854775807 := by rw [ByteArray.size_append]; omega
              clear hnls
              go_wp2
              go_roundw
              case rel =>
                refine ⟨k + 1, y + 1, by omega, by rw [Hyk.out]; rfl, by go_num, ?_, ?_⟩
                · rw [Hlast.out E3.out]
                · exact hbo.trans (hbB2.mono hbo.size)
              case measure => simp [intOf]; omega
        · have HI1 := hide (fun w1 hb1 => HIy.out w1 hb1 pc (by omega) hpc1)
          have HI2 := hide (fun w1 hb1 => HIy.out w1 hb1 qc (by omega) hqc1)
          try rw [← g1] at HI1
          try rw [← g2] at HI2
          have G1 := hide g1
          have G2 := hide g2
          have E3 := hide e3
          clear g1 g2 e3 Hfi Hla HIy
          obtain rfl : la = rl := G2.out
          have hrfl := Below.refl wo.heap.size wo
          go_wp2
          go_quiet (fail)
          go_wp2_with (first
            | (go_at_call 39; refine (HI2.out wA hbWA).mono ?_; rintro e wB ⟨rfl, hbB⟩; have hbB2 := hbA2.trans (hbB.mono hbA2.size); have hbWB := hbW.trans (hbB2.mono hbW.size); have hhB := Hhead.out wB hbB2; obtain ⟨⟨m0, m1, m2, m3, m4, m5⟩, ⟨m6, m7, m8⟩, m9, ma, mb⟩ := HK.out wB hbWB)
            | (go_at_call 39; refine (HI1.out _ (below_drewN hbW _)).mono ?_; rintro e wA ⟨rfl, hbA⟩; have hbA2 := (below_drewN hrfl _).trans hbA; have hbWA := hbW.trans (hbA2.mono hbW.size); have hhA := Hhead.out wA hbA2; obtain ⟨⟨l0, l1, l2, l3, l4, l5⟩, ⟨l6, l7, l8⟩, l9, la', lb⟩ := HK.out wA hbWA)
            | (go_at_call 39; refine (HI2.out _ (below_drewN hbW _)).mono ?_; rintro e wA ⟨rfl, hbA⟩; have hbA2 := (below_drewN hrfl _).trans hbA; have hbWA := hbW.trans (hbA2.mono hbW.size); have hhA := Hhead.out wA hbA2; obtain ⟨⟨l0, l1, l2, l3, l4, l5⟩, ⟨l6, l7, l8⟩, l9, la', lb⟩ := HK.out wA hbWA)
            | fail)
          clear HI2
          go_loop [9, 13] (fun o i => ∃ j : Nat, fi ≤ j ∧ (j ≤ la ∨ j = fi) ∧ i = .int .i64 j ∧ o = .string (S ++ textB ((row.take j).drop fi))) (fun _ i => la - (intOf i).toNat)
          case atStart => exact ⟨fi, Nat.le_refl _, .inr rfl, rfl, by rw [Hfirst.out, ba_nil]⟩
          case round =>
            obtain ⟨j, hj1, hj2, rfl, rfl⟩ := hrel
            have HJ2 := hide hj2
            clear hj2
            have hgz := HGz.out j
            by_cases hjl : j < la
            · have hjr : j < row.length := by rw [Hrl.out]; omega
              have hjI : (j : Int) < (la : Int) := by omega
              obtain ⟨bk, off, he, hbb, c0, c1', c2⟩ := (Hd2.out.below (GlAt.stays _) hbA2).get hjr
              subst he
              have Hnx := hide (Hpart.out j hj1 hjr)
              have hgt := Hgl2.out _ (List.getElem_mem hjr)
              obtain ⟨⟨gt, gw, gs⟩, hx⟩ : ∃ x, row[j] = x := ⟨_, rfl⟩
              rw [hx] at c0 c1' c2 Hnx hgt
              dsimp only at c0 c1' c2 hgt
              obtain ⟨X, hX⟩ : ∃ X, textB ((row.take j).drop fi) = X := ⟨_, rfl⟩
              rw [hX] at Hnx hgz ⊢
              clear hx hX
              have hcat : (S ++ X).size + gt.size ≤ 9223372036854775807 := by rw [ByteArray.size_append]; omega
              go_wp2
              go_round
              case rel => exact ⟨j + 1, by omega, .inl (by omega), by go_num, by rw [Hnx.out, ← ba_assoc]⟩
              case measure => simp [intOf]; omega
            · have Hend := hide (Hpast.out j hj1 HJ2.out (by omega))
              rw [Hend.out] at hgz ⊢
              obtain ⟨X, hX⟩ : ∃ X, textB ((row.take la).drop fi) = X := ⟨_, rfl⟩
              rw [hX] at hgz Hmid Hlast ⊢
              clear hX
              have hnls : (⟨#[10]⟩ : ByteArray).size = 1 := rfl
              have hcat : (S ++ X).size + (⟨#[10]⟩ : ByteArray).size ≤ 9223372036854775807 := by rw [ByteArray.size_append, hnls]; omega
              have hcat1 : (S ++ X).size + 1 ≤ 9223372036854775807 := by rw [ByteArray.size_append]; omega
              clear hnls
              go_wp2
              go_roundw
              case rel =>
                refine ⟨k + 1, y + 1, by omega, by rw [Hyk.out]; rfl, by go_num, ?_, ?_⟩
                · rw [Hmid.out E3.out]
                · exact hbo.trans (hbA2.mono hbo.size)
              case measure => simp [intOf]; omega
        · have HI1 := hide (fun w1 hb1 => HIy.out w1 hb1 pc (by omega) hpc1)
          have HI2 := hide (fun w1 hb1 => HIy.out w1 hb1 qc (by omega) hqc1)
          try rw [← g1] at HI1
          try rw [← g2] at HI2
          have G1 := hide g1
          have G2 := hide g2
          have E3 := hide e3
          clear g1 g2 e3 Hfi Hla HIy
          obtain rfl : fi = 0 := G1.out
          clear HI1
          have hrfl := Below.refl wo.heap.size wo
          go_wp2
          go_quiet (fail)
          go_wp2_with (first
            | (go_at_call 39; refine (HI2.out wA hbWA).mono ?_; rintro e wB ⟨rfl, hbB⟩; have hbB2 := hbA2.trans (hbB.mono hbA2.size); have hbWB := hbW.trans (hbB2.mono hbW.size); have hhB := Hhead.out wB hbB2; obtain ⟨⟨m0, m1, m2, m3, m4, m5⟩, ⟨m6, m7, m8⟩, m9, ma, mb⟩ := HK.out wB hbWB)
            | (go_at_call 39; refine (HI1.out _ (below_drewN hbW _)).mono ?_; rintro e wA ⟨rfl, hbA⟩; have hbA2 := (below_drewN hrfl _).trans hbA; have hbWA := hbW.trans (hbA2.mono hbW.size); have hhA := Hhead.out wA hbA2; obtain ⟨⟨l0, l1, l2, l3, l4, l5⟩, ⟨l6, l7, l8⟩, l9, la', lb⟩ := HK.out wA hbWA)
            | (go_at_call 39; refine (HI2.out _ (below_drewN hbW _)).mono ?_; rintro e wA ⟨rfl, hbA⟩; have hbA2 := (below_drewN hrfl _).trans hbA; have hbWA := hbW.trans (hbA2.mono hbW.size); have hhA := Hhead.out wA hbA2; obtain ⟨⟨l0, l1, l2, l3, l4, l5⟩, ⟨l6, l7, l8⟩, l9, la', lb⟩ := HK.out wA hbWA)
            | fail)
          clear HI2
          go_loop [9, 13] (fun o i => ∃ j : Nat, 0 ≤ j ∧ (j ≤ la ∨ j = 0) ∧ i = .int .i64 j ∧ o = .string (S ++ textB ((row.take j).drop 0))) (fun _ i => la - (intOf i).toNat)
          case atStart => exact ⟨0, Nat.le_refl _, .inr rfl, rfl, by rw [Hfirst.out, ba_nil]⟩
          case round =>
            obtain ⟨j, hj1, hj2, rfl, rfl⟩ := hrel
            have HJ2 := hide hj2
            clear hj2
            have hgz := HGz.out j
            by_cases hjl : j < la
            · have hjr : j < row.length := by rw [Hrl.out]; omega
              have hjI : (j : Int) < (rl : Int) := by omega
              obtain ⟨bk, off, he, hbb, c0, c1', c2⟩ := (Hd2.out.below (GlAt.stays _) hbA2).get hjr
              subst he
              have Hnx := hide (Hpart.out j hj1 hjr)
              have hgt := Hgl2.out _ (List.getElem_mem hjr)
              obtain ⟨⟨gt, gw, gs⟩, hx⟩ : ∃ x, row[j] = x := ⟨_, rfl⟩
              rw [hx] at c0 c1' c2 Hnx hgt
              dsimp only at c0 c1' c2 hgt
              obtain ⟨X, hX⟩ : ∃ X, textB ((row.take j).drop 0) = X := ⟨_, rfl⟩
              rw [hX] at Hnx hgz ⊢
              clear hx hX
              have hcat : (S ++ X).size + gt.size ≤ 9223372036854775807 := by rw [ByteArray.size_append]; omega
              go_wp2
              go_round
              case rel => exact ⟨j + 1, by omega, .inl (by omega), by go_num, by rw [Hnx.out, ← ba_assoc]⟩
              case measure => simp [intOf]; omega
            · have Hend := hide (Hpast.out j hj1 HJ2.out (by omega))
              rw [Hend.out] at hgz ⊢
              obtain ⟨X, hX⟩ : ∃ X, textB ((row.take la).drop 0) = X := ⟨_, rfl⟩
              rw [hX] at hgz Hmid Hlast ⊢
              clear hX
              have hnls : (⟨#[10]⟩ : ByteArray).size = 1 := rfl
              have hcat : (S ++ X).size + (⟨#[10]⟩ : ByteArray).size ≤ 9223372036854775807 := by rw [ByteArray.size_append, hnls]; omega
              have hcat1 : (S ++ X).size + 1 ≤ 9223372036854775807 := by rw [ByteArray.size_append]; omega
              clear hnls
              go_wp2
              go_roundw
              case rel =>
                refine ⟨k + 1, y + 1, by omega, by rw [Hyk.out]; rfl, by go_num, ?_, ?_⟩
                · rw [Hlast.out E3.out]
                · exact hbo.trans (hbA2.mono hbo.size)
              case measure => simp [intOf]; omega
        · have HI1 := hide (fun w1 hb1 => HIy.out w1 hb1 pc (by omega) hpc1)
          have HI2 := hide (fun w1 hb1 => HIy.out w1 hb1 qc (by omega) hqc1)
          try rw [← g1] at HI1
          try rw [← g2] at HI2
          have G1 := hide g1
          have G2 := hide g2
          have E3 := hide e3
          clear g1 g2 e3 Hfi Hla HIy
          obtain rfl : fi = 0 := G1.out
          clear HI1
          obtain rfl : la = rl := G2.out
          have hrfl := Below.refl wo.heap.size wo
          go_wp2
          go_quiet (fail)
          go_wp2_with (first
            | (go_at_call 39; refine (HI2.out wA hbWA).mono ?_; rintro e wB ⟨rfl, hbB⟩; have hbB2 := hbA2.trans (hbB.mono hbA2.size); have hbWB := hbW.trans (hbB2.mono hbW.size); have hhB := Hhead.out wB hbB2; obtain ⟨⟨m0, m1, m2, m3, m4, m5⟩, ⟨m6, m7, m8⟩, m9, ma, mb⟩ := HK.out wB hbWB)
            | (go_at_call 39; refine (HI1.out _ (below_drewN hbW _)).mono ?_; rintro e wA ⟨rfl, hbA⟩; have hbA2 := (below_drewN hrfl _).trans hbA; have hbWA := hbW.trans (hbA2.mono hbW.size); have hhA := Hhead.out wA hbA2; obtain ⟨⟨l0, l1, l2, l3, l4, l5⟩, ⟨l6, l7, l8⟩, l9, la', lb⟩ := HK.out wA hbWA)
            | (go_at_call 39; refine (HI2.out _ (below_drewN hbW _)).mono ?_; rintro e wA ⟨rfl, hbA⟩; have hbA2 := (below_drewN hrfl _).trans hbA; have hbWA := hbW.trans (hbA2.mono hbW.size); have hhA := Hhead.out wA hbA2; obtain ⟨⟨l0, l1, l2, l3, l4, l5⟩, ⟨l6, l7, l8⟩, l9, la', lb⟩ := HK.out wA hbWA)
            | fail)
          clear HI2
          go_loop [9, 13] (fun o i => ∃ j : Nat, 0 ≤ j ∧ (j ≤ la ∨ j = 0) ∧ i = .int .i64 j ∧ o = .string (S ++ textB ((row.take j).drop 0))) (fun _ i => la - (intOf i).toNat)
          case atStart => exact ⟨0, Nat.le_refl _, .inr rfl, rfl, by rw [Hfirst.out, ba_nil]⟩
          case round =>
            obtain ⟨j, hj1, hj2, rfl, rfl⟩ := hrel
            have HJ2 := hide hj2
            clear hj2
            have hgz := HGz.out j
            by_cases hjl : j < la
            · have hjr : j < row.length := by rw [Hrl.out]; omega
              have hjI : (j : Int) < (la : Int) := by omega
              obtain ⟨bk, off, he, hbb, c0, c1', c2⟩ := Hd2.out.get hjr
              subst he
              have Hnx := hide (Hpart.out j hj1 hjr)
              have hgt := Hgl2.out _ (List.getElem_mem hjr)
              obtain ⟨⟨gt, gw, gs⟩, hx⟩ : ∃ x, row[j] = x := ⟨_, rfl⟩
              rw [hx] at c0 c1' c2 Hnx hgt
              dsimp only at c0 c1' c2 hgt
              obtain ⟨X, hX⟩ : ∃ X, textB ((row.take j).drop 0) = X := ⟨_, rfl⟩
              rw [hX] at Hnx hgz ⊢
              clear hx hX
              have hcat : (S ++ X).size + gt.size ≤ 9223372036854775807 := by rw [ByteArray.size_append]; omega
              go_wp2
              go_round
              case rel => exact ⟨j + 1, by omega, .inl (by omega), by go_num, by rw [Hnx.out, ← ba_assoc]⟩
              case measure => simp [intOf]; omega
            · have Hend := hide (Hpast.out j hj1 HJ2.out (by omega))
              rw [Hend.out] at hgz ⊢
              obtain ⟨X, hX⟩ : ∃ X, textB ((row.take la).drop 0) = X := ⟨_, rfl⟩
              rw [hX] at hgz Hmid Hlast ⊢
              clear hX
              have hnls : (⟨#[10]⟩ : ByteArray).size = 1 := rfl
              have hcat : (S ++ X).size + (⟨#[10]⟩ : ByteArray).size ≤ 9223372036854775807 := by rw [ByteArray.size_append, hnls]; omega
              have hcat1 : (S ++ X).size + 1 ≤ 9223372036854775807 := by rw [ByteArray.size_append]; omega
              clear hnls
              go_wp2
              go_roundw
              case rel =>
                refine ⟨k + 1, y + 1, by omega, by rw [Hyk.out]; rfl, by go_num, ?_, ?_⟩
                · rw [Hmid.out E3.out]
                · exact below_drewN hbo _
              case measure => simp [intOf]; omega
      · obtain rfl : k = n := by omega
        have hge : ¬ (y : Int) ≤ qr := by omega
        have HF2 := hide (show outT (lineB v pr pc qr qc) a k k = T by unfold outT; rw [if_neg (Nat.lt_irrefl _), Hfin.out])
        obtain ⟨⟨x0, x1, x2, x3, x4, x5⟩, ⟨y0, y1, y2⟩, z0, z1, z2⟩ := HK.out wo hbW
        clear hyk hqy
        go_wp2
        go_ret2
        exact ⟨tuple_si HF2.out rfl, Hbox.out.trans (hbW.mono Hbox.out.size)⟩
end Go.Proofs.YtmloijhdibicdaaDoor
