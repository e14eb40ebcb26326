/- Joined: K8, K9. -/
import Derived.Test.YtdkppdjonlldhaaGreatDoorK7
import Derived.Test.YtdkppdjonlldhaaGreatDoorV12
import Derived.Test.YtdkppdjonlldhaaGreatDoorV11
/- Chapter 45: clipping.Between and clipping.Lines. -/
namespace Go.Proofs.YtdkppdjonlldhaaGreatDoor
open Go.RowKit Go.Shelf

theorem boxes3 (w : World) (v : Vw) (A : Option Addr) (c : Nat) (p q : Pl) : ∃ W, W = ((w.alloc (.cells #[.int .i64 v.width, .int .i64 v.height, .slice A v.rows.length c, .int .i64 v.row, .int .i64 v.col, .bool v.visible] 24)).alloc (.cells #[.int .i64 p.upd, .int .i64 p.row, .int .i64 p.col] 39)).alloc (.cells #[.int .i64 q.upd, .int .i64 q.row, .int .i64 q.col] 39) ∧
    Below w.heap.size w W ∧ W.heap.size = w.heap.size + 1 + 1 + 1 ∧ VwBox W w.heap.size v A c ∧ PlBox W (w.heap.size + 1) p ∧ PlBox W (w.heap.size + 1 + 1) q := by
  obtain ⟨W1, hW1⟩ : ∃ W1, w.alloc (.cells #[.int .i64 v.width, .int .i64 v.height, .slice A v.rows.length c, .int .i64 v.row, .int .i64 v.col, .bool v.visible] 24) = W1 := ⟨_, rfl⟩
  have hb1 : Below w.heap.size w W1 := by rw [← hW1]; exact (Below.refl w.heap.size w).alloc (Nat.le_refl _) _
  have hv1 : VwBox W1 w.heap.size v A c := by rw [← hW1]; exact block_new w _
  have hs1 : W1.heap.size = w.heap.size + 1 := by rw [← hW1]; simp
  have hp2 := block_new W1 (.cells #[.int .i64 p.upd, .int .i64 p.row, .int .i64 p.col] 39)
  obtain ⟨W2, hW2⟩ : ∃ W2, W1.alloc (.cells #[.int .i64 p.upd, .int .i64 p.row, .int .i64 p.col] 39) = W2 := ⟨_, rfl⟩
  have hb2 : Below w.heap.size w W2 := by rw [← hW2]; exact hb1.alloc hb1.size _
  have hs2 : W2.heap.size = w.heap.size + 1 + 1 := by rw [← hW2]; simp [hs1]
  have hv2 : VwBox W2 w.heap.size v A c := by rw [← hW2]; exact block_alloc hv1 _
  rw [hW2, hs1] at hp2
  refine ⟨_, rfl, ?_, ?_, ?_, ?_, ?_⟩
  · rw [hW1, hW2]; exact hb2.alloc hb2.size _
  · rw [hW1, hW2]; simp [hs2]
  · rw [hW1, hW2]; exact block_alloc hv2 _
  · rw [hW1, hW2]; exact block_alloc hp2 _
  · rw [hW1, hW2]
    have := block_new W2 (.cells #[.int .i64 q.upd, .int .i64 q.row, .int .i64 q.col] 39)
    rw [hs2] at this
    exact this

/-- The ways through the tests of Between. -/
def BetWays (v : Vw) (fr fc tr tc : Int) : Prop :=
  ((v.err != 0) = true ∧ betE v fr fc tr tc = v.err ∧ betT v fr fc tr tc = ⟨#[]⟩) ∨
  (v.err = 0 ∧ posB v fr fc = false ∧ betE v fr fc tr tc = 2 ∧ betT v fr fc tr tc = ⟨#[]⟩) ∨
  (v.err = 0 ∧ posB v fr fc = true ∧ posB v tr tc = false ∧ betE v fr fc tr tc = 2 ∧ betT v fr fc tr tc = ⟨#[]⟩) ∨
  (v.err = 0 ∧ posB v fr fc = true ∧ posB v tr tc = true ∧ tr < fr ∧ betE v fr fc tr tc = 10 ∧ betT v fr fc tr tc = ⟨#[]⟩) ∨
  (v.err = 0 ∧ posB v fr fc = true ∧ posB v tr tc = true ∧ ¬ tr < fr ∧ (tr == fr) = true ∧ tc < fc ∧ betE v fr fc tr tc = 10 ∧ betT v fr fc tr tc = ⟨#[]⟩) ∨
  (v.err = 0 ∧ posB v fr fc = true ∧ posB v tr tc = true ∧ ¬ tr < fr ∧ (tr == fr) = true ∧ ¬ tc < fc ∧ betE v fr fc tr tc = 0) ∨
  (v.err = 0 ∧ posB v fr fc = true ∧ posB v tr tc = true ∧ ¬ tr < fr ∧ (tr == fr) = false ∧ betE v fr fc tr tc = 0)
theorem betT_no {v : Vw} {fr fc tr tc : Int} (h : betE v fr fc tr tc ≠ 0) : betT v fr fc tr tc = ⟨#[]⟩ := by unfold betT; rw [if_neg h]
theorem betWays (v : Vw) (fr fc tr tc : Int) : BetWays v fr fc tr tc := by
  have hT := @betT_no v fr fc tr tc
  have e : betE v fr fc tr tc = betE v fr fc tr tc := rfl
  conv at e => rhs; unfold betE
  unfold BetWays
  by_cases h0 : v.err = 0
  · right
    rw [if_neg (by simp [h0])] at e
    cases h1 : posB v fr fc with
    | false =>
      rw [if_pos h1] at e
      exact .inl ⟨h0, rfl, e, hT (by omega)⟩
    | true =>
      right
      rw [if_neg (by simp [h1])] at e
      cases h2 : posB v tr tc with
      | false =>
        rw [if_pos h2] at e
        exact .inl ⟨h0, rfl, rfl, e, hT (by omega)⟩
      | true =>
        right
        rw [if_neg (by simp [h2])] at e
        by_cases h3 : tr < fr
        · rw [if_pos h3] at e
          exact .inl ⟨h0, rfl, rfl, h3, e, hT (by omega)⟩
        · right
          rw [if_neg h3] at e
          by_cases h4 : tr = fr
          · by_cases h5 : tc < fc
            · rw [if_pos ⟨h4, h5⟩] at e
              exact .inl ⟨h0, rfl, rfl, h3, by simpa using h4, h5, e, hT (by omega)⟩
            · rw [if_neg (by omega)] at e
              exact .inr (.inl ⟨h0, rfl, rfl, h3, by simpa using h4, h5, e⟩)
          · rw [if_neg (by omega)] at e
            exact .inr (.inr ⟨h0, rfl, rfl, h3, by simpa using h4, e⟩)
  · rw [if_pos h0] at e
    exact .inl ⟨by simpa using h0, e, hT (by omega)⟩

theorem lineB_size {v : Vw} (h : v.Tame) (fr fc tr tc : Int) (y : Nat) (hy : y < v.rows.length) : (lineB v fr fc tr tc y).size ≤ 1000000 := by
  obtain ⟨h1, h2⟩ := rowOf_tame h hy
  unfold lineB
  obtain ⟨l, hl⟩ : ∃ l, ((rowOf v y).take (if (y : Int) = tr then cidx (rowOf v y) tc else (rowOf v y).length)).drop (if (y : Int) = fr then cidx (rowOf v y) fc else 0) = l := ⟨_, rfl⟩
  rw [hl]
  have hll : l.length ≤ 140 := by rw [← hl, List.length_drop, List.length_take]; omega
  have := textB_size l (fun g hg => by
    rw [← hl] at hg
    have := h2 g (List.mem_of_mem_take (List.mem_of_mem_drop hg))
    omega) l.length (Nat.le_refl _)
  rw [List.take_length] at this
  omega
theorem tuple_si {s s' : ByteArray} {k : IntKind} {n n' : Int} (h1 : s = s') (h2 : n = n') : Ending.returned (.tuple #[.string s, .int k n]) = .returned (.tuple #[.string s', .int k n']) := by rw [h1, h2]

set_option maxRecDepth 100000 in
set_option maxHeartbeats 1000000 in
theorem betweenP (w : World) (A : Option Addr) (c : Nat) (v : Vw) (p q : Pl) (h : Rows2 w w.heap.size A v.rows) (ht : v.Tame) (hT : Tabs w) :
    Calls Tryz.prog 11 #[v.val A c, p.val, q.val] w fun e w' => e = .returned (.tuple #[.string (betT v p.row p.col q.row q.col), .int .i64 (betE v p.row p.col q.row q.col)]) ∧ Below w.heap.size w w' := by
  obtain ⟨W0, hW0, hbox, hs0, hvb, hpb, hqb⟩ := boxes3 w v A c p q
  have HC := hide (checkV W0 A c v ((h.below hbox).more hbox.size) ht (hT.below hbox))
  have HP := hide (fun W1 r k => positionP W1 A c v r k)
  have HK := hide (fun w1 (hb1 : Below W0.heap.size W0 w1) => And.intro (hvb.below hb1 (by omega)).cells (And.intro (hpb.below hb1 (by omega)).cells (hqb.below hb1 (by omega)).cells))
  have HL := hide (fun w1 (hb1 : Below W0.heap.size W0 w1) (y : Nat) (hy : y < v.rows.length) h0 h1 h2 h3 => between1P w1 w.heap.size (w.heap.size + 1) (w.heap.size + 1 + 1) v A c p q (hvb.below hb1 (by omega)) (hpb.below hb1 (by omega)) (hqb.below hb1 (by omega)) ((h.below (hbox.trans (hb1.mono hbox.size))).more (hbox.trans (hb1.mono hbox.size)).size) ht y hy h0 h1 h2 h3)
  have HSz := hide (fun fr fc tr tc y (hy : y < v.rows.length) => lineB_size ht fr fc tr tc y hy)
  have hways := betWays v p.row p.col q.row q.col
  have Hok := hide (fun (h0 : v.err = 0) => (Vw.proper (show v.ok = true by unfold Vw.ok; rw [h0]; rfl)))
  obtain ⟨⟨k0, k1, k2, k3, k4, k5⟩, ⟨p0, p1, p2⟩, q0, q1, q2⟩ := HK.out W0 (Below.refl _ _)
  have HW0 := hide hW0
  have Hbox := hide hbox
  have Hs0 := hide hs0
  have h12 := ht.1
  clear h ht hT hbox hs0 hvb hpb hqb
  subst hW0
  unfold Vw.val at HC HP ⊢
  unfold Pl.val
  obtain ⟨pu, pr, pc⟩ := p
  obtain ⟨qu, qr, qc⟩ := q
  dsimp only at *
  obtain ⟨E, hE⟩ : ∃ E, betE v pr pc qr qc = E := ⟨_, rfl⟩
  obtain ⟨T, hT⟩ : ∃ T, betT v pr pc qr qc = T := ⟨_, rfl⟩
  have Hdef := hide (show E = 0 → T = joinN (linesFrom (lineB v pr pc qr qc) pr.toNat (qr + 1 - pr).toNat) by rw [← hE, ← hT]; intro h0; unfold betT; rw [if_pos h0])
  unfold BetWays at hways
  rw [hE, hT] at hways ⊢
  clear hE hT
  have hve : ∀ {e : Int}, v.err = e → True := fun _ => trivial
  clear hve
  rcases hways with ⟨he, rfl, rfl⟩ | ⟨he, hp1, rfl, rfl⟩ | ⟨he, hp1, hp2, rfl, rfl⟩ | ⟨he, hp1, hp2, h3, rfl, rfl⟩ | ⟨he, hp1, hp2, h3, h4, h5, rfl, rfl⟩ | ⟨he, hp1, hp2, h3, h4, h5, rfl⟩ | ⟨he, hp1, hp2, h3, h4, rfl⟩
  · obtain ⟨V, hV⟩ : ∃ V, v.err = V := ⟨_, rfl⟩
    rw [hV] at he HC ⊢
    clear hV HP HL HK HSz Hok Hdef
    go_enter Tryz.func11, Tryz.ntmps11
    go_wp2_with (go_at_call 6; refine HC.out.mono ?_; rintro e w1 ⟨rfl, hb1⟩; have hbw := Hbox.out.trans (hb1.mono Hbox.out.size))
    go_ret2
    exact ⟨rfl, hbw⟩
  all_goals
    have Hpr := hide (Hok.out he)
    rw [he] at HC
    have HP1 := hide (fun W1 => HP.out W1 pr pc)
    have HP2 := hide (fun W1 => HP.out W1 qr qc)
    simp only [hp1] at HP1
    clear he Hok HP
  · clear HP2 HL HSz Hdef Hpr hp1
    go_enter Tryz.func11, Tryz.ntmps11
    go_wp2_with (first
      | (go_at_call 6; refine HC.out.mono ?_; rintro e w1 ⟨rfl, hb1⟩; obtain ⟨⟨x0, x1, x2, x3, x4, x5⟩, ⟨y0, y1, y2⟩, z0, z1, z2⟩ := HK.out w1 hb1)
      | (go_at_call 24; refine (HP1.out _).mono ?_; rintro e w2 ⟨rfl, hb2'⟩; have hb2 := hb1.trans (hb2'.mono hb1.size); obtain ⟨⟨u0, u1, u2, u3, u4, u5⟩, ⟨r0, r1, r2⟩, s0, s1, s2⟩ := HK.out w2 hb2)
      | fail)
    go_ret2
    exact ⟨rfl, Hbox.out.trans (hb2.mono Hbox.out.size)⟩
  all_goals
    simp only [hp2] at HP2
  · clear HL HSz Hdef Hpr hp1 hp2
    go_enter Tryz.func11, Tryz.ntmps11
    go_wp2_with (first
      | (go_at_call 6; refine HC.out.mono ?_; rintro e w1 ⟨rfl, hb1⟩; obtain ⟨⟨x0, x1, x2, x3, x4, x5⟩, ⟨y0, y1, y2⟩, z0, z1, z2⟩ := HK.out w1 hb1)
      | (go_at_call 24; refine (HP2.out w2).mono ?_; rintro e w3 ⟨rfl, hb3'⟩; have hb3 := hb2.trans (hb3'.mono hb2.size); obtain ⟨⟨t0, t1, t2, t3, t4, t5⟩, ⟨a0, a1, a2⟩, b0, b1, b2⟩ := HK.out w3 hb3)
      | (go_at_call 24; refine (HP1.out _).mono ?_; rintro e w2 ⟨rfl, hb2'⟩; have hb2 := hb1.trans (hb2'.mono hb1.size); obtain ⟨⟨u0, u1, u2, u3, u4, u5⟩, ⟨r0, r1, r2⟩, s0, s1, s2⟩ := HK.out w2 hb2)
      | fail)
    go_ret2
    exact ⟨rfl, Hbox.out.trans (hb3.mono Hbox.out.size)⟩
  iterate 2
    · clear HL HSz Hdef Hpr hp1 hp2
      go_enter Tryz.func11, Tryz.ntmps11
      go_wp2_with (first
        | (go_at_call 6; refine HC.out.mono ?_; rintro e w1 ⟨rfl, hb1⟩; obtain ⟨⟨x0, x1, x2, x3, x4, x5⟩, ⟨y0, y1, y2⟩, z0, z1, z2⟩ := HK.out w1 hb1)
        | (go_at_call 24; refine (HP2.out w2).mono ?_; rintro e w3 ⟨rfl, hb3'⟩; have hb3 := hb2.trans (hb3'.mono hb2.size); obtain ⟨⟨t0, t1, t2, t3, t4, t5⟩, ⟨a0, a1, a2⟩, b0, b1, b2⟩ := HK.out w3 hb3)
        | (go_at_call 24; refine (HP1.out _).mono ?_; rintro e w2 ⟨rfl, hb2'⟩; have hb2 := hb1.trans (hb2'.mono hb1.size); obtain ⟨⟨u0, u1, u2, u3, u4, u5⟩, ⟨r0, r1, r2⟩, s0, s1, s2⟩ := HK.out w2 hb2)
        | fail)
      go_ret2
      exact ⟨rfl, Hbox.out.trans (hb3.mono Hbox.out.size)⟩
  all_goals
    obtain ⟨g1, g2, g3, g4⟩ := posB_of hp1
    obtain ⟨g5, g6, g7, g8⟩ := posB_of hp2
    have hw2 := Hpr.out.w2
    have hh2 := Hpr.out.h2
    have hlen := Hpr.out.len
    obtain ⟨a, rfl⟩ : ∃ a : Nat, pr = a := ⟨pr.toNat, by omega⟩
    have hdef := Hdef.out rfl
    rw [Int.toNat_natCast] at hdef
    obtain ⟨n, hn⟩ : ∃ n, (qr + 1 - (a : Int)).toNat = n := ⟨_, rfl⟩
    rw [hn] at hdef
    have hqn : qr + 1 = ((a + n : Nat) : Int) := by omega
    have HCol := hide (fun w3 (hb3 : Below _ _ w3) => collectP w3 a n (qr + 1) hqn 25 #[.pointer (some ⟨w.heap.size, 0, none⟩), .pointer (some ⟨w.heap.size + 1, 0, none⟩), .pointer (some ⟨w.heap.size + 1 + 1, 0, none⟩)]
      (enters_of Tryz.func25 (by kernel_rfl) rfl) (lineB v a pc qr qc) (by omega) (fun k hk => HSz.out a pc qr qc (a + k) (by omega))
      (fun k W hk hbW => by
        have := HL.out W (hb3.trans (hbW.mono hb3.size)) (a + k) (by omega) (by omega) (by omega) (by omega) (by omega)
        rw [Int.natCast_add] at this
        exact this))
    rw [← hdef] at HCol
    clear hdef hn Hdef HL HSz Hpr hp1 hp2 hlen hqn
    go_enter Tryz.func11, Tryz.ntmps11
    go_wp2_with (first
      | (go_at_call 6; refine HC.out.mono ?_; rintro e w1 ⟨rfl, hb1⟩; obtain ⟨⟨x0, x1, x2, x3, x4, x5⟩, ⟨y0, y1, y2⟩, z0, z1, z2⟩ := HK.out w1 hb1)
      | (go_at_call 24; refine (HP2.out w2).mono ?_; rintro e w3 ⟨rfl, hb3'⟩; have hb3 := hb2.trans (hb3'.mono hb2.size); obtain ⟨⟨t0, t1, t2, t3, t4, t5⟩, ⟨a0, a1, a2⟩, b0, b1, b2⟩ := HK.out w3 hb3)
      | (go_at_call 24; refine (HP1.out _).mono ?_; rintro e w2 ⟨rfl, hb2'⟩; have hb2 := hb1.trans (hb2'.mono hb1.size); obtain ⟨⟨u0, u1, u2, u3, u4, u5⟩, ⟨r0, r1, r2⟩, s0, s1, s2⟩ := HK.out w2 hb2)
      | (go_at_call 22; refine (HCol.out w3 hb3).mono ?_; rintro e w4 ⟨rfl, hb4⟩; have hb5 := hb3.trans (hb4.mono hb3.size))
      | fail)
    go_ret2
    exact ⟨rfl, Hbox.out.trans (hb5.mono Hbox.out.size)⟩
end Go.Proofs.YtdkppdjonlldhaaGreatDoor

/- Chapter 45: Lines. -/
namespace Go.Proofs.YtdkppdjonlldhaaGreatDoor
open Go.RowKit Go.Shelf

theorem textB_size0 {l : List Gl} (hl : l.length ≤ 140) (h : ∀ g ∈ l, g.text.size ≤ 40) : (textB l).size ≤ 100000 := by
  have := textB_size l (fun g hg => by have := h g hg; omega) l.length (Nat.le_refl _)
  rw [List.take_length] at this
  omega
theorem lines1P (w : World) (bv : Nat) (v : Vw) (A : Option Addr) (c : Nat) (hv : VwBox w bv v A c) (hrows : Rows2 w w.heap.size A v.rows) (htame : v.Tame) (y : Nat) (hy : y < v.rows.length) :
    Calls Tryz.prog 23 #[.int .i64 y, .pointer (some ⟨bv, 0, none⟩)] w fun e w' => e = .returned (.string (textB (rowOf v y))) ∧ Below w.heap.size w w' := by
  obtain ⟨bR, oR, rfl, hbR, A1, c1, d0, d1, d2⟩ := hrows.get1 hy
  obtain ⟨hl1, hl2⟩ := rowOf_tame htame hy
  rw [rowOf_get hy] at d0 d1 d2
  have HT := hide (textVP w A1 c1 (rowOf v y) d2 (by omega) (fun g hg => by have := hl2 g hg; omega))
  have k2 := hv.cells.2.2.1
  have hyI : (y : Int) < (v.rows.length : Int) := by omega
  have hy12 : y < 12 := by have := htame.1; omega
  obtain ⟨rl, hrl⟩ : ∃ rl, (rowOf v y).length = rl := ⟨_, rfl⟩
  rw [hrl] at HT d0
  clear hrl d1 d2 hl1 hl2 hy hv hrows htame
  go_enter Tryz.func23, Tryz.ntmps23
  go_wp2_with (go_at_call 21; refine HT.out.mono ?_; rintro e w1 ⟨rfl, hb1⟩)
  go_ret
  exact ⟨rfl, hb1⟩

/-- The ways through the tests of Lines. -/
def LinWays (v : Vw) (a b : Int) : Prop :=
  ((v.err != 0) = true ∧ linE v a b = v.err ∧ linT v a b = ⟨#[]⟩) ∨
  (v.err = 0 ∧ a < 0 ∧ linE v a b = 2 ∧ linT v a b = ⟨#[]⟩) ∨
  (v.err = 0 ∧ 0 ≤ a ∧ b < a ∧ linE v a b = 2 ∧ linT v a b = ⟨#[]⟩) ∨
  (v.err = 0 ∧ 0 ≤ a ∧ a ≤ b ∧ v.height < b ∧ linE v a b = 2 ∧ linT v a b = ⟨#[]⟩) ∨
  (v.err = 0 ∧ 0 ≤ a ∧ a ≤ b ∧ b ≤ v.height ∧ linE v a b = 0)
theorem linWays (v : Vw) (a b : Int) : LinWays v a b := by
  have hT : linE v a b ≠ 0 → linT v a b = ⟨#[]⟩ := fun h => by unfold linT; rw [if_neg h]
  have e : linE v a b = linE v a b := rfl
  conv at e => rhs; unfold linE
  unfold LinWays
  by_cases h0 : v.err = 0
  · right
    rw [if_neg (by simp [h0])] at e
    by_cases h1 : a < 0
    · rw [if_pos h1] at e; exact .inl ⟨h0, h1, e, hT (by omega)⟩
    · right
      rw [if_neg h1] at e
      by_cases h2 : b < a
      · rw [if_pos h2] at e; exact .inl ⟨h0, by omega, h2, e, hT (by omega)⟩
      · right
        rw [if_neg h2] at e
        by_cases h3 : v.height < b
        · rw [if_pos h3] at e; exact .inl ⟨h0, by omega, by omega, h3, e, hT (by omega)⟩
        · rw [if_neg h3] at e; exact .inr ⟨h0, by omega, by omega, by omega, e⟩
  · rw [if_pos h0] at e
    exact .inl ⟨by simpa using h0, e, hT (by omega)⟩

set_option maxRecDepth 100000 in
set_option maxHeartbeats 1000000 in
theorem linesP (w : World) (A : Option Addr) (c : Nat) (v : Vw) (a b : Int) (h : Rows2 w w.heap.size A v.rows) (ht : v.Tame) (hT : Tabs w) :
    Calls Tryz.prog 10 #[v.val A c, .int .i64 a, .int .i64 b] w fun e w' => e = .returned (.tuple #[.string (linT v a b), .int .i64 (linE v a b)]) ∧ Below w.heap.size w w' := by
  have hbox := (Below.refl w.heap.size w).alloc (Nat.le_refl _) (.cells #[.int .i64 v.width, .int .i64 v.height, .slice A v.rows.length c, .int .i64 v.row, .int .i64 v.col, .bool v.visible] 24)
  have hvb : VwBox _ w.heap.size v A c := block_new w (.cells #[.int .i64 v.width, .int .i64 v.height, .slice A v.rows.length c, .int .i64 v.row, .int .i64 v.col, .bool v.visible] 24)
  obtain ⟨W0, hW0⟩ : ∃ W0, W0 = w.alloc (.cells #[.int .i64 v.width, .int .i64 v.height, .slice A v.rows.length c, .int .i64 v.row, .int .i64 v.col, .bool v.visible] 24) := ⟨_, rfl⟩
  have hs0 : W0.heap.size = w.heap.size + 1 := by rw [hW0]; simp
  rw [← hW0] at hbox hvb
  have HC := hide (checkV W0 A c v ((h.below hbox).more hbox.size) ht (hT.below hbox))
  have HK := hide (fun w1 (hb1 : Below W0.heap.size W0 w1) => (hvb.below hb1 (by omega)).cells)
  have HL := hide (fun w1 (hb1 : Below W0.heap.size W0 w1) (y : Nat) (hy : y < v.rows.length) => lines1P w1 w.heap.size v A c (hvb.below hb1 (by omega)) ((h.below (hbox.trans (hb1.mono hbox.size))).more (hbox.trans (hb1.mono hbox.size)).size) ht y hy)
  have HSz := hide (fun y (hy : y < v.rows.length) => textB_size0 (rowOf_tame ht hy).1 (rowOf_tame ht hy).2)
  have hways := linWays v a b
  have Hok := hide (fun (h0 : v.err = 0) => (Vw.proper (show v.ok = true by unfold Vw.ok; rw [h0]; rfl)))
  obtain ⟨k0, k1, k2, k3, k4, k5⟩ := HK.out W0 (Below.refl _ _)
  have Hbox := hide hbox
  have Hs0 := hide hs0
  have h12 := ht.1
  clear h ht hT hbox hs0 hvb
  subst hW0
  unfold Vw.val at HC ⊢
  obtain ⟨E, hE⟩ : ∃ E, linE v a b = E := ⟨_, rfl⟩
  obtain ⟨T, hT⟩ : ∃ T, linT v a b = T := ⟨_, rfl⟩
  have Hdef := hide (show E = 0 → T = joinN (linesFrom (fun y => textB (rowOf v y)) a.toNat (b - a).toNat) by rw [← hE, ← hT]; intro h0; unfold linT; rw [if_pos h0])
  unfold LinWays at hways
  rw [hE, hT] at hways ⊢
  clear hE hT
  rcases hways with ⟨he, rfl, rfl⟩ | ⟨he, h1, rfl, rfl⟩ | ⟨he, h1, h2, rfl, rfl⟩ | ⟨he, h1, h2, h3, rfl, rfl⟩ | ⟨he, h1, h2, h3, rfl⟩
  · obtain ⟨V, hV⟩ : ∃ V, v.err = V := ⟨_, rfl⟩
    rw [hV] at he HC ⊢
    clear hV HL HK HSz Hok Hdef
    go_enter Tryz.func10, Tryz.ntmps10
    go_wp2_with (go_at_call 6; refine HC.out.mono ?_; rintro e w1 ⟨rfl, hb1⟩; have hbw := Hbox.out.trans (hb1.mono Hbox.out.size))
    go_ret2
    exact ⟨rfl, hbw⟩
  iterate 3
    · rw [he] at HC
      clear he HL HSz Hok Hdef
      go_enter Tryz.func10, Tryz.ntmps10
      go_wp2_with (go_at_call 6; refine HC.out.mono ?_; rintro e w1 ⟨rfl, hb1⟩; obtain ⟨x0, x1, x2, x3, x4, x5⟩ := HK.out w1 hb1; have hbw := Hbox.out.trans (hb1.mono Hbox.out.size))
      go_ret2
      exact ⟨rfl, hbw⟩
  · have Hpr := hide (Hok.out he)
    rw [he] at HC
    clear he Hok
    have hh2 := Hpr.out.h2
    have hlen := Hpr.out.len
    obtain ⟨a, rfl⟩ : ∃ a' : Nat, a = a' := ⟨a.toNat, by omega⟩
    have hdef := Hdef.out rfl
    rw [Int.toNat_natCast] at hdef
    obtain ⟨n, hn⟩ : ∃ n, (b - (a : Int)).toNat = n := ⟨_, rfl⟩
    rw [hn] at hdef
    have hqn : b = ((a + n : Nat) : Int) := by omega
    have HCol := hide (fun w3 (hb3 : Below _ _ w3) => collectP w3 a n b hqn 23 #[.pointer (some ⟨w.heap.size, 0, none⟩)]
      (enters_of Tryz.func23 (by kernel_rfl) rfl) (fun y => textB (rowOf v y)) (by omega) (fun k hk => by have := HSz.out (a + k) (by omega); omega)
      (fun k W hk hbW => by
        have := HL.out W (hb3.trans (hbW.mono hb3.size)) (a + k) (by omega)
        rw [Int.natCast_add] at this
        exact this))
    rw [← hdef] at HCol
    clear hdef hn Hdef HL HSz Hpr hlen hqn
    go_enter Tryz.func10, Tryz.ntmps10
    go_wp2_with (first
      | (go_at_call 6; refine HC.out.mono ?_; rintro e w1 ⟨rfl, hb1⟩; obtain ⟨x0, x1, x2, x3, x4, x5⟩ := HK.out w1 hb1)
      | (go_at_call 22; refine (HCol.out w1 hb1).mono ?_; rintro e w4 ⟨rfl, hb4⟩; have hb5 := hb1.trans (hb4.mono hb1.size))
      | fail)
    go_ret2
    exact ⟨rfl, Hbox.out.trans (hb5.mono Hbox.out.size)⟩
end Go.Proofs.YtdkppdjonlldhaaGreatDoor
