/- The walk of the law ClippingParts. -/
import Derived.Test.YtbnlnjejdggffaaDoorK17
import Derived.Deep.RegionHeld3
namespace Go.Proofs.YtbnlnjejdggffaaDoor
open Go.RowKit Go.Shelf

theorem betT_size {v : Vw} (ht : v.Tame) {fr fc tr tc : Int} (h : betE v fr fc tr tc = 0) : (betT v fr fc tr tc).size ≤ 100000000 := by
  obtain ⟨h0, h1, h2, h3⟩ := betE_ok h
  obtain ⟨a1, a2, -, -⟩ := posB_of h1
  obtain ⟨b1, b2, -, -⟩ := posB_of h2
  have hp := Vw.proper (show v.ok = true by unfold Vw.ok; rw [h0]; rfl)
  have hlen := hp.len
  have h12 := ht.1
  unfold betT
  rw [if_pos h]
  have := joinN_size (lineB v fr fc tr tc) 1000000 (tr + 1 - fr).toNat fr.toNat fun k hk => lineB_size ht fr fc tr tc _ (by omega)
  have : (tr + 1 - fr).toNat * (1000000 + 1) ≤ 12 * (1000000 + 1) := Nat.mul_le_mul_right _ (by omega)
  omega

theorem bA {a w : World} (h : Below a.heap.size a w) (o : Obj) : Below a.heap.size a (w.alloc o) := h.alloc h.size o
theorem bS {a w : World} (h : Below a.heap.size a w) {p : Addr} (hp : a.heap.size ≤ p.block) (u : Value) : Below a.heap.size a (w.setCell p u) := h.setCell hp u
theorem bD {a w : World} (h : Below a.heap.size a w) : Below a.heap.size a w.drew := h.drew
theorem at4 (W : World) (o1 o2 o3 o4 : Obj) (n : Nat) (hn : W.heap.size = n) : (((((W.alloc o1).alloc o2).alloc o3).alloc o4).drew).heap[n]? = some o1 ∧ (((((W.alloc o1).alloc o2).alloc o3).alloc o4).drew).heap[n + 1]? = some o2 ∧
    (((((W.alloc o1).alloc o2).alloc o3).alloc o4).drew).heap[n + 1 + 1]? = some o3 ∧ (((((W.alloc o1).alloc o2).alloc o3).alloc o4).drew).heap[n + 1 + 1 + 1]? = some o4 := by
  subst hn
  have e1 : ∀ (w : World) (o : Obj), (w.alloc o).heap.size = w.heap.size + 1 := fun w o => by simp
  have a1 := block_new W o1
  have a2 := block_new (W.alloc o1) o2
  have a3 := block_new ((W.alloc o1).alloc o2) o3
  have a4 := block_new (((W.alloc o1).alloc o2).alloc o3) o4
  simp only [e1] at a2 a3 a4
  exact ⟨block_alloc (block_alloc (block_alloc a1 _) _) _, block_alloc (block_alloc a2 _) _, block_alloc a3 _, a4⟩

theorem box15 (x0 x1 x2 x3 x4 x5 x6 x7 x8 x9 x10 x11 x12 x13 x14 : Value) (t : TypeId) (b : Nat) (W2 : World) (h : W2.heap[b]? = some (.cells #[x0, x1, x2, x3, x4, x5, x6, x7, x8, x9, x10, x11, x12, x13, x14] t (0, 0))) :
    W2.cell? ⟨b, 0, none⟩ = some x0 ∧ W2.cell? ⟨b, 1, none⟩ = some x1 ∧ W2.cell? ⟨b, 2, none⟩ = some x2 ∧ W2.cell? ⟨b, 3, none⟩ = some x3 ∧ W2.cell? ⟨b, 4, none⟩ = some x4 ∧ W2.cell? ⟨b, 5, none⟩ = some x5 ∧ W2.cell? ⟨b, 6, none⟩ = some x6 ∧ W2.cell? ⟨b, 7, none⟩ = some x7 ∧
    W2.cell? ⟨b, 8, none⟩ = some x8 ∧ W2.cell? ⟨b, 9, none⟩ = some x9 ∧ W2.cell? ⟨b, 10, none⟩ = some x10 ∧ W2.cell? ⟨b, 11, none⟩ = some x11 ∧ W2.cell? ⟨b, 12, none⟩ = some x12 ∧ W2.cell? ⟨b, 13, none⟩ = some x13 ∧ W2.cell? ⟨b, 14, none⟩ = some x14 :=
  ⟨cell_block h 0, cell_block h 1, cell_block h 2, cell_block h 3, cell_block h 4, cell_block h 5, cell_block h 6, cell_block h 7, cell_block h 8, cell_block h 9, cell_block h 10, cell_block h 11, cell_block h 12, cell_block h 13, cell_block h 14⟩

/-- What the laws of a view and three places ask of the world behind their first statement. -/
def Three4 (W0 W : World) (b3 b4 b5 b6 : Nat) (v : Vw) (A : Option Addr) (c : Nat) (p q r : Pl) : Prop :=
  Below W0.heap.size W0 W ∧ W.heap[b3]? = some (.cells #[.int .i64 v.width, .int .i64 v.height, .slice A v.rows.length c, .int .i64 v.row, .int .i64 v.col, .bool v.visible] 24 (0, 0)) ∧
  W.heap[b4]? = some (.cells #[.int .i64 p.upd, .int .i64 p.row, .int .i64 p.col] 26 (0, 0)) ∧ W.heap[b5]? = some (.cells #[.int .i64 q.upd, .int .i64 q.row, .int .i64 q.col] 26 (0, 0)) ∧ W.heap[b6]? = some (.cells #[.int .i64 r.upd, .int .i64 r.row, .int .i64 r.col] 26 (0, 0))

set_option maxRecDepth 100000 in
set_option maxHeartbeats 8000000 in
theorem partsLawP (w : World) (A : Option Addr) (c : Nat) (v : Vw) (p q r : Pl) (h : Rows2 w w.heap.size A v.rows) (hT : Tabs w) :
    Calls Tryd.prog 3 #[.agg #[.int .i64 v.width, .int .i64 v.height, .slice A v.rows.length c, .int .i64 v.row, .int .i64 v.col, .bool v.visible, .int .i64 p.upd, .int .i64 p.row, .int .i64 p.col, .int .i64 q.upd, .int .i64 q.row, .int .i64 q.col, .int .i64 r.upd, .int .i64 r.row, .int .i64 r.col]] w fun e w' => e = .returned (.bool true) ∧ Below w.heap.size w w' := by
  obtain ⟨W0, hW0⟩ : ∃ W0, w.alloc (.cells #[.int .i64 v.width, .int .i64 v.height, .slice A v.rows.length c, .int .i64 v.row, .int .i64 v.col, .bool v.visible, .int .i64 p.upd, .int .i64 p.row, .int .i64 p.col, .int .i64 q.upd, .int .i64 q.row, .int .i64 q.col, .int .i64 r.upd, .int .i64 r.row, .int .i64 r.col] 28) = W0 := ⟨_, rfl⟩
  have hbw : Below w.heap.size w W0 := by rw [← hW0]; exact (Below.refl _ _).alloc (Nat.le_refl _) _
  have hs0 : W0.heap.size = w.heap.size + 1 := by rw [← hW0]; simp
  have hblk : W0.heap[w.heap.size]? = some (.cells #[.int .i64 v.width, .int .i64 v.height, .slice A v.rows.length c, .int .i64 v.row, .int .i64 v.col, .bool v.visible, .int .i64 p.upd, .int .i64 p.row, .int .i64 p.col, .int .i64 q.upd, .int .i64 q.row, .int .i64 q.col, .int .i64 r.upd, .int .i64 r.row, .int .i64 r.col] 28 (0, 0)) := by rw [← hW0]; exact block_new w _
  have HS := hide (fun (W2 : World) (hb : Below W0.heap.size W0 W2) => box15 _ _ _ _ _ _ _ _ _ _ _ _ _ _ _ _ _ W2 (block_below hblk hb (by omega)))
  have HW0 := hide hW0
  have Hbw := hide hbw
  have Hrows := hide h
  have HTab := hide hT
  clear hW0 hblk h hT hbw
  go_enter Tryd.func3, Tryd.ntmps3
  go_wp2
  rw [HW0.out]
  refine Code.wp_mono (Q := fun e a' w' => e = .normal ∧ ∃ b3 b4 b5 b6, Three4 W0 w' b3 b4 b5 b6 v A c p q r ∧ a' = { tmps := #[.agg #[.int .i64 v.width, .int .i64 v.height, .slice A v.rows.length c, .int .i64 v.row, .int .i64 v.col, .bool v.visible, .int .i64 p.upd, .int .i64 p.row, .int .i64 p.col, .int .i64 q.upd, .int .i64 q.row, .int .i64 q.col, .int .i64 r.upd, .int .i64 r.row, .int .i64 r.col], .pointer (some ⟨w.heap.size, 0, none⟩), .bool false, .pointer (some ⟨b3, 0, none⟩), .pointer (some ⟨b4, 0, none⟩), .pointer (some ⟨b5, 0, none⟩), .pointer (some ⟨b6, 0, none⟩), undef, undef, undef, undef, undef, undef, .pointer (some ⟨w.heap.size, 0, none⟩), .agg #[.int .i64 v.width, .int .i64 v.height, .slice A v.rows.length c, .int .i64 v.row, .int .i64 v.col, .bool v.visible], .pointer (some ⟨w.heap.size, 6, none⟩), .agg #[.int .i64 p.upd, .int .i64 p.row, .int .i64 p.col], .pointer (some ⟨w.heap.size, 9, none⟩), .agg #[.int .i64 q.upd, .int .i64 q.row, .int .i64 q.col], .pointer (some ⟨w.heap.size, 12, none⟩), .agg #[.int .i64 r.upd, .int .i64 r.row, .int .i64 r.col], undef, undef, undef, undef, undef, undef, undef, undef, undef, undef, undef, undef, undef, undef, undef, undef, undef, undef, undef, undef, undef, undef, undef, undef, undef, undef, undef, undef, undef, undef, undef, undef, undef, undef, undef, undef, undef, undef, undef, undef, undef, undef, undef], defers := [] }) ?cont ?reg
  case reg =>
    go_region_held3 (fun W2 => W2.cell? ⟨w.heap.size, 0, none⟩ = some (.int .i64 v.width) ∧ W2.cell? ⟨w.heap.size, 1, none⟩ = some (.int .i64 v.height) ∧ W2.cell? ⟨w.heap.size, 2, none⟩ = some (.slice A v.rows.length c) ∧ W2.cell? ⟨w.heap.size, 3, none⟩ = some (.int .i64 v.row) ∧ W2.cell? ⟨w.heap.size, 4, none⟩ = some (.int .i64 v.col) ∧ W2.cell? ⟨w.heap.size, 5, none⟩ = some (.bool v.visible) ∧ W2.cell? ⟨w.heap.size, 6, none⟩ = some (.int .i64 p.upd) ∧ W2.cell? ⟨w.heap.size, 7, none⟩ = some (.int .i64 p.row) ∧ W2.cell? ⟨w.heap.size, 8, none⟩ = some (.int .i64 p.col) ∧ W2.cell? ⟨w.heap.size, 9, none⟩ = some (.int .i64 q.upd) ∧ W2.cell? ⟨w.heap.size, 10, none⟩ = some (.int .i64 q.row) ∧ W2.cell? ⟨w.heap.size, 11, none⟩ = some (.int .i64 q.col) ∧ W2.cell? ⟨w.heap.size, 12, none⟩ = some (.int .i64 r.upd) ∧ W2.cell? ⟨w.heap.size, 13, none⟩ = some (.int .i64 r.row) ∧ W2.cell? ⟨w.heap.size, 14, none⟩ = some (.int .i64 r.col))
      (exact HS.out _ (by repeat (first | exact Below.refl _ _ | refine bD ?_ | refine bA ?_ _ | refine bS ?_ (by dsimp only; omega) _)))
      (first | fail)
    all_goals
      refine ⟨rfl, _, _, _, _, ⟨(by repeat (first | exact Below.refl _ _ | refine bD ?_ | refine bA ?_ _ | refine bS ?_ (by dsimp only; omega) _)), ?_, ?_, ?_, ?_⟩, rfl⟩
      all_goals first | with_reducible exact (at4 W0 _ _ _ _ _ hs0).1 | with_reducible exact (at4 W0 _ _ _ _ _ hs0).2.1 | with_reducible exact (at4 W0 _ _ _ _ _ hs0).2.2.1 | with_reducible exact (at4 W0 _ _ _ _ _ hs0).2.2.2
  case cont =>
    rintro e a' w2 ⟨rfl, b3, b4, b5, b6, ⟨hb2, hvb', hpb', hqb', hrb'⟩, rfl⟩
    have hvb : VwBox w2 b3 v A c := hvb'
    have hpb : PlBox w2 b4 p := hpb'
    have hqb : PlBox w2 b5 q := hqb'
    have hrb : PlBox w2 b6 r := hrb'
    clear hvb' hpb' hqb' hrb'
    dsimp only [Exit.then]
    clear HS hs0 HW0
    have hbw2 := Hbw.out.trans (hb2.mono Hbw.out.size)
    have l3 := block_lt hvb
    have l4 := block_lt hpb
    have l5 := block_lt hqb
    have l6 := block_lt hrb
    have hrow2 := (Hrows.out.below hbw2).more hbw2.size
    have hT2 := HTab.out.below hbw2
    have HG := hide (greatP w2 A c v hrow2)
    have HA := hide (fun w1 (hb : Below w2.heap.size w2 w1) => awakeP w1 (hT2.below hb))
    have HK := hide (fun w1 (hb1 : Below w2.heap.size w2 w1) => And.intro (hvb.below hb1 l3).cells (And.intro (hpb.below hb1 l4).cells (And.intro (hqb.below hb1 l5).cells (hrb.below hb1 l6).cells)))
    obtain ⟨⟨k0, k1, k2, k3, k4, k5⟩, ⟨p0, p1, p2⟩, ⟨q0, q1, q2⟩, r0, r1, r2⟩ := HK.out w2 (Below.refl _ _)
    have Hbw2 := hide hbw2
    clear hb2 hbw2 l3 l4 l5 l6 hvb hpb hqb hrb
    cases hg : v.great with
    | true =>
      rw [hg] at HG
      clear hrow2 hT2
      unfold Vw.val at HG
      go_wp2_with (first
        | (go_at_call 4; refine HG.out.mono ?_; rintro e w3 ⟨rfl, hb3⟩)
        | (go_at_call 5; refine (HA.out _ hb3).mono ?_; rintro e w4 ⟨rfl, hb4'⟩; have hb4 := hb3.trans (hb4'.mono hb3.size))
        | fail)
      go_ret
      exact ⟨rfl, Hbw2.out.trans (hb4.mono Hbw2.out.size)⟩
    | false =>
      have htame := Vw.tame hg
      rw [hg] at HG
      have HB := hide (fun w1 (hb : Below w2.heap.size w2 w1) (x y : Pl) => betweenP w1 A c v x y ((hrow2.below hb).more hb.size) htame (hT2.below hb))
      have HB1 := hide (fun w1 hb => HB.out w1 hb p q)
      have HB2 := hide (fun w1 hb => HB.out w1 hb q r)
      have HB3 := hide (fun w1 hb => HB.out w1 hb p r)
      have hall := fun (h1 : betE v p.row p.col q.row q.col = 0) (h2 : betE v q.row q.col r.row r.col = 0) => And.intro (bet_parts v p.row p.col q.row q.col r.row r.col h1 h2) (And.intro (betT_size htame h1) (betT_size htame h2))
      obtain ⟨T1, hT1⟩ : ∃ T, betT v p.row p.col q.row q.col = T := ⟨_, rfl⟩
      obtain ⟨E1, hE1⟩ : ∃ E, betE v p.row p.col q.row q.col = E := ⟨_, rfl⟩
      obtain ⟨T2, hT2'⟩ : ∃ T, betT v q.row q.col r.row r.col = T := ⟨_, rfl⟩
      obtain ⟨E2, hE2⟩ : ∃ E, betE v q.row q.col r.row r.col = E := ⟨_, rfl⟩
      obtain ⟨T3, hT3⟩ : ∃ T, betT v p.row p.col r.row r.col = T := ⟨_, rfl⟩
      obtain ⟨E3, hE3⟩ : ∃ E, betE v p.row p.col r.row r.col = E := ⟨_, rfl⟩
      rw [hT1, hE1, hT2', hE2, hT3, hE3] at hall
      rw [hT1, hE1] at HB1
      rw [hT2', hE2] at HB2
      rw [hT3, hE3] at HB3
      clear HB hT1 hE1 hT2' hE2 hT3 hE3 hrow2 hT2 htame hg
      unfold Vw.val at HG HB1 HB2 HB3
      unfold Pl.val at HB1 HB2 HB3
      rcases (show (E1 != 0) = true ∨ ((E1 != 0) = false ∧ (E2 != 0) = true) ∨ (E1 = 0 ∧ E2 = 0) by
        by_cases a1 : E1 = 0 <;> by_cases a2 : E2 = 0 <;> simp [a1, a2]) with he | ⟨he, he2⟩ | ⟨he, he2⟩
      · clear hall HB3
        go_wp2_with (first
          | (go_at_call 4; refine HG.out.mono ?_; rintro e w3 ⟨rfl, hb3⟩; obtain ⟨⟨x0, x1, x2, x3, x4, x5⟩, ⟨y0, y1, y2⟩, ⟨z0, z1, z2⟩, u0, u1, u2⟩ := HK.out w3 hb3)
          | (go_at_call 6; with_reducible refine (HB2.out w4 hb4).mono ?_; rintro e w5 ⟨rfl, hb5'⟩; have hb5 := hb4.trans (hb5'.mono hb4.size))
          | (go_at_call 6; with_reducible refine (HB1.out w3 hb3).mono ?_; rintro e w4 ⟨rfl, hb4'⟩; have hb4 := hb3.trans (hb4'.mono hb3.size); obtain ⟨⟨x0', x1', x2', x3', x4', x5'⟩, ⟨y0', y1', y2'⟩, ⟨z0', z1', z2'⟩, u0', u1', u2'⟩ := HK.out w4 hb4)
          | (go_at_call 5; refine (HA.out _ hb5).mono ?_; rintro e w6 ⟨rfl, hb6'⟩; have hb6 := hb5.trans (hb6'.mono hb5.size))
          | fail)
        go_ret
        exact ⟨rfl, Hbw2.out.trans (hb6.mono Hbw2.out.size)⟩
      · clear hall HB3
        go_wp2_with (first
          | (go_at_call 4; refine HG.out.mono ?_; rintro e w3 ⟨rfl, hb3⟩; obtain ⟨⟨x0, x1, x2, x3, x4, x5⟩, ⟨y0, y1, y2⟩, ⟨z0, z1, z2⟩, u0, u1, u2⟩ := HK.out w3 hb3)
          | (go_at_call 6; with_reducible refine (HB2.out w4 hb4).mono ?_; rintro e w5 ⟨rfl, hb5'⟩; have hb5 := hb4.trans (hb5'.mono hb4.size))
          | (go_at_call 6; with_reducible refine (HB1.out w3 hb3).mono ?_; rintro e w4 ⟨rfl, hb4'⟩; have hb4 := hb3.trans (hb4'.mono hb3.size); obtain ⟨⟨x0', x1', x2', x3', x4', x5'⟩, ⟨y0', y1', y2'⟩, ⟨z0', z1', z2'⟩, u0', u1', u2'⟩ := HK.out w4 hb4)
          | (go_at_call 5; refine (HA.out _ hb5).mono ?_; rintro e w6 ⟨rfl, hb6'⟩; have hb6 := hb5.trans (hb6'.mono hb5.size))
          | fail)
        go_ret
        exact ⟨rfl, Hbw2.out.trans (hb6.mono Hbw2.out.size)⟩
      · obtain ⟨⟨rfl, rfl⟩, hz1, hz2⟩ := hall he he2
        subst he he2
        have hcat : T1.size + T2.size ≤ 9223372036854775807 := by omega
        go_wp2_with (first
          | (go_at_call 4; refine HG.out.mono ?_; rintro e w3 ⟨rfl, hb3⟩; obtain ⟨⟨x0, x1, x2, x3, x4, x5⟩, ⟨y0, y1, y2⟩, ⟨z0, z1, z2⟩, u0, u1, u2⟩ := HK.out w3 hb3)
          | (go_at_call 6; with_reducible refine (HB3.out w5 hb5).mono ?_; rintro e w6 ⟨rfl, hb6'⟩; have hb6 := hb5.trans (hb6'.mono hb5.size))
          | (go_at_call 6; with_reducible refine (HB2.out w4 hb4).mono ?_; rintro e w5 ⟨rfl, hb5'⟩; have hb5 := hb4.trans (hb5'.mono hb4.size); obtain ⟨⟨s0, s1, s2, s3, s4, s5⟩, ⟨t0, t1, t2⟩, ⟨i0, i1, i2⟩, j0, j1, j2⟩ := HK.out w5 hb5)
          | (go_at_call 6; with_reducible refine (HB1.out w3 hb3).mono ?_; rintro e w4 ⟨rfl, hb4'⟩; have hb4 := hb3.trans (hb4'.mono hb3.size); obtain ⟨⟨x0', x1', x2', x3', x4', x5'⟩, ⟨y0', y1', y2'⟩, ⟨z0', z1', z2'⟩, u0', u1', u2'⟩ := HK.out w4 hb4)
          | (go_at_call 5; refine (HA.out _ hb6).mono ?_; rintro e w7 ⟨rfl, hb7'⟩; have hb7 := hb6.trans (hb7'.mono hb6.size))
          | fail)
        go_ret
        exact ⟨rfl, Hbw2.out.trans (hb7.mono Hbw2.out.size)⟩
end Go.Proofs.YtbnlnjejdggffaaDoor
