/- frames: pictures in memory; has, closed and its closures. -/
import Derived.Test.YtdgmjbcfopkibaaDoorF2
import Derived.Shelf.Abstract
import Derived.Deep.QuietTactic
import Derived.BigQuiet
import Derived.Deep.DeepCutAuto
namespace Go.Proofs.YtdgmjbcfopkibaaDoor
open Go.RowKit Go.Shelf

theorem below_drF {B : Nat} {a w : World} (h : Below B a w) (n : Nat) : Below B a (w.drewN n) := ⟨h.os, h.tape, h.output, h.size, h.block⟩
/-- A picture in memory: H rows of W numbers. -/
structure PicAt (w : World) (bp H W : Nat) (P : Nat → Nat → Nat) : Prop where
  lt : bp < w.heap.size
  row : ∀ t, t < H → ∃ b, b < w.heap.size ∧ w.cell? ⟨bp, t, none⟩ = some (.slice (some ⟨b, 0, none⟩) W W) ∧ ∀ k, k < W → w.cell? ⟨b, k, none⟩ = some (.int .i64 (P t k : Nat))
  small : ∀ t k, P t k < 16
theorem PicAt.below {w w' : World} {bp H W : Nat} {P : Nat → Nat → Nat} (h : PicAt w bp H W P) (hb : Below w.heap.size w w') : PicAt w' bp H W P :=
  ⟨Nat.lt_of_lt_of_le h.lt hb.size, fun t ht => by
    obtain ⟨b, h1, h2, h3⟩ := h.row t ht
    exact ⟨b, Nat.lt_of_lt_of_le h1 hb.size, (hb.cell (p := ⟨bp, t, none⟩) h.lt).trans h2, fun k hk => (hb.cell (p := ⟨b, k, none⟩) h1).trans (h3 k hk)⟩, h.small⟩

set_option maxHeartbeats 1000000 in
theorem hasP (w : World) (bp H W t k nn : Nat) (n : Int) (P : Nat → Nat → Nat) (h : PicAt w bp H W P) (ht : t < H) (hk : k < W) (hn : (nn : Int) = n) (h16 : nn < 16) :
    Calls Tryd.prog 34 #[.slice (some ⟨bp, 0, none⟩) H H, .int .i64 (t : Int), .int .i64 (k : Int), .int .i64 n] w fun e w' => e = .returned (.bool (hasA (P t k) nn)) ∧ w = w' := by
  subst hn
  obtain ⟨b, -, c0, c1⟩ := h.row t ht
  have c2 := c1 k hk
  have ha := h.small t k
  obtain ⟨a, hA⟩ : ∃ a, P t k = a := ⟨_, rfl⟩
  rw [hA] at c2 ha ⊢
  have hand := and_arms ha h16
  obtain ⟨m, hm⟩ : ∃ m, a &&& nn = m := ⟨_, rfl⟩
  have hq := hasA_eq a nn
  rw [hm] at hand hq
  obtain ⟨q, hQ⟩ : ∃ q, hasA a nn = q := ⟨_, rfl⟩
  rw [hQ] at hq ⊢
  have htI : (t : Int) < (H : Int) := by omega
  have hkI : (k : Int) < (W : Int) := by omega
  clear h c1 hA hm hQ ha h16
  go_enter Tryd.func34, Tryd.ntmps34
  go_wp2
  go_ret
  exact ⟨rfl, rfl⟩

theorem at2P (w : World) (bl k : Nat) (l : Int) (hc : w.cell? ⟨bl, 0, none⟩ = some (.int .i64 l)) :
    Calls Tryd.prog 54 #[.int .i64 (k : Int), .pointer (some ⟨bl, 0, none⟩)] w fun e w' => e = .returned (.tuple #[.int .i64 (k : Int), .int .i64 l]) ∧ Below w.heap.size w w' := by
  go_enter Tryd.func54, Tryd.ntmps54
  go_wp2
  go_quiet (fail)
  go_wp2
  go_ret2
  exact ⟨rfl, below_drF (Below.refl _ _) _⟩
theorem at3P (w : World) (bl k : Nat) (r r1 : Int) (hr : r - 1 = r1) (hc : w.cell? ⟨bl, 0, none⟩ = some (.int .i64 r)) (h0 : 0 ≤ r1) (h1 : r ≤ 10000) :
    Calls Tryd.prog 55 #[.int .i64 (k : Int), .pointer (some ⟨bl, 0, none⟩)] w fun e w' => e = .returned (.tuple #[.int .i64 (k : Int), .int .i64 r1]) ∧ Below w.heap.size w w' := by
  go_enter Tryd.func55, Tryd.ntmps55
  go_wp2
  go_quiet (fail)
  go_wp2
  go_ret2
  exact ⟨rfl, below_drF (Below.refl _ _) _⟩
theorem at4P (w : World) (bl k : Nat) (r r1 : Int) (hr : r - 1 = r1) (hc : w.cell? ⟨bl, 0, none⟩ = some (.int .i64 r)) (h0 : 0 ≤ r1) (h1 : r ≤ 10000) :
    Calls Tryd.prog 56 #[.int .i64 (k : Int), .pointer (some ⟨bl, 0, none⟩)] w fun e w' => e = .returned (.tuple #[.int .i64 r1, .int .i64 (k : Int)]) ∧ Below w.heap.size w w' := by
  go_enter Tryd.func56, Tryd.ntmps56
  go_wp2
  go_ret2
  exact ⟨rfl, Below.refl _ _⟩

theorem allG_step (p : Nat → Bool) (k n : Nat) (h : 0 < n) : allG p k n = (p k && allG p (k + 1) (n - 1)) := by
  obtain ⟨m, rfl⟩ : ∃ m, n = m + 1 := ⟨n - 1, by omega⟩
  rfl
theorem anyG_step (p : Nat → Bool) (k n : Nat) (h : 0 < n) : anyG p k n = (p k || anyG p (k + 1) (n - 1)) := by
  obtain ⟨m, rfl⟩ : ∃ m, n = m + 1 := ⟨n - 1, by omega⟩
  rfl
set_option maxRecDepth 100000 in
set_option maxHeartbeats 1000000 in
/-- The closure that looks at all places of a border, whatever function tells the places. -/
theorem allP (w : World) (bx bp H W a0 E nn : Nat) (n a b : Int) (P : Nat → Nat → Nat) (row col : Nat → Nat) (g : Nat) (lb : Array Value) (eg : Enters Tryd.prog g) (h : PicAt w bp H W P)
    (hx : w.cell? ⟨bx, 0, none⟩ = some (.slice (some ⟨bp, 0, none⟩) H H)) (hbx : bx < w.heap.size) (hn : (nn : Int) = n) (h16 : nn < 16) (ha : a = (a0 : Int)) (hb : b = (E : Int)) (hle : a0 ≤ E) (hz : E ≤ 10000)
    (hrc : ∀ k, a0 ≤ k → k < E → row k < H ∧ col k < W)
    (hL : ∀ (k : Nat) (W : World), a0 ≤ k → k < E → Below w.heap.size w W → Calls Tryd.prog g (#[.int .i64 (k : Int)] ++ lb) W fun e w' => e = .returned (.tuple #[.int .i64 (row k : Int), .int .i64 (col k : Int)]) ∧ Below W.heap.size W w') :
    Calls Tryd.prog 53 #[.int .i64 n, .int .i64 a, .int .i64 b, .func (.func g) #[] lb, .pointer (some ⟨bx, 0, none⟩)] w fun e w' => e = .returned (.bool (allG (fun k => hasA (P (row k) (col k)) nn) a0 (E - a0))) ∧ Below w.heap.size w w' := by
  unfold Enters at eg
  subst ha hb
  have HL := hide hL
  have HH := hide h
  have Hrc := hide hrc
  have Hn := hide (And.intro hn h16)
  obtain ⟨R, hR⟩ : ∃ R, allG (fun k => hasA (P (row k) (col k)) nn) a0 (E - a0) = R := ⟨_, rfl⟩
  rw [hR]
  have HR := hide hR
  clear hL h hrc hn h16 hR
  go_enter Tryd.func53, Tryd.ntmps53
  go_wp2
  go_loopw [10] (fun i wr => ∃ k : Nat, a0 ≤ k ∧ k ≤ E ∧ i = .int .i64 (k : Int) ∧ allG (fun k => hasA (P (row k) (col k)) nn) k (E - k) = R ∧ Below w.heap.size w wr) (fun i _ => E - (intOf i).toNat)
  case atStart => exact ⟨a0, Nat.le_refl _, hle, rfl, HR.out, Below.refl _ _⟩
  case round =>
    clear HR
    obtain ⟨k, h0, h1, rfl, hg, hbr⟩ := hrel
    rename World => wo
    by_cases hlt : k < E
    · have hltI : (k : Int) < (E : Int) := by omega
      have hsz := hbr.size
      have hxo : wo.cell? ⟨bx, 0, none⟩ = some (.slice (some ⟨bp, 0, none⟩) H H) := (hbr.cell (p := ⟨bx, 0, none⟩) hbx).trans hx
      have HC := hide (HL.out k wo h0 hlt hbr)
      obtain ⟨hr1, hr2⟩ := Hrc.out k h0 hlt
      have HHas := hide (fun (W1 : World) (hb1 : Below wo.heap.size wo W1) => hasP W1 bp H W (row k) (col k) nn n P (HH.out.below (hbr.trans (hb1.mono hsz))) hr1 hr2 Hn.out.1 Hn.out.2)
      rw [allG_step _ _ _ (by omega)] at hg
      obtain ⟨r, hr⟩ : ∃ r, row k = r := ⟨_, rfl⟩
      obtain ⟨c, hc⟩ : ∃ c, col k = c := ⟨_, rfl⟩
      rw [hr, hc] at HC HHas hg
      obtain ⟨q, hq⟩ : ∃ q, hasA (P r c) nn = q := ⟨_, rfl⟩
      rw [hq] at HHas hg
      have Hbr := hide hbr
      have Hkx := hide (fun (W1 : World) (hb1 : Below wo.heap.size wo W1) => (hb1.cell (p := ⟨bx, 0, none⟩) (by show bx < wo.heap.size; omega)).trans hxo)
      clear hr1 hr2 hr hc hq hbr
      cases q with
      | false =>
        have Hg := hide (show R = false from hg.symm)
        clear hg
        go_wp2_with (first
          | (go_at_fn g; refine HC.out.mono ?_; rintro e w2 ⟨rfl, hb2⟩; have hx2 := Hkx.out w2 hb2; have Hb2 := hide hb2; clear hb2)
          | (go_at_call 34; (with_reducible refine (HHas.out w2 Hb2.out).mono ?_); rintro e w3 ⟨rfl, rfl⟩)
          | fail)
        go_ret
        exact ⟨by rw [Hg.out]; rfl, Hbr.out.trans (Hb2.out.mono hsz)⟩
      | true =>
        have Hg := hide (show allG (fun k => hasA (P (row k) (col k)) nn) (k + 1) (E - k - 1) = R from hg)
        clear hg
        go_wp2_with (first
          | (go_at_fn g; refine HC.out.mono ?_; rintro e w2 ⟨rfl, hb2⟩; have hx2 := Hkx.out w2 hb2; have Hb2 := hide hb2; clear hb2)
          | (go_at_call 34; (with_reducible refine (HHas.out w2 Hb2.out).mono ?_); rintro e w3 ⟨rfl, rfl⟩)
          | fail)
        go_roundw
        case rel => exact ⟨k + 1, by omega, by omega, by go_num, by rw [← Nat.sub_sub]; exact Hg.out, Hbr.out.trans (Hb2.out.mono hsz)⟩
        case measure => simp [intOf]; omega
    · obtain rfl : k = E := by omega
      rw [Nat.sub_self] at hg
      have Hg := hide (show R = true from hg.symm)
      clear hg
      have hge : ¬ (k : Int) < (k : Int) := by omega
      go_wp2
      go_ret
      exact ⟨by rw [Hg.out]; rfl, hbr⟩

set_option maxRecDepth 100000 in
set_option maxHeartbeats 4000000 in
theorem closedPicP (w : World) (bp H W t l b r : Nat) (P : Nat → Nat → Nat) (h : PicAt w bp H W P) (h1 : t + 2 ≤ b) (h2 : b ≤ H) (h3 : l + 2 ≤ r) (h4 : r ≤ W) (hH : H ≤ 1000) (hW : W ≤ 1000) :
    Calls Tryd.prog 27 #[.slice (some ⟨bp, 0, none⟩) H H, .int .i64 (t : Int), .int .i64 (l : Int), .int .i64 (b : Int), .int .i64 (r : Int)] w fun e w' => e = .returned (.bool (closedB P t l b r)) ∧ Below w.heap.size w w' := by
  obtain ⟨r1, hr1⟩ : ∃ r1, r = r1 + 1 := ⟨r - 1, by omega⟩
  obtain ⟨b1, hb1⟩ : ∃ b1, b = b1 + 1 := ⟨b - 1, by omega⟩
  have hr1I : (r : Int) - 1 = (r1 : Int) := by omega
  have hb1I : (b : Int) - 1 = (b1 : Int) := by omega
  have hcl : closedB P t l b r = (hasA (P t l) 6 && hasA (P t r1) 12 && hasA (P b1 l) 3 && hasA (P b1 r1) 9 && allG (fun k => hasA (P k l) 5) (t + 1) (b1 - (t + 1)) && allG (fun k => hasA (P k r1) 5) (t + 1) (b1 - (t + 1)) &&
      allG (fun k => hasA (P b1 k) 10) (l + 1) (r1 - (l + 1)) && (decide (r - l = 2) || anyG (fun k => hasA (P t k) 10) (l + 1) (r1 - (l + 1)))) := by
    unfold closedB; rw [show r - 1 = r1 by omega, show b - 1 = b1 by omega]
  rw [hcl]
  clear hcl
  -- the boxes
  obtain ⟨W4, hW4⟩ : ∃ W4, (((w.alloc (.cells #[.slice (some ⟨bp, 0, none⟩) H H] 42)).alloc (.cells #[.int .i64 (l : Int)] 3)).alloc (.cells #[.int .i64 (b : Int)] 3)).alloc (.cells #[.int .i64 (r : Int)] 3) = W4 := ⟨_, rfl⟩
  have hbw : Below w.heap.size w W4 := by
    rw [← hW4]
    exact ((((Below.refl w.heap.size w).alloc (Nat.le_refl _) _).alloc (by simp) _).alloc (by simp; omega) _).alloc (by simp; omega) _
  have hsz : W4.heap.size = w.heap.size + 1 + 1 + 1 + 1 := by rw [← hW4]; simp
  have x5 : W4.cell? ⟨w.heap.size, 0, none⟩ = some (.slice (some ⟨bp, 0, none⟩) H H) := by
    rw [← hW4]
    exact cell_block (block_alloc (block_alloc (block_alloc (block_new w (.cells #[.slice (some ⟨bp, 0, none⟩) H H] 42)) _) _) _) 0
  have x7 : W4.cell? ⟨w.heap.size + 1, 0, none⟩ = some (.int .i64 (l : Int)) := by
    rw [← hW4]
    have := block_new (w.alloc (.cells #[.slice (some ⟨bp, 0, none⟩) H H] 42)) (.cells #[.int .i64 (l : Int)] 3)
    rw [World.size_alloc] at this
    exact cell_block (block_alloc (block_alloc this _) _) 0
  have x8 : W4.cell? ⟨w.heap.size + 1 + 1, 0, none⟩ = some (.int .i64 (b : Int)) := by
    rw [← hW4]
    have := block_new ((w.alloc (.cells #[.slice (some ⟨bp, 0, none⟩) H H] 42)).alloc (.cells #[.int .i64 (l : Int)] 3)) (.cells #[.int .i64 (b : Int)] 3)
    rw [World.size_alloc, World.size_alloc] at this
    exact cell_block (block_alloc this _) 0
  have x9 : W4.cell? ⟨w.heap.size + 1 + 1 + 1, 0, none⟩ = some (.int .i64 (r : Int)) := by
    rw [← hW4]
    have := block_new (((w.alloc (.cells #[.slice (some ⟨bp, 0, none⟩) H H] 42)).alloc (.cells #[.int .i64 (l : Int)] 3)).alloc (.cells #[.int .i64 (b : Int)] 3)) (.cells #[.int .i64 (r : Int)] 3)
    rw [World.size_alloc, World.size_alloc, World.size_alloc] at this
    exact cell_block this 0
  have hp4 : PicAt W4 bp H W P := h.below hbw
  obtain ⟨bt, hbt, hct, -⟩ := hp4.row t (by omega)
  have HX := hide (fun (W1 : World) (hb : Below W4.heap.size W4 W1) => And.intro ((hb.cell (p := ⟨w.heap.size, 0, none⟩) (by show w.heap.size < _; omega)).trans x5) (And.intro ((hb.cell (p := ⟨w.heap.size + 1, 0, none⟩) (by show w.heap.size + 1 < _; omega)).trans x7) (And.intro ((hb.cell (p := ⟨w.heap.size + 1 + 1, 0, none⟩) (by show w.heap.size + 1 + 1 < _; omega)).trans x8) ((hb.cell (p := ⟨w.heap.size + 1 + 1 + 1, 0, none⟩) (by show w.heap.size + 1 + 1 + 1 < _; omega)).trans x9))))
  have HP := hide (fun (W1 : World) (hb : Below W4.heap.size W4 W1) => hp4.below hb)
  have Hbw := hide hbw
  have HHas := hide (fun (W1 : World) (hb : Below W4.heap.size W4 W1) (t' k' nn : Nat) (n : Int) (ht : t' < H) (hk : k' < W) (hn : (nn : Int) = n) (h16 : nn < 16) => hasP W1 bp H W t' k' nn n P (hp4.below hb) ht hk hn h16)
  have HA1 := hide (fun (W1 : World) (hb : Below W4.heap.size W4 W1) => allP W1 w.heap.size bp H W (t + 1) b1 5 5 ((t : Int) + 1) (b1 : Int) P (fun k => k) (fun _ => l) 54 #[.pointer (some ⟨w.heap.size + 1, 0, none⟩)] (enters_of Tryd.func54 (by kernel_rfl) rfl) (HP.out W1 hb) (HX.out W1 hb).1 (by have := hb.size; omega) rfl (by omega) (by omega) rfl (by omega) (by omega)
    (fun k h1 h2 => ⟨by omega, by omega⟩) (fun k W2 _ _ hb2 => at2P W2 _ k l (HX.out W2 (hb.trans (hb2.mono hb.size))).2.1))
  have HA2 := hide (fun (W1 : World) (hb : Below W4.heap.size W4 W1) => allP W1 w.heap.size bp H W (t + 1) b1 5 5 ((t : Int) + 1) (b1 : Int) P (fun k => k) (fun _ => r1) 55 #[.pointer (some ⟨w.heap.size + 1 + 1 + 1, 0, none⟩)] (enters_of Tryd.func55 (by kernel_rfl) rfl) (HP.out W1 hb) (HX.out W1 hb).1 (by have := hb.size; omega) rfl (by omega) (by omega) rfl (by omega) (by omega)
    (fun k h1 h2 => ⟨by omega, by omega⟩) (fun k W2 _ _ hb2 => at3P W2 _ k r r1 hr1I (HX.out W2 (hb.trans (hb2.mono hb.size))).2.2.2 (by omega) (by omega)))
  have HA3 := hide (fun (W1 : World) (hb : Below W4.heap.size W4 W1) => allP W1 w.heap.size bp H W (l + 1) r1 10 10 ((l : Int) + 1) (r1 : Int) P (fun _ => b1) (fun k => k) 56 #[.pointer (some ⟨w.heap.size + 1 + 1, 0, none⟩)] (enters_of Tryd.func56 (by kernel_rfl) rfl) (HP.out W1 hb) (HX.out W1 hb).1 (by have := hb.size; omega) rfl (by omega) (by omega) rfl (by omega) (by omega)
    (fun k h1 h2 => ⟨by omega, by omega⟩) (fun k W2 _ _ hb2 => at4P W2 _ k b b1 hb1I (HX.out W2 (hb.trans (hb2.mono hb.size))).2.2.1 (by omega) (by omega)))
  obtain ⟨q1, hq1⟩ : ∃ q, hasA (P t l) 6 = q := ⟨_, rfl⟩
  obtain ⟨q2, hq2⟩ : ∃ q, hasA (P t r1) 12 = q := ⟨_, rfl⟩
  obtain ⟨q3, hq3⟩ : ∃ q, hasA (P b1 l) 3 = q := ⟨_, rfl⟩
  obtain ⟨q4, hq4⟩ : ∃ q, hasA (P b1 r1) 9 = q := ⟨_, rfl⟩
  obtain ⟨q5, hq5⟩ : ∃ q, allG (fun k => hasA (P k l) 5) (t + 1) (b1 - (t + 1)) = q := ⟨_, rfl⟩
  obtain ⟨q6, hq6⟩ : ∃ q, allG (fun k => hasA (P k r1) 5) (t + 1) (b1 - (t + 1)) = q := ⟨_, rfl⟩
  obtain ⟨q7, hq7⟩ : ∃ q, allG (fun k => hasA (P b1 k) 10) (l + 1) (r1 - (l + 1)) = q := ⟨_, rfl⟩
  obtain ⟨q8, hq8⟩ : ∃ q, decide (r - l = 2) = q := ⟨_, rfl⟩
  obtain ⟨R, hR⟩ : ∃ R, anyG (fun k => hasA (P t k) 10) (l + 1) (r1 - (l + 1)) = R := ⟨_, rfl⟩
  have HR := hide hR
  have hq8' : ((r : Int) - (l : Int) == 2) = q8 := by
    rw [← hq8]
    by_cases hd : r - l = 2
    · rw [decide_eq_true hd, beq_iff_eq]; omega
    · rw [decide_eq_false hd, beq_eq_false_iff_ne]; omega
  rw [hq1, hq2, hq3, hq4, hq5, hq6, hq7, hq8, hR]
  simp only [hq5] at HA1
  simp only [hq6] at HA2
  simp only [hq7] at HA3
  have Hq1 := hide (fun (W1 : World) (hb : Below W4.heap.size W4 W1) => HHas.out W1 hb t l 6 6 (by omega) (by omega) rfl (by omega))
  have Hq2 := hide (fun (W1 : World) (hb : Below W4.heap.size W4 W1) => HHas.out W1 hb t r1 12 12 (by omega) (by omega) rfl (by omega))
  have Hq3 := hide (fun (W1 : World) (hb : Below W4.heap.size W4 W1) => HHas.out W1 hb b1 l 3 3 (by omega) (by omega) rfl (by omega))
  have Hq4 := hide (fun (W1 : World) (hb : Below W4.heap.size W4 W1) => HHas.out W1 hb b1 r1 9 9 (by omega) (by omega) rfl (by omega))
  simp only [hq1] at Hq1
  simp only [hq2] at Hq2
  simp only [hq3] at Hq3
  simp only [hq4] at Hq4
  have hmf : ∀ (fn : Fn) (first cap : Array Value) (w : World), (Instr.makeFunc fn first cap).run Tryd.prog w = .ok (.func fn first cap) w := fun _ _ _ _ => rfl
  have d1 : decide ((t : Int) < 0) = false := decide_eq_false (by omega)
  have d2 : decide ((l : Int) < 0) = false := decide_eq_false (by omega)
  have d3 : decide ((H : Int) < (b : Int)) = false := decide_eq_false (by omega)
  have d4 : decide ((b : Int) < (t : Int) + 2) = false := decide_eq_false (by omega)
  have d5 : decide ((r : Int) < (l : Int) + 2) = false := decide_eq_false (by omega)
  have d6 : decide ((W : Int) < (r : Int)) = false := decide_eq_false (by omega)
  have d3' : decide (H < b) = false := decide_eq_false (by omega)
  have d6' : decide (W < r) = false := decide_eq_false (by omega)
  have htH : (t : Int) < (H : Int) := by omega
  have Hsz := hide hsz
  have HPic := hide (fun (W1 : World) (hb : Below W4.heap.size W4 W1) => hp4.below hb)
  clear h hbw hp4 hbt hq1 hq2 hq3 hq4 hq5 hq6 hq7 HHas HP hr1 hb1 hq8 hR
  go_enter Tryd.func27, Tryd.ntmps27
  go_wp2
  clear hW4
  have hrf := Below.refl W4.heap.size W4
  have hct2 : W4.cell? ⟨bp, t, none⟩ = some (.slice (some ⟨bt, 0, none⟩) W W) := hct
  go_quiet (fail)
  obtain ⟨W5, hW5⟩ : ∃ W5, W4.drewN nq = W5 := ⟨_, rfl⟩
  have hb5 : Below W4.heap.size W4 W5 := by rw [← hW5]; exact below_drF hrf _
  rw [hW5]
  obtain ⟨y5, y7, y8, y9⟩ := HX.out W5 hb5
  have Hb5 := hide hb5
  clear hW5 hb5 hrf x5 x7 x8 x9 hct hct2 d1 d2 d3 d4 d5 d6 d3' d6'
  cases q1 with
  | false =>
    go_wp2_with (first
      | (go_at_call 34; (with_reducible refine (Hq1.out W5 Hb5.out).mono ?_); rintro e w0 ⟨rfl, rfl⟩)
      | fail)
    go_ret
    exact ⟨rfl, Hbw.out.trans (Hb5.out.mono (by have := Hsz.out; omega))⟩
  | true =>
  cases q2 with
  | false =>
    go_wp2_with (first
      | (go_at_call 34; (with_reducible refine (Hq1.out W5 Hb5.out).mono ?_); rintro e w0 ⟨rfl, rfl⟩)
      | (go_at_call 34; (with_reducible refine (Hq2.out W5 Hb5.out).mono ?_); rintro e w0 ⟨rfl, rfl⟩)
      | fail)
    go_ret
    exact ⟨rfl, Hbw.out.trans (Hb5.out.mono (by have := Hsz.out; omega))⟩
  | true =>
  cases q3 with
  | false =>
    go_wp2_with (first
      | (go_at_call 34; (with_reducible refine (Hq1.out W5 Hb5.out).mono ?_); rintro e w0 ⟨rfl, rfl⟩)
      | (go_at_call 34; (with_reducible refine (Hq2.out W5 Hb5.out).mono ?_); rintro e w0 ⟨rfl, rfl⟩)
      | (go_at_call 34; (with_reducible refine (Hq3.out W5 Hb5.out).mono ?_); rintro e w0 ⟨rfl, rfl⟩)
      | fail)
    go_ret
    exact ⟨rfl, Hbw.out.trans (Hb5.out.mono (by have := Hsz.out; omega))⟩
  | true =>
  cases q4 with
  | false =>
    go_wp2_with (first
      | (go_at_call 34; (with_reducible refine (Hq1.out W5 Hb5.out).mono ?_); rintro e w0 ⟨rfl, rfl⟩)
      | (go_at_call 34; (with_reducible refine (Hq2.out W5 Hb5.out).mono ?_); rintro e w0 ⟨rfl, rfl⟩)
      | (go_at_call 34; (with_reducible refine (Hq3.out W5 Hb5.out).mono ?_); rintro e w0 ⟨rfl, rfl⟩)
      | (go_at_call 34; (with_reducible refine (Hq4.out W5 Hb5.out).mono ?_); rintro e w0 ⟨rfl, rfl⟩)
      | fail)
    go_ret
    exact ⟨rfl, Hbw.out.trans (Hb5.out.mono (by have := Hsz.out; omega))⟩
  | true =>
  cases q5 with
  | false =>
    go_wp2_with (first
      | (go_at_call 53; (with_reducible refine (HA1.out W5 Hb5.out).mono ?_); rintro e w6 ⟨rfl, hbn⟩; have hbm := Hb5.out.trans (hbn.mono Hb5.out.size); obtain ⟨z5, z7, z8, z9⟩ := HX.out w6 hbm; have Hb6 := hide hbm; clear hbn hbm)
      | (go_at_call 34; (with_reducible refine (Hq1.out W5 Hb5.out).mono ?_); rintro e w0 ⟨rfl, rfl⟩)
      | (go_at_call 34; (with_reducible refine (Hq2.out W5 Hb5.out).mono ?_); rintro e w0 ⟨rfl, rfl⟩)
      | (go_at_call 34; (with_reducible refine (Hq3.out W5 Hb5.out).mono ?_); rintro e w0 ⟨rfl, rfl⟩)
      | (go_at_call 34; (with_reducible refine (Hq4.out W5 Hb5.out).mono ?_); rintro e w0 ⟨rfl, rfl⟩)
      | fail)
    go_ret
    exact ⟨rfl, Hbw.out.trans (Hb6.out.mono (by have := Hsz.out; omega))⟩
  | true =>
  cases q6 with
  | false =>
    go_wp2_with (first
      | (go_at_call 53; (with_reducible refine (HA2.out w6 Hb6.out).mono ?_); rintro e w7 ⟨rfl, hbn⟩; have hbm := Hb6.out.trans (hbn.mono Hb6.out.size); obtain ⟨z5, z7, z8, z9⟩ := HX.out w7 hbm; have Hb7 := hide hbm; clear hbn hbm)
      | (go_at_call 53; (with_reducible refine (HA1.out W5 Hb5.out).mono ?_); rintro e w6 ⟨rfl, hbn⟩; have hbm := Hb5.out.trans (hbn.mono Hb5.out.size); obtain ⟨z5, z7, z8, z9⟩ := HX.out w6 hbm; have Hb6 := hide hbm; clear hbn hbm)
      | (go_at_call 34; (with_reducible refine (Hq1.out W5 Hb5.out).mono ?_); rintro e w0 ⟨rfl, rfl⟩)
      | (go_at_call 34; (with_reducible refine (Hq2.out W5 Hb5.out).mono ?_); rintro e w0 ⟨rfl, rfl⟩)
      | (go_at_call 34; (with_reducible refine (Hq3.out W5 Hb5.out).mono ?_); rintro e w0 ⟨rfl, rfl⟩)
      | (go_at_call 34; (with_reducible refine (Hq4.out W5 Hb5.out).mono ?_); rintro e w0 ⟨rfl, rfl⟩)
      | fail)
    go_ret
    exact ⟨rfl, Hbw.out.trans (Hb7.out.mono (by have := Hsz.out; omega))⟩
  | true =>
  cases q7 with
  | false =>
    go_wp2_with (first
      | (go_at_call 53; (with_reducible refine (HA3.out w7 Hb7.out).mono ?_); rintro e w8 ⟨rfl, hbn⟩; have hbm := Hb7.out.trans (hbn.mono Hb7.out.size); obtain ⟨z5, z7, z8, z9⟩ := HX.out w8 hbm; have Hb8 := hide hbm; clear hbn hbm)
      | (go_at_call 53; (with_reducible refine (HA2.out w6 Hb6.out).mono ?_); rintro e w7 ⟨rfl, hbn⟩; have hbm := Hb6.out.trans (hbn.mono Hb6.out.size); obtain ⟨z5, z7, z8, z9⟩ := HX.out w7 hbm; have Hb7 := hide hbm; clear hbn hbm)
      | (go_at_call 53; (with_reducible refine (HA1.out W5 Hb5.out).mono ?_); rintro e w6 ⟨rfl, hbn⟩; have hbm := Hb5.out.trans (hbn.mono Hb5.out.size); obtain ⟨z5, z7, z8, z9⟩ := HX.out w6 hbm; have Hb6 := hide hbm; clear hbn hbm)
      | (go_at_call 34; (with_reducible refine (Hq1.out W5 Hb5.out).mono ?_); rintro e w0 ⟨rfl, rfl⟩)
      | (go_at_call 34; (with_reducible refine (Hq2.out W5 Hb5.out).mono ?_); rintro e w0 ⟨rfl, rfl⟩)
      | (go_at_call 34; (with_reducible refine (Hq3.out W5 Hb5.out).mono ?_); rintro e w0 ⟨rfl, rfl⟩)
      | (go_at_call 34; (with_reducible refine (Hq4.out W5 Hb5.out).mono ?_); rintro e w0 ⟨rfl, rfl⟩)
      | fail)
    go_ret
    exact ⟨rfl, Hbw.out.trans (Hb8.out.mono (by have := Hsz.out; omega))⟩
  | true =>
  cases q8 with
  | true =>
    go_wp2_with (first
      | (go_at_call 53; (with_reducible refine (HA3.out w7 Hb7.out).mono ?_); rintro e w8 ⟨rfl, hbn⟩; have hbm := Hb7.out.trans (hbn.mono Hb7.out.size); obtain ⟨z5, z7, z8, z9⟩ := HX.out w8 hbm; have Hb8 := hide hbm; clear hbn hbm)
      | (go_at_call 53; (with_reducible refine (HA2.out w6 Hb6.out).mono ?_); rintro e w7 ⟨rfl, hbn⟩; have hbm := Hb6.out.trans (hbn.mono Hb6.out.size); obtain ⟨z5, z7, z8, z9⟩ := HX.out w7 hbm; have Hb7 := hide hbm; clear hbn hbm)
      | (go_at_call 53; (with_reducible refine (HA1.out W5 Hb5.out).mono ?_); rintro e w6 ⟨rfl, hbn⟩; have hbm := Hb5.out.trans (hbn.mono Hb5.out.size); obtain ⟨z5, z7, z8, z9⟩ := HX.out w6 hbm; have Hb6 := hide hbm; clear hbn hbm)
      | (go_at_call 34; (with_reducible refine (Hq1.out W5 Hb5.out).mono ?_); rintro e w0 ⟨rfl, rfl⟩)
      | (go_at_call 34; (with_reducible refine (Hq2.out W5 Hb5.out).mono ?_); rintro e w0 ⟨rfl, rfl⟩)
      | (go_at_call 34; (with_reducible refine (Hq3.out W5 Hb5.out).mono ?_); rintro e w0 ⟨rfl, rfl⟩)
      | (go_at_call 34; (with_reducible refine (Hq4.out W5 Hb5.out).mono ?_); rintro e w0 ⟨rfl, rfl⟩)
      | fail)
    go_ret
    exact ⟨rfl, Hbw.out.trans (Hb8.out.mono (by have := Hsz.out; omega))⟩
  | false =>
    go_wp2_with (first
      | (go_at_call 53; (with_reducible refine (HA3.out w7 Hb7.out).mono ?_); rintro e w8 ⟨rfl, hbn⟩; have hbm := Hb7.out.trans (hbn.mono Hb7.out.size); obtain ⟨z5, z7, z8, z9⟩ := HX.out w8 hbm; have Hb8 := hide hbm; clear hbn hbm)
      | (go_at_call 53; (with_reducible refine (HA2.out w6 Hb6.out).mono ?_); rintro e w7 ⟨rfl, hbn⟩; have hbm := Hb6.out.trans (hbn.mono Hb6.out.size); obtain ⟨z5, z7, z8, z9⟩ := HX.out w7 hbm; have Hb7 := hide hbm; clear hbn hbm)
      | (go_at_call 53; (with_reducible refine (HA1.out W5 Hb5.out).mono ?_); rintro e w6 ⟨rfl, hbn⟩; have hbm := Hb5.out.trans (hbn.mono Hb5.out.size); obtain ⟨z5, z7, z8, z9⟩ := HX.out w6 hbm; have Hb6 := hide hbm; clear hbn hbm)
      | (go_at_call 34; (with_reducible refine (Hq1.out W5 Hb5.out).mono ?_); rintro e w0 ⟨rfl, rfl⟩)
      | (go_at_call 34; (with_reducible refine (Hq2.out W5 Hb5.out).mono ?_); rintro e w0 ⟨rfl, rfl⟩)
      | (go_at_call 34; (with_reducible refine (Hq3.out W5 Hb5.out).mono ?_); rintro e w0 ⟨rfl, rfl⟩)
      | (go_at_call 34; (with_reducible refine (Hq4.out W5 Hb5.out).mono ?_); rintro e w0 ⟨rfl, rfl⟩)
      | fail)
    have HHt := hide (fun (k : Nat) (hk : k < W) => hasP w8 bp H W t k 10 10 P (HPic.out w8 Hb8.out) (by omega) hk rfl (by omega))
    go_loop [13] (fun i => ∃ k : Nat, l + 1 ≤ k ∧ k ≤ r1 ∧ i = .int .i64 (k : Int) ∧ anyG (fun k => hasA (P t k) 10) k (r1 - k) = R) (fun i => r1 - (intOf i).toNat)
    case atStart => exact ⟨l + 1, Nat.le_refl _, by omega, by go_num, HR.out⟩
    case round =>
      clear HR
      obtain ⟨k, h0, h1', rfl, hg⟩ := hrel
      by_cases hlt : k < r1
      · have hltI : (k : Int) < (r1 : Int) := by omega
        have HHk := hide (HHt.out k (by omega))
        rw [anyG_step _ _ _ (by omega)] at hg
        obtain ⟨q, hq⟩ : ∃ q, hasA (P t k) 10 = q := ⟨_, rfl⟩
        rw [hq] at HHk hg
        clear hq
        cases q with
        | true =>
          have Hg := hide (show R = true from hg.symm)
          clear hg
          go_wp2_with (go_at_call 34; (with_reducible refine HHk.out.mono ?_); rintro e w0 ⟨rfl, rfl⟩)
          go_ret
          exact ⟨by rw [Hg.out]; rfl, Hbw.out.trans (Hb8.out.mono (by have := Hsz.out; omega))⟩
        | false =>
          have Hg := hide (show anyG (fun k => hasA (P t k) 10) (k + 1) (r1 - k - 1) = R from hg)
          clear hg
          go_wp2_with (go_at_call 34; (with_reducible refine HHk.out.mono ?_); rintro e w0 ⟨rfl, rfl⟩)
          go_round
          case rel => exact ⟨k + 1, by omega, by omega, by go_num, by rw [← Nat.sub_sub]; exact Hg.out⟩
          case measure => simp [intOf]; omega
      · obtain rfl : k = r1 := by omega
        rw [Nat.sub_self] at hg
        have Hg := hide (show R = false from hg.symm)
        clear hg
        go_wp2
        go_ret
        exact ⟨by rw [Hg.out]; rfl, Hbw.out.trans (Hb8.out.mono (by have := Hsz.out; omega))⟩
end Go.Proofs.YtdgmjbcfopkibaaDoor
