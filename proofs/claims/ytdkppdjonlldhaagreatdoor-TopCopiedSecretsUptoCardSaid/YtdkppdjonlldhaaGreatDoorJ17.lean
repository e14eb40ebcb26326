/- Joined: SP44, SP45, SP46, SP47. -/
import Derived.Test.YtdkppdjonlldhaaGreatDoorJ11
import Derived.Test.YtdkppdjonlldhaaGreatDoorJ15
import Derived.Test.YtdkppdjonlldhaaGreatDoorK5
import Derived.Test.YtdkppdjonlldhaaGreatDoorJ5
import Derived.Test.YtdkppdjonlldhaaGreatDoorJ16
import Derived.Test.YtdkppdjonlldhaaGreatDoorV10
import Derived.Test.YtdkppdjonlldhaaGreatDoorTab
import Derived.Test.YtdkppdjonlldhaaGreatDoorOpen
import Derived.Lib.LaidTab
import Derived.Lay
import Derived.Deep.DeepWitnessRef
/- What a listener writes down: heardText; the small example. -/
namespace Go.Proofs.YtdkppdjonlldhaaGreatDoor
open Go.RowKit Go.Maps Go.Shelf

theorem sayAll_out {s : Stg} (hrep : s.rep = 0 ∨ 2 ≤ s.rep) : ∀ (f : Nat) (p : SS) (l : List Gl), l.length ≤ f → l.length ≤ 60000 → (∀ x ∈ l, GoodG x) → (∀ x ∈ p.out, x.length ≤ 1000000) → (sayAll s f p l).out.length ≤ p.out.length + 301 * l.length ∧ ∀ x ∈ (sayAll s f p l).out, x.length ≤ 1000000
  | 0, p, l, hl, _, _, hp => ⟨by show p.out.length ≤ _; omega, hp⟩
  | f + 1, p, [], _, _, _, hp => ⟨by show (if ([] : List Gl) = [] then p else _).out.length ≤ _; rw [if_pos rfl]; omega, by show ∀ x ∈ (if ([] : List Gl) = [] then p else _).out, _; rw [if_pos rfl]; exact hp⟩
  | f + 1, p, g :: r, hl, h6, hG, hp => by
    rw [sayAll_succ]
    obtain ⟨t, r2, h1, h2, h3, h4, hP⟩ := piece_ok hrep g r
    rw [List.length_cons] at hl h6
    have ht : r.length = t.length + r2.length := by rw [h1, List.length_append]
    split
    · have := sayAll_out hrep f { p with silent := true } r (by omega) (by omega) (fun x hx => hG x (List.mem_cons_of_mem _ hx)) hp
      rw [List.drop_succ_cons, List.drop_zero, List.length_cons]
      refine ⟨?_, this.2⟩
      have h := this.1
      dsimp only at h
      omega
    · rw [h3, h4]
      have hGt : ∀ x ∈ g :: t, GoodG x := fun x hx => hG x (by rw [h1]; rcases List.mem_cons.1 hx with e | h; (· exact e ▸ List.mem_cons_self); exact List.mem_cons_of_mem _ (List.mem_append_left _ h))
      have := sayAll_out hrep f (sayF s p (g :: t)) r2 (by omega) (by omega) (fun x hx => hG x (by rw [h1]; exact List.mem_cons_of_mem _ (List.mem_append_right _ hx))) (sayF_short s p g t hGt hP (by omega) hp)
      have h5 := sayF_len s p g t hGt
      rw [List.length_cons]
      refine ⟨?_, this.2⟩
      have h := this.1
      omega
theorem words_out {s : Stg} (hrep : s.rep = 0 ∨ 2 ≤ s.rep) (l : List Gl) (h6 : l.length ≤ 60000) (hG : ∀ x ∈ l, GoodG x) : (wordsF s l).length ≤ 301 * l.length ∧ ∀ x ∈ wordsF s l, x.length ≤ 1000000 := by
  have := sayAll_out hrep l.length ⟨[], 0, 0, false⟩ l (Nat.le_refl _) h6 hG (fun x hx => by cases hx)
  exact ⟨by have h := this.1; rw [show (⟨[], 0, 0, false⟩ : SS).out.length = 0 from rfl, Nat.zero_add] at h; exact h, this.2⟩
theorem glrow_own {w : World} {B : Nat} {A : Option Addr} {n c : Nat} {l : List Gl} (h : w.ownsRow B 42 3 (.slice A n c) n (l.flatMap Gl.enc)) (hl : l.length = n) : GlRow w w.heap.size A l := by
  subst hl
  obtain ⟨A', c', he, -, hr⟩ := Sl.of_own GlAt.lays h
  cases he
  exact hr
theorem StyT.below {w w' : World} (h : StyT w) (hb : Below w.heap.size w w') : StyT w' := by
  unfold StyT World.var? at h ⊢
  cases hg : Tryz.prog.globalNamed "narrator/spokentext.styles" with
  | none => rw [hg] at h; cases h
  | some g =>
    rw [hg] at h
    simp only [Option.bind_some] at h ⊢
    by_cases hl : g < w.heap.size
    · rw [hb.block g hl]; exact h
    · rw [Array.getElem?_eq_none (by omega)] at h; cases h
set_option maxRecDepth 100000 in
set_option maxHeartbeats 4000000 in
theorem heardP (w : World) (hS : Spc w) (hT : StyT w) (htb : Tabs w) (s : SetV) (hrep : s.rep = 0 ∨ 2 ≤ s.rep) (A : Option Addr) (n c : Nat) (l : List Gl) (hl : l.length = n) (hn : n ≤ 1000) (hnc : n ≤ c) (hrow : GlRow w w.heap.size A l) (hG : ∀ x ∈ l, GoodG x) :
    Calls Tryz.prog 9 #[.slice A n c, s.val] w fun e w' => e = .returned (.tuple #[.string (textB l), .bool true]) ∧ Below w.heap.size w w' := by
  obtain ⟨ra, sd, sp, re, co, ce⟩ := s
  dsimp only at hrep
  have hb1 := (Below.refl w.heap.size w).alloc (Nat.le_refl _) (.cells #[.int .i64 ra, .bool sd, .bool sp, .int .i64 re, .bool co, .int .i64 ce] 26)
  obtain ⟨h301, hsh⟩ := words_out (s := ⟨sd, sp, re⟩) hrep l (by omega) hG
  obtain ⟨st, j, hst⟩ := round_trip ⟨sd, sp, re⟩ hrep l hG
  have HW := hide (fun (W : World) (hb : Below w.heap.size w W) => wordsSP W (hS.below hb) (StyT.below hT hb) (htb.below hb) ⟨ra, sd, sp, re, co, ce⟩ hrep A n c l hl (by omega) hnc ((hrow.below (GlAt.stays _) hb).more hb.size) hG)
  have HG := hide (fun (W : World) (hb : Below w.heap.size w W) (A : Option Addr) (c : Nat) (hc : (wordsF ⟨sd, sp, re⟩ l).length ≤ c) (hr : StrRow W W.heap.size A (wordsF ⟨sd, sp, re⟩ l)) => glyphsP W (hS.below hb) (StyT.below hT hb) (htb.below hb) A _ c (wordsF ⟨sd, sp, re⟩ l) rfl (by omega) hc hr hsh ⟨[], l, st, j⟩ hst rfl (by show l.length ≤ _; omega))
  unfold SetV.val SetV.stg at HW
  unfold SetV.val
  dsimp only at HW HG ⊢
  obtain ⟨WL, hWL⟩ : ∃ WL, wordsF ⟨sd, sp, re⟩ l = WL := ⟨_, rfl⟩
  rw [hWL] at HW HG
  obtain ⟨M, hM⟩ : ∃ M, WL.length = M := ⟨_, rfl⟩
  rw [hM] at HG
  rw [hl] at HG
  have HM := hide hM
  have HX := hide (fun (W : World) (A : Option Addr) (c : Nat) (h : GlRow W W.heap.size A l) => textVP W A c l h (by omega) (fun g hg => by have := good_len (hG g hg); omega))
  rw [hl] at HX
  obtain ⟨T, hTT⟩ : ∃ T, textB l = T := ⟨_, rfl⟩
  rw [hTT] at HX ⊢
  have HB1 := hide hb1
  have Hl := hide hl
  clear hS hT htb hrow hG hst hsh h301 hWL hM hTT hl hb1
  go_enter Tryz.func9, Tryz.ntmps9
  go_wp2_with (first
    | (go_at_call 21; refine (HX.out _ _ _ Hr5.out).mono ?_; rintro e w6 ⟨rfl, hb6⟩)
    | (go_at_call 20; refine (HG.out _ HB4.out _ _ hc4 Hr4.out).mono ?_; rintro e w5 ⟨v5, rfl, hown5, hb5⟩; obtain ⟨A5, c5, rfl⟩ := own_form hown5; have Hr5 := hide (glrow_own hown5 Hl.out); have HB5 := hide (HB4.out.trans (hb5.mono HB4.out.size)); clear hown5 hb5)
    | (go_at_call 19; refine (HW.out _ HB1.out).mono ?_; rintro e w4 ⟨v4, rfl, hown4, hb4⟩; obtain ⟨A4, c4, rfl, hc4, hr4⟩ := own_strs (own_eq hown4 HM.out rfl) HM.out; have Hr4 := hide hr4; have HB4 := hide (HB1.out.trans (hb4.mono HB1.out.size)); clear hown4 hb4 hr4)
    | fail)
  go_ret2
  exact ⟨rfl, HB5.out.trans (hb6.mono HB5.out.size)⟩
def starG : Gl := ⟨⟨#[42]⟩, false, 0⟩
theorem star_good : GoodG starG := by
  refine ⟨?_, ?_, by decide, by decide⟩
  · decide
  · decide
theorem star_words : wordsF ⟨false, false, 0⟩ [starG] = [[115, 116, 97, 114]] := by decide
theorem star_row (w : World) : GlRow (w.alloc (.cells #[.string ⟨#[42]⟩, .bool false, .int .i64 0] 42)) (w.alloc (.cells #[.string ⟨#[42]⟩, .bool false, .int .i64 0] 42)).heap.size (some ⟨w.heap.size, 0, none⟩) [starG] := fun _ => by
  have hb := block_new w (.cells #[.string ⟨#[42]⟩, .bool false, .int .i64 0] 42)
  refine ⟨w.heap.size, 0, rfl, block_lt hb, fun k x hx => ?_⟩
  match k, hx with
  | 0, hx => cases hx; exact ⟨cell_block hb 0, cell_block hb 1, cell_block hb 2⟩
  | k + 1, hx => simp at hx
set_option maxRecDepth 100000 in
set_option maxHeartbeats 1000000 in
theorem starP (w : World) (hS : Spc w) (hT : StyT w) (htb : Tabs w) : Calls Tryz.prog 8 #[] w fun e w' => e = .returned (.bool true) ∧ Below w.heap.size w w' := by
  have hb1 := (Below.refl w.heap.size w).alloc (Nat.le_refl _) (.cells #[.string ⟨#[42]⟩, .bool false, .int .i64 0] 42)
  have HW := hide (wordsSP (w.alloc (.cells #[.string ⟨#[42]⟩, .bool false, .int .i64 0] 42)) (hS.below hb1) (StyT.below hT hb1) (htb.below hb1) ⟨100, false, false, 0, false, 40⟩ (.inl rfl) (some ⟨w.heap.size, 0, none⟩) 1 1 [starG] rfl (by omega) (Nat.le_refl 1) (star_row w) (fun x hx => by rw [List.mem_singleton.1 hx]; exact star_good))
  unfold SetV.val SetV.stg at HW
  dsimp only at HW
  rw [star_words] at HW
  have HB1 := hide hb1
  clear hS hT htb hb1
  go_enter Tryz.func8, Tryz.ntmps8
  go_wp2_with (first
    | (go_at_call 19; refine HW.out.mono ?_; rintro e w4 ⟨v4, rfl, hown4, hb4⟩; obtain ⟨A4, c4, rfl, hc4, hr4⟩ := own_strs (n := 1) hown4 rfl; obtain ⟨b4, o4, rfl, hb4l, hc40⟩ := hr4.get1 (k := 0) (by simp); have hcc : w4.cell? ⟨b4, o4, none⟩ = some (.string ⟨#[115, 116, 97, 114]⟩) := hc40; have HB4 := hide (HB1.out.trans (hb4.mono HB1.out.size)); clear hown4 hb4 hr4 hc40)
    | fail)
  go_ret
  exact ⟨rfl, HB4.out⟩
end Go.Proofs.YtdkppdjonlldhaaGreatDoor

/- The law TopCopiedLines: the plain part. -/
namespace Go.Proofs.YtdkppdjonlldhaaGreatDoor
open Go.RowKit Go.Maps Go.Shelf

theorem good_of_err {g : Gl} (h : glErr g = 0) : GoodG g := by
  unfold glErr at h
  simp only [ByteArray.toList_eq] at h
  split at h
  · omega
  · rename_i h1
    split at h
    · omega
    · rename_i h2
      refine ⟨by simpa using h1, ?_, ?_, ?_⟩
      · by_cases e : g.wide = (clW g.text.data.toList == 2)
        · exact e
        · exact absurd (.inl e) h2
      · by_cases e : g.style < 0
        · exact absurd (.inr (.inl e)) h2
        · omega
      · by_cases e : 3 < g.style
        · exact absurd (.inr (.inr (.inl e))) h2
        · omega
theorem good_rows {v : Vw} (h : v.ok = true) : ∀ r ∈ v.rows, ∀ g ∈ r, GoodG g := fun r hr g hg => by
  have h0 := (Vw.proper h).rows r hr
  by_cases e : firstErr glErr r = 0
  · exact good_of_err (firstErr_zero e g hg)
  · rw [rowErr_glyph e] at h0
    exact absurd h0 e
def rowT (v : Vw) (y : Nat) : ByteArray := textB (rowOf v y)
theorem rowT_size {v : Vw} (ht : v.Tame) (y : Nat) : (rowT v y).size ≤ 70000 := by
  unfold rowT rowOf
  cases hr : v.rows[y]? with
  | none => rw [Option.getD_none]; simp [textB, ByteArray.size]
  | some r =>
    rw [Option.getD_some]
    have h := ht.2 r (List.mem_of_getElem? hr)
    have h2 := textB_size r (fun g hg => by have := h.2 g hg; omega) r.length (Nat.le_refl _)
    rw [List.take_length] at h2
    have := h.1
    omega
/-- The rows a to b, as one text. -/
def allT (v : Vw) (a n : Nat) : ByteArray := joinN (linesFrom (rowT v) a n)
theorem allT_zero (v : Vw) (a : Nat) : allT v a 0 = ⟨#[]⟩ := joinN_nil
theorem allT_one (v : Vw) (a : Nat) : allT v a 1 = rowT v a := by
  unfold allT
  rw [linesFrom_succ, show linesFrom (rowT v) a 0 = [] from rfl, List.nil_append, joinN_one, Nat.add_zero]
theorem allT_succ (v : Vw) (a n : Nat) (h : 0 < n) : allT v a (n + 1) = allT v a n ++ ⟨#[10]⟩ ++ rowT v (a + n) := by
  unfold allT
  rw [linesFrom_succ, joinN_snoc _ _ (fun e => by have := congrArg List.length e; rw [linesFrom_len] at this; simp at this; omega)]
  rfl
theorem allT_size {v : Vw} (ht : v.Tame) (a n : Nat) : (allT v a n).size ≤ n * 70001 := joinN_size (rowT v) 70000 n a fun _ _ => rowT_size ht _
theorem linE_ok {v : Vw} (h : v.ok = true) {a b : Int} (h0 : 0 ≤ a) (h1 : a ≤ b) (h2 : b ≤ v.height) : linE v a b = 0 := by
  have he : v.err = 0 := by unfold Vw.ok at h; simpa using h
  unfold linE
  rw [if_neg (by omega), if_neg (by omega), if_neg (by omega), if_neg (by omega)]
theorem linT_ok {v : Vw} (h : v.ok = true) {a b : Nat} (h1 : a ≤ b) (h2 : (b : Int) ≤ v.height) : linT v a b = allT v a (b - a) := by
  unfold linT
  rw [if_pos (linE_ok h (by omega) (by omega) h2), Int.toNat_natCast, show ((b : Int) - (a : Int)).toNat = b - a by omega]
  rfl
/-- What is wanted of the lines a to b, with i of the rows seen. -/
def wantT (v : Vw) (a b i : Nat) : ByteArray := allT v a (min i b - a)
theorem want_out (v : Vw) {a b i : Nat} (h : i < a ∨ b ≤ i) : wantT v a b (i + 1) = wantT v a b i := by
  unfold wantT
  congr 1
  omega
theorem want_first (v : Vw) {a b : Nat} (h : a < b) : wantT v a b (a + 1) = wantT v a b a ++ rowT v a ∧ wantT v a b a = ⟨#[]⟩ := by
  unfold wantT
  rw [show min (a + 1) b - a = 1 by omega, show min a b - a = 0 by omega, allT_zero, allT_one, nil_ba]
  exact ⟨rfl, rfl⟩
theorem want_next (v : Vw) {a b i : Nat} (h1 : a < i) (h2 : i < b) : wantT v a b (i + 1) = wantT v a b i ++ ⟨#[10]⟩ ++ rowT v i := by
  unfold wantT
  rw [show min (i + 1) b - a = (i - a) + 1 by omega, show min i b - a = i - a by omega, allT_succ v a (i - a) (by omega), show a + (i - a) = i by omega]
theorem want_size {v : Vw} (ht : v.Tame) (a b i : Nat) : (wantT v a b i).size ≤ i * 70001 := by
  have h := allT_size ht a (min i b - a)
  have : min i b - a ≤ i := by omega
  exact Nat.le_trans h (Nat.mul_le_mul_right _ this)
theorem want_end (v : Vw) {a b n : Nat} (h : b ≤ n) : wantT v a b n = allT v a (b - a) := by
  unfold wantT
  rw [Nat.min_eq_right h]
theorem set_rep {s : SetV} (h : setErr s = 0) : s.rep = 0 ∨ 2 ≤ s.rep := by
  unfold setErr at h
  split at h
  · omega
  · rename_i hc
    by_cases h0 : s.rep = 0
    · exact .inl h0
    · right
      by_cases h2 : s.rep < 2
      · exact absurd (.inr (.inl ⟨h0, .inl h2⟩)) hc
      · omega
end Go.Proofs.YtdkppdjonlldhaaGreatDoor

/- The walk of the law TopCopiedLines. -/
namespace Go.Proofs.YtdkppdjonlldhaaGreatDoor
open Go.RowKit Go.Maps Go.Shelf

set_option maxRecDepth 100000 in
set_option maxHeartbeats 4000000 in
theorem copiedLinesP (w : World) (hS : Spc w) (hT : StyT w) (htb : Tabs w) (A : Option Addr) (c : Nat) (v : Vw) (h : Rows2 w w.heap.size A v.rows) (s : SetV) (f t : Nat) (hf : f ≤ 255) (ht : t ≤ 255) :
    Calls Tryz.prog 3 #[v.val A c, s.val, .int .u8 f, .int .u8 t] w fun e w' => e = .returned (.bool true) ∧ Below w.heap.size w w' := by
  obtain ⟨ra, sd, sp, re, co, ce⟩ := s
  have hbox := (Below.refl w.heap.size w).alloc (Nat.le_refl _) (.cells #[.int .i64 v.width, .int .i64 v.height, .slice A v.rows.length c, .int .i64 v.row, .int .i64 v.col, .bool v.visible] 24)
  have hvb : VwBox _ w.heap.size v A c := block_new w (.cells #[.int .i64 v.width, .int .i64 v.height, .slice A v.rows.length c, .int .i64 v.row, .int .i64 v.col, .bool v.visible] 24)
  obtain ⟨W0, hW0⟩ : ∃ W0, W0 = w.alloc (.cells #[.int .i64 v.width, .int .i64 v.height, .slice A v.rows.length c, .int .i64 v.row, .int .i64 v.col, .bool v.visible] 24) := ⟨_, rfl⟩
  have hs0 : W0.heap.size = w.heap.size + 1 := by rw [hW0]; simp
  rw [← hW0] at hbox hvb
  have hbox2 := (Below.refl W0.heap.size W0).alloc (Nat.le_refl _) (.cells #[.int .i64 ra, .bool sd, .bool sp, .int .i64 re, .bool co, .int .i64 ce] 26)
  have hsb := block_new W0 (.cells #[.int .i64 ra, .bool sd, .bool sp, .int .i64 re, .bool co, .int .i64 ce] 26)
  obtain ⟨W1, hW1⟩ : ∃ W1, W1 = W0.alloc (.cells #[.int .i64 ra, .bool sd, .bool sp, .int .i64 re, .bool co, .int .i64 ce] 26) := ⟨_, rfl⟩
  have hs1 : W1.heap.size = w.heap.size + 1 + 1 := by rw [hW1, World.size_alloc, hs0]
  rw [← hW1] at hbox2 hsb
  rw [hs0] at hsb hbox2
  have hvb1 := hvb.below hbox2 (Nat.lt_succ_self _)
  have hb1 : Below w.heap.size w W1 := hbox.trans (hbox2.mono (Nat.le_succ _))
  have HBw := hide (fun (W : World) (hb : Below W1.heap.size W1 W) => hb1.trans (hb.mono hb1.size))
  have HG := hide (fun (W : World) (hb : Below W1.heap.size W1 W) => greatP W A c v ((h.below (hb1.trans (hb.mono hb1.size))).more (hb1.trans (hb.mono hb1.size)).size))
  have HK := hide (fun (W : World) (hb : Below W1.heap.size W1 W) => (hvb1.below hb (by omega)).cells)
  have HSB := hide (fun (W : World) (hb : Below W1.heap.size W1 W) => (hb.block (w.heap.size + 1) (by omega)).trans hsb)
  have HSC := hide (fun (W : World) (hb : Below W1.heap.size W1 W) => checkSP W ⟨ra, sd, sp, re, co, ce⟩)
  have HStar := hide (fun (W : World) (hb : Below W1.heap.size W1 W) => starP W (hS.below (hb1.trans (hb.mono hb1.size))) (StyT.below hT (hb1.trans (hb.mono hb1.size))) (htb.below (hb1.trans (hb.mono hb1.size))))
  obtain ⟨x0, x1, x2, x3, x4, x5⟩ := HK.out W1 (Below.refl _ _)
  unfold SetV.val at HSC ⊢
  dsimp only at HSC ⊢
  cases hg : v.great with
  | true =>
    rw [hg] at HG
    clear h hT hS htb hbox hs0 hvb hbox2 hsb hvb1 hb1 HSB HSC x0 x1 x2 x3 x4 x5
    obtain ⟨x0, x1, x2, x3, x4, x5⟩ := HK.out W1 (Below.refl _ _)
    subst hW1 hW0
    unfold Vw.val at HG ⊢
    go_enter Tryz.func3, Tryz.ntmps3
    go_wp2_with (first
      | (go_at_call 5; refine (HG.out _ (Below.refl _ _)).mono ?_; rintro e w1 ⟨rfl, hb1⟩)
      | (go_at_call 8; refine (HStar.out _ hb1).mono ?_; rintro e w2 ⟨rfl, hb2⟩)
      | fail)
    go_ret
    exact ⟨rfl, HBw.out _ (hb1.trans (hb2.mono hb1.size))⟩
  | false =>
    have htame := Vw.tame hg
    rw [hg] at HG
    have HC := hide (fun (W : World) (hb : Below W1.heap.size W1 W) => checkV W A c v ((h.below (hb1.trans (hb.mono hb1.size))).more (hb1.trans (hb.mono hb1.size)).size) htame (htb.below (hb1.trans (hb.mono hb1.size))))
    cases hok : v.ok with
    | false =>
      have hne : (v.err != 0) = true := by unfold Vw.ok at hok; simpa using hok
      have hne2 : (v.err == 0) = false := by unfold Vw.ok at hok; exact hok
      clear h hT hS htb hbox hs0 hvb hbox2 hsb hvb1 hb1 HSB HSC x0 x1 x2 x3 x4 x5 htame hg hok
      obtain ⟨x0, x1, x2, x3, x4, x5⟩ := HK.out W1 (Below.refl _ _)
      obtain ⟨V, hV⟩ : ∃ V, v.err = V := ⟨_, rfl⟩
      simp only [hV] at HC hne hne2
      clear hV
      subst hW1 hW0
      unfold Vw.val at HG HC ⊢
      go_enter Tryz.func3, Tryz.ntmps3
      go_wp2_with (first
        | (go_at_call 5; refine (HG.out _ (Below.refl _ _)).mono ?_; rintro e w1 ⟨rfl, hb1⟩; obtain ⟨y0, y1, y2, y3, y4, y5⟩ := HK.out w1 hb1)
        | (go_at_call 6; refine (HC.out _ hb1).mono ?_; rintro e w2 ⟨rfl, hb2'⟩; have hb2 := hb1.trans (hb2'.mono hb1.size))
        | (go_at_call 8; refine (HStar.out _ hb2).mono ?_; rintro e w3 ⟨rfl, hb3⟩)
        | fail)
      go_ret
      exact ⟨rfl, HBw.out _ (hb2.trans (hb3.mono hb2.size))⟩
    | true =>
      have he : v.err = 0 := by unfold Vw.ok at hok; simpa using hok
      rw [he] at HC
      obtain ⟨SE, hSE⟩ : ∃ SE, setErr ⟨ra, sd, sp, re, co, ce⟩ = SE := ⟨_, rfl⟩
      rw [hSE] at HSC
      by_cases hse : SE = 0
      case neg =>
        have q1 : (SE == 0) = false := beq_eq_false_iff_ne.2 hse
        have q2 : (SE != 0) = true := by rw [bne, q1]; rfl
        have k0 := cell_block (HSB.out W1 (Below.refl _ _)) 0
        have HSc := hide (fun (W : World) (hb : Below W1.heap.size W1 W) => And.intro (cell_block (HSB.out W hb) 0) (And.intro (cell_block (HSB.out W hb) 1) (And.intro (cell_block (HSB.out W hb) 2) (And.intro (cell_block (HSB.out W hb) 3) (And.intro (cell_block (HSB.out W hb) 4) (cell_block (HSB.out W hb) 5))))))
        clear h hT hS htb hbox hs0 hvb hbox2 hsb hvb1 hb1 HSB x0 x1 x2 x3 x4 x5 htame hg hok he hSE k0
        obtain ⟨x0, x1, x2, x3, x4, x5⟩ := HK.out W1 (Below.refl _ _)
        subst hW1 hW0
        unfold Vw.val at HG HC ⊢
        go_enter Tryz.func3, Tryz.ntmps3
        go_wp2_with (first
          | (go_at_call 5; refine (HG.out _ (Below.refl _ _)).mono ?_; rintro e w1 ⟨rfl, hb1⟩; obtain ⟨y0, y1, y2, y3, y4, y5⟩ := HK.out w1 hb1)
          | (go_at_call 6; refine (HC.out _ hb1).mono ?_; rintro e w2 ⟨rfl, hb2'⟩; have hb2 := hb1.trans (hb2'.mono hb1.size); obtain ⟨z0, z1, z2, z3, z4, z5⟩ := HSc.out w2 hb2)
          | (go_at_call 7; refine (HSC.out _ hb2).mono ?_; rintro e w3 ⟨rfl, hb3'⟩; have hb3 := hb2.trans (hb3'.mono hb2.size))
          | (go_at_call 8; refine (HStar.out _ hb3).mono ?_; rintro e w4 ⟨rfl, hb4⟩)
          | fail)
        go_ret
        exact ⟨rfl, HBw.out _ (hb3.trans (hb4.mono hb3.size))⟩
      case pos =>
        subst hse
        have hrep := set_rep hSE
        dsimp only at hrep
        have hp := Vw.proper hok
        have hh1 := hp.h1
        have hh2 := hp.h2
        have hlen := hp.len
        obtain ⟨H, hH⟩ : ∃ H : Nat, v.height = (H : Int) := ⟨v.height.toNat, by omega⟩
        obtain ⟨c1, c2, c3⟩ := bet_whole v hok
        have HL := hide (fun (W : World) (hb : Below W1.heap.size W1 W) (a b : Nat) (h1 : a ≤ b) (h2 : b ≤ H) => linesP W A c v a b ((h.below (hb1.trans (hb.mono hb1.size))).more (hb1.trans (hb.mono hb1.size)).size) htame (htb.below (hb1.trans (hb.mono hb1.size))))
        have HLe := hide (fun (a b : Nat) (h1 : a ≤ b) (h2 : b ≤ H) => And.intro (linE_ok hok (a := (a : Int)) (b := (b : Int)) (by omega) (by omega) (by rw [hH]; omega)) (linT_ok hok (a := a) (b := b) h1 (by rw [hH]; omega)))
        have HBt := hide (fun (W : World) (hb : Below W1.heap.size W1 W) => betweenP W A c v ⟨0, 0, 0⟩ ⟨0, v.height - 1, v.width⟩ ((h.below (hb1.trans (hb.mono hb1.size))).more (hb1.trans (hb.mono hb1.size)).size) htame (htb.below (hb1.trans (hb.mono hb1.size))))
        dsimp only at HBt
        have hlt : linT v 0 v.height = allT v 0 H := by rw [hH]; exact linT_ok hok (a := 0) (b := H) (Nat.zero_le H) (by rw [hH]; omega)
        rw [c1, c3, hlt] at HBt
        have hgood := good_rows hok
        have HRow := hide (fun (i : Nat) (hi : i < v.rows.length) => h.get1 hi)
        have HHd := hide (fun (W : World) (hb : Below W1.heap.size W1 W) (A' : Option Addr) (c' : Nat) (l : List Gl) (hl : l ∈ v.rows) (hc' : l.length ≤ c') (hr : GlRow w w.heap.size A' l) => heardP W (hS.below (hb1.trans (hb.mono hb1.size))) (StyT.below hT (hb1.trans (hb.mono hb1.size))) (htb.below (hb1.trans (hb.mono hb1.size))) ⟨ra, sd, sp, re, co, ce⟩ hrep A' l.length c' l rfl (by have := (htame.2 l hl).1; omega) hc' ((hr.below (GlAt.stays _) (hb1.trans (hb.mono hb1.size))).more (hb1.trans (hb.mono hb1.size)).size) (hgood l hl))
        unfold SetV.val at HHd
        dsimp only at HHd
        have HSc := hide (fun (W : World) (hb : Below W1.heap.size W1 W) => And.intro (cell_block (HSB.out W hb) 0) (And.intro (cell_block (HSB.out W hb) 1) (And.intro (cell_block (HSB.out W hb) 2) (And.intro (cell_block (HSB.out W hb) 3) (And.intro (cell_block (HSB.out W hb) 4) (cell_block (HSB.out W hb) 5))))))
        have Hlen := hide (show v.rows.length = H by omega)
        have Htame := hide htame
        have hH60 : H ≤ 60 := by omega
        have hH1 : 1 ≤ H := by omega
        obtain ⟨a, ha⟩ : ∃ a : Nat, f % (H + 1) = a := ⟨_, rfl⟩
        obtain ⟨d, hd⟩ : ∃ d : Nat, t % (H - a + 1) = d := ⟨_, rfl⟩
        have haH : a ≤ H := by rw [← ha]; have := Nat.mod_lt f (show 0 < H + 1 by omega); omega
        have hdH : d ≤ H - a := by rw [← hd]; have := Nat.mod_lt t (show 0 < H - a + 1 by omega); omega
        have hra : (f : Int) % ((H : Int) + 1) = (a : Int) := by rw [← ha, Int.natCast_emod]; rfl
        have hrd : (t : Int) % ((H : Int) - (a : Int) + 1) = (d : Int) := by
          rw [← hd, show (H : Int) - (a : Int) + 1 = ((H - a + 1 : Nat) : Int) by omega, Int.natCast_emod]
        have m1 : IntKind.i64.wrap ((H : Int) + 1) = (H : Int) + 1 := IntWalk.i64_in _ (by omega)
        have m2 : IntKind.i64.wrap ((H : Int) - (a : Int)) = (H : Int) - (a : Int) := IntWalk.i64_in _ (by omega)
        have m3 : IntKind.i64.wrap ((H : Int) - (a : Int) + 1) = (H : Int) - (a : Int) + 1 := IntWalk.i64_in _ (by omega)
        have m4 : IntKind.i64.wrap ((a : Int) + (d : Int)) = ((a + d : Nat) : Int) := by rw [IntWalk.i64_in _ (by omega)]; omega
        have n1 : ((H : Int) + 1 == 0) = false := beq_eq_false_iff_ne.2 (by omega)
        have n2 : ((H : Int) - (a : Int) + 1 == 0) = false := beq_eq_false_iff_ne.2 (by omega)
        have HH := hide hH
        clear h hT hS htb hbox hs0 hvb hbox2 hsb hvb1 hb1 x0 x1 x2 x3 x4 x5 htame hg hok he hSE c1 c2 c3 hgood ha hd hp hh1 hh2 hlen hrep hlt
        unfold Vw.val at HG HC HL HBt ⊢
        unfold Pl.val at HBt
        dsimp only at HBt
        simp only [hH] at HG HC HL HBt HK hW0 ⊢
        clear hH
        obtain ⟨x0, x1, x2, x3, x4, x5⟩ := HK.out W1 (Below.refl _ _)
        subst hW1 hW0
        go_enter Tryz.func3, Tryz.ntmps3
        go_wp2_with (first
          | (go_at_call 5; refine (HG.out _ (Below.refl _ _)).mono ?_; rintro e w1 ⟨rfl, hb1⟩; obtain ⟨y0, y1, y2, y3, y4, y5⟩ := HK.out w1 hb1)
          | (go_at_call 6; refine (HC.out _ hb1).mono ?_; rintro e w2 ⟨rfl, hb2'⟩; have hb2 := hb1.trans (hb2'.mono hb1.size); obtain ⟨z0, z1, z2, z3, z4, z5⟩ := HSc.out w2 hb2)
          | (go_at_call 7; refine (HSC.out _ hb2).mono ?_; rintro e w3 ⟨rfl, hb3'⟩; have hb3 := hb2.trans (hb3'.mono hb2.size); obtain ⟨u0, u1, u2, u3, u4, u5⟩ := HK.out w3 hb3)
          | fail)
        rw [hra]
        have HB3 := hide hb3
        have HK3 := hide (fun (W : World) (hb : Below w3.heap.size w3 W) => HK.out W (hb3.trans (hb.mono hb3.size)))
        have HSB3 := hide (fun (W : World) (hb : Below w3.heap.size w3 W) => HSB.out W (hb3.trans (hb.mono hb3.size)))
        have HBw3 := hide (fun (W : World) (hb : Below w3.heap.size w3 W) => HBw.out W (hb3.trans (hb.mono hb3.size)))
        have HHd3 := hide (fun (W : World) (hb : Below w3.heap.size w3 W) => HHd.out W (hb3.trans (hb.mono hb3.size)))
        have HL3 := hide (fun (W : World) (hb : Below w3.heap.size w3 W) => HL.out W (hb3.trans (hb.mono hb3.size)))
        have HBt3 := hide (fun (W : World) (hb : Below w3.heap.size w3 W) => HBt.out W (hb3.trans (hb.mono hb3.size)))
        have HStar3 := hide (fun (W : World) (hb : Below w3.heap.size w3 W) => HStar.out W (hb3.trans (hb.mono hb3.size)))
        clear hb3 hb2 hb1 hb2' hb3' x0 x1 x2 x3 x4 x5 y0 y1 y2 y3 y4 y5 z0 z1 z2 z3 z4 z5 u0 u1 u2 u3 u4 u5 HK HSB HHd HL HBt HStar HSc HSC HC HG HB3
        clear hra hrd m1 m2 m3 m4 n1 n2
        go_loopw [11, 12, 13] (fun s11 s12 s13 wr => ∃ (i : Nat) (X Y : ByteArray), i ≤ H ∧ s13 = .int .i64 i ∧ s11 = .string X ∧ s12 = .string Y ∧ X = wantT v a (a + d) i ∧ Y = allT v 0 i ∧ Below w3.heap.size w3 wr) (fun _ _ i _ => H - (intOf i).toNat)
        case atStart => exact ⟨0, ⟨#[]⟩, ⟨#[]⟩, Nat.zero_le _, rfl, rfl, rfl, by unfold wantT; rw [show min 0 (a + d) - a = 0 by omega]; exact (allT_zero v a).symm, (allT_zero v 0).symm, Below.refl _ _⟩
        case round =>
          rename World => wo
          obtain ⟨i, X, Y, hi, rfl, rfl, rfl, hX, hY, hbr⟩ := hrel
          have HBr := hide hbr
          obtain ⟨x0, x1, x2, x3, x4, x5⟩ := HK3.out wo hbr
          by_cases hlt : i < H
          · have hil : i < v.rows.length := by rw [Hlen.out]; exact hlt
            have hrow := HRow.out i hil
            obtain ⟨b, off, rfl, hbb, A', c', hcell, hc', hgl⟩ := hrow
            have hrT : rowT v i = textB v.rows[i] := by unfold rowT rowOf; rw [List.getElem?_eq_getElem hil]; rfl
            have hlm := List.getElem_mem hil
            obtain ⟨l, hl⟩ : ∃ l, v.rows[i] = l := ⟨_, rfl⟩
            rw [hl] at hrT hlm hcell hc' hgl
            have HR := hide (fun (W : World) (hb : Below w3.heap.size w3 W) => HHd3.out W hb A' c' l hlm hc' hgl)
            rw [← hrT] at HR
            have HLi := hide (fun (W : World) (hb : Below w3.heap.size w3 W) => HL3.out W hb i (i + 1) (Nat.le_succ i) hlt)
            have hle := HLe.out i (i + 1) (Nat.le_succ i) hlt
            rw [hle.1, hle.2, Nat.add_sub_cancel_left, allT_one, show ((i + 1 : Nat) : Int) = (i : Int) + 1 from rfl] at HLi
            have hTs := rowT_size Htame.out i
            have hXs := want_size Htame.out a (a + d) i
            have hYs := allT_size Htame.out 0 i
            rw [← hX] at hXs
            rw [← hY] at hYs
            have hstepY : (¬ (0 : Int) < (i : Int) ∧ allT v 0 (i + 1) = Y ++ rowT v i) ∨ ((0 : Int) < (i : Int) ∧ allT v 0 (i + 1) = Y ++ ⟨#[10]⟩ ++ rowT v i) := by
              by_cases h0 : i = 0
              · left
                refine ⟨by omega, ?_⟩
                rw [hY, h0, allT_one, allT_zero, nil_ba]
              · right
                refine ⟨by omega, ?_⟩
                rw [allT_succ v 0 i (by omega), Nat.zero_add, hY]
            have hstepX : (¬ (a : Int) ≤ (i : Int) ∧ wantT v a (a + d) (i + 1) = X) ∨ ((a : Int) ≤ (i : Int) ∧ ¬ (i : Int) < (a : Int) + (d : Int) ∧ wantT v a (a + d) (i + 1) = X) ∨ (((a : Int) ≤ (i : Int) ∧ ¬ (a : Int) < (i : Int)) ∧ (i : Int) < (a : Int) + (d : Int) ∧ wantT v a (a + d) (i + 1) = X ++ rowT v i) ∨ (((a : Int) ≤ (i : Int) ∧ (a : Int) < (i : Int)) ∧ (i : Int) < (a : Int) + (d : Int) ∧ wantT v a (a + d) (i + 1) = X ++ ⟨#[10]⟩ ++ rowT v i) := by
              by_cases h0 : i < a
              · exact .inl ⟨by omega, by rw [want_out v (.inl h0), hX]⟩
              · by_cases h1 : a + d ≤ i
                · exact .inr (.inl ⟨by omega, by omega, by rw [want_out v (.inr h1), hX]⟩)
                · by_cases h2 : i = a
                  · refine .inr (.inr (.inl ⟨⟨by omega, by omega⟩, by omega, ?_⟩))
                    subst h2
                    rw [(want_first v (a := i) (b := i + d) (by omega)).1, hX]
                  · exact .inr (.inr (.inr ⟨⟨by omega, by omega⟩, by omega, by rw [want_next v (a := a) (b := a + d) (by omega) (by omega), hX]⟩))
            obtain ⟨T, hTT⟩ : ∃ T, rowT v i = T := ⟨_, rfl⟩
            rw [hTT] at hTs hstepX hstepY HR HLi
            have HX2 := hide hX
            have g1 : (i : Int) < (H : Int) := by omega
            have g0 : (0 : Int) ≤ (i : Int) := by omega
            have mi : IntKind.i64.wrap ((i : Int) + 1) = (i : Int) + 1 := IntWalk.i64_in _ (by omega)
            have gl : (i : Int) < (v.rows.length : Int) := by omega
            have e1 : Y.size + 1 ≤ 9223372036854775807 := by omega
            have e2 : Y.size + 1 + T.size ≤ 9223372036854775807 := by omega
            have e3 : Y.size + T.size ≤ 9223372036854775807 := by omega
            have e4 : X.size + 1 ≤ 9223372036854775807 := by omega
            have e5 : X.size + 1 + T.size ≤ 9223372036854775807 := by omega
            have e6 : X.size + T.size ≤ 9223372036854775807 := by omega
            have hbbo : b < wo.heap.size := by have h1 := (HBw3.out wo hbr).size; exact Nat.lt_of_lt_of_le hbb h1
            have hcello := ((HBw3.out wo hbr).cell (p := ⟨b, off + i, none⟩) hbb).trans hcell
            have Hcello := hide hcello
            have hbd := (Below.refl wo.heap.size wo).drew
            have HBd := hide (fun (W : World) (hb : Below wo.heap.size wo W) => hbr.trans (hb.mono hbr.size))
            clear hbr hX hY hrT hlm hl hcell hcello hc' hgl hTs hXs hYs hTT hle hil
            go_upto_region 9 with fail
            clear x0 x1 x2 x3 x4 x5
            refine td_begin (by kernel_rfl) ?_
            refine td_hold (fun W => Below wo.heap.size wo W) [] (by decide +kernel) ?_ (fun hHeld => ?_)
            · (exact hbd)
            (refine td_take 0 (v := ?_) rfl (by decide) (by kernel_rfl) (by decide +kernel) (by decide +kernel) (fun _ _ _ h => h) (by assumption) (by rfl) ?_ ?_; rotate_left; (· (intro w hSw; (try dsimp only at hSw); obtain ⟨x0, x1, x2, x3, x4, x5⟩ := HK3.out _ (HBd.out _ hSw); have xc := (hSw.cell (p := ⟨b, off + i, none⟩) hbbo).trans Hcello.out; (go_simp <;> with_reducible rfl))); (try simp only [Act.put, List.setIfInBounds_toArray, List.set_cons_zero, List.set_cons_succ]))
            (refine td_take 1 (v := ?_) rfl (by decide) (by kernel_rfl) (by decide +kernel) (by decide +kernel) (fun _ _ _ h => h) (by assumption) (by rfl) ?_ ?_; rotate_left; (· (intro w hSw; (try dsimp only at hSw); obtain ⟨x0, x1, x2, x3, x4, x5⟩ := HK3.out _ (HBd.out _ hSw); have xc := (hSw.cell (p := ⟨b, off + i, none⟩) hbbo).trans Hcello.out; (go_simp <;> with_reducible rfl))); (try simp only [Act.put, List.setIfInBounds_toArray, List.set_cons_zero, List.set_cons_succ]))
            (refine td_take 2 (v := ?_) rfl (by decide) (by kernel_rfl) (by decide +kernel) (by decide +kernel) (fun _ _ _ h => h) (by assumption) (by rfl) ?_ ?_; rotate_left; (· (intro w hSw; (try dsimp only at hSw); obtain ⟨x0, x1, x2, x3, x4, x5⟩ := HK3.out _ (HBd.out _ hSw); have xc := (hSw.cell (p := ⟨b, off + i, none⟩) hbbo).trans Hcello.out; (go_simp <;> with_reducible rfl))); (try simp only [Act.put, List.setIfInBounds_toArray, List.set_cons_zero, List.set_cons_succ]))
            (refine td_take 3 (v := ?_) rfl (by decide) (by kernel_rfl) (by decide +kernel) (by decide +kernel) (fun _ _ _ h => h) (by assumption) (by rfl) ?_ ?_; rotate_left; (· (intro w hSw; (try dsimp only at hSw); obtain ⟨x0, x1, x2, x3, x4, x5⟩ := HK3.out _ (HBd.out _ hSw); have xc := (hSw.cell (p := ⟨b, off + i, none⟩) hbbo).trans Hcello.out; (go_simp <;> with_reducible rfl))); (try simp only [Act.put, List.setIfInBounds_toArray, List.set_cons_zero, List.set_cons_succ]))
            (refine td_take 4 (v := ?_) rfl (by decide) (by kernel_rfl) (by decide +kernel) (by decide +kernel) (fun _ _ _ h => h) (by assumption) (by rfl) ?_ ?_; rotate_left; (· (intro w hSw; (try dsimp only at hSw); obtain ⟨x0, x1, x2, x3, x4, x5⟩ := HK3.out _ (HBd.out _ hSw); have xc := (hSw.cell (p := ⟨b, off + i, none⟩) hbbo).trans Hcello.out; (go_simp <;> with_reducible rfl))); (try simp only [Act.put, List.setIfInBounds_toArray, List.set_cons_zero, List.set_cons_succ]))
            (refine td_take 5 (v := ?_) rfl (by decide) (by kernel_rfl) (by decide +kernel) (by decide +kernel) (fun _ _ _ h => h) (by assumption) (by rfl) ?_ ?_; rotate_left; (· (intro w hSw; (try dsimp only at hSw); (refine exec_load_rowS 26 (.tmp 5) ?_ _ 0 ?_ _ _ (set_range (HSB3.out _ (HBd.out _ hSw))) Tryz.underlying26 rfl (by kernel_rfl); all_goals rfl))); (try simp only [Act.put, List.setIfInBounds_toArray, List.set_cons_zero, List.set_cons_succ]))
            (refine td_ready (rs := [6]) (by decide +kernel) (by decide) (by simp) ?_; refine td_cons rfl (fun K hK => ?_) td_nil; (go_simp; go_at_call 9; refine (HR.out _ (HBd.out _ hbd)).mono ?_; rintro e w5 ⟨rfl, hb5⟩; have hbd := hbd.trans (hb5.mono hbd.size); clear hb5; (first | refine hK.out _ _ ?_ ?_ | (go_wp2_with fail; refine hK.out _ _ ?_ ?_)); (· (exact hbd)); clear hK K hHeld; intro hHeld; (try simp only [Act.put, List.setIfInBounds_toArray, List.set_cons_zero, List.set_cons_succ])))
            (refine td_take 7 (v := ?_) rfl (by decide) (by kernel_rfl) (by decide +kernel) (by decide +kernel) (fun _ _ _ h => h) (by assumption) (by rfl) ?_ ?_; rotate_left; (· (intro w hSw; (try dsimp only at hSw); obtain ⟨x0, x1, x2, x3, x4, x5⟩ := HK3.out _ (HBd.out _ hSw); have xc := (hSw.cell (p := ⟨b, off + i, none⟩) hbbo).trans Hcello.out; (go_simp <;> with_reducible rfl))); (try simp only [Act.put, List.setIfInBounds_toArray, List.set_cons_zero, List.set_cons_succ]))
            (refine td_take 8 (v := ?_) rfl (by decide) (by kernel_rfl) (by decide +kernel) (by decide +kernel) (fun _ _ _ h => h) (by assumption) (by rfl) ?_ ?_; rotate_left; (· (intro w hSw; (try dsimp only at hSw); obtain ⟨x0, x1, x2, x3, x4, x5⟩ := HK3.out _ (HBd.out _ hSw); have xc := (hSw.cell (p := ⟨b, off + i, none⟩) hbbo).trans Hcello.out; (go_simp <;> with_reducible rfl))); (try simp only [Act.put, List.setIfInBounds_toArray, List.set_cons_zero, List.set_cons_succ]))
            (refine td_take 9 (v := ?_) rfl (by decide) (by kernel_rfl) (by decide +kernel) (by decide +kernel) (fun _ _ _ h => h) (by assumption) (by rfl) ?_ ?_; rotate_left; (· (intro w hSw; (try dsimp only at hSw); obtain ⟨x0, x1, x2, x3, x4, x5⟩ := HK3.out _ (HBd.out _ hSw); have xc := (hSw.cell (p := ⟨b, off + i, none⟩) hbbo).trans Hcello.out; (go_simp <;> with_reducible rfl))); (try simp only [Act.put, List.setIfInBounds_toArray, List.set_cons_zero, List.set_cons_succ]))
            (refine td_take 10 (v := ?_) rfl (by decide) (by kernel_rfl) (by decide +kernel) (by decide +kernel) (fun _ _ _ h => h) (by assumption) (by rfl) ?_ ?_; rotate_left; (· (intro w hSw; (try dsimp only at hSw); obtain ⟨x0, x1, x2, x3, x4, x5⟩ := HK3.out _ (HBd.out _ hSw); have xc := (hSw.cell (p := ⟨b, off + i, none⟩) hbbo).trans Hcello.out; (go_simp <;> with_reducible rfl))); (try simp only [Act.put, List.setIfInBounds_toArray, List.set_cons_zero, List.set_cons_succ]))
            (refine td_take 11 (v := ?_) rfl (by decide) (by kernel_rfl) (by decide +kernel) (by decide +kernel) (fun _ _ _ h => h) (by assumption) (by rfl) ?_ ?_; rotate_left; (· (intro w hSw; (try dsimp only at hSw); obtain ⟨x0, x1, x2, x3, x4, x5⟩ := HK3.out _ (HBd.out _ hSw); have xc := (hSw.cell (p := ⟨b, off + i, none⟩) hbbo).trans Hcello.out; (go_simp <;> with_reducible rfl))); (try simp only [Act.put, List.setIfInBounds_toArray, List.set_cons_zero, List.set_cons_succ]))
            refine And.intro (by decide +kernel) ?_
            have HB5 := hide (HBd.out _ hbd)
            obtain ⟨x0, x1, x2, x3, x4, x5⟩ := HK3.out _ HB5.out
            have qT : (T.toList == T.toList) = true := beq_self_eq_true _
            clear hbd
            rcases hstepY with ⟨hy0, hYn⟩ | ⟨hy0, hYn⟩ <;> rcases hstepX with ⟨hx0, hXn⟩ | ⟨hx0, hx1, hXn⟩ | ⟨⟨hx0, hx2⟩, hx1, hXn⟩ | ⟨⟨hx0, hx2⟩, hx1, hXn⟩
            all_goals
              first
                | (exfalso; omega)
                | skip
            all_goals
              have HYn := hide hYn
              have HXn := hide hXn
              clear hYn hXn
              go_wp2_with (first
                | (go_at_call 10; refine (HLi.out _ HB5.out).mono ?_; rintro e w6 ⟨rfl, hb6⟩; have HB6 := hide (HB5.out.trans (hb6.mono HB5.out.size)); clear hb6)
                | fail)
              refine ⟨⟨i + 1, _, _, hlt, by go_num, rfl, rfl, HXn.out.symm, HYn.out.symm, HB6.out⟩, by simp [intOf]; omega⟩
          · obtain rfl : i = H := by omega
            have hXe : X = allT v a d := by rw [hX, want_end v (by omega : a + d ≤ i), Nat.add_sub_cancel_left]
            have HLab := hide (fun (W : World) (hb : Below w3.heap.size w3 W) => HL3.out W hb a (a + d) (Nat.le_add_right a d) (by omega))
            have hle := HLe.out a (a + d) (Nat.le_add_right a d) (by omega)
            rw [hle.1, hle.2, Nat.add_sub_cancel_left, ← hXe, show ((a + d : Nat) : Int) = (a : Int) + (d : Int) from Int.natCast_add a d] at HLab
            rw [← hY] at HBt3
            have m5 : IntKind.i64.wrap ((i : Int) - 1) = (i : Int) - 1 := IntWalk.i64_in _ (by omega)
            have qX : (X.toList == X.toList) = true := beq_self_eq_true _
            have qY : (Y.toList == Y.toList) = true := beq_self_eq_true _
            have HX := hide hX
            have HY := hide hY
            clear hX hY hXe hle hbr
            go_wp2_with (first
              | (go_at_call 10; refine (HLab.out _ HBr.out).mono ?_; rintro e w6 ⟨rfl, hb6⟩; have HB6 := hide (HBr.out.trans (hb6.mono HBr.out.size)); obtain ⟨y0, y1, y2, y3, y4, y5⟩ := HK3.out w6 HB6.out; clear hb6)
              | (go_at_call 11; refine (HBt3.out _ HB6.out).mono ?_; rintro e w7 ⟨rfl, hb7⟩; have HB7 := hide (HB6.out.trans (hb7.mono HB6.out.size)); clear hb7)
              | (go_at_call 8; refine (HStar3.out _ HB7.out).mono ?_; rintro e w8 ⟨rfl, hb8⟩)
              | fail)
            go_ret
            exact ⟨rfl, HBw3.out _ (HB7.out.trans (hb8.mono HB7.out.size))⟩
end Go.Proofs.YtdkppdjonlldhaaGreatDoor

/- The listed variables and the settings, as the contracts ask for them. -/
namespace Go.Proofs.YtdkppdjonlldhaaGreatDoor
open Go.Shelf Go.Lib Go.RowKit

theorem space_same : (Rows.laid_strings_asciiSpace : DataW Unit) = Lib.tabData .u8 Lib.asciiSpaceTab := by kernel_rfl
theorem spc_of_reads {W : World} (h : Lib.VarReads Tryz.prog W "strings.asciiSpace" Rows.laid_strings_asciiSpace) : Spc W := by
  rw [space_same] at h
  obtain ⟨g', t', cs, fuel, p, hg', ht', hvar, hd⟩ := h
  have hg : Tryz.prog.globalNamed "strings.asciiSpace" = some 1 := by kernel_rfl
  obtain rfl := Option.some.inj (hg.symm.trans hg')
  have hty : (Tryz.prog.globals[1]?).map (·.type) = some 108 := by kernel_rfl
  obtain rfl := Option.some.inj (hty.symm.trans ht')
  unfold Spc Lib.TabIs
  rw [hvar, ← cells_of_tab Tryz.underlying108 Tryz.underlying5 (by kernel_rfl) (by kernel_rfl) hd]
def strData (zs : List (List UInt8)) : DataW Unit := .agg (zs.map fun z => .lit (.string z))
theorem cells_of_strs {enc : TypeId × Value → Unit} {P : Program} {w : World} {base : Nat} {sp : Nat → Bool} {held : Bool} {fuel : Nat} {t e : TypeId} {n : Nat} {cs : List Value} {zs : List (List UInt8)} {p : List MemPlace}
    (ht : P.underlying t = some (.array n e)) (he : P.underlying e = some .string) (hce : P.cellsOf e = 1) (hct : P.cellsOf t = n)
    (h : DataW.trod enc P w base sp held fuel t cs = some (strData zs, p)) : cs = zs.map strV := by
  cases fuel with
  | zero => simp [DataW.trod] at h
  | succ fuel =>
    simp only [DataW.trod, ht, hce, hct, Nat.mul_one] at h
    split at h
    · rename_i hl
      obtain ⟨xs, hm, hx⟩ := Option.map_eq_some_iff.1 h
      have hxs : xs.map (·.1) = zs.map fun z => (DataW.lit (.string z) : DataW Unit) := by
        have := congrArg Prod.fst hx
        simpa [strData] using this
      have hxl : xs.length = n := by simpa using mapM_length hm
      have hzl : zs.length = n := by
        have := congrArg List.length hxs
        simp at this
        omega
      apply List.ext_getElem?
      intro i
      by_cases hi : i < n
      · obtain ⟨b, hb, hf⟩ := mapM_at hm i i (by simp [hi])
        obtain ⟨s, hc, rfl, _⟩ := DataW.trod_string he hf
        have h1 : cs[i]? = some (.string s) := by
          have := congrArg (·[0]?) hc
          simpa [List.getElem?_take, List.getElem?_drop] using this
        have h2 := congrArg (·[i]?) hxs
        simp only [List.getElem?_map, hb, Option.map_some] at h2
        have hzi : zs[i]? = some zs[i] := List.getElem?_eq_getElem (by omega)
        rw [hzi] at h2
        simp only [Option.map_some, Option.some.injEq, DataW.lit.injEq, Lit.string.injEq] at h2
        rw [h1, List.getElem?_map, hzi, Option.map_some, ← h2]
        exact congrArg some (str_of s)
      · rw [List.getElem?_eq_none (by omega), List.getElem?_eq_none (by simp; omega)]
    · cases h
theorem styles_same : (Rows.laid_narrator_spokentext_styles : DataW Unit) = strData stylL := by kernel_rfl
theorem sty_of_reads {W : World} (h : Lib.VarReads Tryz.prog W "narrator/spokentext.styles" Rows.laid_narrator_spokentext_styles) : StyT W := by
  rw [styles_same] at h
  obtain ⟨g', t', cs, fuel, p, hg', ht', hvar, hd⟩ := h
  have hg : Tryz.prog.globalNamed "narrator/spokentext.styles" = some 0 := by kernel_rfl
  obtain rfl := Option.some.inj (hg.symm.trans hg')
  have hty : (Tryz.prog.globals[0]?).map (·.type) = some 90 := by kernel_rfl
  obtain rfl := Option.some.inj (hty.symm.trans ht')
  unfold StyT
  rw [hvar, ← cells_of_strs Tryz.underlying90 Tryz.underlying9 (by kernel_rfl) (by kernel_rfl) hd]
section
variable {H : Type} {enc : TypeId × Value → H} {w : World} {base : Nat} {spare : Nat → Bool} {held : Bool}
set_option maxRecDepth 100000 in
theorem open_settings {r : Reach} {b0 : Nat} {v : Value} {d : DataW H} {p : List MemPlace} (hv : Value.okWide Tryz.prog w r b0 26 v) (h : DataW.Trod enc Tryz.prog w base spare held 26 v d p) : ∃ s : SetV, v = s.val := by
  obtain ⟨v0, v1, v2, v3, v4, v5, y0, y1, y2, y3, y4, y5, n, rfl, -, -, t0, t1, t2, t3, t4, t5⟩ := open_agg6 Tryz.underlying26 (by kernel_rfl) (by kernel_rfl) hv h
  obtain ⟨z0, h0, -⟩ := DataW.trod_int Tryz.underlying3 t0
  obtain ⟨z1, h1, -⟩ := DataW.trod_bool Tryz.underlying4 t1
  obtain ⟨z2, h2, -⟩ := DataW.trod_bool Tryz.underlying4 t2
  obtain ⟨z3, h3, -⟩ := DataW.trod_int Tryz.underlying3 t3
  obtain ⟨z4, h4, -⟩ := DataW.trod_bool Tryz.underlying4 t4
  obtain ⟨z5, h5, -⟩ := DataW.trod_int Tryz.underlying3 t5
  cases h0
  cases h1
  cases h2
  cases h3
  cases h4
  cases h5
  exact ⟨⟨z0, z1, z2, z3, z4, z5⟩, rfl⟩
end
section
variable {H : Type} {enc : TypeId × Value → H}
/-- There is an input that fits, at a world whose variables are laid by the function. -/
theorem witness_row_zip {C : Checked} {os : Os} {f : FuncId} {fn : Func} {s : OpenSpec} {conds : List PathCond} {apart : Bool} {laid : List (String × DataW Unit)} (modest : Bool) (w0 : World) (args : Array Value) (hos : w0.os = os)
    (hv : (w0.forCall (fun _ _ => 0) ⟨#[], args, []⟩).variablesZipB C.prog = true)
    (hr : ((w0.forCall (fun _ _ => 0) ⟨#[], args, []⟩).heap.toList.drop C.prog.globals.size).take ((begin C.prog (fun _ _ => 0) default).world.heap.size - C.prog.globals.size) =
      (begin C.prog (fun _ _ => 0) default).world.heap.toList.drop C.prog.globals.size)
    (hok : Input.okWideB C.prog (w0.forCall (fun _ _ => 0) ⟨#[], args, []⟩) f ⟨#[], args, []⟩ = true)
    (hrow : s.preRow enc C.prog fn conds apart laid (w0.forCall (fun _ _ => 0) ⟨#[], args, []⟩).memory args) :
    ∃ (w : World) (tape : Tape) (i : Input), w.os = os ∧ (w.forCall tape i).Shaped C.prog ∧ i.vars = [] ∧ Input.okWide C.prog (w.forCall tape i) .any w.heap.size f i ∧
      s.preRow enc C.prog fn conds apart laid (w.forCall tape i).memory i.args ∧ ({ modest := modest } : Assume).holds C.prog (lone (Frame.enter C.prog f i.args .normal) [] (w.forCall tape i)) :=
  ⟨w0, fun _ _ => 0, ⟨#[], args, []⟩, hos, World.shaped_of_ZipB hv hr, (Input.okWide_of_okWideB (base := 0) hok).1, (Input.okWide_of_okWideB hok).2, hrow, by
    simp only [Assume.holds]
    exact ⟨by simp, by simp, fun _ => Modest.zero, by simp, by simp⟩⟩
end
end Go.Proofs.YtdkppdjonlldhaaGreatDoor
