/- Joined: SQ2, SQ1, SQ4, SQ3. -/
import Derived.Test.YtdkppdjonlldhaaGreatDoorV9
import Derived.Test.YtdkppdjonlldhaaGreatDoorApp3
import Derived.Test.YtdkppdjonlldhaaGreatDoorReg
import Derived.Lib.SliceRun
import Derived.Test.YtdkppdjonlldhaaGreatDoorJ17
import Derived.Test.YtdkppdjonlldhaaGreatDoorOpen
import Derived.Test.YtdkppdjonlldhaaGreatDoorRows
/- view.Trim of any row of glyphs, for TopCopiedSecrets. -/
namespace Go.Proofs.YtdkppdjonlldhaaGreatDoor
open Go.RowKit Go.Shelf

theorem below_dN {B : Nat} {w w1 : World} (h : Below B w w1) (n : Nat) : Below B w (w1.drewN n) := h.trans ⟨rfl, rfl, rfl, Nat.le_refl _, fun _ _ => rfl⟩
def trimS (l : List Gl) : List Gl := (l.reverse.dropWhile isBlank).reverse
theorem trimS_snoc (a : List Gl) (x : Gl) : trimS (a ++ [x]) = if isBlank x then trimS a else a ++ [x] := by
  unfold trimS
  rw [List.reverse_append]
  show (List.dropWhile isBlank (x :: a.reverse)).reverse = _
  cases h : isBlank x with
  | true => rw [List.dropWhile_cons_of_pos h]; rfl
  | false => rw [List.dropWhile_cons_of_neg (by simp [h])]; simp
theorem trimS_take {l : List Gl} {m : Nat} (h : m < l.length) : trimS (l.take (m + 1)) = if isBlank l[m] then trimS (l.take m) else l.take (m + 1) := by
  rw [List.take_succ_eq_append_getElem h, trimS_snoc]
theorem trimS_pre : ∀ (n : Nat) (l : List Gl), l.length = n → ∃ k, k ≤ n ∧ trimS l = l.take k
  | 0, l, h => by
    obtain rfl := List.eq_nil_of_length_eq_zero h
    exact ⟨0, Nat.le_refl _, rfl⟩
  | n + 1, l, h => by
    have hl : l.take (n + 1) = l := List.take_of_length_le (by omega)
    have h1 := trimS_take (l := l) (m := n) (by omega)
    rw [hl] at h1
    split at h1
    · obtain ⟨k, hk, he⟩ := trimS_pre n (l.take n) (by rw [List.length_take]; omega)
      refine ⟨k, by omega, ?_⟩
      rw [h1, he, List.take_take, Nat.min_eq_left hk]
    · exact ⟨n + 1, Nat.le_refl _, by rw [h1, hl]⟩
theorem trimS_len (l : List Gl) : (trimS l).length ≤ l.length := by
  obtain ⟨k, -, h⟩ := trimS_pre l.length l rfl
  rw [h, List.length_take]; omega
theorem trimS_sub (l : List Gl) : ∀ g ∈ trimS l, g ∈ l := fun g hg => by
  obtain ⟨k, -, h⟩ := trimS_pre l.length l rfl
  rw [h] at hg
  exact List.mem_of_mem_take hg
/-- What is left of a row, if nothing of its head is lost. -/
theorem trimS_head {p b : List Gl} (h : p.length ≤ (trimS (p ++ b)).length) : ∃ b', trimS (p ++ b) = p ++ b' := by
  obtain ⟨k, hk, he⟩ := trimS_pre (p ++ b).length (p ++ b) rfl
  rw [he, List.length_take] at h
  rw [he, List.take_append]
  exact ⟨b.take (k - p.length), by rw [List.take_of_length_le (by omega)]⟩
set_option maxHeartbeats 1000000 in
theorem cloneGP (w : World) (g off c n : Nat) (l : List Gl) (hn : l.length = n) (h : GlRow w w.heap.size (some ⟨g, off, none⟩) l) (hl : n ≤ 1000) :
    Calls Tryz.prog 27 #[.slice (some ⟨g, off, none⟩) n c] w fun e w' => ∃ v, e = .returned v ∧ w'.ownsRow w.heap.size 42 3 v n (l.flatMap Gl.enc) ∧ Below w.heap.size w w' := by
  have hq : ∀ (w : World) (a : Option Addr) (n c n' c' : Nat), (binOp .eql 34 (.slice a n c) (.slice none n' c')).run Tryz.prog w = .ok (.bool a.isNone) w := fun w a n c n' c' => Lib.run_eql_slice_nil w _ _ a n c n' c' Tryz.underlying34
  have hlit := own_lit w w.heap.size 42 3 0 #[] (Nat.le_refl _) (by omega) rfl
  have hbl := (Below.refl w.heap.size w).alloc (Nat.le_refl _) (.cells #[] 42)
  have hsl : w.heap.size ≤ (w.alloc (.cells #[] 42)).heap.size := by simp
  have Hh := hide h
  have Hn := hide hn
  clear h hn
  go_enter Tryz.func27, Tryz.ntmps27
  go_wp2_with (first
    | (at_builtin; refine wpList_gls (w.alloc (.cells #[] 42)) (.tmp 5) (.tmp 6) 34 rfl (by rfl) el_glyph w.heap.size _ 0 [] (by rfl) hlit hsl (some ⟨g, off, none⟩) c _ l n Hn.out (by rfl) (Hh.out.below (GlAt.stays _) hbl) (by omega) n (Nat.zero_add _) ?_; intro v6 w6 hown6 hg6; have hb6 := below_own hbl hlit hg6 (Nat.le_refl _) hsl)
    | fail)
  go_ret
  exact ⟨_, rfl, hown6, hb6⟩

theorem eq_blank (W : World) (g : Gl) : (binOp .eql 42 (.agg #[.string g.text, .bool g.wide, .int .i64 g.style]) (.agg #[.string ⟨#[32]⟩, .bool false, .int .i64 0])).run Tryz.prog W = .ok (.bool (isBlank g)) W := by
  have h1 := Tryz.underlying42
  have e0 : (⟨#[32]⟩ : ByteArray).toList = [32] := by rw [ByteArray.toList_eq]
  rw [run_eql_struct]
  unfold isBlank
  cases e1 : (g.text.toList == [32]) <;> cases e2 : g.wide <;> cases e3 : (g.style == 0) <;> simp [go_sem, h1, e0, e1, e3, Tryz.underlying9, Tryz.underlying3, Tryz.underlying4]

set_option maxHeartbeats 1000000 in
theorem cloneNil (w : World) : Calls Tryz.prog 27 #[.slice none 0 0] w fun e w' => e = .returned (.slice none 0 0) ∧ w = w' := by
  have hq : ∀ (w : World) (a : Option Addr) (n c n' c' : Nat), (binOp .eql 34 (.slice a n c) (.slice none n' c')).run Tryz.prog w = .ok (.bool a.isNone) w := fun w a n c n' c' => Lib.run_eql_slice_nil w _ _ a n c n' c' Tryz.underlying34
  go_enter Tryz.func27, Tryz.ntmps27
  go_wp2
  go_ret
  exact ⟨rfl, rfl⟩

set_option maxRecDepth 100000 in
set_option maxHeartbeats 2000000 in
theorem trimNilP (w : World) : Calls Tryz.prog 12 #[.slice none 0 0] w fun e w' => e = .returned (.slice none 0 0) ∧ Below w.heap.size w w' := by
  have HC := hide cloneNil
  have hrf := hide (Below.refl w.heap.size w)
  go_enter Tryz.func12, Tryz.ntmps12
  go_wp2
  go_loopw [3] (fun i wr => i = .int .i64 0 ∧ Below w.heap.size w wr) (fun _ _ => 0)
  case atStart => exact ⟨rfl, hrf.out⟩
  case round =>
    obtain ⟨rfl, hbr⟩ := hrel
    rename World => wo
    have Hbr := hide hbr
    clear hbr hrf
    go_wp2
    go_quiet (fail)
    go_wp2_with (go_at_call 27; refine (HC.out _).mono ?_; rintro e w6 ⟨rfl, rfl⟩)
    go_ret
    exact ⟨rfl, below_dN Hbr.out _⟩

set_option maxRecDepth 100000 in
set_option maxHeartbeats 4000000 in
theorem trimGlP (w : World) (g c n : Nat) (l : List Gl) (hn : l.length = n) (h : GlRow w w.heap.size (some ⟨g, 0, none⟩) l) (hl : n ≤ 1000) (hc : n ≤ c) :
    Calls Tryz.prog 12 #[.slice (some ⟨g, 0, none⟩) n c] w fun e w' => ∃ v, e = .returned v ∧ w'.ownsRow w.heap.size 42 3 v (trimS l).length ((trimS l).flatMap Gl.enc) ∧ Below w.heap.size w w' := by
  have HCl := hide (fun (W2 : World) (hb : Below w.heap.size w W2) (k : Nat) (hk : k ≤ n) => cloneGP W2 g 0 c k (l.take k) (by rw [List.length_take]; omega) (((h.take k).below (GlAt.stays _) hb).more hb.size) (by omega))
  have HBk := hide blankV
  have HH := hide h
  have Hn := hide hn
  have Hrf := hide (Below.refl w.heap.size w)
  have H0 := hide (show trimS (l.take n) = trimS l by rw [List.take_of_length_le (by omega)])
  clear h hn
  go_enter Tryz.func12, Tryz.ntmps12
  go_wp2
  go_loopw [3] (fun i wr => ∃ k : Nat, k ≤ n ∧ i = .int .i64 (k : Int) ∧ trimS (l.take k) = trimS l ∧ Below w.heap.size w wr) (fun i _ => (intOf i).toNat)
  case atStart => exact ⟨n, Nat.le_refl _, rfl, H0.out, Hrf.out⟩
  case round =>
    clear H0 Hrf
    obtain ⟨k, hk, rfl, ht, hbr⟩ := hrel
    rename World => wo
    have Hbr := hide hbr
    have Ht := hide ht
    clear hbr ht
    have hcI : (n : Int) ≤ (c : Int) := by omega
    have hkI : (k : Int) ≤ (c : Int) := by omega
    rcases Nat.eq_zero_or_pos k with h0 | h0
    · have d0 : decide ((0 : Int) < (k : Int)) = false := decide_eq_false (by omega)
      have d0' : decide (0 < k) = false := decide_eq_false (by omega)
      have HE := hide (show l.take k = trimS l by rw [← Ht.out, h0]; rfl)
      clear h0
      go_wp2
      go_quiet (fail)
      have Hbq := hide (below_dN Hbr.out nq)
      go_wp2_with (go_at_call 27; refine (HCl.out _ Hbq.out k hk).mono ?_; rintro e w6 ⟨v6, rfl, hown6, hb6⟩)
      go_ret
      rw [HE.out] at hown6
      have hkl : (trimS l).length = k := by rw [← HE.out, List.length_take, Hn.out]; omega
      exact ⟨_, rfl, own_eq (own_more hown6 Hbq.out.size) hkl.symm rfl, Hbq.out.trans (hb6.mono Hbq.out.size)⟩
    · obtain ⟨m, rfl⟩ : ∃ m, k = m + 1 := ⟨k - 1, by omega⟩
      have hml : m < l.length := by rw [Hn.out]; omega
      have htk := trimS_take hml
      obtain ⟨b, o2, hA, hbb, c0, c1, c2⟩ := (HH.out.below (GlAt.stays _) Hbr.out).get hml
      cases hA
      simp only [Nat.zero_add] at c0 c1 c2
      obtain ⟨x, hx⟩ : ∃ x, l[m] = x := ⟨_, rfl⟩
      rw [hx] at c0 c1 c2 htk
      have hq := fun W2 => eq_blank W2 x
      obtain ⟨⟨tx, wd, st⟩, hxx⟩ : ∃ y, y = x := ⟨_, rfl⟩
      subst hxx
      dsimp only at c0 c1 c2 hq
      obtain ⟨Y, hY⟩ : ∃ Y, isBlank ⟨tx, wd, st⟩ = Y := ⟨_, rfl⟩
      rw [hY] at htk
      simp only [hY] at hq
      obtain ⟨k, hk1⟩ : ∃ k, m + 1 = k := ⟨_, rfl⟩
      rw [hk1] at Ht htk hk hkI
      have hIx : (k : Int) - 1 = (m : Int) := by omega
      have hmI : (m : Int) < (n : Int) := by omega
      have hk0 : (0 : Int) < (k : Int) := by omega
      have hk0' : decide ((0 : Int) < (k : Int)) = true := decide_eq_true hk0
      have hk0'' : decide (0 < k) = true := decide_eq_true (by omega)
      have hwr : IntKind.i64.wrap (m : Int) = (m : Int) := IntWalk.i64_in _ (by omega)
      have hgo : g < wo.heap.size := by have := Hbr.out.size; omega
      have hbd := (Below.refl wo.heap.size wo).drew
      have HE := hide (fun (W2 : World) (hb : Below wo.heap.size wo W2) => And.intro ((hb.cell (p := ⟨g, m * 3, none⟩) hgo).trans c0) (And.intro ((hb.cell (p := ⟨g, m * 3 + 1, none⟩) hgo).trans c1) ((hb.cell (p := ⟨g, m * 3 + 2, none⟩) hgo).trans c2)))
      have Hk1 := hide hk1
      have Htk := hide htk
      have hcast : ((m + 1 : Nat) : Int) = (k : Int) := by omega
      rw [hcast]
      clear hml hx htk hk1 hY hcast h0
      go_wp2
      go_region_held3 (fun W2 => W2.cell? ⟨g, m * 3, none⟩ = some (.string tx) ∧ W2.cell? ⟨g, m * 3 + 1, none⟩ = some (.bool wd) ∧ W2.cell? ⟨g, m * 3 + 2, none⟩ = some (.int .i64 st))
        (first | exact HE.out _ hb5 | exact HE.out _ hbd)
        (first
          | (go_at_call 18; refine (HBk.out _).mono ?_; rintro e w5 ⟨rfl, hbI⟩; have hb5 := hbd.trans (hbI.mono hbd.size))
          | fail)
      all_goals
        have Hb5 := hide (Hbr.out.trans (hb5.mono Hbr.out.size))
        clear hbd hb5 c0 c1 c2
        cases Y with
        | false =>
          go_wp2_with (go_at_call 27; refine (HCl.out _ Hb5.out k hk).mono ?_; rintro e w6 ⟨v6, rfl, hown6, hb6⟩)
          go_ret
          have hE : l.take k = trimS l := by rw [← Ht.out, Htk.out]; simp
          rw [hE] at hown6
          have hkl : (trimS l).length = k := by rw [← hE, List.length_take, Hn.out]; omega
          exact ⟨_, rfl, own_eq (own_more hown6 Hb5.out.size) hkl.symm rfl, Hb5.out.trans (hb6.mono Hb5.out.size)⟩
        | true =>
          go_wp2
          go_roundw
          case rel => exact ⟨m, by have := Hk1.out; omega, by first | rfl | go_num, by rw [← Ht.out, Htk.out, if_pos rfl], Hb5.out⟩
          case measure => have := Hk1.out; simp [intOf]; omega
end Go.Proofs.YtdkppdjonlldhaaGreatDoor

/- The law TopCopiedSecrets: the plain part. -/
namespace Go.Proofs.YtdkppdjonlldhaaGreatDoor
open Go.RowKit Go.Maps Go.Shelf

/-- A hidden glyph. -/
def hidG : Gl := ⟨⟨#[42]⟩, false, 3⟩
theorem idx_pre : ∀ (a r : List Gl), idx (a ++ r) (widthOf a : Int) = (a.length : Int)
  | [], r => by
    rw [List.nil_append]
    exact idx_zero r
  | g :: a, r => by
    have hw : widthOf (g :: a) = glW g + widthOf a := by simp [widthOf]
    have h := idx_pre a r
    show (if ((widthOf (g :: a) : Nat) : Int) < glW g then (0 : Int) else 1 + idx (a ++ r) ((widthOf (g :: a) : Nat) - glW g)) = _
    rw [if_neg (by omega), show ((widthOf (g :: a) : Nat) : Int) - (glW g : Int) = (widthOf a : Int) by omega, h, List.length_cons]
    omega
theorem cidx_pre (a r : List Gl) : cidx (a ++ r) (widthOf a : Int) = a.length := by
  unfold cidx
  rw [idx_pre, List.length_append]; omega
theorem width_app (a b : List Gl) : widthOf (a ++ b) = widthOf a + widthOf b := by
  unfold widthOf; rw [List.map_append, List.sum_append]
theorem width_hid (k : Nat) : widthOf (List.replicate k hidG) = k := by
  unfold widthOf
  rw [List.map_replicate, List.sum_replicate_nat]
  show k * 1 = k
  omega
def starsB (k : Nat) : ByteArray := ⟨(List.replicate k (42 : UInt8)).toArray⟩
theorem stars_succ (k : Nat) : starsB (k + 1) = starsB k ++ ⟨#[42]⟩ := by
  apply bytes_ext
  unfold starsB
  simp [List.replicate_succ']
theorem stars_size (k : Nat) : (starsB k).size = k := by
  rw [Lib.size_eq]; simp [starsB]
theorem text_hid : ∀ k : Nat, textB (List.replicate k hidG) = starsB k
  | 0 => rfl
  | k + 1 => by rw [List.replicate_succ', textB_app, textB_one, text_hid k, stars_succ]; rfl
/-- The view of one row. -/
def oneV (R : List Gl) : Vw := ⟨132, 1, [R], 0, 0, false⟩
theorem one_row (R : List Gl) : rowOf (oneV R) 0 = R := rfl
theorem secrets_part {a b' : List Gl} {k : Nat} (hok : (oneV (a ++ List.replicate k hidG ++ b')).ok = true) :
    betE (oneV (a ++ List.replicate k hidG ++ b')) 0 (widthOf a : Int) 0 ((widthOf a : Int) + k) = 0 ∧ betT (oneV (a ++ List.replicate k hidG ++ b')) 0 (widthOf a : Int) 0 ((widthOf a : Int) + k) = starsB k ∧ widthOf a + k ≤ 132 := by
  have he : (oneV (a ++ List.replicate k hidG ++ b')).err = 0 := by unfold Vw.ok at hok; simpa using hok
  have hr := (Vw.proper hok).rows (a ++ List.replicate k hidG ++ b') (List.mem_singleton.2 rfl)
  have hw : widthOf (a ++ List.replicate k hidG ++ b') ≤ 132 := by
    unfold rowErr at hr
    split at hr
    · rename_i h; exact absurd hr h
    · split at hr
      · omega
      · rename_i h
        have : (oneV (a ++ List.replicate k hidG ++ b')).width = 132 := rfl
        omega
  rw [width_app, width_app, width_hid] at hw
  have hp : ∀ z : Int, 0 ≤ z → z ≤ 132 → posB (oneV (a ++ List.replicate k hidG ++ b')) 0 z = true := fun z h0 h1 => by
    unfold posB oneV
    simp; omega
  have hE : betE (oneV (a ++ List.replicate k hidG ++ b')) 0 (widthOf a : Int) 0 ((widthOf a : Int) + k) = 0 := by
    unfold betE
    rw [if_neg (by omega), if_neg (by rw [hp _ (by omega) (by omega)]; simp), if_neg (by rw [hp _ (by omega) (by omega)]; simp), if_neg (by omega), if_neg (by omega)]
  refine ⟨hE, ?_, by omega⟩
  unfold betT
  rw [if_pos hE]
  show joinN (linesFrom (lineB _ 0 _ 0 _) 0 1) = _
  rw [linesFrom_succ, show ∀ f, linesFrom f 0 0 = [] from fun _ => rfl, List.nil_append, joinN_one]
  unfold lineB
  rw [show (0 + 0 : Nat) = 0 from rfl, one_row, if_pos (show ((0 : Nat) : Int) = 0 from rfl), if_pos (show ((0 : Nat) : Int) = 0 from rfl), List.append_assoc, cidx_pre, ← List.append_assoc,
    show (widthOf a : Int) + (k : Int) = ((widthOf (a ++ List.replicate k hidG) : Nat) : Int) by rw [width_app, width_hid]; omega, cidx_pre, List.take_left, List.drop_left, text_hid]
theorem secrets_line {R : List Gl} (hok : (oneV R).ok = true) : linE (oneV R) 0 1 = 0 ∧ linT (oneV R) 0 1 = textB R := by
  have hH : (oneV R).height = 1 := rfl
  refine ⟨linE_ok hok (by omega) (by omega) (by rw [hH]; omega), ?_⟩
  have h := linT_ok hok (a := 0) (b := 1) (by omega) (by rw [hH]; omega)
  rw [show ((0 : Nat) : Int) = 0 from rfl, show ((1 : Nat) : Int) = 1 from rfl] at h
  rw [h, allT_one]; rfl
end Go.Proofs.YtdkppdjonlldhaaGreatDoor

/- A row's argument that is a list of glyphs, opened with the bulk that the statement grants. -/
namespace Go.Proofs.YtdkppdjonlldhaaGreatDoor
open Go.ChangeShapes Go.WideShapes Go.Deep Go.Joins Go.RowKit

theorem mem_bulk {H : Type} : ∀ {l : List (DataW H)} {d : DataW H}, d ∈ l → Rows.uptoBulk d ≤ Rows.uptoBulkAll l
  | x :: r, d, h => by
    rw [Rows.uptoBulkAll]
    rcases List.mem_cons.1 h with rfl | h
    · omega
    · have := mem_bulk h; omega

section
variable {H : Type} {enc : TypeId × Value → H} {w : World} {base : Nat} {spare : Nat → Bool} {held : Bool}
set_option maxRecDepth 100000 in
theorem open_gls {r : Reach} {b0 : Nat} {v : Value} {d : DataW H} {p : List MemPlace} (hv : Value.okWide Tryz.prog w r b0 34 v) (h : DataW.Trod enc Tryz.prog w base spare held 34 v d p) :
    ∃ (A : Option Addr) (c : Nat) (l : List Gl), v = .slice A l.length c ∧ l.length ≤ c ∧ GlRow w w.heap.size A l ∧ ∀ g ∈ l, g.text.size ≤ Rows.uptoBulk d := by
  obtain ⟨a0, len0, cap0, rfl⟩ := okWide_slice Tryz.underlying34 hv
  obtain ⟨fuel, hf⟩ := h
  rcases open_slice_fields Tryz.underlying34 Tryz.underlying42 (by kernel_rfl) (by kernel_rfl) hf with ⟨hcs, -⟩ | ⟨a, len, cap, m, D, Pl, hcs, hb, hl, hm, hmm, hx, hi⟩
  · simp [Value.cells] at hcs
    obtain ⟨rfl, rfl, rfl⟩ := hcs
    exact ⟨none, 0, [], rfl, Nat.le_refl _, Sl.nil rfl, fun g hg => by cases hg⟩
  · simp [Value.cells] at hcs
    obtain ⟨rfl, rfl, rfl⟩ := hcs
    have hlm : len0 ≤ m := by rw [hmm]; split <;> omega
    by_cases h0 : 0 < len0
    · have hspot : a.spot = none := by
        obtain ⟨ys, n, -, -, -, hf⟩ := hi 0 (by omega)
        obtain ⟨v0, y0, c0, -, -⟩ := hf 0 _ rfl
        rw [Nat.zero_mul] at c0
        exact cell_spot (a := a) c0
      have hblk : a.block < w.heap.size := by
        obtain ⟨ys, n, -, -, -, hf⟩ := hi 0 (by omega)
        obtain ⟨v0, y0, c0, -, -⟩ := hf 0 _ rfl
        rw [Nat.zero_mul] at c0
        exact World.block_lt_of_cell? w a c0
      have hbk : ∀ i, i < len0 → Rows.uptoBulk (D i) ≤ Rows.uptoBulk d := fun i hi0 => by
        have hd : d = .slice ((List.range len0).map D) ((List.range (m - len0)).map fun j => D (len0 + j)) := congrArg Prod.fst hx
        rw [hd, Rows.uptoBulk]
        have := mem_bulk (List.mem_map.2 ⟨i, List.mem_range.2 hi0, rfl⟩ : D i ∈ (List.range len0).map D)
        omega
      obtain ⟨l, hll, hr⟩ := list_of len0 (R := fun i g => GlAt w a.block (a.off + i * 3) g ∧ g.text.size ≤ Rows.uptoBulk d) fun i him => by
        obtain ⟨ys, n, hD, -, -, hf⟩ := hi i (by omega)
        obtain ⟨v0, y0, c0, hy0, t0⟩ := hf 0 _ rfl
        obtain ⟨v1, y1, c1, -, t1⟩ := hf 1 _ rfl
        obtain ⟨v2, y2, c2, -, t2⟩ := hf 2 _ rfl
        obtain ⟨s, hs, hsd, -⟩ := DataW.trod_string Tryz.underlying9 t0
        obtain ⟨b, hb1, -⟩ := DataW.trod_bool Tryz.underlying4 t1
        obtain ⟨z, hz, -⟩ := DataW.trod_int Tryz.underlying3 t2
        cases hs
        cases hb1
        cases hz
        rw [add_plain hspot] at c0 c1 c2
        refine ⟨⟨s, b, z⟩, ⟨c0, by rw [← Nat.add_assoc] at c1; exact c1, by rw [← Nat.add_assoc] at c2; exact c2⟩, ?_⟩
        have h1 := hbk i him
        rw [hD, Rows.uptoBulk] at h1
        have h2 := mem_bulk (List.mem_map.2 ⟨y0, List.mem_of_getElem? hy0, rfl⟩ : y0.1 ∈ ys.map (·.1))
        rw [show y0.1 = .lit (.string s.data.toList) from congrArg Prod.fst hsd, Rows.uptoBulk] at h2
        have : s.data.toList.length = s.size := rfl
        show s.size ≤ _
        omega
      subst hll
      obtain ⟨bl, of, sp⟩ := a
      dsimp only at hspot hblk hr
      subst hspot
      refine ⟨_, cap0, l, rfl, hl, fun _ => ⟨bl, of, rfl, hblk, fun k x hx => (hr k x hx).1⟩, fun g hg => ?_⟩
      obtain ⟨k, hk, hgk⟩ := List.mem_iff_getElem.1 hg
      exact (hr k g (by rw [List.getElem?_eq_getElem hk, hgk])).2
    · obtain rfl : len0 = 0 := by omega
      exact ⟨_, cap0, [], rfl, Nat.zero_le _, Sl.nil rfl, fun g hg => by cases hg⟩
end
end Go.Proofs.YtdkppdjonlldhaaGreatDoor

/- The walk of the law TopCopiedSecrets. -/
namespace Go.Proofs.YtdkppdjonlldhaaGreatDoor
open Go.RowKit Go.Maps Go.Shelf

/-- Trim of a row of the call's own, nil or not. -/
theorem trimOwn (w : World) (B : Nat) (v : Value) (n : Nat) (l : List Gl) (hn : l.length = n) (h : w.ownsRow B 42 3 v n (l.flatMap Gl.enc)) (hl : n ≤ 1000) :
    Calls Tryz.prog 12 #[v] w fun e w' => ∃ v', e = .returned v' ∧ w'.ownsRow w.heap.size 42 3 v' (trimS l).length ((trimS l).flatMap Gl.enc) ∧ Below w.heap.size w w' := by
  have h2 := h
  rcases h.2 with ⟨rfl, h0⟩ | ⟨g, cap, cur, rfl, -, hg, hnc, -⟩
  · obtain rfl : l = [] := List.eq_nil_of_length_eq_zero (by omega)
    refine (trimNilP w).mono ?_
    rintro e w' ⟨rfl, hb⟩
    exact ⟨_, rfl, World.ownsRow_nil _ _ _ _, hb⟩
  · exact trimGlP w g cap n l hn (glrow_own h2 hn) hl hnc
theorem own_gl {w : World} {B : Nat} {v : Value} {n : Nat} {l : List Gl} (hl : l.length = n) (h : w.ownsRow B 42 3 v n (l.flatMap Gl.enc)) : ∃ A c, v = .slice A n c ∧ n ≤ c ∧ GlRow w w.heap.size A l := by
  have h2 := h
  rcases h.2 with ⟨rfl, h0⟩ | ⟨g, cap, cur, rfl, -, hg, hnc, -⟩
  · exact ⟨none, 0, by rw [h0], by omega, by obtain rfl := List.eq_nil_of_length_eq_zero (hl.trans h0); exact Sl.nil rfl⟩
  · exact ⟨_, cap, rfl, hnc, glrow_own h2 hl⟩
theorem tame_one {R : List Gl} (h36 : R.length ≤ 140) (hG : ∀ g ∈ R, glErr g = 0) : (oneV R).Tame := by
  refine ⟨by show [R].length ≤ 12; simp, fun r hr => ?_⟩
  obtain rfl := List.mem_singleton.1 hr
  exact ⟨h36, fun g hg => by have := good_len (good_of_err (hG g hg)); omega⟩
theorem one_rows {w : World} {g : Nat} {A : Option Addr} {n c : Nat} {R : List Gl} (h : w.heap[g]? = some (.cells #[.slice A n c] 34)) (hR : R.length = n) (hc : n ≤ c) (hr : GlRow w w.heap.size A R) : Rows2 w w.heap.size (some ⟨g, 0, none⟩) (oneV R).rows := fun _ => by
  refine ⟨g, 0, rfl, block_lt h, fun k x hx => ?_⟩
  match k, hx with
  | 0, hx => cases hx; exact ⟨A, c, by rw [hR]; exact cell_block h 0, by omega, hr⟩
  | k + 1, hx => simp [oneV] at hx
set_option maxRecDepth 100000 in
set_option maxHeartbeats 4000000 in
/-- From the row on, when it is trimmed. -/
theorem secretsStar (w : World) (hS : Spc w) (hT : StyT w) (htb : Tabs w) (Aa : Option Addr) (na ca : Nat) (Ab : Option Addr) (nb cb : Nat) (s : SetV) (n : Nat) (h : 12 < na ∨ 12 < nb ∨ setErr s ≠ 0) :
    Calls Tryz.prog 4 #[.slice Aa na ca, .slice Ab nb cb, .int .u8 n, s.val] w fun e w' => e = .returned (.bool true) ∧ Below w.heap.size w w' := by
  obtain ⟨ra, sd, sp, re, co, ce⟩ := s
  have hb1 := (Below.refl w.heap.size w).alloc (Nat.le_refl _) (.cells #[.int .i64 ra, .bool sd, .bool sp, .int .i64 re, .bool co, .int .i64 ce] 26)
  have HStar := hide (fun (W : World) (hb : Below w.heap.size w W) => starP W (hS.below hb) (StyT.below hT hb) (htb.below hb))
  have HSC := hide (fun (W : World) => checkSP W ⟨ra, sd, sp, re, co, ce⟩)
  obtain ⟨SE, hSE⟩ : ∃ SE, setErr ⟨ra, sd, sp, re, co, ce⟩ = SE := ⟨_, rfl⟩
  rw [hSE] at HSC h
  unfold SetV.val at HSC ⊢
  dsimp only at HSC ⊢
  have HB1 := hide hb1
  clear hS hT htb hb1 hSE
  by_cases h1 : 12 < na
  · have g1 : (12 : Int) < (na : Int) := by omega
    clear h
    go_enter Tryz.func4, Tryz.ntmps4
    go_wp2_with (first
      | (go_at_call 8; refine (HStar.out _ HB1.out).mono ?_; rintro e w4 ⟨rfl, hb4⟩)
      | fail)
    go_ret
    exact ⟨rfl, HB1.out.trans (hb4.mono HB1.out.size)⟩
  · by_cases h2 : 12 < nb
    · have g1 : ¬ (12 : Int) < (na : Int) := by omega
      have g2 : (12 : Int) < (nb : Int) := by omega
      clear h
      go_enter Tryz.func4, Tryz.ntmps4
      go_wp2_with (first
        | (go_at_call 8; refine (HStar.out _ HB1.out).mono ?_; rintro e w4 ⟨rfl, hb4⟩)
        | fail)
      go_ret
      exact ⟨rfl, HB1.out.trans (hb4.mono HB1.out.size)⟩
    · have h3 : SE ≠ 0 := by
        rcases h with h | h | h
        · exact absurd h h1
        · exact absurd h h2
        · exact h
      have g1 : ¬ (12 : Int) < (na : Int) := by omega
      have g2 : ¬ (12 : Int) < (nb : Int) := by omega
      have q1 : (SE == 0) = false := beq_eq_false_iff_ne.2 h3
      have q2 : (SE != 0) = true := by rw [bne, q1]; rfl
      clear h
      go_enter Tryz.func4, Tryz.ntmps4
      go_wp2_with (first
        | (go_at_call 7; refine (HSC.out _).mono ?_; rintro e w3 ⟨rfl, hb3⟩; have HB3 := hide (HB1.out.trans (hb3.mono HB1.out.size)); clear hb3)
        | (go_at_call 8; refine (HStar.out _ HB3.out).mono ?_; rintro e w4 ⟨rfl, hb4⟩)
        | fail)
      go_ret
      exact ⟨rfl, HB3.out.trans (hb4.mono HB3.out.size)⟩
set_option maxRecDepth 100000 in
set_option maxHeartbeats 4000000 in
theorem secretsMain (w : World) (hS : Spc w) (hT : StyT w) (htb : Tabs w) (Aa : Option Addr) (na ca : Nat) (la : List Gl) (hla : la.length = na) (hra : GlRow w w.heap.size Aa la) (hta : ∀ g ∈ la, g.text.size ≤ 2000000)
    (Ab : Option Addr) (nb cb : Nat) (lb : List Gl) (hlb : lb.length = nb) (hrb : GlRow w w.heap.size Ab lb) (htb2 : ∀ g ∈ lb, g.text.size ≤ 2000000) (s : SetV) (n : Nat) (hn : n ≤ 255) (ha12 : na ≤ 12) (hb12 : nb ≤ 12) (hse : setErr s = 0) :
    Calls Tryz.prog 4 #[.slice Aa na ca, .slice Ab nb cb, .int .u8 n, s.val] w fun e w' => e = .returned (.bool true) ∧ Below w.heap.size w w' := by
  have hrep := set_rep hse
  obtain ⟨ra, sd, sp, re, co, ce⟩ := s
  dsimp only at hrep
  have hb1 := (Below.refl w.heap.size w).alloc (Nat.le_refl _) (.cells #[.int .i64 ra, .bool sd, .bool sp, .int .i64 re, .bool co, .int .i64 ce] 26)
  have hbx1 := block_new w (.cells #[.int .i64 ra, .bool sd, .bool sp, .int .i64 re, .bool co, .int .i64 ce] 26)
  have hsz1 : (w.alloc (.cells #[.int .i64 ra, .bool sd, .bool sp, .int .i64 re, .bool co, .int .i64 ce] 26)).heap.size = w.heap.size + 1 := World.size_alloc _ _
  have HStar := hide (fun (W : World) (hb : Below w.heap.size w W) => starP W (hS.below hb) (StyT.below hT hb) (htb.below hb))
  have HSC := hide (fun (W : World) => checkSP W ⟨ra, sd, sp, re, co, ce⟩)
  rw [hse] at HSC
  have HHd := hide (fun (W : World) (hb : Below w.heap.size w W) => heardP W (hS.below hb) (StyT.below hT hb) (htb.below hb) ⟨ra, sd, sp, re, co, ce⟩ hrep)
  have HRa := hide (fun (W : World) (hb : Below w.heap.size w W) => ((hra.below (GlAt.stays _) hb).more hb.size : GlRow W W.heap.size Aa la))
  have HRb := hide (fun (W : World) (hb : Below w.heap.size w W) => ((hrb.below (GlAt.stays _) hb).more hb.size : GlRow W W.heap.size Ab lb))
  have HCk := hide (fun (W : World) (hb : Below w.heap.size w W) (A : Option Addr) (c : Nat) (v : Vw) h ht => checkV W A c v h ht (htb.below hb))
  have HLn := hide (fun (W : World) (hb : Below w.heap.size w W) (A : Option Addr) (c : Nat) (v : Vw) a b h ht => linesP W A c v a b h ht (htb.below hb))
  have HBt := hide (fun (W : World) (hb : Below w.heap.size w W) (A : Option Addr) (c : Nat) (v : Vw) p q h ht => betweenP W A c v p q h ht (htb.below hb))
  have HBx := hide (fun (W : World) (hb : Below (w.heap.size + 1) (w.alloc (.cells #[.int .i64 ra, .bool sd, .bool sp, .int .i64 re, .bool co, .int .i64 ce] 26)) W) => (hb.block w.heap.size (Nat.lt_succ_self _)).trans hbx1)
  have HBw := hide (fun (W : World) (hb : Below (w.heap.size + 1) (w.alloc (.cells #[.int .i64 ra, .bool sd, .bool sp, .int .i64 re, .bool co, .int .i64 ce] 26)) W) => hb1.trans (hb.mono (Nat.le_succ _)))
  unfold SetV.val at HSC HHd ⊢
  dsimp only at HSC HHd ⊢
  obtain ⟨W1, hW1⟩ : ∃ W1, w.alloc (.cells #[.int .i64 ra, .bool sd, .bool sp, .int .i64 re, .bool co, .int .i64 ce] 26) = W1 := ⟨_, rfl⟩
  have hb1' := hb1
  rw [hW1] at HBx HBw hsz1 hb1
  have HB1 := hide hb1
  have hnil := World.ownsRow_nil W1 (w.heap.size + 1) 42 3
  have Hnil := hide hnil
  have HrW1 := hide (Below.refl (w.heap.size + 1) W1)
  obtain ⟨K, hK⟩ : ∃ K, n % 13 = K := ⟨_, rfl⟩
  have hK12 : K ≤ 12 := by rw [← hK]; have := Nat.mod_lt n (show 0 < 13 by omega); omega
  have hKI : (n : Int) % 13 = (K : Int) := by rw [← hK]; omega
  have Hla := hide hla
  have Hlb := hide hlb
  have Hta := hide hta
  have Htb2 := hide htb2
  have gA : ¬ (12 : Int) < (na : Int) := by omega
  have gB : ¬ (12 : Int) < (nb : Int) := by omega
  have hszle : w.heap.size + 1 ≤ W1.heap.size := Nat.le_of_eq hsz1.symm
  clear hS hT htb hra hrb hta htb2 hse hb1 hb1' hbx1 hK hla hlb hnil hrep
  subst hW1
  go_enter Tryz.func4, Tryz.ntmps4
  go_wp2_with (first
    | (go_at_call 7; refine (HSC.out _).mono ?_; rintro e w3 ⟨rfl, hb3⟩; have HB3 := hide (HrW1.out.trans (hb3.mono hszle)); have HN3 := hide (own_below Hnil.out hb3 (Nat.le_refl _)); have hs3 := hb3.size; clear hb3)
    | (at_builtin; refine wpList_gls w3 (.tmp 35) (.tmp 36) 34 rfl (by rfl) el_glSP (w.heap.size + 1) _ 0 [] (by rfl) HN3.out (Nat.le_trans hszle hs3) Aa ca _ la na Hla.out (by rfl) (HRa.out _ (HBw.out _ HB3.out)) (by omega) na (Nat.zero_add _) ?_; intro v4 w4 hown4 hg4; have HO4 := hide hown4; have HB4 := hide (below_own HB3.out HN3.out hg4 (Nat.le_refl _) (Nat.le_trans hszle hs3)); clear hown4 hg4)
    | fail)
  go_loopw [9, 10, 11] (fun s9 s10 s11 wr => ∃ i : Nat, i ≤ K ∧ s11 = .int .i64 i ∧ s10 = .string (starsB i) ∧ wr.ownsRow (w.heap.size + 1) 42 3 s9 (na + i) ((la ++ List.replicate i hidG).flatMap Gl.enc) ∧ Below (w.heap.size + 1) (w.alloc (.cells #[.int .i64 ra, .bool sd, .bool sp, .int .i64 re, .bool co, .int .i64 ce] 26)) wr) (fun _ _ i _ => K - (intOf i).toNat)
  case atStart => exact ⟨0, Nat.zero_le _, rfl, rfl, own_eq HO4.out (by omega) (by simp), HB4.out⟩
  case round =>
    rename World => wo
    obtain ⟨i, hi, rfl, rfl, hown, hbr⟩ := hrel
    have HO := hide hown
    have HBr := hide hbr
    have hso : w.heap.size + 1 ≤ wo.heap.size := Nat.le_trans hszle hbr.size
    clear hown hbr HB3 HN3 HO4 HB4 hs3
    by_cases hlt : i < K
    · have g1 : (i : Int) < (K : Int) := by omega
      have e1 : (starsB i).size + 1 ≤ 9223372036854775807 := by rw [stars_size]; omega
      go_wp2_with (first
        | (at_builtin; refine wpList_app wo (.tmp 45) (.tmp 47) 34 rfl (by rfl) el_glSP (w.heap.size + 1) _ (na + i) _ (by rfl) HO.out hso _ 1 1 _ _ (by rfl) (by first | rfl | simp) rfl (by simp [Value.oneCell']) (by omega) ?_; intro v6 w6 hown6 hg6; have HO6 := hide hown6; have HB6 := hide (below_own HBr.out HO.out hg6 (Nat.le_refl _) hso); clear hown6 hg6)
        | fail)
      have hst : starsB i ++ ⟨#[42]⟩ = starsB (i + 1) := (stars_succ i).symm
      refine ⟨⟨i + 1, hlt, by go_num, by rw [hst], own_eq HO6.out (by omega) (by simp [List.replicate_succ', hidG, Gl.enc]), HB6.out⟩, by simp [intOf]; omega⟩
    · obtain rfl : K = i := by omega
      obtain ⟨L, hL⟩ : ∃ L, la ++ List.replicate K hidG ++ lb = L := ⟨_, rfl⟩
      have hLl : L.length = na + K + nb := by rw [← hL, List.length_append, List.length_append, List.length_replicate, Hla.out, Hlb.out]
      have hLt : ∀ g ∈ L, g.text.size ≤ 2000000 := fun g hg => by
        rw [← hL] at hg
        rcases List.mem_append.1 hg with hg | hg
        · rcases List.mem_append.1 hg with hg | hg
          · exact Hta.out g hg
          · obtain ⟨-, rfl⟩ := List.mem_replicate.1 hg
            show (⟨#[42]⟩ : ByteArray).size ≤ _
            exact Nat.le_trans (by decide : _ ≤ 1) (by omega)
        · exact Htb2.out g hg
      obtain ⟨R, hR⟩ : ∃ R, trimS L = R := ⟨_, rfl⟩
      have hRl : R.length ≤ na + K + nb := by rw [← hR, ← hLl]; exact trimS_len L
      have hRt : ∀ g ∈ R, g.text.size ≤ 2000000 := fun g hg => hLt g (trimS_sub L g (by rw [hR]; exact hg))
      have hRh : na + K ≤ R.length → ∃ b', R = la ++ List.replicate K hidG ++ b' := fun hle => by
        have hp : (la ++ List.replicate K hidG).length ≤ (trimS (la ++ List.replicate K hidG ++ lb)).length := by
          rw [hL, hR, List.length_append, List.length_replicate, Hla.out]; exact hle
        obtain ⟨b', hb'⟩ := trimS_head hp
        exact ⟨b', by rw [← hR, ← hL]; exact hb'⟩
      obtain ⟨nR, hnR⟩ : ∃ nR, R.length = nR := ⟨_, rfl⟩
      rw [hnR] at hRl hRh
      have HTr := hide (fun (W : World) (B : Nat) (v : Value) (h : W.ownsRow B 42 3 v (na + K + nb) (L.flatMap Gl.enc)) => trimOwn W B v (na + K + nb) L hLl h (by omega))
      rw [hR, hnR] at HTr
      have HLq := hide (show ∀ xs : List Value, (la ++ List.replicate K hidG).flatMap Gl.enc ++ lb.flatMap Gl.enc = L.flatMap Gl.enc from fun _ => by rw [← hL]; simp only [List.flatMap_append])
      have HRt := hide hRt
      have HRh := hide hRh
      have HnR := hide hnR
      clear hL hLl hLt hR hRt hRh hnR hi hlt
      go_wp2_with (first
        | (at_builtin; refine wpList_gls wo (.tmp 51) (.tmp 52) 34 rfl (by rfl) el_glSP (w.heap.size + 1) _ (na + K) _ (by rfl) HO.out hso Ab cb _ lb nb Hlb.out (by rfl) (HRb.out _ (HBw.out _ HBr.out)) (by omega) (na + K + nb) rfl ?_; intro v5 w5 hown5 hg5; have HO5 := hide (own_eq hown5 rfl (HLq.out [])); have HB5 := hide (below_own HBr.out HO.out hg5 (Nat.le_refl _) hso); clear hown5 hg5)
        | (go_at_call 12; refine (HTr.out _ _ _ HO5.out).mono ?_; rintro e w6 ⟨v6, rfl, hown6, hb6⟩; obtain ⟨A6, c6, rfl, hc6, hr6⟩ := own_gl HnR.out hown6; have HB6 := hide (HB5.out.trans (hb6.mono (Nat.le_trans hszle HB5.out.size))); have HR6 := hide hr6; clear hown6 hb6 hr6)
        | fail)
      have hsz6 : w.heap.size + 1 ≤ w6.heap.size := Nat.le_trans hszle HB6.out.size
      have HBw6 := hide (fun (W : World) (hb : Below w6.heap.size w6 W) => HBw.out W (HB6.out.trans (hb.mono hsz6)))
      have HBx6 := hide (fun (W : World) (hb : Below w6.heap.size w6 W) => HBx.out W (HB6.out.trans (hb.mono hsz6)))
      have HRw := hide (fun (W : World) (hb : Below w6.heap.size w6 W) => ((HR6.out.below (GlAt.stays _) hb).more hb.size : GlRow W W.heap.size A6 R))
      have Hrf6 := hide (Below.refl w6.heap.size w6)
      clear HB5 HO5 HBr HO HTr HLq
      go_loopw [57] (fun s57 wr => ∃ i : Nat, i ≤ nR ∧ s57 = .int .i64 i ∧ (∀ j, j < i → ∀ x, R[j]? = some x → glErr x = 0) ∧ Below w6.heap.size w6 wr) (fun i _ => nR - (intOf i).toNat)
      case atStart => exact ⟨0, Nat.zero_le _, rfl, by simp, Hrf6.out⟩
      case round =>
        rename World => wq
        obtain ⟨i, hi, rfl, hb0, hbq⟩ := hrel
        have Hb0 := hide hb0
        have HBq := hide hbq
        clear hb0
        by_cases hlt : i < nR
        · have hiR : i < R.length := by rw [HnR.out]; exact hlt
          have g1 : (i : Int) < (nR : Int) := by omega
          obtain ⟨b, off, rfl, hbb, c0, c1, c2⟩ := (HRw.out wq hbq).get hiR
          have hxs := HRt.out _ (List.getElem_mem hiR)
          have hxi : R[i]? = some R[i] := List.getElem?_eq_getElem hiR
          obtain ⟨x, hx⟩ : ∃ x, R[i] = x := ⟨_, rfl⟩
          rw [hx] at c0 c1 c2 hxs hxi
          have HP := hide (fun W => glyph15 W x (by omega))
          obtain ⟨tx, wd, st⟩ := x
          dsimp only at c0 c1 c2
          unfold Gl.val at HP
          obtain ⟨E, hE⟩ : ∃ E, glErr ⟨tx, wd, st⟩ = E := ⟨_, rfl⟩
          rw [hE] at HP
          have HStq := hide (fun (W : World) (hb : Below wq.heap.size wq W) => HStar.out W (HBw6.out W (HBq.out.trans (hb.mono HBq.out.size))))
          clear hx hxs hbb hbq
          by_cases hE0 : E = 0
          · subst hE0
            go_wp2_with (first
              | (go_at_call 13; refine (HP.out _).mono ?_; rintro e w7 ⟨rfl, hb7⟩; have HB7 := hide (((Below.refl wq.heap.size wq).alloc (Nat.le_refl _) _).trans (hb7.mono (by simp))); clear hb7)
              | fail)
            refine ⟨⟨i + 1, hlt, by go_num, fun j hj y hy => ?_, HBq.out.trans (HB7.out.mono HBq.out.size)⟩, by simp [intOf]; omega⟩
            rcases Nat.lt_succ_iff_lt_or_eq.1 hj with h | rfl
            · exact Hb0.out j h y hy
            · rw [hxi] at hy; cases hy; exact hE
          · have q1 : (E == 0) = false := beq_eq_false_iff_ne.2 hE0
            have q2 : (E != 0) = true := by rw [bne, q1]; rfl
            go_wp2_with (first
              | (go_at_call 13; refine (HP.out _).mono ?_; rintro e w7 ⟨rfl, hb7⟩; have HB7 := hide (((Below.refl wq.heap.size wq).alloc (Nat.le_refl _) _).trans (hb7.mono (by simp))); clear hb7)
              | (go_at_call 8; refine (HStq.out _ HB7.out).mono ?_; rintro e w8 ⟨rfl, hb8⟩)
              | fail)
            go_ret
            exact ⟨rfl, HBw6.out _ (HBq.out.trans ((HB7.out.trans (hb8.mono HB7.out.size)).mono HBq.out.size))⟩
        · obtain rfl : nR = i := by omega
          have hG : ∀ g ∈ R, glErr g = 0 := fun g hg => by
            obtain ⟨k, hk, hgk⟩ := List.mem_iff_getElem.1 hg
            exact Hb0.out k (by rw [← HnR.out]; exact hk) g (by rw [List.getElem?_eq_getElem hk, hgk])
          have hGG : ∀ g ∈ R, GoodG g := fun g hg => good_of_err (hG g hg)
          have htame := tame_one (by rw [HnR.out]; omega) hG
          have hb2 := ((Below.refl wq.heap.size wq).alloc (Nat.le_refl _) (.cells #[.slice A6 nR c6] 34)).alloc (by simp) (.cells #[.int .i64 132, .int .i64 1, .slice (some ⟨wq.heap.size, 0, none⟩) 1 1, .int .i64 0, .int .i64 0, .bool false] 24)
          have hk1 := block_new wq (.cells #[.slice A6 nR c6] 34)
          have hk2 := block_new (wq.alloc (.cells #[.slice A6 nR c6] 34)) (.cells #[.int .i64 132, .int .i64 1, .slice (some ⟨wq.heap.size, 0, none⟩) 1 1, .int .i64 0, .int .i64 0, .bool false] 24)
          have hs1 : (wq.alloc (.cells #[.slice A6 nR c6] 34)).heap.size = wq.heap.size + 1 := World.size_alloc _ _
          have hbx := (Below.refl (wq.alloc (.cells #[.slice A6 nR c6] 34)).heap.size (wq.alloc (.cells #[.slice A6 nR c6] 34))).alloc (Nat.le_refl _) (.cells #[.int .i64 132, .int .i64 1, .slice (some ⟨wq.heap.size, 0, none⟩) 1 1, .int .i64 0, .int .i64 0, .bool false] 24)
          obtain ⟨X2, hX2⟩ : ∃ X2, (wq.alloc (.cells #[.slice A6 nR c6] 34)).alloc (.cells #[.int .i64 132, .int .i64 1, .slice (some ⟨wq.heap.size, 0, none⟩) 1 1, .int .i64 0, .int .i64 0, .bool false] 24) = X2 := ⟨_, rfl⟩
          have hs2 : X2.heap.size = wq.heap.size + 1 + 1 := by rw [← hX2, World.size_alloc, hs1]
          rw [hX2] at hb2 hk2 hbx
          rw [hs1] at hk2 hbx
          have hk1' : X2.heap[wq.heap.size]? = _ := (hbx.block wq.heap.size (Nat.lt_succ_self _)).trans hk1
          have HBz := hide (fun (W : World) (hb : Below X2.heap.size X2 W) => HBq.out.trans ((hb2.trans (hb.mono hb2.size)).mono HBq.out.size))
          have HRo := hide (fun (W : World) (hb : Below X2.heap.size X2 W) => one_rows (w := W) (g := wq.heap.size) ((hb.block wq.heap.size (by omega)).trans hk1') HnR.out hc6 (HRw.out W (HBz.out W hb)))
          have HVb := hide (fun (W : World) (hb : Below X2.heap.size X2 W) => And.intro (cell_block ((hb.block (wq.heap.size + 1) (by omega)).trans hk2) 0) (And.intro (cell_block ((hb.block (wq.heap.size + 1) (by omega)).trans hk2) 1) (And.intro (cell_block ((hb.block (wq.heap.size + 1) (by omega)).trans hk2) 2) (And.intro (cell_block ((hb.block (wq.heap.size + 1) (by omega)).trans hk2) 3) (And.intro (cell_block ((hb.block (wq.heap.size + 1) (by omega)).trans hk2) 4) (cell_block ((hb.block (wq.heap.size + 1) (by omega)).trans hk2) 5))))))
          have HSt := hide (fun (W : World) (hb : Below X2.heap.size X2 W) => HStar.out W (HBw6.out W (HBz.out W hb)))
          have HFin := hide (fun (W : World) (hb : Below X2.heap.size X2 W) => HBw6.out W (HBz.out W hb))
          have HC2 := hide (fun (W : World) (hb : Below X2.heap.size X2 W) => (HCk.out W (HBw6.out W (HBz.out W hb)) (some ⟨wq.heap.size, 0, none⟩) 1 (oneV R) (HRo.out W hb) htame : Calls Tryz.prog 6 #[.agg #[.int .i64 132, .int .i64 1, .slice (some ⟨wq.heap.size, 0, none⟩) 1 1, .int .i64 0, .int .i64 0, .bool false]] W fun e w' => e = .returned (.int .i64 (oneV R).err) ∧ Below W.heap.size W w'))
          have HL2 := hide (fun (W : World) (hb : Below X2.heap.size X2 W) => (HLn.out W (HBw6.out W (HBz.out W hb)) (some ⟨wq.heap.size, 0, none⟩) 1 (oneV R) 0 1 (HRo.out W hb) htame : Calls Tryz.prog 10 #[.agg #[.int .i64 132, .int .i64 1, .slice (some ⟨wq.heap.size, 0, none⟩) 1 1, .int .i64 0, .int .i64 0, .bool false], .int .i64 0, .int .i64 1] W fun e w' => e = .returned (.tuple #[.string (linT (oneV R) 0 1), .int .i64 (linE (oneV R) 0 1)]) ∧ Below W.heap.size W w'))
          have HB2 := hide (fun (W : World) (hb : Below X2.heap.size X2 W) (P Q : Int) => (HBt.out W (HBw6.out W (HBz.out W hb)) (some ⟨wq.heap.size, 0, none⟩) 1 (oneV R) ⟨0, 0, P⟩ ⟨0, 0, Q⟩ (HRo.out W hb) htame : Calls Tryz.prog 11 #[.agg #[.int .i64 132, .int .i64 1, .slice (some ⟨wq.heap.size, 0, none⟩) 1 1, .int .i64 0, .int .i64 0, .bool false], .agg #[.int .i64 0, .int .i64 0, .int .i64 P], .agg #[.int .i64 0, .int .i64 0, .int .i64 Q]] W fun e w' => e = .returned (.tuple #[.string (betT (oneV R) 0 P 0 Q), .int .i64 (betE (oneV R) 0 P 0 Q)]) ∧ Below W.heap.size W w'))
          have HH2 := hide (fun (W : World) (hb : Below X2.heap.size X2 W) => HHd.out W (HBw6.out W (HBz.out W hb)) A6 nR c6 R HnR.out (by omega) hc6 (HRw.out W (HBz.out W hb)) hGG)
          have HW2 := hide (fun (W : World) (hb : Below X2.heap.size X2 W) => widthV W Aa ca la (HRa.out W (HBw6.out W (HBz.out W hb))) (by rw [Hla.out]; omega))
          rw [Hla.out] at HW2
          have HSe := hide (fun (W : World) (hb : Below X2.heap.size X2 W) => HBx6.out W (HBz.out W hb))
          obtain ⟨VE, hVE⟩ : ∃ VE, (oneV R).err = VE := ⟨_, rfl⟩
          rw [hVE] at HC2
          have m1 : IntKind.i64.wrap ((na : Int) + (K : Int)) = (na : Int) + (K : Int) := IntWalk.i64_in _ (by omega)
          have Hrf2 := hide (Below.refl X2.heap.size X2)
          clear hb2 hk1 hk2 hs1 hbx hs2 hk1' htame hG hbq hi hlt
          clear HStar HSC HHd HRa HRb HCk HLn HBt HBw HBx HB1 Hnil HrW1 HB6 HR6 Hrf6 HBw6 HBx6 HRw HBq Hb0 Hta Htb2 HRt
          by_cases hV0 : VE = 0
          · subst hV0
            by_cases hlen : nR < na + K
            · have g1 : (nR : Int) < (na : Int) + (K : Int) := by omega
              subst hX2
              go_wp2_with (first
                | (go_at_call 6; refine (HC2.out _ Hrf2.out).mono ?_; rintro e w8 ⟨rfl, hb8⟩)
                | (go_at_call 8; refine (HSt.out _ hb8).mono ?_; rintro e w9 ⟨rfl, hb9⟩)
                | fail)
              go_ret
              exact ⟨rfl, HFin.out _ (hb8.trans (hb9.mono hb8.size))⟩
            · obtain ⟨b', hb'⟩ := HRh.out (by omega)
              have hok : (oneV R).ok = true := by unfold Vw.ok; rw [hVE]; rfl
              obtain ⟨l1, l2⟩ := secrets_line hok
              rw [hb'] at hok
              obtain ⟨p1, p2, p3⟩ := secrets_part hok
              rw [← hb'] at p1 p2
              have HB3 := hide (fun (W : World) (hb : Below X2.heap.size X2 W) => HB2.out W hb (widthOf la : Int) ((widthOf la : Int) + K))
              rw [p1, p2] at HB3
              rw [l1, l2] at HL2
              obtain ⟨T, hT⟩ : ∃ T, textB R = T := ⟨_, rfl⟩
              rw [hT] at HL2 HH2
              obtain ⟨wa, hwa⟩ : ∃ wa, widthOf la = wa := ⟨_, rfl⟩
              rw [hwa] at HB3 HW2 p3
              obtain ⟨SK, hSK⟩ : ∃ SK, starsB K = SK := ⟨_, rfl⟩
              rw [hSK] at HB3 ⊢
              have g1 : ¬ (nR : Int) < (na : Int) + (K : Int) := by omega
              have m2 : IntKind.i64.wrap ((wa : Int) + (K : Int)) = (wa : Int) + (K : Int) := IntWalk.i64_in _ (by omega)
              have mT : IntKind.i64.wrap ((wa : Int) + IntKind.i64.wrap ((n : Int).tmod 13)) = (wa : Int) + (K : Int) := by
                rw [Int.tmod_eq_emod_of_nonneg (Int.natCast_nonneg n), hKI, IntWalk.i64_in (K : Int) (by omega)]; exact m2
              have MT := hide mT
              clear mT
              have qT : (T.toList == T.toList) = true := beq_self_eq_true _
              have qS : (SK.toList == SK.toList) = true := beq_self_eq_true _
              have HSc := hide (fun (W : World) (hb : Below X2.heap.size X2 W) => And.intro (cell_block (HSe.out W hb) 0) (And.intro (cell_block (HSe.out W hb) 1) (And.intro (cell_block (HSe.out W hb) 2) (And.intro (cell_block (HSe.out W hb) 3) (And.intro (cell_block (HSe.out W hb) 4) (cell_block (HSe.out W hb) 5))))))
              clear hb' hok l1 l2 p1 p2 hT hwa hSK HB2 hVE hlen HRo HSe HRh
              subst hX2
              go_upto_region 23 with (first
                | (go_at_call 6; refine (HC2.out _ Hrf2.out).mono ?_; rintro e w8 ⟨rfl, hb8⟩; obtain ⟨z0, z1, z2, z3, z4, z5⟩ := HVb.out w8 hb8)
                | (go_at_call 10; refine (HL2.out _ hb8).mono ?_; rintro e w9 ⟨rfl, hb9'⟩; have hb9 := hb8.trans (hb9'.mono hb8.size); obtain ⟨y0, y1, y2, y3, y4, y5⟩ := HSc.out w9 hb9)
                | (go_at_call 9; refine (HH2.out _ hb9).mono ?_; rintro e w10 ⟨rfl, hb10'⟩; have hb10 := hb9.trans (hb10'.mono hb9.size))
                | fail)
              have hbd := (Below.refl w10.heap.size w10).drew
              have HBd := hide (fun (W : World) (hb : Below w10.heap.size w10 W) => hb10.trans (hb.mono hb10.size))
              clear z0 z1 z2 z3 z4 z5 y0 y1 y2 y3 y4 y5 hb8 hb9 hb9' hb10' hb10
              refine td_begin (by kernel_rfl) ?_
              refine td_hold (fun W => Below w10.heap.size w10 W) [] (by decide +kernel) ?_ (fun hHeld => ?_)
              · (exact hbd)
              (refine td_take 0 (v := ?_) rfl (by decide) (by kernel_rfl) (by decide +kernel) (by decide +kernel) (fun _ _ _ h => h) (by assumption) (by rfl) ?_ ?_; rotate_left; (· (intro w hSw; (try dsimp only at hSw); obtain ⟨x0, x1, x2, x3, x4, x5⟩ := HVb.out _ (HBd.out _ hSw); (go_simp <;> with_reducible rfl))); (try simp only [Act.put, List.setIfInBounds_toArray, List.set_cons_zero, List.set_cons_succ]))
              (refine td_take 1 (v := ?_) rfl (by decide) (by kernel_rfl) (by decide +kernel) (by decide +kernel) (fun _ _ _ h => h) (by assumption) (by rfl) ?_ ?_; rotate_left; (· (intro w hSw; (try dsimp only at hSw); obtain ⟨x0, x1, x2, x3, x4, x5⟩ := HVb.out _ (HBd.out _ hSw); (go_simp <;> with_reducible rfl))); (try simp only [Act.put, List.setIfInBounds_toArray, List.set_cons_zero, List.set_cons_succ]))
              (refine td_take 4 (v := ?_) rfl (by decide) (by kernel_rfl) (by decide +kernel) (by decide +kernel) (fun _ _ _ h => h) (by assumption) (by rfl) ?_ ?_; rotate_left; (· (intro w hSw; (try dsimp only at hSw); obtain ⟨x0, x1, x2, x3, x4, x5⟩ := HVb.out _ (HBd.out _ hSw); (go_simp <;> with_reducible rfl))); (try simp only [Act.put, List.setIfInBounds_toArray, List.set_cons_zero, List.set_cons_succ]))
              (refine td_take 6 (v := ?_) rfl (by decide) (by kernel_rfl) (by decide +kernel) (by decide +kernel) (fun _ _ _ h => h) (by assumption) (by rfl) ?_ ?_; rotate_left; (· (intro w hSw; (try dsimp only at hSw); obtain ⟨x0, x1, x2, x3, x4, x5⟩ := HVb.out _ (HBd.out _ hSw); (go_simp <;> with_reducible rfl))); (try simp only [Act.put, List.setIfInBounds_toArray, List.set_cons_zero, List.set_cons_succ]))
              (refine td_take 7 (v := ?_) rfl (by decide) (by kernel_rfl) (by decide +kernel) (by decide +kernel) (fun _ _ _ h => h) (by assumption) (by rfl) ?_ ?_; rotate_left; (· (intro w hSw; (try dsimp only at hSw); obtain ⟨x0, x1, x2, x3, x4, x5⟩ := HVb.out _ (HBd.out _ hSw); (go_simp <;> with_reducible rfl))); (try simp only [Act.put, List.setIfInBounds_toArray, List.set_cons_zero, List.set_cons_succ]))
              (refine td_take 8 (v := ?_) rfl (by decide) (by kernel_rfl) (by decide +kernel) (by decide +kernel) (fun _ _ _ h => h) (by assumption) (by rfl) ?_ ?_; rotate_left; (· (intro w hSw; (try dsimp only at hSw); obtain ⟨x0, x1, x2, x3, x4, x5⟩ := HVb.out _ (HBd.out _ hSw); (go_simp <;> with_reducible rfl))); (try simp only [Act.put, List.setIfInBounds_toArray, List.set_cons_zero, List.set_cons_succ]))
              (refine td_ready (rs := [2]) (by decide +kernel) (by decide) (by simp) ?_; refine td_cons rfl (fun K hK => ?_) td_nil; (go_simp; go_at_call 14; refine (HW2.out _ (HBd.out _ hbd)).mono ?_; rintro e w5 ⟨rfl, hb5⟩; have hbd := hbd.trans (hb5.mono hbd.size); clear hb5; (first | refine hK.out _ _ ?_ ?_ | (go_wp2_with fail; refine hK.out _ _ ?_ ?_)); (· (exact hbd)); clear hK K hHeld; intro hHeld; (try simp only [Act.put, List.setIfInBounds_toArray, List.set_cons_zero, List.set_cons_succ])))
              (refine td_take 3 (v := ?_) rfl (by decide) (by kernel_rfl) (by decide +kernel) (by decide +kernel) (fun _ _ _ h => h) (by assumption) (by rfl) ?_ ?_; rotate_left; (· (intro w hSw; (try dsimp only at hSw); obtain ⟨x0, x1, x2, x3, x4, x5⟩ := HVb.out _ (HBd.out _ hSw); (go_simp <;> with_reducible rfl))); (try simp only [Act.put, List.setIfInBounds_toArray, List.set_cons_zero, List.set_cons_succ]))
              (refine td_ready (rs := [5]) (by decide +kernel) (by decide) (by simp) ?_; refine td_cons rfl (fun K hK => ?_) td_nil; (go_simp; go_at_call 14; refine (HW2.out _ (HBd.out _ hbd)).mono ?_; rintro e w5 ⟨rfl, hb5⟩; have hbd := hbd.trans (hb5.mono hbd.size); clear hb5; (first | refine hK.out _ _ ?_ ?_ | (go_wp2_with fail; refine hK.out _ _ ?_ ?_)); (· (exact hbd)); clear hK K hHeld; intro hHeld; (try simp only [Act.put, List.setIfInBounds_toArray, List.set_cons_zero, List.set_cons_succ])))
              (refine td_take 9 (v := ?_) rfl (by decide) (by kernel_rfl) (by decide +kernel) (by decide +kernel) (fun _ _ _ h => h) (by assumption) (by rfl) ?_ ?_; rotate_left; (· (intro w hSw; (try dsimp only at hSw); obtain ⟨x0, x1, x2, x3, x4, x5⟩ := HVb.out _ (HBd.out _ hSw); (go_simp <;> with_reducible rfl))); (try simp only [Act.put, List.setIfInBounds_toArray, List.set_cons_zero, List.set_cons_succ]))
              (refine td_take 10 (v := ?_) rfl (by decide) (by kernel_rfl) (by decide +kernel) (by decide +kernel) (fun _ _ _ h => h) (by assumption) (by rfl) ?_ ?_; rotate_left; (· (intro w hSw; (try dsimp only at hSw); obtain ⟨x0, x1, x2, x3, x4, x5⟩ := HVb.out _ (HBd.out _ hSw); (go_simp <;> with_reducible rfl))); (try simp only [Act.put, List.setIfInBounds_toArray, List.set_cons_zero, List.set_cons_succ]))
              (refine td_ready (rs := [11]) (by decide +kernel) (by decide) (by simp) ?_; refine td_cons rfl (fun K hK => ?_) td_nil; (go_simp; rw [MT.out]; go_at_call 11; refine (HB3.out _ (HBd.out _ hbd)).mono ?_; rintro e w5 ⟨rfl, hb5⟩; have hbd := hbd.trans (hb5.mono hbd.size); clear hb5; (first | refine hK.out _ _ ?_ ?_ | (go_wp2_with fail; refine hK.out _ _ ?_ ?_)); (· (exact hbd)); clear hK K hHeld; intro hHeld; (try simp only [Act.put, List.setIfInBounds_toArray, List.set_cons_zero, List.set_cons_succ])))
              (refine td_take 12 (v := ?_) rfl (by decide) (by kernel_rfl) (by decide +kernel) (by decide +kernel) (fun _ _ _ h => h) (by assumption) (by rfl) ?_ ?_; rotate_left; (· (intro w hSw; (try dsimp only at hSw); obtain ⟨x0, x1, x2, x3, x4, x5⟩ := HVb.out _ (HBd.out _ hSw); (go_simp <;> with_reducible rfl))); (try simp only [Act.put, List.setIfInBounds_toArray, List.set_cons_zero, List.set_cons_succ]))
              (refine td_take 13 (v := ?_) rfl (by decide) (by kernel_rfl) (by decide +kernel) (by decide +kernel) (fun _ _ _ h => h) (by assumption) (by rfl) ?_ ?_; rotate_left; (· (intro w hSw; (try dsimp only at hSw); obtain ⟨x0, x1, x2, x3, x4, x5⟩ := HVb.out _ (HBd.out _ hSw); (go_simp <;> with_reducible rfl))); (try simp only [Act.put, List.setIfInBounds_toArray, List.set_cons_zero, List.set_cons_succ]))
              (refine td_take 14 (v := ?_) rfl (by decide) (by kernel_rfl) (by decide +kernel) (by decide +kernel) (fun _ _ _ h => h) (by assumption) (by rfl) ?_ ?_; rotate_left; (· (intro w hSw; (try dsimp only at hSw); obtain ⟨x0, x1, x2, x3, x4, x5⟩ := HVb.out _ (HBd.out _ hSw); (go_simp <;> with_reducible rfl))); (try simp only [Act.put, List.setIfInBounds_toArray, List.set_cons_zero, List.set_cons_succ]))
              (refine td_take 15 (v := ?_) rfl (by decide) (by kernel_rfl) (by decide +kernel) (by decide +kernel) (fun _ _ _ h => h) (by assumption) (by rfl) ?_ ?_; rotate_left; (· (intro w hSw; (try dsimp only at hSw); obtain ⟨x0, x1, x2, x3, x4, x5⟩ := HVb.out _ (HBd.out _ hSw); (go_simp <;> with_reducible rfl))); (try simp only [Act.put, List.setIfInBounds_toArray, List.set_cons_zero, List.set_cons_succ]))
              (refine td_take 16 (v := ?_) rfl (by decide) (by kernel_rfl) (by decide +kernel) (by decide +kernel) (fun _ _ _ h => h) (by assumption) (by rfl) ?_ ?_; rotate_left; (· (intro w hSw; (try dsimp only at hSw); obtain ⟨x0, x1, x2, x3, x4, x5⟩ := HVb.out _ (HBd.out _ hSw); (go_simp <;> with_reducible rfl))); (try simp only [Act.put, List.setIfInBounds_toArray, List.set_cons_zero, List.set_cons_succ]))
              refine And.intro (by decide +kernel) ?_
              have HB5 := hide (HBd.out _ hbd)
              clear hbd
              go_wp2_with (first
                | (go_at_call 8; refine (HSt.out _ HB5.out).mono ?_; rintro e w9 ⟨rfl, hb9⟩)
                | fail)
              go_ret
              exact ⟨rfl, HFin.out _ (HB5.out.trans (hb9.mono HB5.out.size))⟩
          · have q1 : (VE == 0) = false := beq_eq_false_iff_ne.2 hV0
            have q2 : (VE != 0) = true := by rw [bne, q1]; rfl
            subst hX2
            go_wp2_with (first
              | (go_at_call 6; refine (HC2.out _ Hrf2.out).mono ?_; rintro e w8 ⟨rfl, hb8⟩)
              | (go_at_call 8; refine (HSt.out _ hb8).mono ?_; rintro e w9 ⟨rfl, hb9⟩)
              | fail)
            go_ret
            exact ⟨rfl, HFin.out _ (hb8.trans (hb9.mono hb8.size))⟩
theorem secretsLawP (w : World) (hS : Spc w) (hT : StyT w) (htb : Tabs w) (Aa : Option Addr) (ca : Nat) (la : List Gl) (hra : GlRow w w.heap.size Aa la) (hta : ∀ g ∈ la, g.text.size ≤ 2000000)
    (Ab : Option Addr) (cb : Nat) (lb : List Gl) (hrb : GlRow w w.heap.size Ab lb) (htb2 : ∀ g ∈ lb, g.text.size ≤ 2000000) (s : SetV) (n : Nat) (hn : n ≤ 255) :
    Calls Tryz.prog 4 #[.slice Aa la.length ca, .slice Ab lb.length cb, .int .u8 n, s.val] w fun e w' => e = .returned (.bool true) ∧ Below w.heap.size w w' := by
  by_cases h1 : 12 < la.length
  · exact secretsStar w hS hT htb Aa _ ca Ab _ cb s n (.inl h1)
  by_cases h2 : 12 < lb.length
  · exact secretsStar w hS hT htb Aa _ ca Ab _ cb s n (.inr (.inl h2))
  by_cases h3 : setErr s = 0
  · exact secretsMain w hS hT htb Aa _ ca la rfl hra hta Ab _ cb lb rfl hrb htb2 s n hn (by omega) (by omega) h3
  · exact secretsStar w hS hT htb Aa _ ca Ab _ cb s n (.inr (.inr h3))
end Go.Proofs.YtdkppdjonlldhaaGreatDoor
