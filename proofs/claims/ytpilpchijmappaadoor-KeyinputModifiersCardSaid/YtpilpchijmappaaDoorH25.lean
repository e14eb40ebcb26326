/- keyinput.all, narratorref14.Named: the named keys. -/
import Derived.Test.YtpilpchijmappaaDoorH24
import Derived.Deep.RegionHeld
namespace Go.Proofs.YtpilpchijmappaaDoor
open Go.RowKit

def Key.enc (k : Key) : List Value := [.string k.name, .int .i32 k.rune, .bool k.control, .bool k.alt, .bool k.shift]
/-- A key's cells. -/
def KeyAt : World → Nat → Nat → Key → Prop := fun w b o k =>
  w.cell? ⟨b, o, none⟩ = some (.string k.name) ∧ w.cell? ⟨b, o + 1, none⟩ = some (.int .i32 k.rune) ∧ w.cell? ⟨b, o + 2, none⟩ = some (.bool k.control) ∧ w.cell? ⟨b, o + 3, none⟩ = some (.bool k.alt) ∧ w.cell? ⟨b, o + 4, none⟩ = some (.bool k.shift)
theorem KeyAt.stays (B : Nat) : Stays KeyAt B := fun _ _ _ _ _ hk hb h => ⟨(hk _ hb).trans h.1, (hk _ hb).trans h.2.1, (hk _ hb).trans h.2.2.1, (hk _ hb).trans h.2.2.2.1, (hk _ hb).trans h.2.2.2.2⟩
theorem KeyAt.lays : Lays KeyAt 5 Key.enc := ⟨fun _ => rfl, fun _ _ _ _ h => ⟨h 0 _ rfl, h 1 _ rfl, h 2 _ rfl, h 3 _ rfl, h 4 _ rfl⟩⟩
theorem el_key : ElemOf Tryd.prog 42 23 (.agg #[.string ⟨#[]⟩, .int .i32 0, .bool false, .bool false, .bool false]) 5 24 := ⟨Tryd.underlying42, by kernel_rfl, rfl, by decide, by decide⟩

abbrev NX := List UInt8 × Bool × Bool × Bool
def okX (x : NX) : Bool := modB x.1 x.2.1 x.2.2.1 x.2.2.2
/-- All names with all modifiers, in their order. -/
def combos : List NX := keyNames.flatMap fun n => [(n, false, false, false), (n, false, false, true), (n, false, true, false), (n, false, true, true), (n, true, false, false), (n, true, false, true), (n, true, true, false), (n, true, true, true)]
def namedTo (m : Nat) : List Key := ((combos.take m).filter okX).map toKey
theorem combos_len : combos.length = 208 := by decide +kernel
theorem namedTo_all : namedTo 208 = namedKeys := by
  unfold namedTo namedKeys allNamed
  rw [List.take_of_length_le (by rw [combos_len]; omega)]
  rfl
theorem namedTo_le (m : Nat) : (namedTo m).length ≤ 208 := by
  unfold namedTo
  rw [List.length_map]
  refine Nat.le_trans (List.length_filter_le _ _) ?_
  rw [List.length_take, combos_len]; omega
theorem named_le : namedKeys.length ≤ 208 := by rw [← namedTo_all]; exact namedTo_le _
theorem combos_at : ∀ k : Fin 26, ∀ j : Fin 8, combos[8 * k.val + j.val]? = some (keyNames.getD k.val [], decide (j.val / 4 = 1), decide (j.val / 2 % 2 = 1), decide (j.val % 2 = 1)) := by decide +kernel
theorem namedTo_step {k j : Nat} (hk : k < 26) (hj : j < 8) {c a s : Bool} (hc : decide (j / 4 = 1) = c) (ha : decide (j / 2 % 2 = 1) = a) (hs : decide (j % 2 = 1) = s) :
    namedTo (8 * k + (j + 1)) = namedTo (8 * k + j) ++ (if modB (keyNames.getD k []) c a s then [toKey (keyNames.getD k [], c, a, s)] else []) := by
  have h := combos_at ⟨k, hk⟩ ⟨j, hj⟩
  dsimp only at h
  rw [hc, ha, hs] at h
  obtain ⟨hl, hx⟩ := List.getElem?_eq_some_iff.1 h
  unfold namedTo
  rw [← Nat.add_assoc, List.take_succ_eq_append_getElem hl, hx, List.filter_append, List.map_append]
  congr 1
  by_cases hm : modB (keyNames.getD k []) c a s = true
  · rw [List.filter_cons_of_pos (by exact hm), if_pos hm]; rfl
  · rw [List.filter_cons_of_neg (by exact hm), if_neg hm]; rfl
theorem toKey_keyErr {n : List UInt8} {c a s : Bool} (h : n ∈ keyNames) : keyErr (toKey (n, c, a, s)) = if modB n c a s then 0 else 1 := by
  have hn : (toKey (n, c, a, s)).nm = n := by simp [toKey]
  unfold keyErr
  rw [if_neg (by rw [hn]; exact names_ne _ h), if_neg (by rw [hn]; simpa using h), hn]
  show (if decide ((0 : Int) = 0) && modB n c a s then (0 : Int) else 1) = _
  simp
theorem name_at {k : Nat} (hk : k < 26) : keyNames.getD k [] ∈ keyNames := by
  have : ∀ k : Fin 26, keyNames.getD k.val [] ∈ keyNames := by decide
  exact this ⟨k, hk⟩
theorem name_cell {w : World} {base g c k : Nat} (hk : k < 26) (h : w.ownsRow base 9 1 (.slice (some ⟨g, 0, none⟩) 26 c) 26 (keyNames.map nameV)) : w.cell? ⟨g, k, none⟩ = some (.string ⟨(keyNames.getD k []).toArray⟩) := by
  have hkl : k < keyNames.length := hk
  refine (h.cellAt k hk).trans ?_
  rw [List.getElem?_map, List.getElem?_eq_getElem hkl]
  simp [List.getD, List.getElem?_eq_getElem hkl, nameV]

/-- A list of keys, the call's own. -/
def OwnKeys (w : World) (B : Nat) (v : Value) (l : List Key) : Prop := w.ownsRow B 23 5 v l.length (l.flatMap Key.enc)
theorem own_keys_step {w : World} {B m : Nat} {v : Value} {l l' : List Key} {news : List Value} (h : w.ownsRow B 23 5 v (l.length + m) (l.flatMap Key.enc ++ news)) {r : List Key} (hl : l' = l ++ r) (hm : m = r.length) (hn : news = r.flatMap Key.enc) : OwnKeys w B v l' := by
  unfold OwnKeys
  rw [hl, List.length_append, List.flatMap_append, ← hm, ← hn]
  exact h
/-- The list of the named keys, in block g. -/
def KeysAt (w : World) (g : Nat) : Prop := ∀ k x, namedKeys[k]? = some x → KeyAt w g (k * 5) x
theorem KeysAt.below {w w' : World} {g B : Nat} (h : KeysAt w g) (hb : Below B w w') (hg : g < B) : KeysAt w' g := fun k x hx => KeyAt.stays B w w' g _ x (fun _ hp => hb.cell hp) hg (h k x hx)
theorem KeysAt.far {w : World} {g : Nat} (h : KeysAt w g) {p : Addr} (hp : p.block ≠ g) (u : Value) : KeysAt (w.setCell p u) g := fun k x hx => by
  obtain ⟨h0, h1, h2, h3, h4⟩ := h k x hx
  exact ⟨(World.cell?_setCell_far w p _ u hp).trans h0, (World.cell?_setCell_far w p _ u hp).trans h1, (World.cell?_setCell_far w p _ u hp).trans h2, (World.cell?_setCell_far w p _ u hp).trans h3, (World.cell?_setCell_far w p _ u hp).trans h4⟩
def KeysRow (w0 : World) (e : Ending) (w' : World) : Prop := ∃ g c, e = .returned (.slice (some ⟨g, 0, none⟩) namedKeys.length c) ∧ w0.heap.size ≤ g ∧ g < w'.heap.size ∧ KeysAt w' g ∧ Below w0.heap.size w0 w'
theorem named_pos : 0 < namedKeys.length := by decide +kernel
theorem keysRow_mk {w0 w' : World} {v : Value} {l : List Key} (hl : l = namedKeys) (h : OwnKeys w' w0.heap.size v l) (hb : Below w0.heap.size w0 w') : KeysRow w0 (.returned v) w' := by
  subst hl
  obtain ⟨g, c, rfl, hg, hlt⟩ := own_form1 h named_pos
  refine ⟨g, c, rfl, hg, hlt, fun k x hx => ?_, hb⟩
  obtain ⟨A, c', hv, hc, hs⟩ := Sl.of_own KeyAt.lays h
  obtain ⟨b, off, hA, -, hr⟩ := hs named_pos
  cases hv
  cases hA
  have := hr k x hx
  rwa [Nat.zero_add] at this

theorem and_one8 : ∀ j : Nat, j < 8 → decide ((0 : Int) < bits .and .i64 (j : Int) 1) = decide (j % 2 = 1) := by decide +kernel
theorem and_two8 : ∀ j : Nat, j < 8 → decide ((0 : Int) < bits .and .i64 (j : Int) 2) = decide (j / 2 % 2 = 1) := by decide +kernel
theorem and_four8 : ∀ j : Nat, j < 8 → decide ((0 : Int) < bits .and .i64 (j : Int) 4) = decide (j / 4 = 1) := by decide +kernel

set_option maxRecDepth 100000 in
set_option maxHeartbeats 1000000 in
theorem allP (w : World) (hP : Pow w) : Calls Tryd.prog 34 #[] w (KeysRow w) := by
  have hrf := Below.refl w.heap.size w
  have HC := hide (fun W k (hb : Below w.heap.size w W) => checkP W k (hP.below hb))
  have HNm := hide (namesP w hP)
  clear hP
  go_enter Tryd.func34, Tryd.ntmps34
  go_wp2_with (go_at_call 16; refine HNm.out.mono ?_; rintro e w1 ⟨g, c, rfl, hown, hb1⟩)
  go_loopw [1, 8] (fun l i wr => ∃ k : Nat, k ≤ 26 ∧ i = .int .i64 k ∧ OwnKeys wr w.heap.size l (namedTo (8 * k)) ∧ wr.ownsRow w.heap.size 9 1 (.slice (some ⟨g, 0, none⟩) 26 c) 26 (keyNames.map nameV) ∧ Below w.heap.size w wr) (fun _ i _ => 26 - (intOf i).toNat)
  case atStart => exact ⟨0, Nat.zero_le _, rfl, ⟨rfl, .inl ⟨rfl, rfl⟩⟩, hown, hb1⟩
  case round =>
    rename World => wo
    obtain ⟨k, hk, rfl, hkeys, hnames, hbo⟩ := hrel
    clear hown
    by_cases hlt : k < 26
    · have hltI : (k : Int) < 26 := by omega
      have hname := name_cell hlt hnames
      obtain ⟨N, hN⟩ : ∃ N, keyNames.getD k [] = N := ⟨_, rfl⟩
      have hNin := name_at hlt
      have Hstep := hide (fun j c a s (hj : j < 8) hc ha hs => namedTo_step (k := k) (j := j) (c := c) (a := a) (s := s) hlt hj hc ha hs)
      rw [hN] at hname hNin Hstep
      have HNin := hide hNin
      have Hkeys := hide hkeys
      have Hnames := hide hnames
      clear hkeys hnames hNin hN
      go_wp2
      go_loopw [1, 12] (fun l i wr => ∃ j : Nat, j ≤ 8 ∧ i = .int .i64 j ∧ OwnKeys wr w.heap.size l (namedTo (8 * k + j)) ∧ wr.ownsRow w.heap.size 9 1 (.slice (some ⟨g, 0, none⟩) 26 c) 26 (keyNames.map nameV) ∧ Below w.heap.size w wr) (fun _ i _ => 8 - (intOf i).toNat)
      case atStart => exact ⟨0, Nat.zero_le _, rfl, Hkeys.out, Hnames.out, hbo⟩
      case round =>
        obtain ⟨j, hj, rfl, hkeys, hnames, hbr⟩ := hrel
        clear Hkeys Hnames hname
        have hle := namedTo_le (8 * k + j)
        obtain ⟨L, hL⟩ : ∃ L, namedTo (8 * k + j) = L := ⟨_, rfl⟩
        rw [hL] at hkeys hle
        have Hkeys := hide hkeys
        have Hnames := hide hnames
        by_cases hjl : j < 8
        · have hjI : (j : Int) < 8 := by omega
          obtain ⟨S, hS⟩ : ∃ S, decide (j % 2 = 1) = S := ⟨_, rfl⟩
          obtain ⟨A, hA⟩ : ∃ A, decide (j / 2 % 2 = 1) = A := ⟨_, rfl⟩
          obtain ⟨C, hC⟩ : ∃ C, decide (j / 4 = 1) = C := ⟨_, rfl⟩
          have bS := (and_one8 j hjl).trans hS
          have bA := (and_two8 j hjl).trans hA
          have bC := (and_four8 j hjl).trans hC
          have HS := Hstep.out j C A S hjl hC hA hS
          rw [hL] at HS
          have hE := toKey_keyErr (n := N) (c := C) (a := A) (s := S) HNin.out
          have HCk := hide (fun W hb => HC.out W (toKey (N, C, A, S)) hb)
          rw [hE] at HCk
          unfold Key.val toKey at HCk
          have HNK := hide (fun W => keyBox_new W (toKey (N, C, A, S)))
          unfold toKey at HNK
          dsimp only at HCk HNK
          have Hown2 := hide (own_more (own_below Hnames.out (Below.refl wr.heap.size wr) (Nat.le_refl _)) (Nat.le_refl _))
          have hsz := hbr.size
          cases hm : modB N C A S with
          | true =>
            rw [hm] at HS HCk
            have HSS := hide HS
            clear hS hA hC hE HS hm hkeys hnames hL Hown2
            go_wp2_with (first
              | (go_at_call 14; refine (HCk.out _ (hbr.alloc hsz _)).mono ?_; rintro e w2 ⟨rfl, hb2⟩; have hbw := (hbr.alloc hsz _).trans (hb2.mono (by simp; omega)); have hs2 := hbw.size; have Hk2 := hide (own_below (own_below Hkeys.out ((Below.refl _ wr).alloc (Nat.le_refl _) _) (Nat.le_refl _)) hb2 (Nat.le_refl _)); have Hn2 := hide (own_below (own_below Hnames.out ((Below.refl _ wr).alloc (Nat.le_refl _) _) (Nat.le_refl _)) hb2 (Nat.le_refl _)); obtain ⟨x0, x1, x2, x3, x4⟩ := ((HNK.out wr).below hb2 (by simp)).cells)
              | (at_builtin; refine wpList_app _ (.tmp 29) (.tmp 31) 42 rfl rfl el_key w.heap.size _ L.length (L.flatMap Key.enc) (by rfl) Hk2.out hs2 _ 1 1 _ _ (by rfl) (by first | rfl | simp) rfl (by simp [Value.oneCell']) (by omega) ?_; intro v6 w6 hown6 hg6; have Hb6 := hide (below_own hbw Hk2.out hg6 (Nat.le_refl _) hs2); have Hn6 := hide (own_other Hn2.out Hk2.out (by decide) hg6); have Hown6 := hide hown6; clear hown6 hg6)
              | fail)
            go_roundw
            case rel => exact ⟨j + 1, by omega, by go_num, own_keys_step (r := [toKey (N, C, A, S)]) Hown6.out HSS.out rfl rfl, Hn6.out, Hb6.out⟩
            case measure => simp [intOf]; omega
          | false =>
            rw [hm] at HS HCk
            have HSS := hide HS
            clear hS hA hC hE HS hm hkeys hnames hL Hown2
            go_wp2_with (first
              | (go_at_call 14; refine (HCk.out _ (hbr.alloc hsz _)).mono ?_; rintro e w2 ⟨rfl, hb2⟩; have hbw := (hbr.alloc hsz _).trans (hb2.mono (by simp; omega)); have hs2 := hbw.size; have Hk2 := hide (own_below (own_below Hkeys.out ((Below.refl _ wr).alloc (Nat.le_refl _) _) (Nat.le_refl _)) hb2 (Nat.le_refl _)); have Hn2 := hide (own_below (own_below Hnames.out ((Below.refl _ wr).alloc (Nat.le_refl _) _) (Nat.le_refl _)) hb2 (Nat.le_refl _)))
              | fail)
            go_roundw
            case rel => exact ⟨j + 1, by omega, by go_num, by rw [HSS.out, if_neg (by decide), List.append_nil]; exact Hk2.out, Hn2.out, hbw⟩
            case measure => simp [intOf]; omega
        · obtain rfl : j = 8 := by omega
          have hge : ¬ ((8 : Nat) : Int) < 8 := by omega
          clear hkeys hnames
          have HLL := hide hL
          clear hL
          go_wp2
          go_roundw
          case rel => exact ⟨k + 1, by omega, by go_num, by rw [show 8 * (k + 1) = 8 * k + 8 by omega, HLL.out]; exact Hkeys.out, Hnames.out, hbr⟩
          case measure => simp [intOf]; omega
    · obtain rfl : k = 26 := by omega
      have Hk := hide hkeys
      clear hkeys hnames
      go_wp2
      go_ret
      exact keysRow_mk namedTo_all Hk.out hbo
end Go.Proofs.YtpilpchijmappaaDoor
