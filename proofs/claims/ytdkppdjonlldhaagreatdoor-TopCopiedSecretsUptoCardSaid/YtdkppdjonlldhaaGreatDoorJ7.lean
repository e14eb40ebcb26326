/- Joined: SP21, SP22, SP23, SP24. -/
import Derived.Test.YtdkppdjonlldhaaGreatDoorJ6
import Derived.Lib.OthersKept
import Derived.Lib.OwnBridge
import Derived.Shelf.Strings.OnBuilder
import Derived.Shelf.Strings.Explode
/- spokentext.single. -/
namespace Go.Proofs.YtdkppdjonlldhaaGreatDoor
open Go.RowKit Go.Maps Go.Shelf

theorem spellF_len (r : Int) : (spellF r).length ≤ 15 := by
  unfold spellF
  split
  · simp
  · have := numW_len r.toNat; simp; omega
theorem spell_flat : ∀ (l : List Int), (l.flatMap spellF).length ≤ 15 * l.length
  | [] => by simp
  | r :: l => by
    have h1 := spellF_len r
    have h2 := spell_flat l
    rw [List.flatMap_cons, List.length_append, List.length_cons]; omega
theorem flatMap_take {α β : Type} (f : α → List β) (l : List α) (k : Nat) (hk : k < l.length) : (l.take (k + 1)).flatMap f = (l.take k).flatMap f ++ f l[k] := by
  rw [List.take_succ_eq_append_getElem hk, List.flatMap_append]; simp
theorem own_formP {w : World} {base : Nat} {e : TypeId} {size : Nat} {v : Value} {n : Nat} {xs : List Value} (h : w.ownsRow base e size v n xs) (hn : 0 < n) : ∃ g cap, v = .slice (some ⟨g, 0, none⟩) n cap ∧ base ≤ g ∧ g < w.heap.size := by
  rcases h.2 with ⟨-, h0⟩ | ⟨g, cap, cur, e, hb, hg, -⟩
  · omega
  · exact ⟨g, cap, e, hb, block_lt hg⟩
set_option maxRecDepth 100000 in
set_option maxHeartbeats 2000000 in
theorem singleP (w : World) (hS : Spc w) (g : Gl) (hg : GoodText g) : Calls Tryz.prog 78 #[g.val] w (SmallRet w (singleF g)) := by
  obtain ⟨T, wd, sy⟩ := g
  obtain ⟨hsz, hv⟩ := hg
  dsimp only at hsz hv
  unfold Gl.val
  dsimp only
  have hb1 := (Below.refl w.heap.size w).alloc (Nat.le_refl _) (.cells #[.string T, .bool wd, .int .i64 sy] 42)
  have HCh := hide (fun W => charactersP W T _ rfl hsz hv)
  have HSp := hide spellP
  have hS1 := hide (hS.below hb1)
  have Hb1 := hide hb1
  obtain ⟨R, hR⟩ : ∃ R, singleF ⟨T, wd, sy⟩ = R := ⟨_, rfl⟩
  rw [hR]
  unfold singleF at hR
  dsimp only at hR
  by_cases hsp : T.data.toList = [32]
  · rw [if_pos hsp] at hR
    have q : (T.toList == [32]) = true := by rw [ByteArray.toList_eq, hsp]; rfl
    have hown := own_lit (w.alloc (.cells #[.string T, .bool wd, .int .i64 sy] 42)) w.heap.size 9 1 1 #[.string ⟨#[115, 112, 97, 99, 101]⟩] (by simp) (by omega) rfl
    have Hown := hide hown
    subst hR
    clear hown hb1
    go_enter Tryz.func78, Tryz.ntmps78
    go_wp2
    go_ret
    have h := Hown.out
    rw [World.size_alloc] at h
    exact ⟨_, rfl, own_eq h rfl rfl, Hb1.out.alloc (by simp) _⟩
  · rw [if_neg hsp] at hR
    have q : (T.toList == [32]) = false := by rw [ByteArray.toList_eq]; exact beq_eq_false_iff_ne.2 hsp
    obtain ⟨RS, hRS⟩ : ∃ RS, runesD T.data.toList = RS := ⟨_, rfl⟩
    have hgood := runesD_good T.data.toList
    have hlen : RS.length ≤ 1000000 := by rw [← hRS]; exact Nat.le_trans (runesD_len _) hsz
    rw [hRS] at hR HCh hgood
    have HG := hide hgood
    have HR := hide hR
    clear hsp hRS hR hgood hS hv hsz hb1
    go_enter Tryz.func78, Tryz.ntmps78
    go_wp2_with (first
      | (go_at_call 53; refine (HCh.out _).mono ?_; rintro e w2 ⟨v, rfl, hown, hb2⟩; obtain ⟨A2, c2, rfl⟩ := own_form hown; have hs2 := hb2.size; have HO2 := hide hown; have Hb2 := hide (Hb1.out.trans (hb2.mono (by simp))); have hS2 := hide (hS1.out.below hb2); clear hown hb2)
      | fail)
    have hlt2 := Hb2.out.size
    go_loopw [3, 14] (fun o i wr => ∃ k : Nat, k ≤ RS.length ∧ i = .int .i64 k ∧ wr.ownsRow w2.heap.size 9 1 o ((RS.take k).flatMap spellF).length (((RS.take k).flatMap spellF).map strV) ∧ Below w2.heap.size w2 wr) (fun _ i _ => RS.length - (intOf i).toNat)
    case atStart => exact ⟨0, Nat.zero_le _, rfl, World.ownsRow_nil _ _ _ _, Below.refl _ _⟩
    case round =>
      obtain ⟨k, hk, rfl, hown, hbr⟩ := hrel
      rename World => wo
      obtain ⟨A3, c3, rfl⟩ := own_form hown
      have HO := hide hown
      have HB := hide hbr
      have hsz := hbr.size
      clear hown hbr
      by_cases hlt : k < RS.length
      · have hkI : (k : Int) < (RS.length : Int) := by omega
        have HOr := (own_keep HO2.out HB.out)
        obtain ⟨g2, cc2, he2, -, -⟩ := own_formP HOr (by omega)
        cases he2
        have c0 := HOr.cellAt k (by omega)
        rw [List.getElem?_map, List.getElem?_eq_getElem hlt] at c0
        have c1 : wo.cell? ⟨g2, k, none⟩ = some (.int .i32 RS[k]) := c0
        have hgr := HG.out _ (List.getElem_mem hlt)
        have Ht := hide (flatMap_take spellF RS k hlt)
        have hb15 := spell_flat (RS.take k)
        rw [List.length_take] at hb15
        obtain ⟨r, hr⟩ : ∃ r, RS[k] = r := ⟨_, rfl⟩
        rw [hr] at c1 hgr Ht
        have hsl := spellF_len r
        obtain ⟨L, hL⟩ : ∃ L, (RS.take k).flatMap spellF = L := ⟨_, rfl⟩
        rw [hL] at HO Ht hb15 ⊢
        have HGr := hide hgr
        clear HOr c0 hr hL hgr
        go_wp2_with (first
          | (go_at_call 105; refine (HSp.out _ (hS2.out.below HB.out) r HGr.out).mono ?_; rintro e w5 ⟨v5, rfl, hown5, hb5⟩; obtain ⟨A5, c5, rfl, hc5, hr5⟩ := own_strs hown5 rfl; clear hown5; have HO5 := hide (own_keep HO.out hb5); have HB5 := hide (HB.out.trans (hb5.mono hsz)))
          | (at_builtin; refine wpList_strs w5 (.tmp 18) (.tmp 20) rfl (by rfl) w2.heap.size _ L _ (by rfl) HO5.out HB5.out.size A5 c5 _ (spellF r) _ rfl (by rfl) hr5 (by omega) _ rfl ?_; intro v6 w6 hown6 hg6; have hb6 := below_own HB5.out HO5.out hg6 (Nat.le_refl _) HB5.out.size)
          | fail)
        go_roundw
        case rel => exact ⟨k + 1, by omega, by go_num, by rw [Ht.out]; exact own_eq hown6 (by rw [List.length_append]) rfl, hb6⟩
        case measure => simp [intOf]; omega
      · obtain rfl : k = RS.length := by omega
        rw [List.take_length] at HO ⊢
        rw [HR.out] at HO ⊢
        go_wp2
        go_ret
        exact ⟨_, rfl, own_more HO.out hlt2, Hb2.out.trans (HB.out.mono hlt2)⟩
end Go.Proofs.YtdkppdjonlldhaaGreatDoor

/- spokentext.digits. -/
namespace Go.Proofs.YtdkppdjonlldhaaGreatDoor
open Go.RowKit Go.Maps Go.Shelf

theorem own_notI {w : World} {b : Nat} {e : TypeId} {s n : Nat} {v : Value} {xs : List Value} (h : w.ownsRow b e s v n xs) {k : Nat} {str : ByteArray} {p : Nat} (hk : w.heap[k]? = some (.stringIter str p)) : v.ownBlock ≠ some k := fun he => by
  rcases h.2 with ⟨e, hn⟩ | ⟨g, cap, cur, e, -, hg, -⟩
  · rw [e] at he; cases he
  · rw [e] at he; cases he
    rw [hk] at hg; cases hg
theorem own_iterI {w : World} {b : Nat} {e : TypeId} {s n : Nat} {v : Value} {xs : List Value} (h : w.ownsRow b e s v n xs) {k : Nat} (str : ByteArray) {p : Nat} (hk : w.heap[k]? = some (.stringIter str p)) (pos : Nat) : (w.iterAt k str pos).ownsRow b e s v n xs :=
  h.kept (row := some k) ⟨rfl, rfl, rfl, by rw [Lib.iterAt_size]; exact Nat.le_refl _, fun j _ hj => Lib.iterAt_other w k j str pos (fun e => hj (by rw [e]))⟩ (.inr (own_notI h hk))
theorem numOfD_take (T : ByteArray) (k : Nat) (h : k < T.size) : numOfD (T.data.toList.take (k + 1)) = 10 * numOfD (T.data.toList.take k) + (T[k].toNat - 48) := by
  rw [List.take_succ_eq_append_getElem (by simpa using h), numOfD_snoc]; rfl
theorem numOfD_takeLt (T : ByteArray) (hd : ∀ k (h : k < T.size), 48 ≤ T[k].toNat ∧ T[k].toNat ≤ 57) : ∀ k, k ≤ T.size → numOfD (T.data.toList.take k) < 10 ^ k
  | 0, _ => by simp [numOfD]
  | k + 1, h => by
    rw [numOfD_take T k (by omega), Nat.pow_succ]
    have h1 := numOfD_takeLt T hd k (by omega)
    have := hd k (by omega)
    omega
def digW (b : UInt8) : List Wd := numW (b.toNat - 48)
theorem digW_take (T : ByteArray) (k : Nat) (h : k < T.size) : (T.data.toList.take (k + 1)).flatMap digW = (T.data.toList.take k).flatMap digW ++ digW T[k] := flatMap_take digW T.data.toList k (by simpa using h)
theorem digW_len (b : UInt8) : (digW b).length ≤ 14 := numW_len _
theorem digW_flat : ∀ (l : List UInt8), (l.flatMap digW).length ≤ 14 * l.length
  | [] => by simp
  | r :: l => by
    have h1 := digW_len r
    have h2 := digW_flat l
    rw [List.flatMap_cons, List.length_append, List.length_cons]; omega
theorem iter_new (X : World) (T : ByteArray) {n : Nat} (h : X.heap.size = n) : (X.alloc (.stringIter T 0)).heap[n]? = some (.stringIter T 0) := by
  subst h; exact World.iter_heap X T 0
theorem numberX (w : World) (x : Int) (n : Nat) (e : x = (n : Int)) (hn : n ≤ 999999999) : Calls Tryz.prog 79 #[.int .i64 x] w (SmallRet w (numW n)) := by
  subst e; exact numberWP w n hn
set_option maxRecDepth 100000 in
set_option maxHeartbeats 1000000 in
theorem digitsLong (w : World) (T : ByteArray) (hT : T.size ≤ 1000000) (hd : ∀ k (h : k < T.size), 48 ≤ T[k].toNat ∧ T[k].toNat ≤ 57) (s : SetV) (hs : s.sd = true ∨ 9 < T.size ∨ (1 < T.size ∧ T.data.toList.head? = some 48)) :
    Calls Tryz.prog 77 #[.string T, s.val] w (SmallRet w (digitsW :: T.data.toList.flatMap digW)) := by
  obtain ⟨ra, sd, sp, re, co, ce⟩ := s
  unfold SetV.val
  dsimp only at hs ⊢
  have HD := hide hd
  have HN := hide (fun (W : World) (x : Int) (n : Nat) (e : x = (n : Int)) (hn : n ≤ 999999999) => numberX W x n e hn)
  have hb1 := hide (((Below.refl w.heap.size w).alloc (Nat.le_refl _) (.cells #[.int .i64 ra, .bool sd, .bool sp, .int .i64 re, .bool co, .int .i64 ce] 26)))
  have hown := own_lit (w.alloc (.cells #[.int .i64 ra, .bool sd, .bool sp, .int .i64 re, .bool co, .int .i64 ce] 26)) w.heap.size 9 1 1 #[strV digitsW] (by simp) (by omega) rfl
  have Hown := hide hown
  have i0 : (T.size : Int) ≤ 1000000 := by omega
  have tests : sd = true ∨ (sd = false ∧ ((9 : Int) < (T.size : Int))) ∨ (sd = false ∧ ¬ ((9 : Int) < (T.size : Int)) ∧ (1 : Int) < (T.size : Int) ∧ ∃ h : 0 < T.size, ((T[0]'h).toNat : Int) = 48) := by
    rcases hs with h | h | ⟨h, h2⟩
    · exact .inl h
    · cases sd
      · exact .inr (.inl ⟨rfl, by omega⟩)
      · exact .inl rfl
    · cases sd
      · by_cases h9 : (9 : Int) < (T.size : Int)
        · exact .inr (.inl ⟨rfl, h9⟩)
        · refine .inr (.inr ⟨rfl, h9, by omega, by omega, ?_⟩)
          have hp : 0 < T.size := by omega
          have : T.data.toList.head? = some (T[0]'hp) := by rw [List.head?_eq_getElem?, List.getElem?_eq_getElem (by simpa using hp)]; rfl
          rw [this] at h2
          have h3 := Option.some.inj h2
          rw [h3]; rfl
      · exact .inl rfl
  clear hown hs hd
  rcases tests with h | ⟨h, h9⟩ | ⟨h, h9, h1, hp, h48⟩ <;> subst h
  all_goals
    go_enter Tryz.func77, Tryz.ntmps77
    go_wp2
    go_loopw [5] (fun o wr => ∃ pos : Nat, pos ≤ T.size ∧ wr.ownsRow w.heap.size 9 1 o (1 + ((T.data.toList.take pos).flatMap digW).length) ((digitsW :: (T.data.toList.take pos).flatMap digW).map strV) ∧ wr.heap[w.heap.size + 2]? = some (.stringIter T pos) ∧ Below w.heap.size w wr) (fun _ wr => T.size - wr.iterPos (w.heap.size + 2))
    case atStart =>
      exact ⟨0, Nat.zero_le _, by have h := Hown.out.alloc (.stringIter T 0); rw [World.size_alloc] at h; exact h, iter_new _ _ (by simp), (hb1.out.alloc (by simp) _).alloc (by simp; omega) _⟩
    case round =>
      rename World => wo
      obtain ⟨pos, hp, hown, hit, hb⟩ := hrel
      have hsz : w.heap.size + 2 < wo.heap.size := block_lt hit
      by_cases hlt : pos < T.size
      · have hdp := HD.out pos hlt
        have hnx : ∀ ty, (Instr.next (.pointer (some ⟨w.heap.size + 2, 0, none⟩)) true ty).run Tryz.prog wo = _ := fun ty => Lib.run_next_ascii_at wo (w.heap.size + 2) T pos ty hit hlt (by omega)
        have Hsn := hide (digW_take T pos hlt)
        have hfl := digW_flat (T.data.toList.take pos)
        rw [List.length_take] at hfl
        have hdl := digW_len T[pos]
        obtain ⟨Ao, co0, rfl⟩ := own_form hown
        have hown5 := own_iterI hown T hit (pos + 1)
        have hit5 := Lib.iterAt_heap wo (w.heap.size + 2) T pos (pos + 1) hit
        have hb5 := Lib.below_iterAt hb (k := w.heap.size + 2) (by omega) T (pos + 1)
        have hs5 := Lib.iterAt_size wo (w.heap.size + 2) T (pos + 1)
        obtain ⟨w5, hw5⟩ : ∃ w5, wo.iterAt (w.heap.size + 2) T (pos + 1) = w5 := ⟨_, rfl⟩
        rw [hw5] at hnx hown5 hit5 hb5 hs5
        have hs5' : w.heap.size ≤ w5.heap.size := by omega
        obtain ⟨L, hL⟩ : ∃ L, (T.data.toList.take pos).flatMap digW = L := ⟨_, rfl⟩
        rw [hL] at hown5 Hsn hfl ⊢
        have HO5 := hide hown5
        have Hit5 := hide hit5
        have HB5 := hide hb5
        have d1 : (48 : Int) ≤ ((T[pos]'hlt).toNat : Int) := by omega
        have d2 : ((T[pos]'hlt).toNat : Int) ≤ 57 := by omega
        have HX := hide (show ((T[pos]'hlt).toNat : Int) - 48 = (((T[pos]'hlt).toNat - 48 : Nat) : Int) by omega)
        have hit0 := hide hit
        clear hw5 hown hb hs5 hit5 hown5 hb5 hL hit
        go_wp2_with (first
          | (go_at_call 79; refine (HN.out _ _ _ HX.out (by omega)).mono ?_; rintro e w6 ⟨v6, rfl, hown6, hb6⟩; obtain ⟨A6, c6, rfl, hc6, hr6⟩ := own_strs (l := digW T[pos]) hown6 rfl; clear hown6; have HO6 := hide (own_keep HO5.out hb6); have HB6 := hide (HB5.out.trans (hb6.mono hs5')); have HI6 := hide ((hb6.block _ (block_lt Hit5.out)).trans Hit5.out))
          | (at_builtin; refine wpList_strs w6 (.tmp 34) (.tmp 38) rfl (by rfl) w.heap.size _ (digitsW :: L) _ (by rfl) HO6.out HB6.out.size A6 c6 _ (digW T[pos]) _ rfl (by rfl) hr6 (by omega) _ rfl ?_; intro v7 w7 hown7 hg7; have hb7 := below_own HB6.out HO6.out hg7 (Nat.le_refl _) HB6.out.size)
          | fail)
        have hit7 := (hg7.block _ (block_lt HI6.out) (own_notI HO6.out HI6.out).symm).trans HI6.out
        go_roundw
        case rel => exact ⟨pos + 1, by omega, own_eq hown7 (by rw [Hsn.out, List.length_append]; omega) (by rw [Hsn.out]; rfl), hit7, hb7⟩
        case measure => simp only [World.iterPos, hit7, hit0.out]; omega
      · obtain rfl : pos = T.size := by omega
        have hnx : ∀ ty, (Instr.next (.pointer (some ⟨w.heap.size + 2, 0, none⟩)) true ty).run Tryz.prog wo = _ := fun ty => Lib.run_next_end_at wo (w.heap.size + 2) T T.size ty hit hlt
        have HTk := hide (show T.data.toList.take T.size = T.data.toList from List.take_length)
        rw [HTk.out] at hown
        have HO := hide hown
        clear hown
        go_wp2
        go_ret
        exact ⟨_, rfl, own_eq HO.out (by rw [List.length_cons]; omega) rfl, hb⟩
set_option maxRecDepth 100000 in
set_option maxHeartbeats 1000000 in
theorem digitsShort (w : World) (T : ByteArray) (hT : T.size ≤ 9) (hd : ∀ k (h : k < T.size), 48 ≤ T[k].toNat ∧ T[k].toNat ≤ 57) (s : SetV) (hsd : s.sd = false) (hs : T.size ≤ 1 ∨ T.data.toList.head? ≠ some 48) :
    Calls Tryz.prog 77 #[.string T, s.val] w (SmallRet w (numW (numOfD T.data.toList))) := by
  obtain ⟨ra, sd, sp, re, co, ce⟩ := s
  unfold SetV.val
  dsimp only at hsd ⊢
  subst hsd
  have HD := hide hd
  have HN := hide (fun (W : World) (n : Nat) (hn : n ≤ 999999999) => numberWP W n hn)
  have hb1 := hide (((Below.refl w.heap.size w).alloc (Nat.le_refl _) (.cells #[.int .i64 ra, .bool false, .bool sp, .int .i64 re, .bool co, .int .i64 ce] 26)))
  have i0 : (T.size : Int) ≤ 9 := by omega
  have i9 : ¬ ((9 : Int) < (T.size : Int)) := by omega
  have tests : ¬ ((1 : Int) < (T.size : Int)) ∨ ((1 : Int) < (T.size : Int) ∧ ∃ h : 0 < T.size, ((T[0]'h).toNat : Int) ≠ 48) := by
    by_cases h1 : T.size ≤ 1
    · exact .inl (by omega)
    · have hp : 0 < T.size := by omega
      refine .inr ⟨by omega, hp, fun e => ?_⟩
      rcases hs with h | h
      · exact h1 h
      · apply h
        rw [List.head?_eq_getElem?, List.getElem?_eq_getElem (by simpa using hp)]
        congr 1
        apply UInt8.toNat_inj.1
        show T[0].toNat = _
        have : (48 : UInt8).toNat = 48 := rfl
        omega
  have HL := hide (numOfD_takeLt T hd)
  have H10 := hide (fun k (h : k ≤ 9) => show 10 ^ k ≤ 10 ^ 9 from Nat.pow_le_pow_right (by omega) h)
  clear hs hd
  rcases tests with h1 | ⟨h1, hp, h48⟩
  all_goals
    go_enter Tryz.func77, Tryz.ntmps77
    go_wp2
    go_loopw [8] (fun n wr => ∃ pos : Nat, pos ≤ T.size ∧ n = .int .i64 (numOfD (T.data.toList.take pos) : Nat) ∧ wr.heap[w.heap.size + 1]? = some (.stringIter T pos) ∧ Below w.heap.size w wr) (fun _ wr => T.size - wr.iterPos (w.heap.size + 1))
    case atStart => exact ⟨0, Nat.zero_le _, rfl, iter_new _ _ (by simp), hb1.out.alloc (by simp) _⟩
    case round =>
      rename World => wo
      obtain ⟨pos, hp, rfl, hit, hb⟩ := hrel
      have hsz : w.heap.size + 1 < wo.heap.size := block_lt hit
      by_cases hlt : pos < T.size
      · have hdp := HD.out pos hlt
        have hnx : ∀ ty, (Instr.next (.pointer (some ⟨w.heap.size + 1, 0, none⟩)) true ty).run Tryz.prog wo = _ := fun ty => Lib.run_next_ascii_at wo (w.heap.size + 1) T pos ty hit hlt (by omega)
        have Hsn := hide (numOfD_take T pos hlt)
        have hl1 := HL.out (pos + 1) hlt
        have hl2 := H10.out (pos + 1) (by omega)
        rw [Hsn.out] at hl1
        have hit5 := Lib.iterAt_heap wo (w.heap.size + 1) T pos (pos + 1) hit
        have hb5 := Lib.below_iterAt hb (k := w.heap.size + 1) (by omega) T (pos + 1)
        obtain ⟨w5, hw5⟩ : ∃ w5, wo.iterAt (w.heap.size + 1) T (pos + 1) = w5 := ⟨_, rfl⟩
        rw [hw5] at hnx hit5 hb5
        obtain ⟨L, hL⟩ : ∃ L, numOfD (T.data.toList.take pos) = L := ⟨_, rfl⟩
        rw [hL] at Hsn hl1 ⊢
        have Hit5 := hide hit5
        have HB5 := hide hb5
        have d1 : (48 : Int) ≤ ((T[pos]'hlt).toNat : Int) := by omega
        have d2 : ((T[pos]'hlt).toNat : Int) ≤ 57 := by omega
        have d3 : (L : Int) ≤ 100000000 := by omega
        have hit0 := hide hit
        clear hw5 hb hit5 hb5 hL hit hl1 hl2
        go_wp2
        have hit7 := Hit5.out
        go_roundw
        case rel => exact ⟨pos + 1, by omega, by rw [Hsn.out]; have := d1; go_num, hit7, HB5.out⟩
        case measure => simp only [World.iterPos, hit7, hit0.out]; omega
      · obtain rfl : pos = T.size := by omega
        have hnx : ∀ ty, (Instr.next (.pointer (some ⟨w.heap.size + 1, 0, none⟩)) true ty).run Tryz.prog wo = _ := fun ty => Lib.run_next_end_at wo (w.heap.size + 1) T T.size ty hit hlt
        have HTk := hide (show T.data.toList.take T.size = T.data.toList from List.take_length)
        have hl1 := HL.out T.size (Nat.le_refl _)
        have hl2 := H10.out T.size (by omega)
        rw [HTk.out] at hl1 ⊢
        obtain ⟨L, hL⟩ : ∃ L, numOfD T.data.toList = L := ⟨_, rfl⟩
        rw [hL] at hl1 ⊢
        have hL9 : L ≤ 999999999 := by omega
        have hbs := hb.size
        have HLL := hide hL
        clear hl1 hl2 hL
        go_wp2_with (first
          | (go_at_call 79; refine (HN.out _ L hL9).mono ?_; rintro e w6 ⟨v6, rfl, hown6, hb6⟩; obtain ⟨A6, c6, rfl⟩ := own_form hown6; have HO6 := hide hown6; clear hown6)
          | fail)
        go_ret
        rw [HLL.out]
        exact ⟨_, rfl, own_more HO6.out hbs, hb.trans (hb6.mono hbs)⟩
theorem digitsP (w : World) (T : ByteArray) (hT : T.size ≤ 1000000) (hd : ∀ k (h : k < T.size), 48 ≤ T[k].toNat ∧ T[k].toNat ≤ 57) (s : SetV) :
    Calls Tryz.prog 77 #[.string T, s.val] w (SmallRet w (digitsF s.sd T.data.toList)) := by
  unfold digitsF
  split
  · rename_i h
    rw [← Lib.size_eq] at h
    exact digitsLong w T hT hd s h
  · rename_i h
    rw [← Lib.size_eq] at h
    refine digitsShort w T (by omega) hd s (by simpa using fun e => h (.inl e)) ?_
    by_cases h1 : T.size ≤ 1
    · exact .inl h1
    · exact .inr (fun e => h (.inr (.inr ⟨by omega, e⟩)))
end Go.Proofs.YtdkppdjonlldhaaGreatDoor

/- strings.ToLower, strings.ToUpper, strings.Split into letters. -/
namespace Go.Proofs.YtdkppdjonlldhaaGreatDoor
open Go.RowKit Go.Maps Go.Shelf

def laysLower_ren : Go.Shelf.Ren := ⟨fun | 118 => 127 | 159 => 102 | 165 => 64 | 166 => 38 | 167 => 109 | 168 => 128 | 169 => 39 | 197 => 126 | 204 => 118 | 230 => 110 | 240 => 63 | 241 => 95 | 242 => 134 | 260 => 138 | 262 => 130 | 270 => 129 | 274 => 145 | 275 => 146 | 276 => 94 | 277 => 117 | 278 => 141 | 313 => 139 | n => n, fun | 0 => 0 | 3 => 3 | 4 => 4 | 5 => 5 | 9 => 9 | 20 => 20 | 21 => 21 | 37 => 73 | 46 => 134 | 51 => 145 | 70 => 72 | 72 => 75 | 75 => 77 | 76 => 78 | 80 => 80 | 105 => 119 | 107 => 150 | 119 => 108 | 127 => 94 | 138 => 132 | 139 => 133 | 160 => 189 | 162 => 187 | 164 => 124 | 203 => 179 | 206 => 194 | 208 => 196 | n => n, fun | 3 => 2 | 4 => 3 | 13 => 6 | n => n⟩
theorem laysLower : Go.Proofs.Lays.n159 Tryz.prog laysLower_ren := { mixed := by kernel_rfl, f118 := Tryz.func127.trans (congrArg some (by kernel_rfl)), f159 := Tryz.func102.trans (congrArg some (by kernel_rfl)), f165 := Tryz.func64.trans (congrArg some (by kernel_rfl)), f166 := Tryz.func38.trans (congrArg some (by kernel_rfl)), f167 := Tryz.func109.trans (congrArg some (by kernel_rfl)), f168 := Tryz.func128.trans (congrArg some (by kernel_rfl)), f169 := Tryz.func39.trans (congrArg some (by kernel_rfl)), f197 := Tryz.func126.trans (congrArg some (by kernel_rfl)), f204 := Tryz.func118.trans (congrArg some (by kernel_rfl)), f230 := Tryz.func110.trans (congrArg some (by kernel_rfl)), f240 := Tryz.func63.trans (congrArg some (by kernel_rfl)), f241 := Tryz.func95.trans (congrArg some (by kernel_rfl)), f242 := Tryz.func134.trans (congrArg some (by kernel_rfl)), f260 := Tryz.func138.trans (congrArg some (by kernel_rfl)), f262 := Tryz.func130.trans (congrArg some (by kernel_rfl)), f270 := Tryz.func129.trans (congrArg some (by kernel_rfl)), f274 := Tryz.func145.trans (congrArg some (by kernel_rfl)), f275 := Tryz.func146.trans (congrArg some (by kernel_rfl)), f276 := Tryz.func94.trans (congrArg some (by kernel_rfl)), f277 := Tryz.func117.trans (congrArg some (by kernel_rfl)), f278 := Tryz.func141.trans (congrArg some (by kernel_rfl)), f313 := Tryz.func139.trans (congrArg some (by kernel_rfl)), t0 := Tryz.underlying0, a0 := Tryz.isAgg0, z0 := Tryz.sizeOf0, v0 := Tryz.zeroValue0, t3 := Tryz.underlying3, a3 := Tryz.isAgg3, z3 := Tryz.sizeOf3, v3 := Tryz.zeroValue3, t4 := Tryz.underlying4, a4 := Tryz.isAgg4, z4 := Tryz.sizeOf4, v4 := Tryz.zeroValue4, t5 := Tryz.underlying5, a5 := Tryz.isAgg5, z5 := Tryz.sizeOf5, v5 := Tryz.zeroValue5, t9 := Tryz.underlying9, a9 := Tryz.isAgg9, z9 := Tryz.sizeOf9, v9 := Tryz.zeroValue9, t20 := Tryz.underlying20, a20 := Tryz.isAgg20, z20 := Tryz.sizeOf20, v20 := Tryz.zeroValue20, t21 := Tryz.underlying21, a21 := Tryz.isAgg21, z21 := Tryz.sizeOf21, v21 := Tryz.zeroValue21, t37 := Tryz.underlying73, a37 := Tryz.isAgg73, z37 := Tryz.sizeOf73, v37 := Tryz.zeroValue73, t46 := Tryz.underlying134, a46 := Tryz.isAgg134, z46 := Tryz.sizeOf134, v46 := Tryz.zeroValue134, t51 := Tryz.underlying145, a51 := Tryz.isAgg145, z51 := Tryz.sizeOf145, v51 := Tryz.zeroValue145, t70 := Tryz.underlying72, a70 := Tryz.isAgg72, z70 := Tryz.sizeOf72, v70 := Tryz.zeroValue72, t72 := Tryz.underlying75, a72 := Tryz.isAgg75, z72 := Tryz.sizeOf75, v72 := Tryz.zeroValue75, t75 := Tryz.underlying77, a75 := Tryz.isAgg77, z75 := Tryz.sizeOf77, v75 := Tryz.zeroValue77, t76 := Tryz.underlying78, a76 := Tryz.isAgg78, z76 := Tryz.sizeOf78, v76 := Tryz.zeroValue78, t105 := Tryz.underlying119, a105 := Tryz.isAgg119, z105 := Tryz.sizeOf119, v105 := Tryz.zeroValue119, t107 := Tryz.underlying150, a107 := Tryz.isAgg150, z107 := Tryz.sizeOf150, v107 := Tryz.zeroValue150, t119 := Tryz.underlying108, a119 := Tryz.isAgg108, z119 := Tryz.sizeOf108, t127 := Tryz.underlying94, a127 := Tryz.isAgg94, z127 := Tryz.sizeOf94, v127 := Tryz.zeroValue94, t138 := Tryz.underlying132, a138 := Tryz.isAgg132, z138 := Tryz.sizeOf132, v138 := Tryz.zeroValue132, t139 := Tryz.underlying133, a139 := Tryz.isAgg133, z139 := Tryz.sizeOf133, v139 := Tryz.zeroValue133, t160 := Tryz.underlying189, a160 := Tryz.isAgg189, z160 := Tryz.sizeOf189, v160 := Tryz.zeroValue189, t162 := Tryz.underlying187, a162 := Tryz.isAgg187, z162 := Tryz.sizeOf187, v162 := Tryz.zeroValue187, t164 := Tryz.underlying124, a164 := Tryz.isAgg124, z164 := Tryz.sizeOf124, v164 := Tryz.zeroValue124, t203 := Tryz.underlying179, a203 := Tryz.isAgg179, z203 := Tryz.sizeOf179, v203 := Tryz.zeroValue179, t206 := Tryz.underlying194, a206 := Tryz.isAgg194, z206 := Tryz.sizeOf194, v206 := Tryz.zeroValue194, t208 := Tryz.underlying196, a208 := Tryz.isAgg196, z208 := Tryz.sizeOf196, v208 := Tryz.zeroValue196, g3 := by kernel_rfl, g4 := by kernel_rfl, g13 := by kernel_rfl }
def laysUpper_ren : Go.Shelf.Ren := ⟨fun | 118 => 127 | 158 => 88 | 165 => 64 | 166 => 38 | 167 => 109 | 168 => 128 | 169 => 39 | 197 => 126 | 203 => 111 | 230 => 110 | 240 => 63 | 241 => 95 | 242 => 134 | 260 => 138 | 262 => 130 | 270 => 129 | 274 => 145 | 275 => 146 | 276 => 94 | 277 => 117 | 278 => 141 | 313 => 139 | n => n, fun | 0 => 0 | 3 => 3 | 4 => 4 | 5 => 5 | 9 => 9 | 20 => 20 | 21 => 21 | 37 => 73 | 46 => 134 | 51 => 145 | 70 => 72 | 72 => 75 | 75 => 77 | 76 => 78 | 80 => 80 | 105 => 119 | 107 => 150 | 119 => 108 | 127 => 94 | 138 => 132 | 139 => 133 | 160 => 189 | 162 => 187 | 164 => 124 | 203 => 179 | 206 => 194 | 208 => 196 | n => n, fun | 3 => 2 | 4 => 3 | 13 => 6 | n => n⟩
theorem laysUpper : Go.Proofs.Lays.n158 Tryz.prog laysUpper_ren := { mixed := by kernel_rfl, f118 := Tryz.func127.trans (congrArg some (by kernel_rfl)), f158 := Tryz.func88.trans (congrArg some (by kernel_rfl)), f165 := Tryz.func64.trans (congrArg some (by kernel_rfl)), f166 := Tryz.func38.trans (congrArg some (by kernel_rfl)), f167 := Tryz.func109.trans (congrArg some (by kernel_rfl)), f168 := Tryz.func128.trans (congrArg some (by kernel_rfl)), f169 := Tryz.func39.trans (congrArg some (by kernel_rfl)), f197 := Tryz.func126.trans (congrArg some (by kernel_rfl)), f203 := Tryz.func111.trans (congrArg some (by kernel_rfl)), f230 := Tryz.func110.trans (congrArg some (by kernel_rfl)), f240 := Tryz.func63.trans (congrArg some (by kernel_rfl)), f241 := Tryz.func95.trans (congrArg some (by kernel_rfl)), f242 := Tryz.func134.trans (congrArg some (by kernel_rfl)), f260 := Tryz.func138.trans (congrArg some (by kernel_rfl)), f262 := Tryz.func130.trans (congrArg some (by kernel_rfl)), f270 := Tryz.func129.trans (congrArg some (by kernel_rfl)), f274 := Tryz.func145.trans (congrArg some (by kernel_rfl)), f275 := Tryz.func146.trans (congrArg some (by kernel_rfl)), f276 := Tryz.func94.trans (congrArg some (by kernel_rfl)), f277 := Tryz.func117.trans (congrArg some (by kernel_rfl)), f278 := Tryz.func141.trans (congrArg some (by kernel_rfl)), f313 := Tryz.func139.trans (congrArg some (by kernel_rfl)), t0 := Tryz.underlying0, a0 := Tryz.isAgg0, z0 := Tryz.sizeOf0, v0 := Tryz.zeroValue0, t3 := Tryz.underlying3, a3 := Tryz.isAgg3, z3 := Tryz.sizeOf3, v3 := Tryz.zeroValue3, t4 := Tryz.underlying4, a4 := Tryz.isAgg4, z4 := Tryz.sizeOf4, v4 := Tryz.zeroValue4, t5 := Tryz.underlying5, a5 := Tryz.isAgg5, z5 := Tryz.sizeOf5, v5 := Tryz.zeroValue5, t9 := Tryz.underlying9, a9 := Tryz.isAgg9, z9 := Tryz.sizeOf9, v9 := Tryz.zeroValue9, t20 := Tryz.underlying20, a20 := Tryz.isAgg20, z20 := Tryz.sizeOf20, v20 := Tryz.zeroValue20, t21 := Tryz.underlying21, a21 := Tryz.isAgg21, z21 := Tryz.sizeOf21, v21 := Tryz.zeroValue21, t37 := Tryz.underlying73, a37 := Tryz.isAgg73, z37 := Tryz.sizeOf73, v37 := Tryz.zeroValue73, t46 := Tryz.underlying134, a46 := Tryz.isAgg134, z46 := Tryz.sizeOf134, v46 := Tryz.zeroValue134, t51 := Tryz.underlying145, a51 := Tryz.isAgg145, z51 := Tryz.sizeOf145, v51 := Tryz.zeroValue145, t70 := Tryz.underlying72, a70 := Tryz.isAgg72, z70 := Tryz.sizeOf72, v70 := Tryz.zeroValue72, t72 := Tryz.underlying75, a72 := Tryz.isAgg75, z72 := Tryz.sizeOf75, v72 := Tryz.zeroValue75, t75 := Tryz.underlying77, a75 := Tryz.isAgg77, z75 := Tryz.sizeOf77, v75 := Tryz.zeroValue77, t76 := Tryz.underlying78, a76 := Tryz.isAgg78, z76 := Tryz.sizeOf78, v76 := Tryz.zeroValue78, t105 := Tryz.underlying119, a105 := Tryz.isAgg119, z105 := Tryz.sizeOf119, v105 := Tryz.zeroValue119, t107 := Tryz.underlying150, a107 := Tryz.isAgg150, z107 := Tryz.sizeOf150, v107 := Tryz.zeroValue150, t119 := Tryz.underlying108, a119 := Tryz.isAgg108, z119 := Tryz.sizeOf108, t127 := Tryz.underlying94, a127 := Tryz.isAgg94, z127 := Tryz.sizeOf94, v127 := Tryz.zeroValue94, t138 := Tryz.underlying132, a138 := Tryz.isAgg132, z138 := Tryz.sizeOf132, v138 := Tryz.zeroValue132, t139 := Tryz.underlying133, a139 := Tryz.isAgg133, z139 := Tryz.sizeOf133, v139 := Tryz.zeroValue133, t160 := Tryz.underlying189, a160 := Tryz.isAgg189, z160 := Tryz.sizeOf189, v160 := Tryz.zeroValue189, t162 := Tryz.underlying187, a162 := Tryz.isAgg187, z162 := Tryz.sizeOf187, v162 := Tryz.zeroValue187, t164 := Tryz.underlying124, a164 := Tryz.isAgg124, z164 := Tryz.sizeOf124, v164 := Tryz.zeroValue124, t203 := Tryz.underlying179, a203 := Tryz.isAgg179, z203 := Tryz.sizeOf179, v203 := Tryz.zeroValue179, t206 := Tryz.underlying194, a206 := Tryz.isAgg194, z206 := Tryz.sizeOf194, v206 := Tryz.zeroValue194, t208 := Tryz.underlying196, a208 := Tryz.isAgg196, z208 := Tryz.sizeOf196, v208 := Tryz.zeroValue196, g3 := by kernel_rfl, g4 := by kernel_rfl, g13 := by kernel_rfl }
def laysSplit_ren : Go.Shelf.Ren := ⟨fun | 138 => 136 | 143 => 137 | 146 => 103 | 195 => 142 | 197 => 126 | 217 => 147 | 218 => 143 | 219 => 144 | 221 => 119 | 224 => 149 | 225 => 148 | 260 => 138 | 266 => 151 | 267 => 150 | 268 => 135 | 314 => 152 | n => n, fun | 0 => 0 | 3 => 3 | 4 => 4 | 5 => 5 | 9 => 9 | 21 => 21 | 31 => 51 | 46 => 134 | 51 => 145 | 105 => 119 | 119 => 108 | 138 => 132 | 139 => 133 | 146 => 197 | n => n, fun | 1 => 5 | 3 => 2 | 4 => 3 | n => n⟩
theorem laysSplit : Go.Proofs.Lays.n146 Tryz.prog laysSplit_ren := { mixed := by kernel_rfl, f138 := Tryz.func136.trans (congrArg some (by kernel_rfl)), f143 := Tryz.func137.trans (congrArg some (by kernel_rfl)), f146 := Tryz.func103.trans (congrArg some (by kernel_rfl)), f195 := Tryz.func142.trans (congrArg some (by kernel_rfl)), f197 := Tryz.func126.trans (congrArg some (by kernel_rfl)), f217 := Tryz.func147.trans (congrArg some (by kernel_rfl)), f218 := Tryz.func143.trans (congrArg some (by kernel_rfl)), f219 := Tryz.func144.trans (congrArg some (by kernel_rfl)), f221 := Tryz.func119.trans (congrArg some (by kernel_rfl)), f224 := Tryz.func149.trans (congrArg some (by kernel_rfl)), f225 := Tryz.func148.trans (congrArg some (by kernel_rfl)), f260 := Tryz.func138.trans (congrArg some (by kernel_rfl)), f266 := Tryz.func151.trans (congrArg some (by kernel_rfl)), f267 := Tryz.func150.trans (congrArg some (by kernel_rfl)), f268 := Tryz.func135.trans (congrArg some (by kernel_rfl)), f314 := Tryz.func152.trans (congrArg some (by kernel_rfl)), t0 := Tryz.underlying0, a0 := Tryz.isAgg0, z0 := Tryz.sizeOf0, v0 := Tryz.zeroValue0, t3 := Tryz.underlying3, a3 := Tryz.isAgg3, z3 := Tryz.sizeOf3, v3 := Tryz.zeroValue3, t4 := Tryz.underlying4, a4 := Tryz.isAgg4, z4 := Tryz.sizeOf4, v4 := Tryz.zeroValue4, t5 := Tryz.underlying5, a5 := Tryz.isAgg5, z5 := Tryz.sizeOf5, v5 := Tryz.zeroValue5, t9 := Tryz.underlying9, a9 := Tryz.isAgg9, z9 := Tryz.sizeOf9, v9 := Tryz.zeroValue9, t21 := Tryz.underlying21, a21 := Tryz.isAgg21, z21 := Tryz.sizeOf21, v21 := Tryz.zeroValue21, t31 := Tryz.underlying51, a31 := Tryz.isAgg51, z31 := Tryz.sizeOf51, v31 := Tryz.zeroValue51, t46 := Tryz.underlying134, a46 := Tryz.isAgg134, z46 := Tryz.sizeOf134, v46 := Tryz.zeroValue134, t51 := Tryz.underlying145, a51 := Tryz.isAgg145, z51 := Tryz.sizeOf145, v51 := Tryz.zeroValue145, t105 := Tryz.underlying119, a105 := Tryz.isAgg119, z105 := Tryz.sizeOf119, v105 := Tryz.zeroValue119, t119 := Tryz.underlying108, a119 := Tryz.isAgg108, z119 := Tryz.sizeOf108, t138 := Tryz.underlying132, a138 := Tryz.isAgg132, z138 := Tryz.sizeOf132, v138 := Tryz.zeroValue132, t139 := Tryz.underlying133, a139 := Tryz.isAgg133, z139 := Tryz.sizeOf133, v139 := Tryz.zeroValue133, t146 := Tryz.underlying197, a146 := Tryz.isAgg197, z146 := Tryz.sizeOf197, v146 := Tryz.zeroValue197, g1 := by kernel_rfl, g3 := by kernel_rfl, g4 := by kernel_rfl }
theorem extraLower : Go.Proofs.Builder.Extra Tryz.prog laysLower_ren := { sizeBuilder := by kernel_rfl, liesBuilder := by kernel_rfl, t5 := laysLower.t5, a5 := laysLower.a5, z5 := laysLower.z5, v5 := laysLower.v5, infoByte := by kernel_rfl, cellsByte := by kernel_rfl, sizeByte := by kernel_rfl, neB5 := by decide }
theorem extraUpper : Go.Proofs.Builder.Extra Tryz.prog laysUpper_ren := { sizeBuilder := by kernel_rfl, liesBuilder := by kernel_rfl, t5 := laysUpper.t5, a5 := laysUpper.a5, z5 := laysUpper.z5, v5 := laysUpper.v5, infoByte := by kernel_rfl, cellsByte := by kernel_rfl, sizeByte := by kernel_rfl, neB5 := by decide }
theorem lowB_lib (b : UInt8) : Go.Lib.lowerB b = lowB b := by
  unfold Go.Lib.lowerB Go.Lib.isUpperB lowB
  by_cases h : 65 ≤ b.toNat ∧ b.toNat ≤ 90
  · rw [if_pos h, if_pos (by simp [UInt8.le_iff_toNat_le]; exact h)]
  · rw [if_neg h, if_neg (by simp [UInt8.le_iff_toNat_le]; exact fun h1 => Nat.lt_of_not_le fun h2 => h ⟨h1, h2⟩)]
theorem upB_lib (b : UInt8) : Go.Lib.upperB b = upB b := by
  unfold Go.Lib.upperB Go.Lib.isLowerB upB
  by_cases h : 97 ≤ b.toNat ∧ b.toNat ≤ 122
  · rw [if_pos h, if_pos (by simp [UInt8.le_iff_toNat_le]; exact h)]
  · rw [if_neg h, if_neg (by simp [UInt8.le_iff_toNat_le]; exact fun h1 => Nat.lt_of_not_le fun h2 => h ⟨h1, h2⟩)]
theorem lowP (w : World) (s : ByteArray) (hs : s.size ≤ 1000000) (ha : ∀ (j : Nat) (b : UInt8), s.data.toList[j]? = some b → b.toNat < 128) :
    Calls Tryz.prog 102 #[.string s] w fun e w' => e = .returned (.string ⟨(s.data.toList.map lowB).toArray⟩) ∧ Below w.heap.size w w' := by
  have h := Any.strings_ToLower_ascii laysLower extraLower s w (by omega) ha
  unfold Go.Lib.toLowerA at h
  rw [show Go.Lib.lowerB = lowB from funext lowB_lib] at h
  exact h
theorem upP (w : World) (s : ByteArray) (hs : s.size ≤ 1000000) (ha : ∀ (j : Nat) (b : UInt8), s.data.toList[j]? = some b → b.toNat < 128) :
    Calls Tryz.prog 88 #[.string s] w fun e w' => e = .returned (.string ⟨(s.data.toList.map upB).toArray⟩) ∧ Below w.heap.size w w' := by
  have h := Any.strings_ToUpper_ascii laysUpper extraUpper s w (by omega) ha
  unfold Go.Lib.toUpperA at h
  rw [show Go.Lib.upperB = upB from funext upB_lib] at h
  exact h
theorem ext_one (s : ByteArray) (j : Nat) (h : j < s.size) : s.extract j (j + 1) = ⟨#[s[j]]⟩ := by
  apply ByteArray.ext
  rw [ByteArray.data_extract]
  apply Array.ext'
  simp
  rw [List.take_one]
  simp [List.head?_drop]
  exact Array.getElem?_eq_getElem h
theorem chars_eq (s : ByteArray) : (Go.Lib.charsB s).map Value.string = (s.data.toList.map fun b => [b]).map strV := by
  apply List.ext_getElem
  · simp [Go.Lib.charsB, Go.Lib.charsUpTo]
  · intro j h1 h2
    simp only [List.length_map, Go.Lib.charsB, Go.Lib.charsUpTo_length] at h1
    simp [Go.Lib.charsB, Go.Lib.charsUpTo, strV, ext_one s j h1]
    rfl
theorem splitLP (w : World) (s : ByteArray) (hs : s.size ≤ 1000000) (ha : ∀ (j : Nat) (b : UInt8), s.data.toList[j]? = some b → b.toNat < 128) :
    Calls Tryz.prog 103 #[.string s, .string ⟨#[]⟩] w fun e w' => ∃ g, e = .returned (.slice (some ⟨g, 0, none⟩) s.size s.size) ∧ StrRow w' w'.heap.size (some ⟨g, 0, none⟩) (s.data.toList.map fun b => [b]) ∧ Below w.heap.size w w' := by
  refine (Any.strings_Split_chars laysSplit (by kernel_rfl) s ⟨#[]⟩ w rfl (by omega) ha).mono ?_
  rintro e w' ⟨rfl, rfl⟩
  have hi : Below w.heap.size w (w.iter s s.size) := (Below.refl _ _).alloc (Nat.le_refl _) _
  refine ⟨_, rfl, fun _ => ⟨_, 0, rfl, by simp, fun k x hx => ?_⟩, hi.alloc (by simp [World.iter]) _⟩
  show World.cell? _ ⟨_, 0 + k * 1, none⟩ = some (strV x)
  rw [Nat.mul_one, Nat.zero_add, cell_block (block_new (w.iter s s.size) _) k, chars_eq]
  simp only [List.getElem?_toArray, List.getElem?_map] at *
  rw [hx]; rfl
end Go.Proofs.YtdkppdjonlldhaaGreatDoor

/- spokentext.letters. -/
namespace Go.Proofs.YtdkppdjonlldhaaGreatDoor
open Go.RowKit Go.Maps Go.Shelf

theorem reservedBP (w : World) (hS : Spc w) (S : ByteArray) (h : S.size ≤ 1000000) : Calls Tryz.prog 104 #[.string S] w fun e w' => e = .returned (.bool (isRes S.data.toList)) ∧ Below w.heap.size w w' := by
  have h := reservedWP w hS S.data.toList (by rw [← Lib.size_eq]; exact h)
  exact h
theorem highN_take (T : ByteArray) (k : Nat) (h : k < T.size) : highN (T.data.toList.take (k + 1)) = highN (T.data.toList.take k) + if T[k] = lowB T[k] then 0 else 1 := by
  unfold highN
  rw [List.take_succ_eq_append_getElem (by simpa using h), List.countP_append, List.countP_singleton]
  congr 1
  show (if (T[k] != lowB T[k]) = true then 1 else 0) = _
  by_cases e : T[k] = lowB T[k]
  · rw [if_pos e, if_neg (by rw [← e]; simp)]
  · rw [if_neg e, if_pos (by simpa using e)]
theorem highN_le (t : Wd) : highN t ≤ t.length := List.countP_le_length
theorem lettersF_eq (sp : Bool) (t : Wd) : lettersF sp t = (if highN t = 1 then [capW] else if 1 < highN t then [capsW] else []) ++ (if sp then spelledW :: ((t.map lowB).map (fun b => [b]) ++ [endW]) else (if isRes (t.map lowB) then [wordW] else []) ++ [t.map lowB]) := rfl
theorem ascii_map (t : Wd) (ha : ∀ (j : Nat) (b : UInt8), t[j]? = some b → b.toNat < 128) : ∀ (j : Nat) (b : UInt8), (t.map lowB)[j]? = some b → b.toNat < 128 := fun j b hb => by
  rw [List.getElem?_map] at hb
  cases hx : t[j]? with
  | none => rw [hx] at hb; cases hb
  | some x =>
    rw [hx] at hb
    cases hb
    have := ha j x hx
    unfold lowB
    split
    · rename_i h
      rw [UInt8.toNat_add]
      have : (32 : UInt8).toNat = 32 := rfl
      omega
    · exact this
set_option maxRecDepth 100000 in
set_option maxHeartbeats 4000000 in
theorem lettersP (w : World) (hS : Spc w) (T : ByteArray) (hT : T.size ≤ 1000000) (ha : ∀ (j : Nat) (b : UInt8), T.data.toList[j]? = some b → b.toNat < 128) (s : SetV) :
    Calls Tryz.prog 76 #[.string T, s.val] w (SmallRet w (lettersF s.sp T.data.toList)) := by
  obtain ⟨ra, sd, sp, re, co, ce⟩ := s
  unfold SetV.val
  dsimp only
  have HLo := hide (fun W => lowP W T hT ha)
  have hSz : (⟨(T.data.toList.map lowB).toArray⟩ : ByteArray).size = T.size := (by show (T.data.toList.map lowB).toArray.size = T.data.size; simp)
  obtain ⟨LB, hLB⟩ : ∃ LB : ByteArray, (⟨(T.data.toList.map lowB).toArray⟩ : ByteArray) = LB := ⟨_, rfl⟩
  have hLL : LB.data.toList = T.data.toList.map lowB := by rw [← hLB]
  rw [hLB] at HLo hSz
  have HLg := hide (fun k (h : k < T.size) (h2 : k < LB.size) => show LB[k] = lowB T[k] from (by subst hLB; show (List.map lowB T.data.toList).toArray[k]'(by simpa using h) = _; simp; rfl))
  have HSpl := hide (fun W => splitLP W LB (by omega) (by rw [hLL]; exact ascii_map _ ha))
  have HRes := hide (fun W h => reservedBP W h LB (by omega))
  have HF := hide (lettersF_eq sp T.data.toList)
  have Hhi := hide (highN_le T.data.toList)
  have HT := hide (fun k => highN_take T k)
  rw [← hLL] at HF
  have HLL := hide hLL
  have HlT := hide (show T.data.toList.length = T.size by rw [Lib.size_eq])
  have Hst := hide (str_of LB)
  obtain ⟨RL, hRL⟩ : ∃ RL, lettersF sp T.data.toList = RL := ⟨_, rfl⟩
  rw [hRL] at HF ⊢
  have hb1 := hide (((Below.refl w.heap.size w).alloc (Nat.le_refl _) (.cells #[.int .i64 ra, .bool sd, .bool sp, .int .i64 re, .bool co, .int .i64 ce] 26)))
  have HSp := hide (fun (W : World) (h : Below (w.heap.size + 1) (w.alloc (.cells #[.int .i64 ra, .bool sd, .bool sp, .int .i64 re, .bool co, .int .i64 ce] 26)) W) => hS.below (hb1.out.trans (h.mono (Nat.le_succ _))))
  have Hblk := hide (fun (W : World) (h : Below (w.heap.size + 1) (w.alloc (.cells #[.int .i64 ra, .bool sd, .bool sp, .int .i64 re, .bool co, .int .i64 ce] 26)) W) => cell_block ((h.block w.heap.size (by omega)).trans (block_new w (.cells #[.int .i64 ra, .bool sd, .bool sp, .int .i64 re, .bool co, .int .i64 ce] 26))) 2)
  clear hLB hRL hLL hS ha
  go_enter Tryz.func76, Tryz.ntmps76
  go_wp2_with (first
    | (go_at_call 102; refine (HLo.out _).mono ?_; rintro e w2 ⟨rfl, hb2⟩; rw [World.size_alloc] at hb2; have Hb2 := hide hb2; clear hb2)
    | fail)
  go_loopw [7, 13] (fun c i wr => ∃ k : Nat, k ≤ T.size ∧ i = .int .i64 k ∧ c = .int .i64 (highN (T.data.toList.take k) : Nat) ∧ Below (w.heap.size + 1) (w.alloc (.cells #[.int .i64 ra, .bool sd, .bool sp, .int .i64 re, .bool co, .int .i64 ce] 26)) wr) (fun _ i _ => T.size - (intOf i).toNat)
  case atStart => exact ⟨0, Nat.zero_le _, rfl, rfl, Hb2.out⟩
  case round =>
    obtain ⟨k, hk, rfl, rfl, hbr⟩ := hrel
    rename World => wo
    have HB := hide hbr
    have hszo := hbr.size
    rw [World.size_alloc] at hszo
    clear hbr
    by_cases hlt : k < T.size
    · have hkI : (k : Int) < (T.size : Int) := by omega
      have hkL : k < LB.size := by omega
      have hg := HLg.out k hlt hkL
      have Hn := hide (HT.out k hlt)
      have hle := highN_le (T.data.toList.take k)
      rw [List.length_take] at hle
      obtain ⟨N, hN⟩ : ∃ N, highN (T.data.toList.take k) = N := ⟨_, rfl⟩
      rw [hN] at Hn hle ⊢
      have hN6 : N ≤ 1000000 := by omega
      clear hle hN
      by_cases hq : T[k] = lowB T[k]
      · have e1 : (LB[k]'hkL).toNat = (T[k]'hlt).toNat := by rw [hg, ← hq]
        have HN2 := hide (show highN (T.data.toList.take (k + 1)) = N by rw [Hn.out, if_pos hq]; omega)
        clear hq hg
        go_wp2
        go_quiet (fail)
        go_wp2
        go_roundw
        case rel => exact ⟨k + 1, by omega, by go_num, by rw [HN2.out], below_drewN HB.out _⟩
        case measure => simp [intOf]; omega
      · have e1 : (((T[k]'hlt).toNat : Int) == ((LB[k]'hkL).toNat : Int)) = false := by
          rw [beq_eq_false_iff_ne, hg]
          intro e
          exact hq (UInt8.toNat_inj.1 (by omega))
        have HN2 := hide (show highN (T.data.toList.take (k + 1)) = N + 1 by rw [Hn.out, if_neg hq])
        clear hq hg
        go_wp2
        go_quiet (fail)
        go_wp2
        go_roundw
        case rel => exact ⟨k + 1, by omega, by go_num, by rw [HN2.out]; go_num, below_drewN HB.out _⟩
        case measure => simp [intOf]; omega
    · obtain rfl : k = T.size := by omega
      have HTk := hide (show T.data.toList.take T.size = T.data.toList from List.take_length)
      have hle := Hhi.out
      rw [HlT.out] at hle
      rw [HTk.out]
      obtain ⟨N, hN⟩ : ∃ N, highN T.data.toList = N := ⟨_, rfl⟩
      have HF2 := hide HF.out.symm
      rw [hN] at hle HF2 ⊢
      have hS0 := HSp.out wo HB.out
      have HS0 := hide hS0
      have hnil := World.ownsRow_nil wo (w.heap.size + 1) 9 1
      have Hnil := hide hnil
      have cc0 := Hblk.out wo HB.out
      clear hN hnil hS0 HTk HT HLg
      by_cases h1 : N = 1
      · have HF3 := HF2
        rw [if_pos h1] at HF3
        subst h1
        clear HF HF2 hle
        cases sp with
        | true =>
          have HR := hide (show capW :: spelledW :: (LB.data.toList.map (fun b => [b]) ++ [endW]) = RL from HF3.out)
          go_wp2_with (first
            | (at_builtin; refine wpList_app _ (.tmp 29) (.tmp 30) 51 rfl (by rfl) el_str (w.heap.size + 1) (.slice none 0 0) 0 _ (by rfl) Hnil.out hszo #[.string ⟨#[99, 97, 112]⟩] 1 1 9 _ (by rfl) rfl rfl (by simp [Value.oneCell']) (by omega) ?_; intro v3 w3 hown3 hg3; have hb3 := below_own HB.out Hnil.out hg3 (Nat.le_refl _) hszo; have hs3 := hb3.size; have cc3 := Hblk.out _ hb3; obtain ⟨A3, c3, rfl⟩ := own_form hown3; have HO3 := hide hown3; have HB3 := hide hb3; have hs3' : w.heap.size + 1 ≤ w3.heap.size := (by rw [World.size_alloc] at hs3; exact hs3); clear hown3 hg3 hb3 hs3)
            | (at_builtin; refine wpList_app _ (.tmp 40) (.tmp 41) 51 rfl (by rfl) el_str (w.heap.size + 1) (.slice A3 1 c3) 1 _ (by rfl) HO3.out hs3' #[.string ⟨#[115, 112, 101, 108, 108, 101, 100]⟩] 1 1 9 _ (by rfl) rfl rfl (by simp [Value.oneCell']) (by omega) ?_; intro v4 w4 hown4 hg4; have hb4 := below_own HB3.out HO3.out hg4 (Nat.le_refl _) hs3'; have hs4 := hb4.size; obtain ⟨A4, c4, rfl⟩ := own_form hown4; have HO4 := hide hown4; have HB4 := hide hb4; have hs4' : w.heap.size + 1 ≤ w4.heap.size := (by rw [World.size_alloc] at hs4; exact hs4); clear hown4 hg4 hb4 hs4)
            | (go_at_call 103; refine (HSpl.out _).mono ?_; rintro e w5 ⟨g5, rfl, hr5, hb5⟩; have HO5 := hide (own_keep HO4.out hb5); have HB5 := hide (HB4.out.trans (hb5.mono hs4')); have hs5' : w.heap.size + 1 ≤ w5.heap.size := Nat.le_trans hs4' hb5.size; clear hb5; rw [hSz])
            | (at_builtin; refine wpList_strs w5 (.tmp 43) (.tmp 45) rfl (by rfl) (w.heap.size + 1) (.slice A4 2 c4) ([capW] ++ [spelledW]) 2 (by rfl) HO5.out hs5' (some ⟨g5, 0, none⟩) T.size _ (LB.data.toList.map fun b => [b]) T.size (by rw [List.length_map, ← Lib.size_eq, hSz]) (by rfl) hr5 (by omega) _ rfl ?_; intro v6 w6 hown6 hg6; have hb6 := below_own HB5.out HO5.out hg6 (Nat.le_refl _) hs5'; have hs6 := hb6.size; obtain ⟨A6, c6, rfl⟩ := own_form hown6; have HO6 := hide hown6; have HB6 := hide hb6; have hs6' : w.heap.size + 1 ≤ w6.heap.size := (by rw [World.size_alloc] at hs6; exact hs6); clear hown6 hg6 hb6 hs6)
            | (at_builtin; refine wpList_app _ (.tmp 47) (.tmp 48) 51 rfl (by rfl) el_str (w.heap.size + 1) (.slice A6 (2 + T.size) c6) (2 + T.size) _ (by rfl) HO6.out hs6' #[.string ⟨#[101, 110, 100]⟩] 1 1 9 _ (by rfl) rfl rfl (by simp [Value.oneCell']) (by omega) ?_; intro v7 w7 hown7 hg7; have hb7 := below_own HB6.out HO6.out hg7 (Nat.le_refl _) hs6')
            | fail)
          go_ret
          exact ⟨_, rfl, own_eq (own_more hown7 (Nat.le_succ _)) (by rw [← HR.out]; simp [hSz]; try omega) (by rw [← HR.out]; simp; rfl), hb1.out.trans (hb7.mono (Nat.le_succ _))⟩
        | false =>
          cases hrs : isRes LB.data.toList with
          | true =>
            have HR := hide (show capW :: wordW :: [LB.data.toList] = RL by have h := HF3.out; rw [hrs] at h; exact h)
            have HRs := hide hrs
            clear hrs
            go_wp2_with (first
              | (at_builtin; refine wpList_app _ (.tmp 29) (.tmp 30) 51 rfl (by rfl) el_str (w.heap.size + 1) (.slice none 0 0) 0 _ (by rfl) Hnil.out hszo #[.string ⟨#[99, 97, 112]⟩] 1 1 9 _ (by rfl) rfl rfl (by simp [Value.oneCell']) (by omega) ?_; intro v3 w3 hown3 hg3; have hb3 := below_own HB.out Hnil.out hg3 (Nat.le_refl _) hszo; have hs3 := hb3.size; have cc3 := Hblk.out _ hb3; obtain ⟨A3, c3, rfl⟩ := own_form hown3; have HO3 := hide hown3; have HB3 := hide hb3; have hs3' : w.heap.size + 1 ≤ w3.heap.size := (by rw [World.size_alloc] at hs3; exact hs3); clear hown3 hg3 hb3 hs3)
              | (go_at_call 104; refine (HRes.out _ (HSp.out _ HB3.out)).mono ?_; rintro e w4 ⟨rfl, hb4⟩; rw [HRs.out]; have HO4 := hide (own_keep HO3.out hb4); have HB4 := hide (HB3.out.trans (hb4.mono hs3')); have hs4' : w.heap.size + 1 ≤ w4.heap.size := Nat.le_trans hs3' hb4.size; clear hb4)
              | (at_builtin; refine wpList_app _ (.tmp 52) (.tmp 53) 51 rfl (by rfl) el_str (w.heap.size + 1) (.slice A3 1 c3) 1 _ (by rfl) HO4.out hs4' #[.string ⟨#[119, 111, 114, 100]⟩] 1 1 9 _ (by rfl) rfl rfl (by simp [Value.oneCell']) (by omega) ?_; intro v5 w5 hown5 hg5; have hb5 := below_own HB4.out HO4.out hg5 (Nat.le_refl _) hs4'; have hs5 := hb5.size; obtain ⟨A5, c5, rfl⟩ := own_form hown5; have HO5 := hide hown5; have HB5 := hide hb5; have hs5' : w.heap.size + 1 ≤ w5.heap.size := (by rw [World.size_alloc] at hs5; exact hs5); clear hown5 hg5 hb5 hs5)
              | (at_builtin; refine wpList_app _ (.tmp 55) (.tmp 57) 51 rfl (by rfl) el_str (w.heap.size + 1) (.slice A5 2 c5) 2 _ (by rfl) HO5.out hs5' #[.string LB] 1 1 9 _ (by rfl) rfl rfl (by simp [Value.oneCell']) (by omega) ?_; intro v7 w7 hown7 hg7; have hb7 := below_own HB5.out HO5.out hg7 (Nat.le_refl _) hs5')
              | fail)
            go_ret
            exact ⟨_, rfl, own_eq (own_more hown7 (Nat.le_succ _)) (by rw [← HR.out]; rfl) (by rw [← HR.out, Hst.out]; rfl), hb1.out.trans (hb7.mono (Nat.le_succ _))⟩
          | false =>
            have HR := hide (show capW :: [LB.data.toList] = RL by have h := HF3.out; rw [hrs] at h; exact h)
            have HRs := hide hrs
            clear hrs
            go_wp2_with (first
              | (at_builtin; refine wpList_app _ (.tmp 29) (.tmp 30) 51 rfl (by rfl) el_str (w.heap.size + 1) (.slice none 0 0) 0 _ (by rfl) Hnil.out hszo #[.string ⟨#[99, 97, 112]⟩] 1 1 9 _ (by rfl) rfl rfl (by simp [Value.oneCell']) (by omega) ?_; intro v3 w3 hown3 hg3; have hb3 := below_own HB.out Hnil.out hg3 (Nat.le_refl _) hszo; have hs3 := hb3.size; have cc3 := Hblk.out _ hb3; obtain ⟨A3, c3, rfl⟩ := own_form hown3; have HO3 := hide hown3; have HB3 := hide hb3; have hs3' : w.heap.size + 1 ≤ w3.heap.size := (by rw [World.size_alloc] at hs3; exact hs3); clear hown3 hg3 hb3 hs3)
              | (go_at_call 104; refine (HRes.out _ (HSp.out _ HB3.out)).mono ?_; rintro e w4 ⟨rfl, hb4⟩; rw [HRs.out]; have HO4 := hide (own_keep HO3.out hb4); have HB4 := hide (HB3.out.trans (hb4.mono hs3')); have hs4' : w.heap.size + 1 ≤ w4.heap.size := Nat.le_trans hs3' hb4.size; clear hb4)
              | (at_builtin; refine wpList_app _ (.tmp 55) (.tmp 57) 51 rfl (by rfl) el_str (w.heap.size + 1) (.slice A3 1 c3) 1 _ (by rfl) HO4.out hs4' #[.string LB] 1 1 9 _ (by rfl) rfl rfl (by simp [Value.oneCell']) (by omega) ?_; intro v7 w7 hown7 hg7; have hb7 := below_own HB4.out HO4.out hg7 (Nat.le_refl _) hs4')
              | fail)
            go_ret
            exact ⟨_, rfl, own_eq (own_more hown7 (Nat.le_succ _)) (by rw [← HR.out]; rfl) (by rw [← HR.out, Hst.out]; rfl), hb1.out.trans (hb7.mono (Nat.le_succ _))⟩
      · have hF3 := HF2.out
        rw [if_neg h1] at hF3
        have b1 : ((N : Int) == 1) = false := beq_eq_false_iff_ne.2 (by omega)
        by_cases h2 : 1 < N
        · rw [if_pos h2] at hF3
          have HF3 := hide hF3
          have i2 : (1 : Int) < (N : Int) := by omega
          clear HF HF2 hF3 h1 h2 hle
          cases sp with
          | true =>
            have HR := hide (show capsW :: spelledW :: (LB.data.toList.map (fun b => [b]) ++ [endW]) = RL from HF3.out)
            go_wp2_with (first
              | (at_builtin; refine wpList_app _ (.tmp 35) (.tmp 36) 51 rfl (by rfl) el_str (w.heap.size + 1) (.slice none 0 0) 0 _ (by rfl) Hnil.out hszo #[.string ⟨#[99, 97, 112, 115]⟩] 1 1 9 _ (by rfl) rfl rfl (by simp [Value.oneCell']) (by omega) ?_; intro v3 w3 hown3 hg3; have hb3 := below_own HB.out Hnil.out hg3 (Nat.le_refl _) hszo; have hs3 := hb3.size; have cc3 := Hblk.out _ hb3; obtain ⟨A3, c3, rfl⟩ := own_form hown3; have HO3 := hide hown3; have HB3 := hide hb3; have hs3' : w.heap.size + 1 ≤ w3.heap.size := (by rw [World.size_alloc] at hs3; exact hs3); clear hown3 hg3 hb3 hs3)
              | (at_builtin; refine wpList_app _ (.tmp 40) (.tmp 41) 51 rfl (by rfl) el_str (w.heap.size + 1) (.slice A3 1 c3) 1 _ (by rfl) HO3.out hs3' #[.string ⟨#[115, 112, 101, 108, 108, 101, 100]⟩] 1 1 9 _ (by rfl) rfl rfl (by simp [Value.oneCell']) (by omega) ?_; intro v4 w4 hown4 hg4; have hb4 := below_own HB3.out HO3.out hg4 (Nat.le_refl _) hs3'; have hs4 := hb4.size; obtain ⟨A4, c4, rfl⟩ := own_form hown4; have HO4 := hide hown4; have HB4 := hide hb4; have hs4' : w.heap.size + 1 ≤ w4.heap.size := (by rw [World.size_alloc] at hs4; exact hs4); clear hown4 hg4 hb4 hs4)
              | (go_at_call 103; refine (HSpl.out _).mono ?_; rintro e w5 ⟨g5, rfl, hr5, hb5⟩; have HO5 := hide (own_keep HO4.out hb5); have HB5 := hide (HB4.out.trans (hb5.mono hs4')); have hs5' : w.heap.size + 1 ≤ w5.heap.size := Nat.le_trans hs4' hb5.size; clear hb5; rw [hSz])
              | (at_builtin; refine wpList_strs w5 (.tmp 43) (.tmp 45) rfl (by rfl) (w.heap.size + 1) (.slice A4 2 c4) ([capsW] ++ [spelledW]) 2 (by rfl) HO5.out hs5' (some ⟨g5, 0, none⟩) T.size _ (LB.data.toList.map fun b => [b]) T.size (by rw [List.length_map, ← Lib.size_eq, hSz]) (by rfl) hr5 (by omega) _ rfl ?_; intro v6 w6 hown6 hg6; have hb6 := below_own HB5.out HO5.out hg6 (Nat.le_refl _) hs5'; have hs6 := hb6.size; obtain ⟨A6, c6, rfl⟩ := own_form hown6; have HO6 := hide hown6; have HB6 := hide hb6; have hs6' : w.heap.size + 1 ≤ w6.heap.size := (by rw [World.size_alloc] at hs6; exact hs6); clear hown6 hg6 hb6 hs6)
              | (at_builtin; refine wpList_app _ (.tmp 47) (.tmp 48) 51 rfl (by rfl) el_str (w.heap.size + 1) (.slice A6 (2 + T.size) c6) (2 + T.size) _ (by rfl) HO6.out hs6' #[.string ⟨#[101, 110, 100]⟩] 1 1 9 _ (by rfl) rfl rfl (by simp [Value.oneCell']) (by omega) ?_; intro v7 w7 hown7 hg7; have hb7 := below_own HB6.out HO6.out hg7 (Nat.le_refl _) hs6')
              | fail)
            go_ret
            exact ⟨_, rfl, own_eq (own_more hown7 (Nat.le_succ _)) (by rw [← HR.out]; simp [hSz]; try omega) (by rw [← HR.out]; simp; rfl), hb1.out.trans (hb7.mono (Nat.le_succ _))⟩
          | false =>
            cases hrs : isRes LB.data.toList with
            | true =>
              have HR := hide (show capsW :: wordW :: [LB.data.toList] = RL by have h := HF3.out; rw [hrs] at h; exact h)
              have HRs := hide hrs
              clear hrs
              go_wp2_with (first
                | (at_builtin; refine wpList_app _ (.tmp 35) (.tmp 36) 51 rfl (by rfl) el_str (w.heap.size + 1) (.slice none 0 0) 0 _ (by rfl) Hnil.out hszo #[.string ⟨#[99, 97, 112, 115]⟩] 1 1 9 _ (by rfl) rfl rfl (by simp [Value.oneCell']) (by omega) ?_; intro v3 w3 hown3 hg3; have hb3 := below_own HB.out Hnil.out hg3 (Nat.le_refl _) hszo; have hs3 := hb3.size; have cc3 := Hblk.out _ hb3; obtain ⟨A3, c3, rfl⟩ := own_form hown3; have HO3 := hide hown3; have HB3 := hide hb3; have hs3' : w.heap.size + 1 ≤ w3.heap.size := (by rw [World.size_alloc] at hs3; exact hs3); clear hown3 hg3 hb3 hs3)
                | (go_at_call 104; refine (HRes.out _ (HSp.out _ HB3.out)).mono ?_; rintro e w4 ⟨rfl, hb4⟩; rw [HRs.out]; have HO4 := hide (own_keep HO3.out hb4); have HB4 := hide (HB3.out.trans (hb4.mono hs3')); have hs4' : w.heap.size + 1 ≤ w4.heap.size := Nat.le_trans hs3' hb4.size; clear hb4)
                | (at_builtin; refine wpList_app _ (.tmp 52) (.tmp 53) 51 rfl (by rfl) el_str (w.heap.size + 1) (.slice A3 1 c3) 1 _ (by rfl) HO4.out hs4' #[.string ⟨#[119, 111, 114, 100]⟩] 1 1 9 _ (by rfl) rfl rfl (by simp [Value.oneCell']) (by omega) ?_; intro v5 w5 hown5 hg5; have hb5 := below_own HB4.out HO4.out hg5 (Nat.le_refl _) hs4'; have hs5 := hb5.size; obtain ⟨A5, c5, rfl⟩ := own_form hown5; have HO5 := hide hown5; have HB5 := hide hb5; have hs5' : w.heap.size + 1 ≤ w5.heap.size := (by rw [World.size_alloc] at hs5; exact hs5); clear hown5 hg5 hb5 hs5)
                | (at_builtin; refine wpList_app _ (.tmp 55) (.tmp 57) 51 rfl (by rfl) el_str (w.heap.size + 1) (.slice A5 2 c5) 2 _ (by rfl) HO5.out hs5' #[.string LB] 1 1 9 _ (by rfl) rfl rfl (by simp [Value.oneCell']) (by omega) ?_; intro v7 w7 hown7 hg7; have hb7 := below_own HB5.out HO5.out hg7 (Nat.le_refl _) hs5')
                | fail)
              go_ret
              exact ⟨_, rfl, own_eq (own_more hown7 (Nat.le_succ _)) (by rw [← HR.out]; rfl) (by rw [← HR.out, Hst.out]; rfl), hb1.out.trans (hb7.mono (Nat.le_succ _))⟩
            | false =>
              have HR := hide (show capsW :: [LB.data.toList] = RL by have h := HF3.out; rw [hrs] at h; exact h)
              have HRs := hide hrs
              clear hrs
              go_wp2_with (first
                | (at_builtin; refine wpList_app _ (.tmp 35) (.tmp 36) 51 rfl (by rfl) el_str (w.heap.size + 1) (.slice none 0 0) 0 _ (by rfl) Hnil.out hszo #[.string ⟨#[99, 97, 112, 115]⟩] 1 1 9 _ (by rfl) rfl rfl (by simp [Value.oneCell']) (by omega) ?_; intro v3 w3 hown3 hg3; have hb3 := below_own HB.out Hnil.out hg3 (Nat.le_refl _) hszo; have hs3 := hb3.size; have cc3 := Hblk.out _ hb3; obtain ⟨A3, c3, rfl⟩ := own_form hown3; have HO3 := hide hown3; have HB3 := hide hb3; have hs3' : w.heap.size + 1 ≤ w3.heap.size := (by rw [World.size_alloc] at hs3; exact hs3); clear hown3 hg3 hb3 hs3)
                | (go_at_call 104; refine (HRes.out _ (HSp.out _ HB3.out)).mono ?_; rintro e w4 ⟨rfl, hb4⟩; rw [HRs.out]; have HO4 := hide (own_keep HO3.out hb4); have HB4 := hide (HB3.out.trans (hb4.mono hs3')); have hs4' : w.heap.size + 1 ≤ w4.heap.size := Nat.le_trans hs3' hb4.size; clear hb4)
                | (at_builtin; refine wpList_app _ (.tmp 55) (.tmp 57) 51 rfl (by rfl) el_str (w.heap.size + 1) (.slice A3 1 c3) 1 _ (by rfl) HO4.out hs4' #[.string LB] 1 1 9 _ (by rfl) rfl rfl (by simp [Value.oneCell']) (by omega) ?_; intro v7 w7 hown7 hg7; have hb7 := below_own HB4.out HO4.out hg7 (Nat.le_refl _) hs4')
                | fail)
              go_ret
              exact ⟨_, rfl, own_eq (own_more hown7 (Nat.le_succ _)) (by rw [← HR.out]; rfl) (by rw [← HR.out, Hst.out]; rfl), hb1.out.trans (hb7.mono (Nat.le_succ _))⟩
        · rw [if_neg h2] at hF3
          have HF3 := hide hF3
          have i2 : ¬ (1 : Int) < (N : Int) := by omega
          clear HF HF2 hF3 h1 h2 hle
          cases sp with
          | true =>
            have HR := hide (show spelledW :: (LB.data.toList.map (fun b => [b]) ++ [endW]) = RL from HF3.out)
            go_wp2_with (first
              | (at_builtin; refine wpList_app _ (.tmp 40) (.tmp 41) 51 rfl (by rfl) el_str (w.heap.size + 1) (.slice none 0 0) 0 _ (by rfl) Hnil.out hszo #[.string ⟨#[115, 112, 101, 108, 108, 101, 100]⟩] 1 1 9 _ (by rfl) rfl rfl (by simp [Value.oneCell']) (by omega) ?_; intro v4 w4 hown4 hg4; have hb4 := below_own HB.out Hnil.out hg4 (Nat.le_refl _) hszo; have hs4 := hb4.size; obtain ⟨A4, c4, rfl⟩ := own_form hown4; have HO4 := hide hown4; have HB4 := hide hb4; have hs4' : w.heap.size + 1 ≤ w4.heap.size := (by rw [World.size_alloc] at hs4; exact hs4); clear hown4 hg4 hb4 hs4)
              | (go_at_call 103; refine (HSpl.out _).mono ?_; rintro e w5 ⟨g5, rfl, hr5, hb5⟩; have HO5 := hide (own_keep HO4.out hb5); have HB5 := hide (HB4.out.trans (hb5.mono hs4')); have hs5' : w.heap.size + 1 ≤ w5.heap.size := Nat.le_trans hs4' hb5.size; clear hb5; rw [hSz])
              | (at_builtin; refine wpList_strs w5 (.tmp 43) (.tmp 45) rfl (by rfl) (w.heap.size + 1) (.slice A4 1 c4) [spelledW] 1 (by rfl) HO5.out hs5' (some ⟨g5, 0, none⟩) T.size _ (LB.data.toList.map fun b => [b]) T.size (by rw [List.length_map, ← Lib.size_eq, hSz]) (by rfl) hr5 (by omega) _ rfl ?_; intro v6 w6 hown6 hg6; have hb6 := below_own HB5.out HO5.out hg6 (Nat.le_refl _) hs5'; have hs6 := hb6.size; obtain ⟨A6, c6, rfl⟩ := own_form hown6; have HO6 := hide hown6; have HB6 := hide hb6; have hs6' : w.heap.size + 1 ≤ w6.heap.size := (by rw [World.size_alloc] at hs6; exact hs6); clear hown6 hg6 hb6 hs6)
              | (at_builtin; refine wpList_app _ (.tmp 47) (.tmp 48) 51 rfl (by rfl) el_str (w.heap.size + 1) (.slice A6 (1 + T.size) c6) (1 + T.size) _ (by rfl) HO6.out hs6' #[.string ⟨#[101, 110, 100]⟩] 1 1 9 _ (by rfl) rfl rfl (by simp [Value.oneCell']) (by omega) ?_; intro v7 w7 hown7 hg7; have hb7 := below_own HB6.out HO6.out hg7 (Nat.le_refl _) hs6')
              | fail)
            go_ret
            exact ⟨_, rfl, own_eq (own_more hown7 (Nat.le_succ _)) (by rw [← HR.out]; simp [hSz]; try omega) (by rw [← HR.out]; simp; rfl), hb1.out.trans (hb7.mono (Nat.le_succ _))⟩
          | false =>
            cases hrs : isRes LB.data.toList with
            | true =>
              have HR := hide (show wordW :: [LB.data.toList] = RL by have h := HF3.out; rw [hrs] at h; exact h)
              have HRs := hide hrs
              clear hrs
              go_wp2_with (first
                | (go_at_call 104; refine (HRes.out _ (HSp.out _ HB.out)).mono ?_; rintro e w4 ⟨rfl, hb4⟩; rw [HRs.out]; have HO4 := hide (own_keep Hnil.out hb4); have HB4 := hide (HB.out.trans (hb4.mono hszo)); have hs4' : w.heap.size + 1 ≤ w4.heap.size := Nat.le_trans hszo hb4.size; clear hb4)
                | (at_builtin; refine wpList_app _ (.tmp 52) (.tmp 53) 51 rfl (by rfl) el_str (w.heap.size + 1) (.slice none 0 0) 0 _ (by rfl) HO4.out hs4' #[.string ⟨#[119, 111, 114, 100]⟩] 1 1 9 _ (by rfl) rfl rfl (by simp [Value.oneCell']) (by omega) ?_; intro v5 w5 hown5 hg5; have hb5 := below_own HB4.out HO4.out hg5 (Nat.le_refl _) hs4'; have hs5 := hb5.size; obtain ⟨A5, c5, rfl⟩ := own_form hown5; have HO5 := hide hown5; have HB5 := hide hb5; have hs5' : w.heap.size + 1 ≤ w5.heap.size := (by rw [World.size_alloc] at hs5; exact hs5); clear hown5 hg5 hb5 hs5)
                | (at_builtin; refine wpList_app _ (.tmp 55) (.tmp 57) 51 rfl (by rfl) el_str (w.heap.size + 1) (.slice A5 1 c5) 1 _ (by rfl) HO5.out hs5' #[.string LB] 1 1 9 _ (by rfl) rfl rfl (by simp [Value.oneCell']) (by omega) ?_; intro v7 w7 hown7 hg7; have hb7 := below_own HB5.out HO5.out hg7 (Nat.le_refl _) hs5')
                | fail)
              go_ret
              exact ⟨_, rfl, own_eq (own_more hown7 (Nat.le_succ _)) (by rw [← HR.out]; rfl) (by rw [← HR.out, Hst.out]; rfl), hb1.out.trans (hb7.mono (Nat.le_succ _))⟩
            | false =>
              have HR := hide (show [LB.data.toList] = RL by have h := HF3.out; rw [hrs] at h; exact h)
              have HRs := hide hrs
              clear hrs
              go_wp2_with (first
                | (go_at_call 104; refine (HRes.out _ (HSp.out _ HB.out)).mono ?_; rintro e w4 ⟨rfl, hb4⟩; rw [HRs.out]; have HO4 := hide (own_keep Hnil.out hb4); have HB4 := hide (HB.out.trans (hb4.mono hszo)); have hs4' : w.heap.size + 1 ≤ w4.heap.size := Nat.le_trans hszo hb4.size; clear hb4)
                | (at_builtin; refine wpList_app _ (.tmp 55) (.tmp 57) 51 rfl (by rfl) el_str (w.heap.size + 1) (.slice none 0 0) 0 _ (by rfl) HO4.out hs4' #[.string LB] 1 1 9 _ (by rfl) rfl rfl (by simp [Value.oneCell']) (by omega) ?_; intro v7 w7 hown7 hg7; have hb7 := below_own HB4.out HO4.out hg7 (Nat.le_refl _) hs4')
                | fail)
              go_ret
              exact ⟨_, rfl, own_eq (own_more hown7 (Nat.le_succ _)) (by rw [← HR.out]; rfl) (by rw [← HR.out, Hst.out]; rfl), hb1.out.trans (hb7.mono (Nat.le_succ _))⟩
end Go.Proofs.YtdkppdjonlldhaaGreatDoor
