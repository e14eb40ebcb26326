/- Joined: SPm, SPn, SP6, SP7, SP8. -/
import Derived.Test.YtdkppdjonlldhaaGreatDoorJ1
import Derived.Test.YtdkppdjonlldhaaGreatDoorApp2
import Derived.Maps.OwnSet
import Derived.Maps.OwnIn
import Derived.Test.YtdkppdjonlldhaaGreatDoorApp3
import Derived.Deep.RegionLaw
import Derived.WalkArith
import Derived.Test.YtdkppdjonlldhaaGreatDoorTail
import Derived.Maps.StringElems
import Derived.Deep.QuietTactic
import Derived.BigQuiet
/- Words in memory: slices of strings, sets of words, the words of numbers. -/
namespace Go.Proofs.YtdkppdjonlldhaaGreatDoor
open Go.RowKit Go.Maps

def strV (n : Wd) : Value := .string ⟨n.toArray⟩
theorem str_of (s : ByteArray) : Value.string s = strV s.data.toList := by unfold strV; congr 1
theorem ba_of {s : ByteArray} {l : List UInt8} (h : s.data.toList = l) : s = ⟨l.toArray⟩ := bytes_ext h
theorem el_str : ElemOf Tryz.prog 51 9 (.string ⟨#[]⟩) 1 16 := ⟨Tryz.underlying51, by kernel_rfl, rfl, by decide, by decide⟩
/-- A slice of words of the call's own. -/
abbrev OwnStr (w : World) (B : Nat) (v : Value) (l : List Wd) : Prop := w.ownsRow B 9 1 v l.length (l.map strV)
/-- A slice of words. -/
def StrAt : World → Nat → Nat → Wd → Prop := fun w b o s => w.cell? ⟨b, o, none⟩ = some (strV s)
theorem StrAt.stays (B : Nat) : Stays StrAt B := fun _ _ _ _ _ hk hb h => (hk _ hb).trans h
abbrev StrRow (w : World) (B : Nat) (A : Option Addr) (l : List Wd) : Prop := Sl StrAt 1 w B A l
theorem StrRow.of_own {w : World} {B : Nat} {A : Option Addr} {n c : Nat} {l : List Wd} (h : w.ownsRow B 9 1 (.slice A n c) n (l.map strV)) (hl : l.length = n) : StrRow w w.heap.size A l := fun h0 => by
  rcases h.2 with ⟨e, hn⟩ | ⟨g, cap, cur, e, -, hg, -⟩
  · omega
  · cases e
    refine ⟨g, 0, rfl, block_lt hg, fun k x hx => ?_⟩
    have hk := (List.getElem?_eq_some_iff.1 hx).1
    show w.cell? ⟨g, 0 + k * 1, none⟩ = some (strV x)
    rw [show 0 + k * 1 = k by omega, h.cellAt k (by omega), List.getElem?_map, hx]; rfl
theorem own_keep {w w' : World} {B : Nat} {v : Value} {n : Nat} {e : TypeId} {sz : Nat} {xs : List Value} (h : w.ownsRow B e sz v n xs) (hb : Below w.heap.size w w') : w'.ownsRow B e sz v n xs := own_below h hb (Nat.le_refl _)

/-! Sets of words. -/
def setFrom (D : DataW Unit) (l : List Wd) : DataW Unit := l.foldl (fun D p => D.put (.string p) (.lit (.bool true))) D
def setD (l : List Wd) : DataW Unit := setFrom (.map []) l
theorem setD_snoc (l : List Wd) (p : Wd) : setD (l ++ [p]) = (setD l).put (.string p) (.lit (.bool true)) := by simp [setD, setFrom]
theorem setFrom_at (n : Wd) : ∀ (l : List Wd) (D : DataW Unit), IsMap D → (setFrom D l).atKey (.string n) (.lit (.bool false)) = if l.contains n then .lit (.bool true) else D.atKey (.string n) (.lit (.bool false))
  | [], D, _ => by simp [setFrom]
  | x :: l, D, h => by
    show (setFrom (D.put (.string x) (.lit (.bool true))) l).atKey (.string n) _ = _
    rw [setFrom_at n l _ (h.put _ _)]
    by_cases hx : x = n
    · subst hx
      rw [atKey_put_same h (by trivial)]
      simp
    · rw [atKey_put_other (fun e => hx (by simpa using e.symm))]
      have : (x :: l).contains n = l.contains n := by
        rw [List.contains_cons, show (n == x) = false by simpa using fun e : n = x => hx e.symm, Bool.false_or]
      rw [this]
theorem setD_at (n : Wd) (l : List Wd) : (setD l).atKey (.string n) (.lit (.bool false)) = .lit (.bool (l.contains n)) := by
  unfold setD
  rw [setFrom_at n l _ isMap_empty]
  cases h : l.contains n with
  | true => rfl
  | false => rfl
def SetAt (w : World) (b n : Nat) (l : List Wd) : Prop := w.ownsMap Tryz.prog 9 (plainElem (H := Unit) Tryz.prog 4) b n (setD l)
theorem map_block {w w' : World} {P : Program} {k : TypeId} {R : Value → Option (DataW Unit × List MemPlace)} {b n : Nat} {D : DataW Unit} (h : w.ownsMap P k R b n D) (hb : w'.heap[b]? = w.heap[b]?) : w'.ownsMap P k R b n D := by
  obtain ⟨es, clock, h1, h2⟩ := h
  exact ⟨es, clock, hb.trans h1, h2⟩
theorem SetAt.lt {w : World} {b n : Nat} {l : List Wd} (h : SetAt w b n l) : b < w.heap.size := by
  obtain ⟨es, clock, h1, -⟩ := h
  exact (Array.getElem?_eq_some_iff.1 h1).1
theorem SetAt.below {w w' : World} {b n : Nat} {l : List Wd} (h : SetAt w b n l) (hb : Below w.heap.size w w') : SetAt w' b n l := map_block h (hb.block _ h.lt)
theorem wpList_lookup_own_bool {P : Program} (w : World) {ops : Array Oper} {rest : List Oper} {o : Oper} {a : Act} {Q : Exit → Act → World → Prop} (hg : o.guard = none) (m x : Operand) (t : TypeId) (hop : o.op = Op.lookup t m x false)
    (k e : TypeId) (K : Keyed P k) (ht : P.underlying t = some (.map k e)) (he : P.underlying e = some .bool) (hz : (zeroValue e).run P w = .ok (.bool false) w) (b n : Nat) (D : DataW Unit)
    (hm : a.eval m = .map (some b)) (hown : w.ownsMap P k (plainElem P e) b n D) (key : Value) (kl : Lit) (hx : a.eval x = key) (hkey : keyOf P k key = some kl) (r : Bool) (hr : D.atKey kl (.lit (.bool false)) = .lit (.bool r))
    (hK : wpList P ops Q rest (a.put o.dst (.bool r)) w) :
    wpList P ops Q (o :: rest) a w := by
  refine wpList_plain hg fun K' hK' => ?_
  obtain ⟨v, ps, hrun, hv⟩ := hown.lookup K ht hz (plainElem_bool he false) hkey
  rw [hr] at hv
  have hv2 : v = .bool r := by
    unfold plainElem at hv
    rw [he] at hv
    cases v <;> simp at hv
    rw [hv.1]
  subst hv2
  unfold Oper.wp
  simp [execOp, hop, hm, hx, hrun, Result.andThen]
  exact hK' _ _ hK

/-! Tables of strings. -/
theorem tab_cell {w : World} {B g c n : Nat} {l : List Wd} (h : w.ownsRow B 9 1 (.slice (some ⟨g, 0, none⟩) n c) n (l.map strV)) {i : Nat} (hi : i < n) : w.cell? ⟨g, i, none⟩ = some (.string ⟨(l.getD i []).toArray⟩) := by
  rw [h.cellAt i (by omega), List.getElem?_map]
  have hl : i < l.length := by have := h.1; simp at this; omega
  rw [List.getD_eq_getElem?_getD, List.getElem?_eq_getElem hl]; rfl
def VocRow (w0 : World) (e : Ending) (w' : World) : Prop := ∃ g c, e = .returned (.slice (some ⟨g, 0, none⟩) 32 c) ∧ w'.ownsRow w0.heap.size 9 1 (.slice (some ⟨g, 0, none⟩) 32 c) 32 (vocL.map strV) ∧ Below w0.heap.size w0 w'
set_option maxRecDepth 100000 in
set_option maxHeartbeats 400000 in
theorem vocP (w : World) : Calls Tryz.prog 50 #[] w (VocRow w) := by
  have hbw := (Below.refl w.heap.size w)
  go_enter Tryz.func50, Tryz.ntmps50
  go_wp2
  go_ret
  exact ⟨_, _, rfl, own_lit w w.heap.size 9 1 32 _ (Nat.le_refl _) (by omega) rfl, hbw.alloc (Nat.le_refl _) _⟩
end Go.Proofs.YtdkppdjonlldhaaGreatDoor

/- Append of a slice of words, nil or not. -/
namespace Go.Proofs.YtdkppdjonlldhaaGreatDoor
open Go.RowKit Go.Maps

section
variable {ops : Array Oper} {rest : List Oper} {o : Oper} {a : Act}
theorem strs_cells {w : World} {B b off : Nat} {l : List Wd} (h : StrRow w B (some ⟨b, off, none⟩) l) (h0 : 0 < l.length) : ∀ j u, (l.map strV)[j]? = some u → w.cell? ⟨b, off + j, none⟩ = some u := fun j u hj => by
  obtain ⟨b', off', he, -, hc⟩ := h h0
  cases he
  rw [List.getElem?_map] at hj
  cases hx : l[j]? with
  | none => rw [hx] at hj; cases hj
  | some x =>
    rw [hx] at hj
    cases hj
    have := hc j x hx
    rw [Nat.mul_one] at this
    exact this
theorem wpList_strs {Q : Exit → Act → World → Prop} (W : World) (s x : Operand) (hgd : o.guard = none)
    (ho : o.op = .call { callee := .builtin .append, args := #[s, x], argTypes := #[51, 51] }) (base : Nat) (v : Value) (xs : List Wd) (n : Nat) (hs : a.eval s = v) (hown : W.ownsRow base 9 1 v n (xs.map strV)) (hbase : base ≤ W.heap.size)
    (A : Option Addr) (c B : Nat) (l : List Wd) (m : Nat) (hm : l.length = m) (hx : a.eval x = .slice A m c) (hsl : StrRow W B A l) (hb : n + m ≤ 1000000000) (N : Nat) (hN : n + m = N)
    (h : ∀ v' w', w'.ownsRow base 9 1 v' N ((xs ++ l).map strV) → W.grownBy w' v.ownBlock → wpList Tryz.prog ops Q rest (a.put o.dst v') w') : wpList Tryz.prog ops Q (o :: rest) a W := by
  subst hm hN
  obtain ⟨i, hi, hz, hsz, hby⟩ := info_parts el_str.info
  by_cases h0 : l.length = 0
  · have hl : l = [] := List.eq_nil_of_length_eq_zero h0
    subst hl
    refine wpList_append_zero hgd s x _ ho base 9 i 1 el_str.slice hi v n _ hs hown A c hx ?_
    exact h v W (by simpa using hown) (World.grownBy.refl W _)
  · obtain ⟨b, off, rfl, hbb, hc⟩ := hsl (by omega)
    refine wpList_apps W s x _ hgd ho el_str base v n _ hs hown hbase b off l.length c (l.map strV) hx (by simp) (strs_cells hsl (by omega)) (fun u hu => by obtain ⟨y, -, rfl⟩ := List.mem_map.1 hu; rfl) (by omega) fun v' w' h1 h2 => h v' w' (by rw [List.map_append]; exact h1) h2
theorem step_strs {K : Act → World → Prop} {Q : Exit → Act → World → Prop} {E : Prop} (W : World) (s x : Operand) (hgd : o.guard = none)
    (ho : o.op = .call { callee := .builtin .append, args := #[s, x], argTypes := #[51, 51] }) (base : Nat) (v : Value) (xs : List Wd) (n : Nat) (hs : a.eval s = v) (hown : W.ownsRow base 9 1 v n (xs.map strV)) (hbase : base ≤ W.heap.size)
    (A : Option Addr) (c B : Nat) (l : List Wd) (m : Nat) (hm : l.length = m) (hx : a.eval x = .slice A m c) (hsl : StrRow W B A l) (hb : n + m ≤ 1000000000) (N : Nat) (hN : n + m = N)
    (h : ∀ v' w', w'.ownsRow base 9 1 v' N ((xs ++ l).map strV) → W.grownBy w' v.ownBlock → K (a.put o.dst v') w') :
    if Region.wanted o (yielded ops a.tmps) = true then Oper.wp Tryz.prog o a W K Q else E := by
  subst hm hN
  by_cases h0 : l.length = 0
  · have hl : l = [] := List.eq_nil_of_length_eq_zero h0
    subst hl
    obtain ⟨i, hi, hz, hsz, hby⟩ := info_parts el_str.info
    rw [if_pos (by simp [Region.wanted, hgd])]
    have hrun := run_append_owned_zero (P := Tryz.prog) (w := W) base 51 o.type 9 i 1 el_str.slice hi v n _ hown A c
    unfold Oper.wp
    simp [execOp, ho, resolve, invoke, builtin, hs, hx, hrun, Result.andThen]
    exact h v W (by simpa using hown) (World.grownBy.refl W _)
  · obtain ⟨b, off, rfl, hbb, hc⟩ := hsl (by omega)
    refine step_apps el_str W s x hgd ho base v n _ hs hown hbase b off l.length c (l.map strV) hx (by omega) (by simp) (strs_cells hsl (by omega)) (fun u hu => by obtain ⟨y, -, rfl⟩ := List.mem_map.1 hu; rfl) (by omega) _ rfl fun g cap w' h1 h2 _ => h _ w' (by rw [List.map_append]; exact h1) h2
end
theorem blk_set {w : World} {b i : Nat} {cs : Array Value} {t : TypeId} {fr : Nat × Nat} (h : w.heap[b]? = some (.cells cs t fr)) (u : Value) : (w.setCell ⟨b, i, none⟩ u).heap[b]? = some (.cells (cs.setIfInBounds i u) t fr) := by
  simp [World.setCell, Array.getElem?_modify, h]
/-- Words stand while a row of the call's own grows in another block. -/
theorem StrRow.grown {w w' : World} {A : Option Addr} {l : List Wd} {o : Option Nat} (h : StrRow w w.heap.size A l) (hg : w.grownBy w' o) (hA : ∀ a, A = some a → o ≠ some a.block) : StrRow w' w'.heap.size A l := fun h0 => by
  obtain ⟨b, off, rfl, hb, hc⟩ := h h0
  have hblk := hg.block b hb (fun e => hA _ rfl e.symm)
  refine ⟨b, off, rfl, Nat.lt_of_lt_of_le hb hg.size, fun k x hx => ?_⟩
  exact (World.cell?_of_block (a := ⟨b, off + k * 1, none⟩) hblk).trans (hc k x hx)
/-- The slice of words that was made reads as such. -/
theorem own_strs {w : World} {B : Nat} {v : Value} {n : Nat} {l : List Wd} (h : w.ownsRow B 9 1 v n (l.map strV)) (hn : l.length = n) : ∃ A c, v = .slice A n c ∧ n ≤ c ∧ StrRow w w.heap.size A l := by
  obtain ⟨A, c, rfl⟩ := own_form h
  refine ⟨A, c, rfl, ?_, StrRow.of_own h hn⟩
  rcases h.2 with ⟨e, h0⟩ | ⟨g, cap, cur, e, -, -, hnc, -⟩
  · omega
  · cases e; exact hnc
end Go.Proofs.YtdkppdjonlldhaaGreatDoor

/- Numbers in words: numwords.small. -/
namespace Go.Proofs.YtdkppdjonlldhaaGreatDoor
open Go.RowKit Go.Maps

theorem vW_voc {w : World} {B g c : Nat} (h : w.ownsRow B 9 1 (.slice (some ⟨g, 0, none⟩) 32 c) 32 (vocL.map strV)) {i : Nat} (hi : i < 32) : w.cell? ⟨g, i, none⟩ = some (.string ⟨(vW i).toArray⟩) := tab_cell h hi
/-- What small answers, made behind the world w. -/
def SmallRet (w : World) (l : List Wd) (e : Ending) (w' : World) : Prop := ∃ v, e = .returned v ∧ OwnStr w' w.heap.size v l ∧ Below w.heap.size w w'
set_option maxRecDepth 100000 in
set_option maxHeartbeats 2000000 in
theorem small000 (w : World) (n q r t k : Nat) (hn : n < 1000) (hqI : (n : Int) / 100 = (q : Int)) (hrI : (n : Int) % 100 = (r : Int)) (htI : (r : Int) / 10 = (t : Int)) (hkI : (r : Int) = (k : Int)) (h1 : ¬ 100 ≤ n) (h2 : ¬ 20 ≤ r) (h3 : ¬ 0 < k) :
    Calls Tryz.prog 123 #[.int .i64 n] w (SmallRet w []) := by
  have HV := hide (fun w => vocP w)
  have hq1 : q < 32 := by omega
  have ht1 : 18 + t < 32 := by omega
  have hk1 : k < 32 := by omega
  have i1 : ¬ (100 : Int) ≤ (n : Int) := by omega
  have i2 : ¬ (20 : Int) ≤ (r : Int) := by omega
  have i3 : ¬ (0 : Int) < (k : Int) := by omega
  obtain rfl : n = r := by omega
  clear hrI hqI
  obtain rfl : n = k := by omega
  clear hkI
  go_enter Tryz.func123, Tryz.ntmps123
  go_wp2_with (first
    | (go_at_call 50; refine (HV.out _).mono ?_; rintro e w1 ⟨g, c, rfl, hown, hb1⟩; have hgl := (hown.lt g rfl).2; have cq := vW_voc hown hq1; have ct := vW_voc hown ht1; have ck := vW_voc hown hk1; clear hown; have hs1 := hb1.size; have hm0 : w1.ownsRow w1.heap.size 9 1 (.slice none 0 0) 0 [] := World.ownsRow_nil _ _ _ _; have hbb := Below.refl w1.heap.size w1; have hss := Nat.le_refl w1.heap.size)
    | fail)
  go_ret
  exact ⟨_, rfl, own_more (own_eq hm0 rfl rfl) hs1, hb1.trans (hbb.mono hs1)⟩
set_option maxRecDepth 100000 in
set_option maxHeartbeats 2000000 in
theorem small100 (w : World) (n q r t k : Nat) (hn : n < 1000) (hqI : (n : Int) / 100 = (q : Int)) (hrI : (n : Int) % 100 = (r : Int)) (htI : (r : Int) / 10 = (t : Int)) (hkI : (r : Int) = (k : Int)) (h1 : 100 ≤ n) (h2 : ¬ 20 ≤ r) (h3 : ¬ 0 < k) :
    Calls Tryz.prog 123 #[.int .i64 n] w (SmallRet w [vW q, hundredW]) := by
  have HV := hide (fun w => vocP w)
  have hq1 : q < 32 := by omega
  have ht1 : 18 + t < 32 := by omega
  have hk1 : k < 32 := by omega
  have i1 : (100 : Int) ≤ (n : Int) := by omega
  have i2 : ¬ (20 : Int) ≤ (r : Int) := by omega
  have i3 : ¬ (0 : Int) < (k : Int) := by omega
  obtain rfl : r = k := by omega
  clear hkI
  go_enter Tryz.func123, Tryz.ntmps123
  go_wp2_with (first
    | (go_at_call 50; refine (HV.out _).mono ?_; rintro e w1 ⟨g, c, rfl, hown, hb1⟩; have hgl := (hown.lt g rfl).2; have cq := vW_voc hown hq1; have ct := vW_voc hown ht1; have ck := vW_voc hown hk1; clear hown; have hs1 := hb1.size; have hm0 : w1.ownsRow w1.heap.size 9 1 (.slice none 0 0) 0 [] := World.ownsRow_nil _ _ _ _; have hbb := Below.refl w1.heap.size w1; have hss := Nat.le_refl w1.heap.size)
    | (at_builtin; refine wpList_app _ (.tmp 8) (.tmp 14) 51 rfl (by rfl) el_str w1.heap.size (.slice none 0 0) 0 _ (by rfl) hm0 hss #[.string ⟨(vW q).toArray⟩, .string ⟨#[104, 117, 110, 100, 114, 101, 100]⟩] 2 2 9 _ (by rfl) rfl rfl (by simp [Value.oneCell']) (by omega) ?_; intro v2 w2 hown2 hg2; have hb2 := below_own hbb hm0 hg2 (Nat.le_refl _) hss; have hs2 := hb2.size; have ct2 := (hb2.cell (p := ⟨g, 18 + t, none⟩) hgl).trans ct; have ck2 := (hb2.cell (p := ⟨g, r, none⟩) hgl).trans ck)
    | fail)
  go_ret
  exact ⟨_, rfl, own_more (own_eq hown2 rfl rfl) hs1, hb1.trans (hb2.mono hs1)⟩
set_option maxRecDepth 100000 in
set_option maxHeartbeats 2000000 in
theorem small010 (w : World) (n q r t k : Nat) (hn : n < 1000) (hqI : (n : Int) / 100 = (q : Int)) (hrI : (n : Int) % 100 = (r : Int)) (htI : (r : Int) / 10 = (t : Int)) (hkI : (r : Int) % 10 = (k : Int)) (h1 : ¬ 100 ≤ n) (h2 : 20 ≤ r) (h3 : ¬ 0 < k) :
    Calls Tryz.prog 123 #[.int .i64 n] w (SmallRet w [vW (18 + t)]) := by
  have HV := hide (fun w => vocP w)
  have hq1 : q < 32 := by omega
  have ht1 : 18 + t < 32 := by omega
  have hk1 : k < 32 := by omega
  have i1 : ¬ (100 : Int) ≤ (n : Int) := by omega
  have i2 : (20 : Int) ≤ (r : Int) := by omega
  have i3 : ¬ (0 : Int) < (k : Int) := by omega
  obtain rfl : n = r := by omega
  clear hrI hqI
  go_enter Tryz.func123, Tryz.ntmps123
  go_wp2_with (first
    | (go_at_call 50; refine (HV.out _).mono ?_; rintro e w1 ⟨g, c, rfl, hown, hb1⟩; have hgl := (hown.lt g rfl).2; have cq := vW_voc hown hq1; have ct := vW_voc hown ht1; have ck := vW_voc hown hk1; clear hown; have hs1 := hb1.size; have hm0 : w1.ownsRow w1.heap.size 9 1 (.slice none 0 0) 0 [] := World.ownsRow_nil _ _ _ _; have hbb := Below.refl w1.heap.size w1; have hss := Nat.le_refl w1.heap.size)
    | (at_builtin; refine wpList_app _ (.tmp 20) (.tmp 27) 51 rfl (by rfl) el_str w1.heap.size (.slice none 0 0) 0 _ (by rfl) hm0 hss #[.string ⟨(vW (18 + t)).toArray⟩] 1 1 9 _ (by rfl) rfl rfl (by simp [Value.oneCell']) (by omega) ?_; intro v3 w3 hown3 hg3; have hb3 := below_own hbb hm0 hg3 (Nat.le_refl _) hss; have hs3 := hb3.size; have ct3 := (hb3.cell (p := ⟨g, 18 + t, none⟩) hgl).trans ct; have ck3 := (hb3.cell (p := ⟨g, k, none⟩) hgl).trans ck)
    | fail)
  go_ret
  exact ⟨_, rfl, own_more (own_eq hown3 rfl rfl) hs1, hb1.trans (hb3.mono hs1)⟩
set_option maxRecDepth 100000 in
set_option maxHeartbeats 2000000 in
theorem small110 (w : World) (n q r t k : Nat) (hn : n < 1000) (hqI : (n : Int) / 100 = (q : Int)) (hrI : (n : Int) % 100 = (r : Int)) (htI : (r : Int) / 10 = (t : Int)) (hkI : (r : Int) % 10 = (k : Int)) (h1 : 100 ≤ n) (h2 : 20 ≤ r) (h3 : ¬ 0 < k) :
    Calls Tryz.prog 123 #[.int .i64 n] w (SmallRet w [vW q, hundredW, vW (18 + t)]) := by
  have HV := hide (fun w => vocP w)
  have hq1 : q < 32 := by omega
  have ht1 : 18 + t < 32 := by omega
  have hk1 : k < 32 := by omega
  have i1 : (100 : Int) ≤ (n : Int) := by omega
  have i2 : (20 : Int) ≤ (r : Int) := by omega
  have i3 : ¬ (0 : Int) < (k : Int) := by omega
  go_enter Tryz.func123, Tryz.ntmps123
  go_wp2_with (first
    | (go_at_call 50; refine (HV.out _).mono ?_; rintro e w1 ⟨g, c, rfl, hown, hb1⟩; have hgl := (hown.lt g rfl).2; have cq := vW_voc hown hq1; have ct := vW_voc hown ht1; have ck := vW_voc hown hk1; clear hown; have hs1 := hb1.size; have hm0 : w1.ownsRow w1.heap.size 9 1 (.slice none 0 0) 0 [] := World.ownsRow_nil _ _ _ _; have hbb := Below.refl w1.heap.size w1; have hss := Nat.le_refl w1.heap.size)
    | (at_builtin; refine wpList_app _ (.tmp 8) (.tmp 14) 51 rfl (by rfl) el_str w1.heap.size (.slice none 0 0) 0 _ (by rfl) hm0 hss #[.string ⟨(vW q).toArray⟩, .string ⟨#[104, 117, 110, 100, 114, 101, 100]⟩] 2 2 9 _ (by rfl) rfl rfl (by simp [Value.oneCell']) (by omega) ?_; intro v2 w2 hown2 hg2; have hb2 := below_own hbb hm0 hg2 (Nat.le_refl _) hss; have hs2 := hb2.size; have ct2 := (hb2.cell (p := ⟨g, 18 + t, none⟩) hgl).trans ct; have ck2 := (hb2.cell (p := ⟨g, k, none⟩) hgl).trans ck)
    | (at_builtin; refine wpList_app _ (.tmp 20) (.tmp 27) 51 rfl (by rfl) el_str w1.heap.size v2 2 _ (by rfl) hown2 hs2 #[.string ⟨(vW (18 + t)).toArray⟩] 1 1 9 _ (by rfl) rfl rfl (by simp [Value.oneCell']) (by omega) ?_; intro v3 w3 hown3 hg3; have hb3 := below_own hb2 hown2 hg3 (Nat.le_refl _) hs2; have hs3 := hb3.size; have ct3 := (hb3.cell (p := ⟨g, 18 + t, none⟩) hgl).trans ct; have ck3 := (hb3.cell (p := ⟨g, k, none⟩) hgl).trans ck)
    | fail)
  go_ret
  exact ⟨_, rfl, own_more (own_eq hown3 rfl rfl) hs1, hb1.trans (hb3.mono hs1)⟩
set_option maxRecDepth 100000 in
set_option maxHeartbeats 2000000 in
theorem small001 (w : World) (n q r t k : Nat) (hn : n < 1000) (hqI : (n : Int) / 100 = (q : Int)) (hrI : (n : Int) % 100 = (r : Int)) (htI : (r : Int) / 10 = (t : Int)) (hkI : (r : Int) = (k : Int)) (h1 : ¬ 100 ≤ n) (h2 : ¬ 20 ≤ r) (h3 : 0 < k) :
    Calls Tryz.prog 123 #[.int .i64 n] w (SmallRet w [vW k]) := by
  have HV := hide (fun w => vocP w)
  have hq1 : q < 32 := by omega
  have ht1 : 18 + t < 32 := by omega
  have hk1 : k < 32 := by omega
  have i1 : ¬ (100 : Int) ≤ (n : Int) := by omega
  have i2 : ¬ (20 : Int) ≤ (r : Int) := by omega
  have i3 : (0 : Int) < (k : Int) := by omega
  obtain rfl : n = r := by omega
  clear hrI hqI
  obtain rfl : n = k := by omega
  clear hkI
  go_enter Tryz.func123, Tryz.ntmps123
  go_wp2_with (first
    | (go_at_call 50; refine (HV.out _).mono ?_; rintro e w1 ⟨g, c, rfl, hown, hb1⟩; have hgl := (hown.lt g rfl).2; have cq := vW_voc hown hq1; have ct := vW_voc hown ht1; have ck := vW_voc hown hk1; clear hown; have hs1 := hb1.size; have hm0 : w1.ownsRow w1.heap.size 9 1 (.slice none 0 0) 0 [] := World.ownsRow_nil _ _ _ _; have hbb := Below.refl w1.heap.size w1; have hss := Nat.le_refl w1.heap.size)
    | (at_builtin; refine wpList_app _ (.tmp 33) (.tmp 38) 51 rfl (by rfl) el_str w1.heap.size (.slice none 0 0) 0 _ (by rfl) hm0 hss #[.string ⟨(vW n).toArray⟩] 1 1 9 _ (by rfl) rfl rfl (by simp [Value.oneCell']) (by omega) ?_; intro v4 w4 hown4 hg4; have hb4 := below_own hbb hm0 hg4 (Nat.le_refl _) hss; have hs4 := hb4.size; have ct4 := (hb4.cell (p := ⟨g, 18 + t, none⟩) hgl).trans ct; have ck4 := (hb4.cell (p := ⟨g, n, none⟩) hgl).trans ck)
    | fail)
  go_ret
  exact ⟨_, rfl, own_more (own_eq hown4 rfl rfl) hs1, hb1.trans (hb4.mono hs1)⟩
set_option maxRecDepth 100000 in
set_option maxHeartbeats 2000000 in
theorem small101 (w : World) (n q r t k : Nat) (hn : n < 1000) (hqI : (n : Int) / 100 = (q : Int)) (hrI : (n : Int) % 100 = (r : Int)) (htI : (r : Int) / 10 = (t : Int)) (hkI : (r : Int) = (k : Int)) (h1 : 100 ≤ n) (h2 : ¬ 20 ≤ r) (h3 : 0 < k) :
    Calls Tryz.prog 123 #[.int .i64 n] w (SmallRet w [vW q, hundredW, vW k]) := by
  have HV := hide (fun w => vocP w)
  have hq1 : q < 32 := by omega
  have ht1 : 18 + t < 32 := by omega
  have hk1 : k < 32 := by omega
  have i1 : (100 : Int) ≤ (n : Int) := by omega
  have i2 : ¬ (20 : Int) ≤ (r : Int) := by omega
  have i3 : (0 : Int) < (k : Int) := by omega
  obtain rfl : r = k := by omega
  clear hkI
  go_enter Tryz.func123, Tryz.ntmps123
  go_wp2_with (first
    | (go_at_call 50; refine (HV.out _).mono ?_; rintro e w1 ⟨g, c, rfl, hown, hb1⟩; have hgl := (hown.lt g rfl).2; have cq := vW_voc hown hq1; have ct := vW_voc hown ht1; have ck := vW_voc hown hk1; clear hown; have hs1 := hb1.size; have hm0 : w1.ownsRow w1.heap.size 9 1 (.slice none 0 0) 0 [] := World.ownsRow_nil _ _ _ _; have hbb := Below.refl w1.heap.size w1; have hss := Nat.le_refl w1.heap.size)
    | (at_builtin; refine wpList_app _ (.tmp 8) (.tmp 14) 51 rfl (by rfl) el_str w1.heap.size (.slice none 0 0) 0 _ (by rfl) hm0 hss #[.string ⟨(vW q).toArray⟩, .string ⟨#[104, 117, 110, 100, 114, 101, 100]⟩] 2 2 9 _ (by rfl) rfl rfl (by simp [Value.oneCell']) (by omega) ?_; intro v2 w2 hown2 hg2; have hb2 := below_own hbb hm0 hg2 (Nat.le_refl _) hss; have hs2 := hb2.size; have ct2 := (hb2.cell (p := ⟨g, 18 + t, none⟩) hgl).trans ct; have ck2 := (hb2.cell (p := ⟨g, r, none⟩) hgl).trans ck)
    | (at_builtin; refine wpList_app _ (.tmp 33) (.tmp 38) 51 rfl (by rfl) el_str w1.heap.size v2 2 _ (by rfl) hown2 hs2 #[.string ⟨(vW r).toArray⟩] 1 1 9 _ (by rfl) rfl rfl (by simp [Value.oneCell']) (by omega) ?_; intro v4 w4 hown4 hg4; have hb4 := below_own hb2 hown2 hg4 (Nat.le_refl _) hs2; have hs4 := hb4.size; have ct4 := (hb4.cell (p := ⟨g, 18 + t, none⟩) hgl).trans ct; have ck4 := (hb4.cell (p := ⟨g, r, none⟩) hgl).trans ck)
    | fail)
  go_ret
  exact ⟨_, rfl, own_more (own_eq hown4 rfl rfl) hs1, hb1.trans (hb4.mono hs1)⟩
set_option maxRecDepth 100000 in
set_option maxHeartbeats 2000000 in
theorem small011 (w : World) (n q r t k : Nat) (hn : n < 1000) (hqI : (n : Int) / 100 = (q : Int)) (hrI : (n : Int) % 100 = (r : Int)) (htI : (r : Int) / 10 = (t : Int)) (hkI : (r : Int) % 10 = (k : Int)) (h1 : ¬ 100 ≤ n) (h2 : 20 ≤ r) (h3 : 0 < k) :
    Calls Tryz.prog 123 #[.int .i64 n] w (SmallRet w [vW (18 + t), vW k]) := by
  have HV := hide (fun w => vocP w)
  have hq1 : q < 32 := by omega
  have ht1 : 18 + t < 32 := by omega
  have hk1 : k < 32 := by omega
  have i1 : ¬ (100 : Int) ≤ (n : Int) := by omega
  have i2 : (20 : Int) ≤ (r : Int) := by omega
  have i3 : (0 : Int) < (k : Int) := by omega
  obtain rfl : n = r := by omega
  clear hrI hqI
  go_enter Tryz.func123, Tryz.ntmps123
  go_wp2_with (first
    | (go_at_call 50; refine (HV.out _).mono ?_; rintro e w1 ⟨g, c, rfl, hown, hb1⟩; have hgl := (hown.lt g rfl).2; have cq := vW_voc hown hq1; have ct := vW_voc hown ht1; have ck := vW_voc hown hk1; clear hown; have hs1 := hb1.size; have hm0 : w1.ownsRow w1.heap.size 9 1 (.slice none 0 0) 0 [] := World.ownsRow_nil _ _ _ _; have hbb := Below.refl w1.heap.size w1; have hss := Nat.le_refl w1.heap.size)
    | (at_builtin; refine wpList_app _ (.tmp 20) (.tmp 27) 51 rfl (by rfl) el_str w1.heap.size (.slice none 0 0) 0 _ (by rfl) hm0 hss #[.string ⟨(vW (18 + t)).toArray⟩] 1 1 9 _ (by rfl) rfl rfl (by simp [Value.oneCell']) (by omega) ?_; intro v3 w3 hown3 hg3; have hb3 := below_own hbb hm0 hg3 (Nat.le_refl _) hss; have hs3 := hb3.size; have ct3 := (hb3.cell (p := ⟨g, 18 + t, none⟩) hgl).trans ct; have ck3 := (hb3.cell (p := ⟨g, k, none⟩) hgl).trans ck)
    | (at_builtin; refine wpList_app _ (.tmp 33) (.tmp 38) 51 rfl (by rfl) el_str w1.heap.size v3 1 _ (by rfl) hown3 hs3 #[.string ⟨(vW k).toArray⟩] 1 1 9 _ (by rfl) rfl rfl (by simp [Value.oneCell']) (by omega) ?_; intro v4 w4 hown4 hg4; have hb4 := below_own hb3 hown3 hg4 (Nat.le_refl _) hs3; have hs4 := hb4.size; have ct4 := (hb4.cell (p := ⟨g, 18 + t, none⟩) hgl).trans ct; have ck4 := (hb4.cell (p := ⟨g, k, none⟩) hgl).trans ck)
    | fail)
  go_ret
  exact ⟨_, rfl, own_more (own_eq hown4 rfl rfl) hs1, hb1.trans (hb4.mono hs1)⟩
set_option maxRecDepth 100000 in
set_option maxHeartbeats 2000000 in
theorem small111 (w : World) (n q r t k : Nat) (hn : n < 1000) (hqI : (n : Int) / 100 = (q : Int)) (hrI : (n : Int) % 100 = (r : Int)) (htI : (r : Int) / 10 = (t : Int)) (hkI : (r : Int) % 10 = (k : Int)) (h1 : 100 ≤ n) (h2 : 20 ≤ r) (h3 : 0 < k) :
    Calls Tryz.prog 123 #[.int .i64 n] w (SmallRet w [vW q, hundredW, vW (18 + t), vW k]) := by
  have HV := hide (fun w => vocP w)
  have hq1 : q < 32 := by omega
  have ht1 : 18 + t < 32 := by omega
  have hk1 : k < 32 := by omega
  have i1 : (100 : Int) ≤ (n : Int) := by omega
  have i2 : (20 : Int) ≤ (r : Int) := by omega
  have i3 : (0 : Int) < (k : Int) := by omega
  go_enter Tryz.func123, Tryz.ntmps123
  go_wp2_with (first
    | (go_at_call 50; refine (HV.out _).mono ?_; rintro e w1 ⟨g, c, rfl, hown, hb1⟩; have hgl := (hown.lt g rfl).2; have cq := vW_voc hown hq1; have ct := vW_voc hown ht1; have ck := vW_voc hown hk1; clear hown; have hs1 := hb1.size; have hm0 : w1.ownsRow w1.heap.size 9 1 (.slice none 0 0) 0 [] := World.ownsRow_nil _ _ _ _; have hbb := Below.refl w1.heap.size w1; have hss := Nat.le_refl w1.heap.size)
    | (at_builtin; refine wpList_app _ (.tmp 8) (.tmp 14) 51 rfl (by rfl) el_str w1.heap.size (.slice none 0 0) 0 _ (by rfl) hm0 hss #[.string ⟨(vW q).toArray⟩, .string ⟨#[104, 117, 110, 100, 114, 101, 100]⟩] 2 2 9 _ (by rfl) rfl rfl (by simp [Value.oneCell']) (by omega) ?_; intro v2 w2 hown2 hg2; have hb2 := below_own hbb hm0 hg2 (Nat.le_refl _) hss; have hs2 := hb2.size; have ct2 := (hb2.cell (p := ⟨g, 18 + t, none⟩) hgl).trans ct; have ck2 := (hb2.cell (p := ⟨g, k, none⟩) hgl).trans ck)
    | (at_builtin; refine wpList_app _ (.tmp 20) (.tmp 27) 51 rfl (by rfl) el_str w1.heap.size v2 2 _ (by rfl) hown2 hs2 #[.string ⟨(vW (18 + t)).toArray⟩] 1 1 9 _ (by rfl) rfl rfl (by simp [Value.oneCell']) (by omega) ?_; intro v3 w3 hown3 hg3; have hb3 := below_own hb2 hown2 hg3 (Nat.le_refl _) hs2; have hs3 := hb3.size; have ct3 := (hb3.cell (p := ⟨g, 18 + t, none⟩) hgl).trans ct; have ck3 := (hb3.cell (p := ⟨g, k, none⟩) hgl).trans ck)
    | (at_builtin; refine wpList_app _ (.tmp 33) (.tmp 38) 51 rfl (by rfl) el_str w1.heap.size v3 3 _ (by rfl) hown3 hs3 #[.string ⟨(vW k).toArray⟩] 1 1 9 _ (by rfl) rfl rfl (by simp [Value.oneCell']) (by omega) ?_; intro v4 w4 hown4 hg4; have hb4 := below_own hb3 hown3 hg4 (Nat.le_refl _) hs3; have hs4 := hb4.size; have ct4 := (hb4.cell (p := ⟨g, 18 + t, none⟩) hgl).trans ct; have ck4 := (hb4.cell (p := ⟨g, k, none⟩) hgl).trans ck)
    | fail)
  go_ret
  exact ⟨_, rfl, own_more (own_eq hown4 rfl rfl) hs1, hb1.trans (hb4.mono hs1)⟩
theorem smallP (w : World) (n : Nat) (hn : n < 1000) : Calls Tryz.prog 123 #[.int .i64 n] w (SmallRet w (smallW n)) := by
  obtain ⟨q, hq⟩ : ∃ q, n / 100 = q := ⟨_, rfl⟩
  obtain ⟨r, hr⟩ : ∃ r, n % 100 = r := ⟨_, rfl⟩
  obtain ⟨t, ht⟩ : ∃ t, r / 10 = t := ⟨_, rfl⟩
  obtain ⟨k, hk⟩ : ∃ k, (if 20 ≤ r then n % 10 else r) = k := ⟨_, rfl⟩
  have hS : smallW n = (if 100 ≤ n then [vW q, hundredW] else []) ++ ((if 20 ≤ r then [vW (18 + t)] else []) ++ (if 0 < k then [vW k] else [])) := by
    unfold smallW; rw [hq, hr, ht, hk]
  rw [hS]
  have hqI : (n : Int) / 100 = (q : Int) := by omega
  have hrI : (n : Int) % 100 = (r : Int) := by omega
  have htI : (r : Int) / 10 = (t : Int) := by omega
  by_cases h1 : 100 ≤ n <;> by_cases h2 : 20 ≤ r <;> by_cases h3 : 0 < k
  · rw [if_pos h1, if_pos h2, if_pos h3]; rw [if_pos h2] at hk; exact small111 w n q r t k hn hqI hrI htI (by omega) h1 h2 h3
  · rw [if_pos h1, if_pos h2, if_neg h3]; rw [if_pos h2] at hk; exact small110 w n q r t k hn hqI hrI htI (by omega) h1 h2 h3
  · rw [if_pos h1, if_neg h2, if_pos h3]; rw [if_neg h2] at hk; exact small101 w n q r t k hn hqI hrI htI (by omega) h1 h2 h3
  · rw [if_pos h1, if_neg h2, if_neg h3]; rw [if_neg h2] at hk; exact small100 w n q r t k hn hqI hrI htI (by omega) h1 h2 h3
  · rw [if_neg h1, if_pos h2, if_pos h3]; rw [if_pos h2] at hk; exact small011 w n q r t k hn hqI hrI htI (by omega) h1 h2 h3
  · rw [if_neg h1, if_pos h2, if_neg h3]; rw [if_pos h2] at hk; exact small010 w n q r t k hn hqI hrI htI (by omega) h1 h2 h3
  · rw [if_neg h1, if_neg h2, if_pos h3]; rw [if_neg h2] at hk; exact small001 w n q r t k hn hqI hrI htI (by omega) h1 h2 h3
  · rw [if_neg h1, if_neg h2, if_neg h3]; rw [if_neg h2] at hk; exact small000 w n q r t k hn hqI hrI htI (by omega) h1 h2 h3
end Go.Proofs.YtdkppdjonlldhaaGreatDoor

/- Numbers in words: numwords.Words. -/
namespace Go.Proofs.YtdkppdjonlldhaaGreatDoor
open Go.RowKit Go.Maps

/-- What the closure sees: the number and the words so far, each in a box of its own. -/
structure GBox (W : World) (B bn bl : Nat) (n : Nat) (v : Value) (l : List Wd) : Prop where
  nb : W.heap[bn]? = some (.cells #[.int .i64 (n : Int)] 3 (0, 0))
  lb : W.heap[bl]? = some (.cells #[v] 51 (0, 0))
  own : OwnStr W B v l
  lt1 : bn < bl
  lt2 : bl < B
  le : B ≤ W.heap.size
def GroupRet (W : World) (B bn bl : Nat) (n : Nat) (l : List Wd) (e : Ending) (W' : World) : Prop := e = .returned (.tuple #[]) ∧ ∃ v', GBox W' B bn bl n v' l ∧ Below bn W W'
theorem groupW_len (k : Nat) (w : List Wd) : (groupW k w).length ≤ 4 + w.length := by
  have := @smallW_len k
  unfold groupW
  split
  · rw [List.length_append]; omega
  · simp
set_option maxRecDepth 100000 in
set_option maxHeartbeats 2000000 in
theorem groupP (W : World) (B bn bl n sc : Nat) (v : Value) (l : List Wd) (h : GBox W B bn bl n v l) (hl : l.length ≤ 100) (hsc : 1 ≤ sc) (hk : n / sc < 1000) (hn : n < 1000000000) (hsc2 : sc ≤ 1000000) (A : Option Addr) (c m : Nat) (ws : List Wd) (hm : ws.length = m) (hm2 : m ≤ 1) (hws : StrRow W W.heap.size A ws) (hne : ∀ a, A = some a → v.ownBlock ≠ some a.block) :
    Calls Tryz.prog 122 #[.int .i64 sc, .slice A m c, .pointer (some ⟨bn, 0, none⟩), .pointer (some ⟨bl, 0, none⟩)] W (GroupRet W B bn bl (if 0 < n / sc then n % sc else n) (l ++ groupW (n / sc) ws)) := by
  obtain ⟨k, hkk⟩ : ∃ k, n / sc = k := ⟨_, rfl⟩
  obtain ⟨r, hrr⟩ : ∃ r, n % sc = r := ⟨_, rfl⟩
  have hqI : (n : Int) / (sc : Int) = (k : Int) := by rw [← hkk]; simp
  have hrI : (n : Int) % (sc : Int) = (r : Int) := by rw [← hrr]; simp
  have hkn : k ≤ n := by rw [← hkk]; exact Nat.div_le_self _ _
  have hs0 : ((sc : Int) == 0) = false := by rw [beq_eq_false_iff_ne]; omega
  rw [hkk] at hk ⊢
  rw [hrr]
  have hrn : r ≤ n := by rw [← hrr]; exact Nat.mod_le _ _
  clear hkk hrr
  have x0 := cell_block h.nb 0
  have y0 := cell_block h.lb 0
  by_cases h0 : k = 0
  · subst h0
    have hB := Below.refl bn W
    have hq0 : (n : Int) / (sc : Int) = 0 := by simpa using hqI
    clear hqI
    go_enter Tryz.func122, Tryz.ntmps122
    go_wp2
    refine bodyPost_end (results_none rfl _ _ _) rfl ?_
    refine ⟨rfl, v, ?_, hB⟩
    rw [show groupW 0 ws = [] by rfl, List.append_nil]
    assumption
  have hk0 : (0 : Int) < (k : Int) := by omega
  have HSm := hide (fun w => smallP w k hk)
  have hbd := (Below.refl W.heap.size W).drew
  have HBB := hide (fun (W2 : World) (hb : Below B W W2) => And.intro (show W2.cell? ⟨bl, 0, none⟩ = some v from (hb.cell (p := ⟨bl, 0, none⟩) h.lt2).trans y0) (show W2.cell? ⟨bn, 0, none⟩ = some (.int .i64 (n : Int)) from (hb.cell (p := ⟨bn, 0, none⟩) (show bn < B from Nat.lt_trans h.lt1 h.lt2)).trans x0))
  have Hblk := hide (fun (W2 : World) (hb : Below B W W2) => And.intro ((hb.block bl h.lt2).trans h.lb) ((hb.block bn (Nat.lt_trans h.lt1 h.lt2)).trans h.nb))
  have Hh := hide h
  have Hws := hide (And.intro hws hne)
  have hbl1 := h.lt1
  have hbl2 := h.lt2
  have hBle := h.le
  have hblne : bn ≠ bl := by omega
  clear h hws hne
  go_enter Tryz.func122, Tryz.ntmps122
  go_upto_region 2 with fail
  refine td_begin (by kernel_rfl) ?_
  refine td_hold (fun W2 => W2.cell? ⟨bl, 0, none⟩ = some v) [6] (by decide +kernel) ?_ (fun hHeld => ?_)
  · (first | exact (HBB.out _ hb5).1 | exact (HBB.out _ hb3).1 | exact (HBB.out _ hB2).1 | exact (HBB.out _ (hbd.mono hBle)).1)
  (refine td_take 0 (v := ?_) rfl (by decide) (by kernel_rfl) (by decide +kernel) (by decide +kernel) (fun _ _ _ h => h) (by assumption) (by rfl) ?_ ?_; rotate_left; (· (intro w hSw; (try dsimp only at hSw); (go_simp <;> with_reducible rfl))); (try simp only [Act.put, List.setIfInBounds_toArray, List.set_cons_zero, List.set_cons_succ]))
  (refine td_take 1 (v := ?_) rfl (by decide) (by kernel_rfl) (by decide +kernel) (by decide +kernel) (fun _ _ _ h => h) (by assumption) (by rfl) ?_ ?_; rotate_left; (· (intro w hSw; (try dsimp only at hSw); (go_simp <;> with_reducible rfl))); (try simp only [Act.put, List.setIfInBounds_toArray, List.set_cons_zero, List.set_cons_succ]))
  (refine td_take 4 (v := ?_) rfl (by decide) (by kernel_rfl) (by decide +kernel) (by decide +kernel) (fun _ _ _ h => h) (by assumption) (by rfl) ?_ ?_; rotate_left; (· (intro w hSw; (try dsimp only at hSw); (go_simp <;> with_reducible rfl))); (try simp only [Act.put, List.setIfInBounds_toArray, List.set_cons_zero, List.set_cons_succ]))
  repeat' (first
    | (refine td_ready (rs := [2]) (by decide +kernel) (by decide) (by simp) ?_; refine td_cons rfl (fun K hK => ?_) (td_nil); (focus (go_simp; go_at_call 123; refine (HSm.out _).mono ?_; rintro e w2 ⟨v2, rfl, hown2, hb2'⟩; obtain ⟨A2, c2, rfl, hc2, hr2⟩ := own_strs hown2 rfl; have hb2 := hbd.trans (hb2'.mono hbd.size); have hB2 := hb2.mono hBle; have hv2 := own_below Hh.out.own hb2 (Nat.le_refl _); have hs2 := hb2.size; have hls := @smallW_len k; (first | refine hK.out _ _ ?_ ?_ | (go_wp2_with fail; refine hK.out _ _ ?_ ?_)); (· (first | exact (HBB.out _ hb5).1 | exact (HBB.out _ hb3).1 | exact (HBB.out _ hB2).1 | exact (HBB.out _ (hbd.mono hBle)).1)); clear hK K hHeld; intro hHeld; (try simp only [Act.put, List.setIfInBounds_toArray, List.set_cons_zero, List.set_cons_succ]))); rotate_left)
    | (refine td_ready (rs := [3]) (by decide +kernel) (by decide) (by simp) ?_; refine td_cons rfl (fun K hK => ?_) (td_nil); (focus (refine step_strs w2 (.tmp 12) (.tmp 14) rfl rfl B v l l.length (by rfl) hv2 (by omega) A2 c2 _ (smallW k) _ rfl (by rfl) hr2 (by omega) _ rfl ?_; intro v3 w3 hown3 hg3; have hb3 := below_own hB2 hv2 hg3 (Nat.le_refl _) (by omega); have hs3 := hb3.size; have hw3 := StrRow.grown ((Hws.out.1.below (StrAt.stays _) hb2).more hb2.size) hg3 Hws.out.2; (first | refine hK.out _ _ ?_ ?_ | (go_wp2_with fail; refine hK.out _ _ ?_ ?_)); (· (first | exact (HBB.out _ hb5).1 | exact (HBB.out _ hb3).1 | exact (HBB.out _ hB2).1 | exact (HBB.out _ (hbd.mono hBle)).1)); clear hK K hHeld; intro hHeld; (try simp only [Act.put, List.setIfInBounds_toArray, List.set_cons_zero, List.set_cons_succ]))); rotate_left)
    | (refine td_ready (rs := [5]) (by decide +kernel) (by decide) (by simp) ?_; refine td_cons rfl (fun K hK => ?_) (td_nil); (focus (refine step_strs w3 (.tmp 15) (.tmp 16) rfl rfl B v3 (l ++ smallW k) _ (by rfl) hown3 (by omega) A c _ ws m hm (by rfl) hw3 (by omega) _ rfl ?_; intro v5 w5 hown5 hg5; obtain ⟨A5, c5, rfl⟩ := own_form hown5; have hb5 := below_own hb3 hown3 hg5 (Nat.le_refl _) (by omega); have hs5 := hb5.size; have y5 := (HBB.out _ hb5).1; have x5 := (HBB.out _ hb5).2; have z5 := frozen_block (Hblk.out _ hb5).1 0; have zn5 := frozen_block (Hblk.out _ hb5).2 0; (first | refine hK.out _ _ ?_ ?_ | (go_wp2_with fail; refine hK.out _ _ ?_ ?_)); (· (first | exact (HBB.out _ hb5).1 | exact (HBB.out _ hb3).1 | exact (HBB.out _ hB2).1 | exact (HBB.out _ (hbd.mono hBle)).1)); clear hK K hHeld; intro hHeld; (try simp only [Act.put, List.setIfInBounds_toArray, List.set_cons_zero, List.set_cons_succ]))); rotate_left)
    | fail)
  all_goals (refine td_last (rs := [6]) (by decide +kernel) (by decide) ?_)
  all_goals clear hHeld
  repeat' (first
    | (refine tda_ready (rs := [6]) (by decide +kernel) (by simp) ?_; refine tda_cons rfl (fun K hK => ?_) (tda_nil); (focus (go_simp; refine hK.out _ _ ?_; clear hK K; (try simp only [Act.put, List.setIfInBounds_toArray, List.set_cons_zero, List.set_cons_succ]))); rotate_left)
    | fail)
  all_goals refine tda_done (by decide +kernel) ?_
  have x6 : (w5.setCell ⟨bl, 0, none⟩ (.slice A5 (l.length + (smallW k).length + m) c5)).cell? ⟨bn, 0, none⟩ = some (.int .i64 (n : Int)) := by rw [World.cell?_setCell_far _ _ _ _ (fun e => hblne e.symm)]; exact x5
  have b5 := (Hblk.out _ hb5)
  have n6 := block_far b5.2 (p := ⟨bl, 0, none⟩) hblne (.slice A5 (l.length + (smallW k).length + m) c5)
  have zn6 := frozen_block n6 0
  have l6 := blk_set (i := 0) b5.1 (.slice A5 (l.length + (smallW k).length + m) c5)
  have hN := hide (And.intro n6 l6)
  clear n6 l6 b5
  go_wp2
  refine bodyPost_end (results_none rfl _ _ _) rfl ?_
  refine ⟨rfl, _, ⟨?_, block_far hN.out.2 (p := ⟨bn, 0, none⟩) (fun e => hblne e.symm) _, ?_, hbl1, hbl2, ?_⟩, ?_⟩
  · exact blk_set (i := 0) hN.out.1 _
  · refine ownsRow_setCell_below (ownsRow_setCell_below (own_eq hown5 ?_ ?_) (a := ⟨bl, 0, none⟩) hbl2 _) (a := ⟨bn, 0, none⟩) (show bn < B by omega) _
    · unfold groupW; rw [if_pos (by omega), List.length_append, List.length_append, hm]; omega
    · unfold groupW; rw [if_pos (by omega), List.append_assoc]
  · have := hb5.size; simp only [World.size_setCell]; omega
  · exact ((hb5.mono (show bn ≤ B by omega)).setCell (p := ⟨bl, 0, none⟩) (by show bn ≤ bl; omega) _).setCell (p := ⟨bn, 0, none⟩) (Nat.le_refl _) _
/-- What Words answers. -/
def WordsRet (w : World) (o : Option (List Wd)) (e : Ending) (w' : World) : Prop := ∃ v, e = .returned (.tuple #[v, .int .i64 (if o.isSome = true then 0 else 2)]) ∧ OwnStr w' w.heap.size v (o.getD []) ∧ Below w.heap.size w w'
theorem numW_pos {n : Nat} (h : n ≠ 0) : numW n = groupW (n / 1000000) [millionW] ++ (groupW (n % 1000000 / 1000) [thousandW] ++ groupW (n % 1000) []) := by unfold numW; rw [if_neg h]
/-- The three groups. -/
theorem groups_num {n n1 n2 : Nat} (h : n ≠ 0) (h1 : n1 = if 0 < n / 1000000 then n % 1000000 else n) (h2 : n2 = if 0 < n1 / 1000 then n1 % 1000 else n1) (l : List Wd) :
    (l ++ groupW (n / 1000000) [millionW] ++ groupW (n1 / 1000) [thousandW]) ++ groupW (n2 / 1) [] = l ++ numW n := by
  have e1 : n1 = n % 1000000 := by rw [h1]; split <;> omega
  have e2 : n2 = n % 1000 := by rw [h2, e1]; split <;> omega
  rw [numW_pos h, e1, e2, Nat.div_one, List.append_assoc, List.append_assoc]
theorem GBox.alloc {W : World} {B bn bl n : Nat} {v : Value} {l : List Wd} (h : GBox W B bn bl n v l) (o : Obj) : GBox (W.alloc o) B bn bl n v l :=
  ⟨block_alloc h.nb o, block_alloc h.lb o, h.own.alloc o, h.lt1, h.lt2, by have := h.le; simp; omega⟩
theorem lit_row (W : World) (s : Wd) : StrRow (W.alloc (.cells #[strV s] 9)) (W.alloc (.cells #[strV s] 9)).heap.size (some ⟨W.heap.size, 0, none⟩) [s] := fun _ => ⟨W.heap.size, 0, rfl, by simp, fun k x hx => by
  cases k with
  | zero => cases hx; exact (cell_block (block_new W _) 0)
  | succ k => simp at hx⟩
theorem own_apart {W : World} {B n : Nat} {v : Value} {e : TypeId} {sz : Nat} {xs : List Value} (h : W.ownsRow B e sz v n xs) : ∀ a : Addr, some (⟨W.heap.size, 0, none⟩ : Addr) = some a → v.ownBlock ≠ some a.block := fun a ha hv => by
  cases ha
  have := (h.lt _ hv).2
  exact absurd this (Nat.lt_irrefl _)
def GRet (W : World) (B bn bl : Nat) (n : Nat) (l : List Wd) (e : Ending) (W' : World) : Prop := e = .returned (.tuple #[]) ∧ ∃ v', GBox W' B bn bl n v' l ∧ Below bn W W'
theorem group6 {W : World} {B bn bl n : Nat} {v : Value} {l : List Wd} (h : GBox W B bn bl n v l) (hl : l.length ≤ 90) (hn : n < 1000000000) :
    Calls Tryz.prog 122 #[.int .i64 1000000, .slice (some ⟨W.heap.size, 0, none⟩) 1 1, .pointer (some ⟨bn, 0, none⟩), .pointer (some ⟨bl, 0, none⟩)] (W.alloc (.cells #[.string ⟨#[109, 105, 108, 108, 105, 111, 110]⟩] 9)) (GRet W B bn bl (if 0 < n / 1000000 then n % 1000000 else n) (l ++ groupW (n / 1000000) [millionW])) := by
  refine (groupP (W.alloc (.cells #[strV millionW] 9)) B bn bl n 1000000 v l (h.alloc _) (by omega) (by omega) (by omega) hn (by omega) _ 1 1 [millionW] rfl (by omega) (lit_row W millionW) (own_apart h.own)).mono fun e W' ⟨h1, v', h2, h3⟩ => ⟨h1, v', h2, ?_⟩
  exact ((Below.refl bn W).alloc (by have := h.lt1; have := h.lt2; have := h.le; omega) _).trans h3
theorem group3 {W : World} {B bn bl n : Nat} {v : Value} {l : List Wd} (h : GBox W B bn bl n v l) (hl : l.length ≤ 90) (hn : n < 1000000) :
    Calls Tryz.prog 122 #[.int .i64 1000, .slice (some ⟨W.heap.size, 0, none⟩) 1 1, .pointer (some ⟨bn, 0, none⟩), .pointer (some ⟨bl, 0, none⟩)] (W.alloc (.cells #[.string ⟨#[116, 104, 111, 117, 115, 97, 110, 100]⟩] 9)) (GRet W B bn bl (if 0 < n / 1000 then n % 1000 else n) (l ++ groupW (n / 1000) [thousandW])) := by
  refine (groupP (W.alloc (.cells #[strV thousandW] 9)) B bn bl n 1000 v l (h.alloc _) (by omega) (by omega) (by omega) (by omega) (by omega) _ 1 1 [thousandW] rfl (by omega) (lit_row W thousandW) (own_apart h.own)).mono fun e W' ⟨h1, v', h2, h3⟩ => ⟨h1, v', h2, ?_⟩
  exact ((Below.refl bn W).alloc (by have := h.lt1; have := h.lt2; have := h.le; omega) _).trans h3
theorem group1 {W : World} {B bn bl n : Nat} {v : Value} {l : List Wd} (h : GBox W B bn bl n v l) (hl : l.length ≤ 90) (hn : n < 1000) :
    Calls Tryz.prog 122 #[.int .i64 1, .slice none 0 0, .pointer (some ⟨bn, 0, none⟩), .pointer (some ⟨bl, 0, none⟩)] W (GRet W B bn bl (if 0 < n / 1 then n % 1 else n) (l ++ groupW (n / 1) [])) :=
  (groupP W B bn bl n 1 v l h (by omega) (by omega) (by omega) (by omega) (by omega) none 0 0 [] rfl (by omega) (Sl.nil rfl) (fun a ha => by cases ha)).mono fun _ _ h => h
set_option maxRecDepth 100000 in
set_option maxHeartbeats 2000000 in
theorem wordsPos (w : World) (n : Nat) (hn : 0 < n) (hn2 : n ≤ 999999999) : Calls Tryz.prog 106 #[.int .i64 n] w (WordsRet w (some (numW n))) := by
  obtain ⟨n1, hn1⟩ : ∃ n1, (if 0 < n / 1000000 then n % 1000000 else n) = n1 := ⟨_, rfl⟩
  obtain ⟨n2, hn2'⟩ : ∃ n2, (if 0 < n1 / 1000 then n1 % 1000 else n1) = n2 := ⟨_, rfl⟩
  have b1 : n1 < 1000000 := by rw [← hn1]; split <;> omega
  have b2 : n2 < 1000 := by rw [← hn2']; split <;> omega
  have Hg := hide (groups_num (n := n) (by omega) hn1.symm hn2'.symm [])
  have L1 := groupW_len (n / 1000000) [millionW]
  have L2 := groupW_len (n1 / 1000) [thousandW]
  have HN1 := hide hn1
  have HN2 := hide hn2'
  have HB0 := hide (show GBox ((w.alloc (.cells #[.int .i64 (n : Int)] 3)).alloc (.cells #[.slice none 0 0] 51)) (w.heap.size + 2) w.heap.size (w.heap.size + 1) n (.slice none 0 0) [] from
    ⟨block_alloc (block_new w _) _, (by have := block_new (w.alloc (.cells #[.int .i64 (n : Int)] 3)) (.cells #[.slice none 0 0] 51); simpa using this), World.ownsRow_nil _ _ _ _, by omega, by omega, by simp⟩)
  have hbA := hide (((Below.refl w.heap.size w).alloc (Nat.le_refl _) (.cells #[.int .i64 (n : Int)] 3)).alloc (by simp) (.cells #[.slice none 0 0] 51))
  have i0 : (0 : Int) < (n : Int) := by omega
  clear hn1 hn2'
  go_enter Tryz.func106, Tryz.ntmps106
  go_upto_region 9 with fail
  obtain ⟨W2, hW2⟩ : ∃ W2, (w.alloc (.cells #[.int .i64 (n : Int)] 3)).alloc (.cells #[.slice none 0 0] 51) = W2 := ⟨_, rfl⟩
  have HS2 := hide (show w.heap.size ≤ W2.heap.size by rw [← hW2]; simp; omega)
  rw [hW2] at HB0 hbA ⊢
  clear hW2
  go_wp2_with (first
    | (go_at_call 122; (with_reducible refine (group1 hG3.out hL3 b2).mono ?_); rintro e w4 ⟨rfl, v4, hG4', hb4'⟩; rw [Hg.out, List.nil_append] at hG4'; have hG4 := hide hG4'; have hb4 := hide hb4'; have own4 := hG4'.own; have y4 := cell_block hG4'.lb 0; obtain ⟨A4, c4, rfl⟩ := own_form own4; clear hG4' hb4')
    | (go_at_call 122; (with_reducible refine (group3 hG2.out hL2 b1).mono ?_); rintro e w3 ⟨rfl, v3, hG3', hb3'⟩; rw [HN2.out] at hG3'; have hL3 : ([] ++ groupW (n / 1000000) [millionW] ++ groupW (n1 / 1000) [thousandW]).length ≤ 90 := (by simp only [List.length_append, List.length_nil, List.length_cons] at L1 L2 ⊢; omega); have hG3 := hide hG3'; have hb3 := hide hb3'; clear hG3' hb3')
    | (go_at_call 122; (with_reducible refine (group6 HB0.out (by simp) (by omega)).mono ?_); rintro e w2 ⟨rfl, v2, hG2', hb2'⟩; rw [HN1.out] at hG2'; have hL2 : ([] ++ groupW (n / 1000000) [millionW]).length ≤ 90 := (by simp only [List.length_append, List.length_nil, List.length_cons] at L1 ⊢; omega); have hG2 := hide hG2'; have hb2 := hide hb2'; clear hG2' hb2')
    | fail)
  go_ret2
  exact ⟨_, rfl, own_more hG4.out.own (by omega), ((hbA.out.trans hb2.out).trans hb3.out).trans hb4.out⟩
set_option maxRecDepth 100000 in
set_option maxHeartbeats 2000000 in
theorem wordsNeg (w : World) (m : Int) (n : Nat) (hm : m = -(n : Int)) (hn : 0 < n) (hn2 : n ≤ 999999999) : Calls Tryz.prog 106 #[.int .i64 m] w (WordsRet w (some (minusW :: numW n))) := by
  obtain ⟨n1, hn1⟩ : ∃ n1, (if 0 < n / 1000000 then n % 1000000 else n) = n1 := ⟨_, rfl⟩
  obtain ⟨n2, hn2'⟩ : ∃ n2, (if 0 < n1 / 1000 then n1 % 1000 else n1) = n2 := ⟨_, rfl⟩
  have b1 : n1 < 1000000 := by rw [← hn1]; split <;> omega
  have b2 : n2 < 1000 := by rw [← hn2']; split <;> omega
  have Hg := hide (show ([minusW] ++ groupW (n / 1000000) [millionW] ++ groupW (n1 / 1000) [thousandW]) ++ groupW (n2 / 1) [] = minusW :: numW n from groups_num (n := n) (by omega) hn1.symm hn2'.symm [minusW])
  have L1 := groupW_len (n / 1000000) [millionW]
  have L2 := groupW_len (n1 / 1000) [thousandW]
  have HN1 := hide hn1
  have HN2 := hide hn2'
  have nb0 : ((w.alloc (.cells #[.int .i64 m] 3)).alloc (.cells #[.slice none 0 0] 51)).heap[w.heap.size]? = some (.cells #[.int .i64 m] 3 (0, 0)) := block_alloc (block_new w _) _
  have lb0 : ((w.alloc (.cells #[.int .i64 m] 3)).alloc (.cells #[.slice none 0 0] 51)).heap[w.heap.size + 1]? = some (.cells #[.slice none 0 0] 51 (0, 0)) := by have := block_new (w.alloc (.cells #[.int .i64 m] 3)) (.cells #[.slice none 0 0] 51); simpa using this
  have hbA := hide (((Below.refl w.heap.size w).alloc (Nat.le_refl _) (.cells #[.int .i64 m] 3)).alloc (by simp) (.cells #[.slice none 0 0] 51))
  have i0 : m < 0 := by omega
  have i1 : -999999999 ≤ m := by omega
  have i2 : ¬ (999999999 : Int) < m := by omega
  have iq : (m == 0) = false := by rw [beq_eq_false_iff_ne]; omega
  have HM := hide (show -m = (n : Int) by omega)
  clear hn1 hn2' hm
  go_enter Tryz.func106, Tryz.ntmps106
  go_upto_region 7 with fail
  obtain ⟨W2, hW2⟩ : ∃ W2, (w.alloc (.cells #[.int .i64 m] 3)).alloc (.cells #[.slice none 0 0] 51) = W2 := ⟨_, rfl⟩
  have hs2' : W2.heap.size = w.heap.size + 2 := by rw [← hW2]; simp
  rw [hW2] at nb0 lb0 hbA ⊢
  have HS2 := hide hs2'
  have hbd := (Below.refl W2.heap.size W2).drew
  have hs2l := Nat.le_of_eq hs2'.symm
  have HBB := hide (fun (W3 : World) (hb : Below (w.heap.size + 2) W2 W3) => And.intro ((hb.block w.heap.size (by omega)).trans nb0) ((hb.block (w.heap.size + 1) (by omega)).trans lb0))
  have hnil : W2.drew.ownsRow (w.heap.size + 2) 9 1 (.slice none 0 0) 0 [] := World.ownsRow_nil _ _ _ _
  clear hW2 hs2' nb0 lb0
  have hbe2 : Below (w.heap.size + 2) W2 (W2.alloc (.cells #[strV minusW] 9)).drew := ((Below.refl _ W2).alloc (by show w.heap.size + 2 ≤ W2.heap.size; omega) _).drew
  have hbe1 : Below (w.heap.size + 2) W2 W2.drew := hbd.mono hs2l
  have hrow := hide ((lit_row W2 minusW).below (StrAt.stays _) (Below.refl _ _).drew)
  have hnil2 : (W2.alloc (.cells #[strV minusW] 9)).drew.ownsRow (w.heap.size + 2) 9 1 (.slice none 0 0) 0 [] := World.ownsRow_nil _ _ _ _
  have a0 := cell_block (HBB.out _ (Below.refl _ W2)).2 0
  have a1 : (W2.alloc (.cells #[.string ⟨#[109, 105, 110, 117, 115]⟩] 9)).cell? ⟨w.heap.size + 1, 0, none⟩ = some (.slice none 0 0) := cell_block (HBB.out _ hbe2).2 0
  have a2 := cell_block (HBB.out _ hbe1).2 0
  refine td_begin (by kernel_rfl) ?_
  refine td_hold (fun W3 => W3.cell? ⟨w.heap.size, 0, none⟩ = some (.int .i64 m)) [6] (by decide +kernel) ?_ (fun hHeld => ?_)
  · (first | exact cell_block (Hk5.out).1 0 | exact cell_block (HBB.out _ hb4).1 0 | exact cell_block (HBB.out _ hbe2).1 0 | exact cell_block (HBB.out _ hbe1).1 0)
  (refine td_take 3 (v := ?_) rfl (by decide) (by kernel_rfl) (by decide +kernel) (by decide +kernel) (fun _ _ _ h => h) (by assumption) (by rfl) ?_ ?_; rotate_left; (· (intro w hSw; (try dsimp only at hSw); (go_simp <;> with_reducible rfl))); (try simp only [Act.put, List.setIfInBounds_toArray, List.set_cons_zero, List.set_cons_succ]))
  (refine td_take 4 (v := ?_) rfl (by decide) (by kernel_rfl) (by decide +kernel) (by decide +kernel) (fun _ _ _ h => h) (by assumption) (by rfl) ?_ ?_; rotate_left; (· (intro w hSw; (try dsimp only at hSw); (go_simp <;> with_reducible rfl))); (try simp only [Act.put, List.setIfInBounds_toArray, List.set_cons_zero, List.set_cons_succ]))
  repeat' (first
    | (refine td_ready (rs := [0, 1]) (by decide +kernel) (by decide) (by simp) ?_; refine td_cons rfl (fun K hK => ?_) (td_cons rfl (fun K hK => ?_) (td_nil)); (focus (go_simp; (first | refine hK.out _ _ ?_ ?_ | (go_wp2_with fail; refine hK.out _ _ ?_ ?_)); (· (first | exact cell_block (Hk5.out).1 0 | exact cell_block (HBB.out _ hb4).1 0 | exact cell_block (HBB.out _ hbe2).1 0 | exact cell_block (HBB.out _ hbe1).1 0)); clear hK K hHeld; intro hHeld; (try simp only [Act.put, List.setIfInBounds_toArray, List.set_cons_zero, List.set_cons_succ]))); rotate_left; (focus (go_simp; (first | refine hK.out _ _ ?_ ?_ | (go_wp2_with fail; refine hK.out _ _ ?_ ?_)); (· (first | exact cell_block (Hk5.out).1 0 | exact cell_block (HBB.out _ hb4).1 0 | exact cell_block (HBB.out _ hbe2).1 0 | exact cell_block (HBB.out _ hbe1).1 0)); clear hK K hHeld; intro hHeld; (try simp only [Act.put, List.setIfInBounds_toArray, List.set_cons_zero, List.set_cons_succ]))); rotate_left)
    | (refine td_ready (rs := [0]) (by decide +kernel) (by decide) (by simp) ?_; refine td_cons rfl (fun K hK => ?_) (td_nil); (focus (go_simp; (first | refine hK.out _ _ ?_ ?_ | (go_wp2_with fail; refine hK.out _ _ ?_ ?_)); (· (first | exact cell_block (Hk5.out).1 0 | exact cell_block (HBB.out _ hb4).1 0 | exact cell_block (HBB.out _ hbe2).1 0 | exact cell_block (HBB.out _ hbe1).1 0)); clear hK K hHeld; intro hHeld; (try simp only [Act.put, List.setIfInBounds_toArray, List.set_cons_zero, List.set_cons_succ]))); rotate_left)
    | (refine td_ready (rs := [1]) (by decide +kernel) (by decide) (by simp) ?_; refine td_cons rfl (fun K hK => ?_) (td_nil); (focus (go_simp; (first | refine hK.out _ _ ?_ ?_ | (go_wp2_with fail; refine hK.out _ _ ?_ ?_)); (· (first | exact cell_block (Hk5.out).1 0 | exact cell_block (HBB.out _ hb4).1 0 | exact cell_block (HBB.out _ hbe2).1 0 | exact cell_block (HBB.out _ hbe1).1 0)); clear hK K hHeld; intro hHeld; (try simp only [Act.put, List.setIfInBounds_toArray, List.set_cons_zero, List.set_cons_succ]))); rotate_left)
    | (refine td_ready (rs := [2]) (by decide +kernel) (by decide) (by simp) ?_; refine td_cons rfl (fun K hK => ?_) (td_nil); (focus (refine step_strs (W2.alloc (.cells #[strV minusW] 9)).drew (.tmp 17) (.tmp 18) rfl rfl (w.heap.size + 2) (.slice none 0 0) [] 0 (by rfl) hnil2 (by show w.heap.size + 2 ≤ (W2.alloc _).heap.size; simp; omega) (some ⟨W2.heap.size, 0, none⟩) 1 _ [minusW] 1 rfl (by rfl) hrow.out (by omega) 1 rfl ?_; intro v4 w4 hown4 hg4; obtain ⟨A4, c4, rfl⟩ := own_form hown4; have hb4 := below_own hbe2 hnil2 hg4 (Nat.le_refl _) (Nat.le_trans hs2l hbe2.size); have hbk := HBB.out _ hb4; have z4 := frozen_block hbk.1 0; have zz4 := frozen_block hbk.2 0; have cc4 := cell_block hbk.2 0; have Hk5 := hide (And.intro (block_far hbk.1 (p := ⟨w.heap.size + 1, 0, none⟩) (by show w.heap.size ≠ w.heap.size + 1; omega) (.slice A4 1 c4)) (blk_set (i := 0) hbk.2 (.slice A4 1 c4))); have z5 := frozen_block Hk5.out.1 0; have c5' := cell_block Hk5.out.1 0; (first | refine hK.out _ _ ?_ ?_ | (go_wp2_with fail; refine hK.out _ _ ?_ ?_)); (· (first | exact cell_block (Hk5.out).1 0 | exact cell_block (HBB.out _ hb4).1 0 | exact cell_block (HBB.out _ hbe2).1 0 | exact cell_block (HBB.out _ hbe1).1 0)); clear hK K hHeld; intro hHeld; (try simp only [Act.put, List.setIfInBounds_toArray, List.set_cons_zero, List.set_cons_succ]))); rotate_left)
    | (refine td_ready (rs := [5]) (by decide +kernel) (by decide) (by simp) ?_; refine td_cons rfl (fun K hK => ?_) (td_nil); (focus (go_simp; (first | refine hK.out _ _ ?_ ?_ | (go_wp2_with fail; refine hK.out _ _ ?_ ?_)); (· (first | exact cell_block (Hk5.out).1 0 | exact cell_block (HBB.out _ hb4).1 0 | exact cell_block (HBB.out _ hbe2).1 0 | exact cell_block (HBB.out _ hbe1).1 0)); clear hK K hHeld; intro hHeld; (try simp only [Act.put, List.setIfInBounds_toArray, List.set_cons_zero, List.set_cons_succ]))); rotate_left)
    | fail)
  all_goals (refine td_last (rs := [6]) (by decide +kernel) (by decide) ?_)
  all_goals clear hHeld
  repeat' (first
    | (refine tda_ready (rs := [6]) (by decide +kernel) (by simp) ?_; refine tda_cons rfl (fun K hK => ?_) (tda_nil); (focus (go_simp; refine hK.out _ _ ?_; clear hK K; (try simp only [Act.put, List.setIfInBounds_toArray, List.set_cons_zero, List.set_cons_succ]))); rotate_left)
    | fail)
  all_goals refine tda_done (by decide +kernel) ?_
  all_goals
    have k5 := Hk5.out
    have kn := blk_set (i := 0) k5.1 (.int .i64 (n : Int))
    have kl := block_far k5.2 (p := ⟨w.heap.size, 0, none⟩) (by show w.heap.size + 1 ≠ w.heap.size; omega) (.int .i64 (n : Int))
    rw [show IntKind.i64.wrap (-m) = (n : Int) by rw [HM.out]; exact IntWalk.i64_in _ (by omega)]
    obtain ⟨W5, hW5⟩ : ∃ W5, (w4.setCell ⟨w.heap.size + 1, 0, none⟩ (.slice A4 1 c4)).setCell ⟨w.heap.size, 0, none⟩ (.int .i64 (n : Int)) = W5 := ⟨_, rfl⟩
    have hG0' : GBox W5 (w.heap.size + 2) w.heap.size (w.heap.size + 1) n (.slice A4 1 c4) [minusW] := by
      rw [← hW5]
      refine ⟨kn, kl, ?_, by omega, by omega, ?_⟩
      · exact ownsRow_setCell_below (ownsRow_setCell_below (own_eq hown4 rfl rfl) (a := ⟨w.heap.size + 1, 0, none⟩) (show w.heap.size + 1 < w.heap.size + 2 by omega) _) (a := ⟨w.heap.size, 0, none⟩) (show w.heap.size < w.heap.size + 2 by omega) _
      · have := hb4.size; simp only [World.size_setCell]; omega
    have hbW := hide (hbA.out.trans (show Below w.heap.size W2 W5 by rw [← hW5]; exact ((hb4.mono (by omega)).setCell (p := ⟨w.heap.size + 1, 0, none⟩) (show w.heap.size ≤ w.heap.size + 1 by omega) _).setCell (p := ⟨w.heap.size, 0, none⟩) (Nat.le_refl _) _))
    rw [hW5]
    have hG0 := hide hG0'
    clear hW5 hG0' kn kl k5 hown4 hg4 hb4 hbk z4 zz4 cc4 z5 c5'
    go_wp2_with (first
      | (go_at_call 122; (with_reducible refine (group1 hG3.out hL3 b2).mono ?_); rintro e w8 ⟨rfl, v4, hG4', hb4'⟩; rw [Hg.out] at hG4'; have hG4 := hide hG4'; have hb4 := hide hb4'; have own4 := hG4'.own; have y4 := cell_block hG4'.lb 0; obtain ⟨A8, c8, rfl⟩ := own_form own4; clear hG4' hb4')
      | (go_at_call 122; (with_reducible refine (group3 hG2.out hL2 b1).mono ?_); rintro e w7 ⟨rfl, v3, hG3', hb3'⟩; rw [HN2.out] at hG3'; have hL3 : ([minusW] ++ groupW (n / 1000000) [millionW] ++ groupW (n1 / 1000) [thousandW]).length ≤ 90 := (by simp only [List.length_append, List.length_nil, List.length_cons] at L1 L2 ⊢; omega); have hG3 := hide hG3'; have hb3 := hide hb3'; clear hG3' hb3')
      | (go_at_call 122; (with_reducible refine (group6 hG0.out (by simp) (by omega)).mono ?_); rintro e w6 ⟨rfl, v2, hG2', hb2'⟩; rw [HN1.out] at hG2'; have hL2 : ([minusW] ++ groupW (n / 1000000) [millionW]).length ≤ 90 := (by simp only [List.length_append, List.length_nil, List.length_cons] at L1 ⊢; omega); have hG2 := hide hG2'; have hb2 := hide hb2'; clear hG2' hb2')
      | fail)
    go_ret2
    exact ⟨_, rfl, own_more hG4.out.own (by omega), ((hbW.out.trans hb2.out).trans hb3.out).trans hb4.out⟩
set_option maxRecDepth 100000 in
set_option maxHeartbeats 1000000 in
theorem wordsNP (w : World) (n : Int) (h1 : -9223372036854775807 ≤ n) (h2 : n ≤ 9223372036854775807) : Calls Tryz.prog 106 #[.int .i64 n] w (WordsRet w (wordsI n)) := by
  unfold wordsI
  have hb1 := (Below.refl w.heap.size w).alloc (Nat.le_refl _) (.cells #[.int .i64 n] 3)
  by_cases hr : n < -999999999 ∨ 999999999 < n
  · rw [if_pos hr]
    rcases hr with hr | hr
    · have d1 : decide (n < -999999999) = true := decide_eq_true hr
      go_enter Tryz.func106, Tryz.ntmps106
      go_wp2
      go_ret2
      exact ⟨_, rfl, World.ownsRow_nil _ _ _ _, hb1⟩
    · have d1 : decide (n < -999999999) = false := decide_eq_false (by omega)
      have d2 : decide ((999999999 : Int) < n) = true := decide_eq_true hr
      go_enter Tryz.func106, Tryz.ntmps106
      go_wp2
      go_ret2
      exact ⟨_, rfl, World.ownsRow_nil _ _ _ _, hb1⟩
  · rw [if_neg hr]
    by_cases h0 : n < 0
    · rw [if_pos h0]
      exact wordsNeg w n n.natAbs (by omega) (by omega) (by omega)
    · rw [if_neg h0]
      by_cases hz : n = 0
      · subst hz
        have hown := own_lit (w.alloc (.cells #[.int .i64 0] 3)) w.heap.size 9 1 1 #[.string ⟨#[122, 101, 114, 111]⟩] (by simp) (by omega) rfl
        have hb2 := hb1.alloc (by simp) (.cells #[.string ⟨#[122, 101, 114, 111]⟩] 9)
        go_enter Tryz.func106, Tryz.ntmps106
        go_wp2
        go_ret2
        exact ⟨_, rfl, (by simp at hown; exact own_eq hown rfl rfl), hb2⟩
      · have := wordsPos w n.natAbs (by omega) (by omega)
        rw [show ((n.natAbs : Nat) : Int) = n by omega] at this
        exact this
end Go.Proofs.YtdkppdjonlldhaaGreatDoor

/- Numbers in words: numwords.values, numwords.Number, numwords.Prefix. -/
namespace Go.Proofs.YtdkppdjonlldhaaGreatDoor
open Go.RowKit Go.Maps

def valD : Nat → DataW Unit
  | 0 => .map []
  | k + 1 => if 20 < k then ((valD k).put (.string (vW k)) (.lit (.int .i64 (k : Int)))).put (.string (vW k)) (.lit (.int .i64 (10 * ((k : Int) - 18)))) else (valD k).put (.string (vW k)) (.lit (.int .i64 (k : Int)))
theorem valD_isMap : ∀ k, IsMap (valD k)
  | 0 => isMap_empty
  | k + 1 => by
    unfold valD
    split
    · exact ((valD_isMap k).put _ _).put _ _
    · exact (valD_isMap k).put _ _
theorem voc_apart : ∀ k, k < 28 → (vocL.take k).findIdx? (· == vW k) = none := by decide
theorem voc_take : ∀ k, k < 28 → vocL.take (k + 1) = vocL.take k ++ [vW k] := by decide
def valAt (k : Nat) (n : Wd) : Option Int := ((vocL.take k).findIdx? (· == n)).map valN
theorem valAt_succ {k : Nat} (hk : k < 28) (n : Wd) : valAt (k + 1) n = if n = vW k then some (valN k) else valAt k n := by
  unfold valAt
  rw [voc_take k hk, List.findIdx?_append]
  by_cases h : n = vW k
  · subst h
    rw [voc_apart k hk, if_pos rfl]
    have hl : (vocL.take k).length = k := by rw [List.length_take]; show min k 32 = k; omega
    simp [hl]
  · rw [if_neg h]
    have : ([vW k] : List Wd).findIdx? (· == n) = none := by
      rw [List.findIdx?_eq_none_iff]
      intro x hx
      simp at hx; subst hx
      simpa using fun e : vW k = n => h e.symm
    rw [this]
    cases (vocL.take k).findIdx? (· == n) <;> rfl
theorem valD_at (n : Wd) (z : DataW Unit) : ∀ k, k ≤ 28 → (valD k).atKey (.string n) z = (match valAt k n with | some v => .lit (.int .i64 v) | none => z) ∧ has (valD k) (.string n) = (valAt k n).isSome
  | 0, _ => ⟨rfl, rfl⟩
  | k + 1, hk => by
    obtain ⟨h1, h2⟩ := valD_at n z k (by omega)
    rw [valAt_succ (by omega)]
    unfold valD
    by_cases h : n = vW k
    · subst h
      rw [if_pos rfl]
      split
      · rename_i h20
        rw [atKey_put_same ((valD_isMap k).put _ _) (by trivial), has_put_same ((valD_isMap k).put _ _) (by trivial)]
        unfold valN; rw [if_pos h20]; exact ⟨rfl, rfl⟩
      · rename_i h20
        rw [atKey_put_same (valD_isMap k) (by trivial), has_put_same (valD_isMap k) (by trivial)]
        unfold valN; rw [if_neg h20]; exact ⟨rfl, rfl⟩
    · rw [if_neg h]
      have hne : Lit.string n ≠ Lit.string (vW k) := fun e => h (by simpa using e)
      split
      · rw [atKey_put_other hne, atKey_put_other hne, has_put_other hne, has_put_other hne]; exact ⟨h1, h2⟩
      · rw [atKey_put_other hne, has_put_other hne]; exact ⟨h1, h2⟩
theorem valAt_all (n : Wd) : valAt 28 n = valOf n := rfl
def ValsAt (w : World) (b n k : Nat) : Prop := w.ownsMap Tryz.prog 9 (plainElem (H := Unit) Tryz.prog 3) b n (valD k)
theorem map_ne_row {w : World} {P : Program} {t : TypeId} {R : Value → Option (DataW Unit × List MemPlace)} {b n : Nat} {D : DataW Unit} (h : w.ownsMap P t R b n D) {B : Nat} {e : TypeId} {sz m : Nat} {v : Value} {xs : List Value} (hr : w.ownsRow B e sz v m xs) : some b ≠ v.ownBlock := by
  obtain ⟨es, clock, h1, -⟩ := h
  rcases hr.2 with ⟨rfl, -⟩ | ⟨g, cap, cur, rfl, -, hh, -⟩
  · simp [Value.ownBlock]
  · simp only [Value.ownBlock, ne_eq, Option.some.injEq]
    rintro rfl
    rw [h1] at hh; cases hh
theorem skey (s : Wd) (h : s.length ≤ 1000000) : keyOf Tryz.prog 9 (.string ⟨s.toArray⟩) = some (.string s) := by
  have := WideMaps.keyOf_string_mk (P := Tryz.prog) (k := 9) Tryz.underlying9 (s := ⟨s.toArray⟩) (by unfold maxLen; show s.toArray.size ≤ _; simp; omega)
  simpa using this
theorem vW_len : ∀ i, i < 32 → (vW i).length ≤ 9 := by decide
def ValsRet (w : World) (e : Ending) (w' : World) : Prop := ∃ n, e = .returned (.map (some w.heap.size)) ∧ ValsAt w' w.heap.size n 28 ∧ Below w.heap.size w w'
set_option maxRecDepth 100000 in
set_option maxHeartbeats 2000000 in
theorem valuesP (w : World) : Calls Tryz.prog 112 #[] w (ValsRet w) := by
  have hmm := @run_makeMap Tryz.prog
  have HV := hide (fun w => vocP w)
  have hbW := (Below.refl w.heap.size w).alloc (Nat.le_refl _) (.map #[] 0)
  have hM0 : ValsAt (w.alloc (.map #[] 0)) w.heap.size 0 0 := World.ownsMap_made w _ _ _
  have HM0 := hide hM0
  clear hM0
  go_enter Tryz.func112, Tryz.ntmps112
  go_wp2_with (first
    | (go_at_call 50; refine (HV.out _).mono ?_; rintro e w1 ⟨g, c, rfl, hown, hb1⟩; have hcap : 32 ≤ c := (by rcases hown.2 with ⟨h, _⟩ | ⟨g', cap, cur, h, _, _, hnc, _⟩; (· cases h); (· cases h; exact hnc)))
    | fail)
  have hM1 : ValsAt w1 w.heap.size 0 0 := map_block HM0.out (hb1.block _ (by simp))
  have hb01 := hbW.trans (hb1.mono (by simp))
  have hg0 := (hown.lt g rfl).1
  simp only [World.size_alloc] at hg0
  have HM1 := hide hM1
  have Hown := hide hown
  clear hM1 hown hb1 HV hbW HM0
  go_loopw [8] (fun i wr => ∃ k n : Nat, k ≤ 28 ∧ i = .int .i64 k ∧ ValsAt wr w.heap.size n k ∧ n ≤ 2 * k ∧ wr.ownsRow (w.alloc (.map #[] 0)).heap.size 9 1 (.slice (some ⟨g, 0, none⟩) 32 c) 32 (vocL.map strV) ∧ Below w.heap.size w wr) (fun i _ => 28 - (intOf i).toNat)
  case atStart => exact ⟨0, 0, Nat.zero_le _, rfl, HM1.out, Nat.le_refl _, Hown.out, hb01⟩
  case round =>
    obtain ⟨k, n, hk, rfl, hM, hn, hown, hbr⟩ := hrel
    rename World => wo
    have HM := hide hM
    have HO := hide hown
    have HB := hide hbr
    have hsz := hbr.size
    clear HM1 Hown hb01 hM hbr
    by_cases hlt : k < 28
    · have hkI : (k : Int) < 28 := by omega
      have c0 := tab_cell hown (show k < 32 by omega)
      have Hkey := hide (skey (vW k) (by have := vW_len k (by omega); omega))
      have hwf : (Lit.int .i64 (k : Int)).wf = true := by go_wf
      have hwf2 : (Lit.int .i64 (10 * ((k : Int) - 18))).wf = true := by go_wf
      have Hwf := hide (And.intro hwf hwf2)
      clear hown hwf hwf2
      rw [show vocL.getD k [] = vW k from rfl] at c0
      obtain ⟨S, hS⟩ : ∃ S : ByteArray, (⟨(vW k).toArray⟩ : ByteArray) = S := ⟨_, rfl⟩
      rw [hS] at c0 Hkey
      clear hS
      by_cases h20 : 20 < k
      · have h20I : (20 : Int) < (k : Int) := by omega
        have Hd := hide (show valD (k + 1) = ((valD k).put (.string (vW k)) (.lit (.int .i64 (k : Int)))).put (.string (vW k)) (.lit (.int .i64 (10 * ((k : Int) - 18)))) by rw [valD, if_pos h20])
        go_wp2_with (first
          | (at_mapUpdate; (refine wpList_mapUpdate_own _ rfl _ _ _ 151 rfl 9 3 (string_keyed Tryz.underlying9) Tryz.underlying151 _ w.heap.size (n + 1) _ rfl HM3.out (by unfold maxLen; omega) _ _ _ rfl rfl Hkey.out _ [] (plainElem_int Tryz.underlying3 Hwf.out.2) ?_); intro w4 hown4 hg4; have HM4 := hide hown4; have HG4 := hide hg4; clear hown4 hg4)
          | (at_mapUpdate; refine wpList_mapUpdate_own _ rfl _ _ _ 151 rfl 9 3 (string_keyed Tryz.underlying9) Tryz.underlying151 _ w.heap.size n _ rfl HM.out (by unfold maxLen; omega) _ _ _ rfl rfl Hkey.out _ [] (plainElem_int Tryz.underlying3 Hwf.out.1) ?_; intro w3 hown3 hg3; have HM3 := hide hown3; have HG3 := hide hg3; clear hown3 hg3)
          | fail)
        go_roundw
        case rel =>
          have o3 := HO.out.kept HG3.out (.inr (Ne.symm (map_ne_row HM.out HO.out)))
          have o4 := o3.kept HG4.out (.inr (Ne.symm (map_ne_row HM3.out o3)))
          exact ⟨k + 1, n + 1 + 1, by omega, by go_num, by unfold ValsAt; rw [Hd.out]; exact HM4.out, by omega, o4, (HB.out.grown HG3.out hsz (fun j hj => by cases hj; exact Nat.le_refl _)).grown HG4.out (Nat.le_trans hsz HG3.out.size) (fun j hj => by cases hj; exact Nat.le_refl _)⟩
        case measure => simp [intOf]; omega
      · have h20I : ¬ (20 : Int) < (k : Int) := by omega
        have Hd := hide (show valD (k + 1) = (valD k).put (.string (vW k)) (.lit (.int .i64 (k : Int))) by rw [valD, if_neg h20])
        go_wp2_with (first
          | (at_mapUpdate; refine wpList_mapUpdate_own _ rfl _ _ _ 151 rfl 9 3 (string_keyed Tryz.underlying9) Tryz.underlying151 _ w.heap.size n _ rfl HM.out (by unfold maxLen; omega) _ _ _ rfl rfl Hkey.out _ [] (plainElem_int Tryz.underlying3 Hwf.out.1) ?_; intro w3 hown3 hg3; have HM3 := hide hown3; have HG3 := hide hg3; clear hown3 hg3)
          | fail)
        go_roundw
        case rel =>
          have o3 := HO.out.kept HG3.out (.inr (Ne.symm (map_ne_row HM.out HO.out)))
          exact ⟨k + 1, n + 1, by omega, by go_num, by unfold ValsAt; rw [Hd.out]; exact HM3.out, by omega, o3, HB.out.grown HG3.out hsz (fun j hj => by cases hj; exact Nat.le_refl _)⟩
        case measure => simp [intOf]; omega
    · obtain rfl : k = 28 := by omega
      go_wp2
      go_ret
      exact ⟨n, rfl, HM.out, HB.out⟩
end Go.Proofs.YtdkppdjonlldhaaGreatDoor
