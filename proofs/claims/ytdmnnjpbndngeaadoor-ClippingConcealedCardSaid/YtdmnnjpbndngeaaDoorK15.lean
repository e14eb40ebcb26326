/- Chapter 45: segment.Words. -/
import Derived.Test.YtdmnnjpbndngeaaDoorK14
namespace Go.Proofs.YtdmnnjpbndngeaaDoor
open Go.RowKit Go.Shelf
attribute [local go_sem] Oper.semAt_some

def spanV (p : Nat × Nat) : List Value := [.int .i64 p.1, .int .i64 p.2]
theorem el_span : ElemOf Tryd.prog 78 81 (.agg #[.int .i64 0, .int .i64 0]) 2 16 := ⟨Tryd.underlying78, by kernel_rfl, rfl, by omega, by omega⟩
theorem spans_length (ps : List (Nat × Nat)) : (ps.flatMap spanV).length = ps.length * 2 := flat_len (enc := spanV) (sz := 2) (fun _ => rfl) ps
/-- A span in a variable. -/
def SpBox (w : World) (b : Nat) (p : Nat × Nat) : Prop := w.heap[b]? = some (.cells #[.int .i64 p.1, .int .i64 p.2] 81 (0, 0))
theorem others_below {W W' : World} (h : Below W.heap.size W W') : KeepsOthers W W' := ⟨h.size, fun l _ ho _ => (h.block l (Array.getElem?_eq_some_iff.1 ho).1).trans ho⟩
theorem own_cells {W : World} {base : Nat} {e : TypeId} {sz n : Nat} {v : Value} {xs : List Value} (h : W.ownsRow base e sz v n xs) : ∀ (j : Nat) (o : Obj), v.ownBlock = some j → W.heap[j]? = some o → o.isCells = true := by
  intro j o hj ho
  rcases h.2 with ⟨rfl, _⟩ | ⟨g, cap, cur, rfl, _, hg, _⟩
  · simp [Value.ownBlock] at hj
  · obtain rfl : g = j := by simpa [Value.ownBlock] using hj
    rw [hg] at ho; cases ho; rfl

theorem spans_in (n : Nat) (a : Option Addr) (len cap : Nat) (f : Value) (w : World) :
    CallsIn Fence.wide n Tryd.prog 48 #[.slice a len cap, .func (.func 49) #[] #[f]] w fun e w' => e = .returned (.func (.func 61) #[] #[.pointer (some ⟨w.heap.size, 0, none⟩), .pointer (some ⟨w.heap.size + 1, 0, none⟩)]) ∧ w' = (w.alloc (.cells #[.slice a len cap] 61)).alloc (.cells #[.func (.func 49) #[] #[f]] 111) := by
  refine callsIn_of_wp Tryd.func48 rfl trivial ?_ rfl
  simp only [Tryd.ntmps48, List.size_toArray, List.length_cons, List.length_nil, Nat.reduceAdd, Nat.reduceSub, Array.replicate_succ, Array.replicate_zero, List.push_toArray, List.append_toArray, List.nil_append, List.cons_append]
  gi_wp2
  go_ret
  exact ⟨rfl, rfl⟩

abbrev SpIx (N : Nat) := Fin N × Nat
def SpIx.val {N : Nat} (x : SpIx N) : Nat × Nat := (x.1.val, x.2)
/-- The spans of words among those that have come. -/
def fltW {N : Nat} (L : List Gl) (pre : List (SpIx N)) : List (Nat × Nat) := (pre.map SpIx.val).filter fun p => decide (kindAt L p.1 ≠ 0)
theorem fltW_snoc {N : Nat} (L : List Gl) (pre : List (SpIx N)) (x : SpIx N) : fltW L (pre ++ [x]) = fltW L pre ++ (if kindAt L x.1.val = 0 then [] else [x.val]) := by
  unfold fltW
  rw [List.map_append, List.filter_append]
  congr 1
  by_cases h : kindAt L x.1.val = 0
  · rw [if_pos h]
    show [x.val].filter _ = []
    simp [SpIx.val, h]
  · rw [if_neg h]
    show [x.val].filter _ = [x.val]
    simp [SpIx.val, h]
theorem fltW_len {N : Nat} (L : List Gl) (pre : List (SpIx N)) : (fltW L pre).length ≤ pre.length := Nat.le_trans (List.length_filter_le _ _) (by simp)

theorem spans_stops (n : Nat) (hn : 1 ≤ n) (bl bt b1 b off N c n0 bo : Nat) (A : Option Addr) (hA : 0 < N → A = some ⟨b, off, none⟩) (L : List Gl) (hN : L.length = N) (hN1 : N ≤ 1000) (w : World)
    (hl : bl < n0 ∧ bl ≠ bo) (ht : bt < n0 ∧ bt ≠ bo) (h1 : b1 < n0 ∧ b1 ≠ bo) (hb : b < n0 ∧ b ≠ bo)
    (hcl : w.cell? ⟨bl, 0, none⟩ = some (.slice A N c)) (hct : w.cell? ⟨bt, 0, none⟩ = some (.func (.func 49) #[] #[.pointer (some ⟨b1, 0, none⟩)])) (hc1 : w.cell? ⟨b1, 0, none⟩ = some (.slice A N c))
    (hg : ∀ (k : Nat) g, L[k]? = some g → GlAt w b (off + k * 3) g) :
    SeqStopsK Fence.wide n Tryd.prog 61 #[.pointer (some ⟨bl, 0, none⟩), .pointer (some ⟨bt, 0, none⟩)] (fun x : SpIx N => encS x.val) (KpO n0 bo) (fun ys => ys.map SpIx.val = spansTo (kindAt L) N) (fun _ => True) (N + 1) w := fun l J Jx W1 hW1 hJ _ hY h0 => by
  have hk : KpO n0 bo w W1 := KpO.of_below hW1
  refine (spans1_in n hn l bl bt b1 b off N c n0 bo A hA L hN hN1 (fun pre W => ∃ ys : List (SpIx N), ys.map SpIx.val = pre ∧ J ys W) (fun pre W => ∃ ys : List (SpIx N), ys.map SpIx.val = pre ∧ Jx ys W) W1 (fun s W W' row ⟨ys, h1, h2⟩ hg hr => ⟨ys, h1, hJ ys W W' row h2 hg hr⟩) ?_ hl ht h1 hb
    (hk _ _ hl.1 hl.2 hcl) (hk _ _ ht.1 ht.2 hct) (hk _ _ h1.1 h1.2 hc1) (fun k g h => ⟨hk _ _ hb.1 hb.2 (hg k g h).1, hk _ _ hb.1 hb.2 (hg k g h).2.1, hk _ _ hb.1 hb.2 (hg k g h).2.2⟩) ⟨[], rfl, h0⟩).mono ?_
  · rintro pre x W2 ⟨ys, hys, hj⟩ hlen hx
    have := hY ys (⟨x.1, hx⟩, x.2) W2 hj (by rw [← hys] at hlen; simpa using hlen)
    refine YieldAt.mono this ?_
    rintro e W' (⟨he, hj2, hk2⟩ | ⟨he, hj2⟩)
    · exact .inl ⟨he, ⟨_, by rw [List.map_append, hys]; rfl, hj2⟩, hk2⟩
    · exact .inr ⟨he, _, by rw [List.map_append, hys]; rfl, hj2⟩
  · rintro e W' ⟨he, ⟨ys, hys, hj⟩ | ⟨pre, ys, hys, hj⟩⟩
    · exact ⟨he, .inl ⟨ys, hys, hj⟩⟩
    · exact ⟨he, .inr ⟨ys, trivial, hj⟩⟩

section
variable {F : Fence} {nF : Nat} {P : Program} {ops : Array Oper} {rest : List Oper} {o : Oper} {a : Act} {Q : Exit → Act → World → Prop}
/-- 's = append(s, x, ..)' inside a fence: s the call's own, the new elements just laid in a block of their own. -/
theorem wpListIn_app (W : World) (s x : Operand) (t : TypeId) (hgd : o.guard = none)
    (ho : o.op = .call { callee := .builtin .append, args := #[s, x], argTypes := #[t, t] })
    {e : TypeId} {z : Value} {size bytes : Nat} (hE : ElemOf P t e z size bytes) (base : Nat) (v : Value) (n : Nat) (xs : List Value) (hs : a.eval s = v) (hown : W.ownsRow base e size v n xs) (hbase : base ≤ W.heap.size)
    (news : Array Value) (m c : Nat) (e' : TypeId) (g : Nat) (hx : a.eval x = .slice (some ⟨g, 0, none⟩) m c) (hg : g = W.heap.size) (hl : news.size = m * size) (h1 : ∀ u ∈ news.toList, u.oneCell' = true) (hbytes : (n + m) * bytes ≤ 140737488355328)
    (h : ∀ v' w', w'.ownsRow base e size v' (n + m) (xs ++ news.toList) → W.grownBy w' v.ownBlock → wpListIn F nF P ops Q rest (a.put o.dst v') w') : wpListIn F nF P ops Q (o :: rest) a (W.alloc (.cells news e')) := by
  subst hg
  obtain ⟨i, hi, hz, hsz, hby⟩ := info_parts hE.info
  have h63 : n + m ≤ maxLen := by
    unfold maxLen
    have := Nat.le_mul_of_pos_right (n + m) hE.posb
    omega
  refine wpListIn_append_own (W.alloc (.cells news e')) hgd s x t ho base e i z size bytes hE.slice hi hz hsz hby hE.cells hE.pos v n xs hs (hown.alloc _) ⟨W.heap.size, 0, none⟩ m c news.toList hx (by simpa using hl) ?_ h1 h63 hbytes (by simp; omega) ?_
  · intro j u hj
    have hplain : (⟨W.heap.size, 0, none⟩ : Addr).add j = ⟨W.heap.size, j, none⟩ := by unfold Addr.add; split <;> simp_all
    rw [hplain, cell_block (block_new _ _), ← Array.getElem?_toList]
    exact hj
  · intro v' w' hown' hg _
    refine h v' w' hown' ⟨hg.os, hg.tape, hg.output, Nat.le_trans (by simp) hg.size, fun k hk hne => ?_⟩
    exact (hg.block k (by simp; omega) hne).trans (Below.heap_alloc W _ k hk)
end

set_option maxRecDepth 100000 in
set_option maxHeartbeats 2000000 in
theorem wordsP (w : World) (A : Option Addr) (c : Nat) (L : List Gl) (h : GlRow w w.heap.size A L) (hl : L.length ≤ 1000) :
    Calls Tryd.prog 27 #[.slice A L.length c] w fun e w' => ∃ v, e = .returned v ∧ w'.ownsRow w.heap.size 81 2 v (wordsTo (kindAt L) L.length).length ((wordsTo (kindAt L) L.length).flatMap spanV) ∧ Below w.heap.size w w' := by
  obtain ⟨N, hN⟩ : ∃ N, L.length = N := ⟨_, rfl⟩
  obtain ⟨b, off, hA, hb, hg⟩ : ∃ b off, (0 < N → A = some ⟨b, off, none⟩) ∧ b ≤ w.heap.size ∧ ∀ (k : Nat) g, L[k]? = some g → GlAt w b (off + k * 3) g := by
    rcases Nat.eq_zero_or_pos N with h0 | h0
    · refine ⟨0, 0, fun h => by omega, Nat.zero_le _, fun k g hk => ?_⟩
      have := (List.getElem?_eq_some_iff.1 hk).1
      omega
    · obtain ⟨b, off, h1, h2, h3⟩ := h (by omega)
      exact ⟨b, off, fun _ => h1, by omega, h3⟩
  rw [hN] at hl ⊢
  clear h
  refine (callsIn_wide (n := 9)).1 ?_
  refine callsIn_of_wp_marks Tryd.func27 rfl trivial ?_ rfl
  simp only [Tryd.ntmps27, List.size_toArray, List.length_cons, List.length_nil, Nat.reduceAdd, Nat.reduceSub, Array.replicate_succ, Array.replicate_zero, List.push_toArray, List.append_toArray, List.nil_append, List.cons_append]
  gi_wp2_with (first
    | (refine ⟨trivial, ?_⟩; gi_at_call 48; refine (spans_in _ _ _ _ _ _).mono ?_; rintro e w' ⟨rfl, rfl⟩))
  obtain ⟨w1, hw1⟩ : ∃ w1, w.alloc (.cells #[.slice A N c] 61) = w1 := ⟨_, rfl⟩
  have e1 : Boxed w1 w.heap.size 61 (.slice A N c) := by rw [← hw1]; exact Boxed.new w _ _
  have hs1 : w1.heap.size = w.heap.size + 1 := by rw [← hw1]; simp
  have hB1 : Below w.heap.size w w1 := by rw [← hw1]; exact (Below.refl _ w).alloc (Nat.le_refl _) _
  rw [hw1]
  obtain ⟨w2, hw2⟩ : ∃ w2, w1.alloc (.cells #[.slice none 0 0] 78) = w2 := ⟨_, rfl⟩
  have e2 : Boxed w2 w1.heap.size 78 (.slice none 0 0) := by rw [← hw2]; exact Boxed.new w1 _ _
  have e1' : Boxed w2 w.heap.size 61 (.slice A N c) := by rw [← hw2]; exact e1.alloc _
  have hs2 : w2.heap.size = w.heap.size + 1 + 1 := by rw [← hw2]; simp [hs1]
  have hB2 : Below w.heap.size w w2 := by rw [← hw2]; exact hB1.alloc hB1.size _
  rw [hw2]
  obtain ⟨w3, hw3⟩ : ∃ w3, w2.alloc (.cells #[.slice A N c] 61) = w3 := ⟨_, rfl⟩
  have e3 : Boxed w3 w2.heap.size 61 (.slice A N c) := by rw [← hw3]; exact Boxed.new w2 _ _
  have e2' : Boxed w3 w1.heap.size 78 (.slice none 0 0) := by rw [← hw3]; exact e2.alloc _
  have e1x : Boxed w3 w.heap.size 61 (.slice A N c) := by rw [← hw3]; exact e1'.alloc _
  have hs3 : w3.heap.size = w.heap.size + 1 + 1 + 1 := by rw [← hw3]; simp [hs2]
  have hB3 : Below w.heap.size w w3 := by rw [← hw3]; exact hB2.alloc hB2.size _
  rw [hw3]
  obtain ⟨W0, hW0⟩ : ∃ W0, w3.alloc (.cells #[.func (.func 49) #[] #[.pointer (some ⟨w.heap.size, 0, none⟩)]] 111) = W0 := ⟨_, rfl⟩
  have e4 : Boxed W0 w3.heap.size 111 (.func (.func 49) #[] #[.pointer (some ⟨w.heap.size, 0, none⟩)]) := by rw [← hW0]; exact Boxed.new w3 _ _
  have e3' : Boxed W0 w2.heap.size 61 (.slice A N c) := by rw [← hW0]; exact e3.alloc _
  have e2'' : Boxed W0 w1.heap.size 78 (.slice none 0 0) := by rw [← hW0]; exact e2'.alloc _
  have e1y : Boxed W0 w.heap.size 61 (.slice A N c) := by rw [← hW0]; exact e1x.alloc _
  have hs4 : W0.heap.size = w.heap.size + 1 + 1 + 1 + 1 := by rw [← hW0]; simp [hs3]
  have hB4 : Below w.heap.size w W0 := by rw [← hW0]; exact hB3.alloc hB3.size _
  rw [hW0]
  have hb2 : b < W0.heap.size ∧ b ≠ w1.heap.size := by omega
  have hg0 : ∀ (k : Nat) g, L[k]? = some g → GlAt W0 b (off + k * 3) g := fun k g hk => by
    have hbl : b < w.heap.size := World.block_lt_of_cell? w ⟨b, off + k * 3, none⟩ (hg k g hk).1
    exact ⟨(hB4.cell (p := ⟨b, _, none⟩) hbl).trans (hg k g hk).1, (hB4.cell (p := ⟨b, _, none⟩) hbl).trans (hg k g hk).2.1, (hB4.cell (p := ⟨b, _, none⟩) hbl).trans (hg k g hk).2.2⟩
  have Hg0 := hide hg0
  have p1e : w.heap.size + 1 = w1.heap.size := hs1.symm
  have p2e : w.heap.size + 1 + 1 = w2.heap.size := hs2.symm
  have p3e : w.heap.size + 1 + 1 + 1 = w3.heap.size := hs3.symm
  rw [p3e, p2e, p1e]
  have Hg := hide hg
  have q1 : w.heap.size < w1.heap.size := by omega
  have q2 : w1.heap.size < w2.heap.size := by omega
  have q3 : w2.heap.size < w3.heap.size := by omega
  have q4 : w3.heap.size < W0.heap.size := by omega
  clear hw1 hw2 hw3 hW0 e1 e1' e1x e2 e2' e3 hg p1e p2e p3e hs1 hs2 hs3 hs4
  refine wpIn_rangeFunc_ownH rfl (by omega) (gf := 61) (lb := #[.pointer (some ⟨w2.heap.size, 0, none⟩), .pointer (some ⟨w3.heap.size, 0, none⟩)]) rfl trivial (enters_of Tryd.func61 (by kernel_rfl) rfl)
    (spans_stops _ (by omega) w2.heap.size w3.heap.size w.heap.size b off N c W0.heap.size w1.heap.size A hA L hN hl W0 (by omega) (by omega) (by omega) hb2 e3'.cell e4.cell e1y.cell hg0) KpO.t (fun W l o o' _ h2 h3 _ => KpO.b W l o o' h2 h3) (Below.refl _ _) (fun _ => rfl)
    (fun pre W' => (∃ vv, Boxed W' w1.heap.size 78 vv ∧ W'.ownsRow W0.heap.size 81 2 vv (fltW L pre).length ((fltW L pre).flatMap spanV) ∧ True) ∧ Below w1.heap.size W0 W')
    (fun _ _ _ => False)
    (OwnFrom.and (Own.from (holdsRow_own W0.heap.size w1.heap.size 78 81 2 (fun (pre : List (SpIx N)) => (fltW L pre).length) (fun pre => (fltW L pre).flatMap spanV) (fun _ _ => True)) _) (ownFrom_below (by omega) (by omega)))
    (fun _ _ _ _ _ hs _ _ => hs)
    ⟨⟨_, e2'', World.ownsRow_nil _ _ _ _, trivial⟩, Below.refl _ _⟩
    (fun x a' W => ∃ Bx, W0.heap.size ≤ Bx ∧ SpBox W Bx x.val ∧ a' = { tmps := #[.slice A N c, .pointer (some ⟨w.heap.size, 0, none⟩), .slice none 0 0, .pointer (some ⟨w1.heap.size, 0, none⟩), .pointer (some ⟨Bx, 0, none⟩), .slice A N c, .func (.func 49) #[] #[.pointer (some ⟨w.heap.size, 0, none⟩)], .func (.func 61) #[] #[.pointer (some ⟨w2.heap.size, 0, none⟩), .pointer (some ⟨w3.heap.size, 0, none⟩)], .agg #[.int .i64 x.1.val, .int .i64 x.2], undef, undef, undef, undef, undef, undef, undef, undef, undef, undef, undef, undef], defers := [] })
    (fun x a' _ W W' row ⟨Bx, h1, h2, h3⟩ hg hr => ⟨Bx, h1, (hg.block Bx (block_lt h2) (fun e => by
      obtain ⟨-, o, ho, hc⟩ := hr Bx e.symm
      rw [h2] at ho; cases ho; cases hc)).trans h2, h3⟩) ?assign ?body ?done ?stop
  case assign =>
    rintro l pre x W K ⟨⟨vv, hbx, hown, -⟩, hB⟩ hK
    unfold encS
    simp only [List.zip_toArray, List.zip_cons_cons, List.zip_nil_right, List.foldl_toArray', List.foldl_cons, List.foldl_nil, List.setIfInBounds_toArray, List.set_cons_zero, List.set_cons_succ, SpIx.val]
    gi_wp2
    exact hK _ _ ((KeepsOthers.alloc _ _).from _) (KpO.of_below ((Below.refl _ W).alloc (Nat.le_refl _) _)) ⟨⟨vv, hbx.alloc _, hown.alloc _, trivial⟩, hB.alloc (by have := hB.size; omega) _⟩ ⟨W.heap.size, hB.size, block_new _ _, rfl⟩
  case body =>
    rintro l pre x a' W1 hl2 ⟨r, hr⟩ ⟨⟨vv, hbx, hown, -⟩, hB⟩ ⟨Bx, hBx, bX, rfl⟩ hlt
    obtain ⟨⟨p1, hp1⟩, p2⟩ := x
    have hms := hB.size
    have hA1 := hA (by omega)
    have c1 := (hB.cell (p := ⟨w.heap.size, 0, none⟩) q1).trans e1y.cell
    have c5 := hbx.cell
    have f5 := hbx.frozen
    have s0 : W1.cell? ⟨Bx, 0, none⟩ = some (.int .i64 p1) := cell_block bX 0
    have s1 : W1.cell? ⟨Bx, 1, none⟩ = some (.int .i64 p2) := cell_block bX 1
    have hpl : p1 < L.length := by omega
    have hbl : b < w1.heap.size := by
      have := World.block_lt_of_cell? w ⟨b, off + p1 * 3, none⟩ (Hg.out p1 _ (List.getElem?_eq_getElem hpl)).1
      exact Nat.lt_trans this q1
    obtain ⟨g0, g1, g2⟩ := Hg0.out p1 _ (List.getElem?_eq_getElem hpl)
    replace g0 := (hB.cell (p := ⟨b, _, none⟩) hbl).trans g0
    replace g1 := (hB.cell (p := ⟨b, _, none⟩) hbl).trans g1
    replace g2 := (hB.cell (p := ⟨b, _, none⟩) hbl).trans g2
    have hkd := kindAt_get hpl
    have hsn := fltW_snoc L pre (⟨p1, hp1⟩, p2)
    dsimp only at hsn
    obtain ⟨⟨gt, gw, gs⟩, hx⟩ : ∃ g, L[p1] = g := ⟨_, rfl⟩
    rw [hx] at g0 g1 g2 hkd
    dsimp only at g0 g1 g2 hkd
    clear hx
    have HKd := hide (fun W => kindP W ⟨gt, gw, gs⟩)
    unfold Gl.val at HKd
    dsimp only at HKd
    rw [← hkd] at HKd
    obtain ⟨K, hK⟩ : ∃ K, kindAt L p1 = K := ⟨_, rfl⟩
    rw [hK] at HKd hsn
    have Hsn := hide hsn
    have hpI : (p1 : Int) < (N : Int) := by omega
    have hpre := fltW_len L pre
    have hlenP : (fltW L pre).length ≤ 1001 := by omega
    subst hA1
    obtain ⟨PL, hPL⟩ : ∃ PL, fltW L pre = PL := ⟨_, rfl⟩
    rw [hPL] at hown hlenP Hsn
    obtain ⟨pl, hpl2⟩ : ∃ pl, PL.length = pl := ⟨_, rfl⟩
    have Hpl2 := hide hpl2
    rw [hpl2] at hown hlenP
    clear hkd hsn hK hpre hPL hpl2 hpl hr
    rcases Nat.eq_zero_or_pos K with hz | hz
    · have HZ := hide hz
      have hq : ((K : Int) != 0) = false := by rw [hz]; rfl
      clear hz
      gi_wp2_with (first
        | (refine ⟨trivial, ?_⟩; gi_at_call 50; refine (CallsIn.inRound l (callsIn_wide.2 (HKd.out _))).mono ?_; rintro e w5 ⟨rfl, hb5⟩)
        | fail)
      have hBw : Below w1.heap.size W1 w5 := hb5.mono (by omega)
      refine ⟨(others_below hb5).from _, KpO.of_below hb5, ⟨vv, (hb5.block _ hbx.lt).trans hbx, own_eq (own_below hown hb5 (Nat.le_refl _)) ?_ ?_, trivial⟩, hB.trans hBw⟩
      · rw [Hsn.out, if_pos HZ.out, List.append_nil, Hpl2.out]
      · rw [Hsn.out, if_pos HZ.out, List.append_nil]
    · have HZ := hide hz
      have hq : ((K : Int) != 0) = true := by rw [bne_iff_ne]; omega
      clear hz
      gi_wp2_with (first
        | (refine ⟨trivial, ?_⟩; gi_at_call 50; refine (CallsIn.inRound l (callsIn_wide.2 (HKd.out _))).mono ?_; rintro e w5 ⟨rfl, hb5⟩; have c5' := (hb5.cell (p := ⟨w1.heap.size, 0, none⟩) hbx.lt).trans c5; have f5' := (hb5.frozen (p := ⟨w1.heap.size, 0, none⟩) hbx.lt).trans f5; have s0' := (hb5.cell (p := ⟨Bx, 0, none⟩) (block_lt bX)).trans s0; have s1' := (hb5.cell (p := ⟨Bx, 1, none⟩) (block_lt bX)).trans s1; have hown5 := own_below hown hb5 (Nat.le_refl _); have hbx5 : Boxed w5 w1.heap.size 78 vv := (hb5.block _ hbx.lt).trans hbx; have hs5 := hb5.size)
        | (gi_at_builtin; refine wpListIn_app w5 (.tmp 16) (.tmp 18) 78 rfl rfl el_span W0.heap.size vv pl _ (by rfl) hown5 (by omega) _ 1 1 _ _ (by rfl) rfl rfl (by simp [Value.oneCell']) (by omega) ?_; intro v6 w6 hown6 hg6; obtain ⟨A6, cc6, rfl⟩ := own_form hown6; have hbx6 : Boxed w6 w1.heap.size 78 vv := hbx5.kept hg6 (hbx5.not_row (by decide) hown5); have c6 := hbx6.cell; have f6 := hbx6.frozen)
        | fail)
      have hBw : Below w1.heap.size W1 w5 := hb5.mono (by omega)
      have hB6 : Below w1.heap.size W0 w6 := (hB.trans hBw).grown hg6 (by omega) (fun k hk => Nat.le_trans (by omega) (hown5.lt k hk).1)
      have hown7 : (w6.setCell ⟨w1.heap.size, 0, none⟩ (.slice A6 (pl + 1) cc6)).ownsRow W0.heap.size 81 2 (.slice A6 (pl + 1) cc6) (fltW L (pre ++ [(⟨p1, hp1⟩, p2)])).length ((fltW L (pre ++ [(⟨p1, hp1⟩, p2)])).flatMap spanV) :=
        own_eq (ownsRow_setCell_below hown6 (a := ⟨w1.heap.size, 0, none⟩) (show w1.heap.size < W0.heap.size by omega) _) (by rw [Hsn.out, if_neg (by have := HZ.out; omega), List.length_append, Hpl2.out]; rfl) (by rw [Hsn.out, if_neg (by have := HZ.out; omega), List.flatMap_append]; rfl)
      refine ⟨(((others_below hb5).trans (KeepsOthers.of_grownBy hg6 (own_cells hown5))).trans (KeepsOthers.setCell _ _ _)).from _, ?_, (by first | exact ⟨_, hbx6.set _, hown7, trivial⟩ | exact ⟨_, hbx6.set _, hown7⟩), hB6.setCell (p := ⟨w1.heap.size, 0, none⟩) (Nat.le_refl _) _⟩
      intro p v h1 h2 h3
      have h4 := (hb5.cell (World.block_lt_of_cell? W1 p h3)).trans h3
      have h5 := (World.cell?_of_block (hg6.block p.block (World.block_lt_of_cell? w5 p h4) (fun e => by have := (hown5.lt _ e.symm).1; omega))).trans h4
      have hne : (⟨w1.heap.size, 0, none⟩ : Addr) ≠ p := fun e => h2 (by rw [← e])
      exact (World.cell?_setCell_other w6 _ _ _ hne).trans h5
  case done =>
    rintro D ys W1 hD hys ⟨⟨vv, hbx, hown, -⟩, hB⟩ hK
    have c5 := hbx.cell
    gi_wp2
    refine ⟨by simp, .inl ⟨_, _, rfl, run_takeDeferred hK, ?_⟩⟩
    have hf : fltW L ys = wordsTo (kindAt L) N := by unfold fltW; rw [hys, words_filter]
    refine ⟨_, results_tmp rfl _ _ _, vv, rfl, ?_, (hB4.trans (hB.mono (by omega))).trans (belowK_b (w := w) (Nat.le_refl _) W1 D _ _ (by omega) hK rfl rfl)⟩
    rw [← hf]
    exact ownsRow_putObj (own_more hown (by omega)) _ hK rfl
  case stop =>
    rintro D c pre W _ _ h _
    exact h.elim
end Go.Proofs.YtdmnnjpbndngeaaDoor
