/- Tables: tables.columns. -/
import Derived.Test.YtmgepckhdgoemaaDoorRound
import Derived.Test.YtmgepckhdgoemaaDoorT8
import Derived.Deep.AppendLies
namespace Go.Proofs.YtmgepckhdgoemaaDoor
open Go.RowKit Go.Shelf
attribute [local go_sem] Oper.semAt_some

structure Rg where
  kind : Int
  id : Int
  parent : Int
  top : Int
  left : Int
  bottom : Int
  right : Int
  label : ByteArray
def Rg.enc (r : Rg) : List Value := [.int .i64 r.kind, .int .i64 r.id, .int .i64 r.parent, .int .i64 r.top, .int .i64 r.left, .int .i64 r.bottom, .int .i64 r.right, .string r.label]
def Rg.val (r : Rg) : Value := .agg #[.int .i64 r.kind, .int .i64 r.id, .int .i64 r.parent, .int .i64 r.top, .int .i64 r.left, .int .i64 r.bottom, .int .i64 r.right, .string r.label]
theorem el_region : ElemOf Tryd.prog 30 33 (.agg #[.int .i64 0, .int .i64 0, .int .i64 0, .int .i64 0, .int .i64 0, .int .i64 0, .int .i64 0, .string ⟨#[]⟩]) 8 72 := ⟨Tryd.underlying30, by kernel_rfl, rfl, by omega, by omega⟩

/-- The column of a range of rows between two columns of cells. -/
def colR (rows : List (List Gl)) (t b : Nat) (p : Nat × Nat) : Rg := ⟨4, 0, -1, t, p.1, b, p.2, cellOf (rows[t]?.getD []) p.1 p.2⟩
def colsR (rows : List (List Gl)) (W t b : Nat) : List Rg := (partsTo (gut rows t b) W).map (colR rows t b)

theorem step_app_rg {ops : Array Oper} {o : Oper} {a : Act} {K : Act → World → Prop} {Q : Exit → Act → World → Prop} {E : Prop} (W : World) (s x : Operand) (hgd : o.guard = none)
    (ho : o.op = .call { callee := .builtin .append, args := #[s, x], argTypes := #[30, 30] }) (base : Nat) (v : Value) (n : Nat) (xs : List Value) (hs : a.eval s = v)
    (hown : W.ownsRow base 33 8 v n xs) (hbase : base ≤ W.heap.size) (hn : n ≤ 1000) (r : Rg) (hx : a.eval x = .slice (some ⟨W.heap.size, 0, none⟩) 1 1)
    (h : ∀ g cap w', w'.ownsRow base 33 8 (.slice (some ⟨g, 0, none⟩) (n + 1) cap) (n + 1) (xs ++ r.enc) → (W.alloc (.cells r.enc.toArray 33)).grownBy w' v.ownBlock → K (a.put o.dst (.slice (some ⟨g, 0, none⟩) (n + 1) cap)) w') :
    if Region.wanted o (yielded ops a.tmps) = true then Oper.wp Tryd.prog o a (W.alloc (.cells r.enc.toArray 33)) K Q else E := by
  obtain ⟨ti, hti, htz, htsz, htby⟩ := info_parts el_region.info
  refine step_append_lies _ hgd s x 30 ho base 33 ti _ 8 72 Tryd.underlying30 hti htz htsz htby rfl (by omega) v n xs hs (hown.alloc _) _ 1 1 r.enc hx rfl
    (World.news_of_block (block_new W _)) (by simp [Rg.enc, Value.oneCell']) (by omega) (by unfold maxLen; omega) (by omega) (by simp; omega) _ rfl ?_
  intro g cap w' h1 h2 _ _
  exact h g cap w' h1 h2
theorem own_cells {W : World} {base : Nat} {e : TypeId} {sz n : Nat} {v : Value} {xs : List Value} (h : W.ownsRow base e sz v n xs) : ∀ (j : Nat) (o : Obj), v.ownBlock = some j → W.heap[j]? = some o → o.isCells = true := by
  intro j o hj ho
  rcases h.2 with ⟨rfl, _⟩ | ⟨g, cap, cur, rfl, _, hg, _⟩
  · simp [Value.ownBlock] at hj
  · obtain rfl : g = j := by simpa [Value.ownBlock] using hj
    rw [hg] at ho; cases ho; rfl
theorem others_below {W W' : World} (h : Below W.heap.size W W') : KeepsOthers W W' := ⟨h.size, fun l _ ho _ => (h.block l (Array.getElem?_eq_some_iff.1 ho).1).trans ho⟩

set_option maxRecDepth 100000 in
set_option maxHeartbeats 4000000 in
theorem columnsP (w : World) (A : Option Addr) (c : Nat) (v : Vw) (W t b : Nat) (r : Rg) (h : Rows2 w w.heap.size A v.rows) (ht : v.Tame) (hW : v.width = W) (hW1 : 1 ≤ W) (hW2 : W ≤ 200) (htb : t < b) (hb : b ≤ v.rows.length) (hc : v.rows.length ≤ c)
    (hw : ∀ r ∈ v.rows, widthOf r ≤ W) (hr1 : r.top = t) (hr2 : r.bottom = b) :
    Calls Tryd.prog 20 #[v.val A c, r.val] w fun e w' => ∃ vv, e = .returned vv ∧ w'.ownsRow w.heap.size 33 8 vv (colsR v.rows W t b).length ((colsR v.rows W t b).flatMap Rg.enc) ∧ Below w.heap.size w w' := by
  obtain ⟨rk, ri, rp, rt, rl, rb, rr, rlb⟩ := r
  dsimp only at hr1 hr2
  subst hr1 hr2
  have hG := hide (fun (w1 : World) (hb1 : Below w.heap.size w w1) => guttersP w1 A c v W t b ((h.below hb1).more hb1.size) ht hW hW1 hW2 htb hb hc hw)
  have HH := hide h
  have HTame := hide ht.2
  have hlen := ht.1
  clear h hw ht
  obtain ⟨width, height, rows, row, col, vis⟩ := v
  dsimp only at HH HTame hlen hW hb hc hG ⊢
  subst hW
  unfold Vw.val at hG ⊢
  unfold Rg.val
  dsimp only at hG ⊢
  have hB0 := (((Below.refl w.heap.size w).alloc (Nat.le_refl _) (.cells #[.int .i64 W, .int .i64 height, .slice A rows.length c, .int .i64 row, .int .i64 col, .bool vis] 24)).alloc (by simp) (.cells #[.int .i64 rk, .int .i64 ri, .int .i64 rp, .int .i64 t, .int .i64 rl, .int .i64 b, .int .i64 rr, .string rlb] 33)).alloc (by simp; omega) (.cells #[.slice none 0 0] 30)
  have hG1 := hide (hG.out _ hB0)
  clear hG
  refine (callsIn_wide (n := 9)).1 ?_
  refine callsIn_of_wp_marks Tryd.func20 rfl trivial ?_ rfl
  simp only [Tryd.ntmps20, List.size_toArray, List.length_cons, List.length_nil, Nat.reduceAdd, Nat.reduceSub, Array.replicate_succ, Array.replicate_zero, List.push_toArray, List.append_toArray, List.nil_append, List.cons_append]
  gi_wp2_with (first
    | (refine ⟨trivial, ?_⟩; gi_at_call 50; refine (callsIn_wide.2 hG1.out).mono ?_; rintro e w2 ⟨g, cap, rfl, hown2, hb2⟩)
    | (refine ⟨trivial, ?_⟩; gi_at_call 51; refine (parts_in Fence.wide _ trivial rfl _ _ _ _).mono ?_; rintro e w' ⟨rfl, rfl⟩))
  obtain ⟨w1, hw1⟩ : ∃ w1, ((w.alloc (.cells #[.int .i64 W, .int .i64 height, .slice A rows.length c, .int .i64 row, .int .i64 col, .bool vis] 24)).alloc (.cells #[.int .i64 rk, .int .i64 ri, .int .i64 rp, .int .i64 t, .int .i64 rl, .int .i64 b, .int .i64 rr, .string rlb] 33)).alloc (.cells #[.slice none 0 0] 30) = w1 := ⟨_, rfl⟩
  have hs1 : w1.heap.size = w.heap.size + 1 + 1 + 1 := by rw [← hw1]; simp
  have v2 : w1.cell? ⟨w.heap.size, 2, none⟩ = some (.slice A rows.length c) := by
    rw [← hw1]
    exact (cell_block (block_alloc (block_alloc (block_new _ _) _) _) 2)
  have r3 : w1.cell? ⟨w.heap.size + 1, 3, none⟩ = some (.int .i64 t) := by
    rw [← hw1]
    have := block_alloc (block_new (w.alloc (.cells #[.int .i64 W, .int .i64 height, .slice A rows.length c, .int .i64 row, .int .i64 col, .bool vis] 24)) (.cells #[.int .i64 rk, .int .i64 ri, .int .i64 rp, .int .i64 t, .int .i64 rl, .int .i64 b, .int .i64 rr, .string rlb] 33)) (.cells #[.slice none 0 0] 30)
    rw [World.size_alloc] at this
    exact cell_block this 3
  have r5 : w1.cell? ⟨w.heap.size + 1, 5, none⟩ = some (.int .i64 b) := by
    rw [← hw1]
    have := block_alloc (block_new (w.alloc (.cells #[.int .i64 W, .int .i64 height, .slice A rows.length c, .int .i64 row, .int .i64 col, .bool vis] 24)) (.cells #[.int .i64 rk, .int .i64 ri, .int .i64 rp, .int .i64 t, .int .i64 rl, .int .i64 b, .int .i64 rr, .string rlb] 33)) (.cells #[.slice none 0 0] 30)
    rw [World.size_alloc] at this
    exact cell_block this 5
  have bx : Boxed w1 (w.heap.size + 1 + 1) 30 (.slice none 0 0) := by
    rw [← hw1]
    have := Boxed.new ((w.alloc (.cells #[.int .i64 W, .int .i64 height, .slice A rows.length c, .int .i64 row, .int .i64 col, .bool vis] 24)).alloc (.cells #[.int .i64 rk, .int .i64 ri, .int .i64 rp, .int .i64 t, .int .i64 rl, .int .i64 b, .int .i64 rr, .string rlb] 33)) 30 (.slice none 0 0)
    simpa using this
  rw [hw1] at hb2 hown2 hB0
  clear hw1 hG1
  have hgw := (hown2.lt g rfl)
  obtain ⟨w3, hw3⟩ : ∃ w3, w2.alloc (.cells #[.slice (some ⟨g, 0, none⟩) W cap] 85) = w3 := ⟨_, rfl⟩
  have hs3 : w3.heap.size = w2.heap.size + 1 := by rw [← hw3]; simp
  have hb3 : Below w1.heap.size w1 w3 := by rw [← hw3]; exact hb2.alloc hb2.size _
  have hbox3 := box_new w2 (.slice (some ⟨g, 0, none⟩) W cap) 85
  have hown3 := hown2.alloc (.cells #[.slice (some ⟨g, 0, none⟩) W cap] 85)
  rw [hw3] at hbox3 hown3 ⊢
  have hs2 := hb2.size
  clear hw3 hown2
  have hc3 : ∀ j, j < W → w3.cell? ⟨g, j, none⟩ = some (.bool (gut rows t b j)) := fun j hj => by rw [hown3.cellAt j (by omega), bits_get W _ hj]
  replace v2 := (hb3.cell (p := ⟨w.heap.size, 2, none⟩) (by rw [hs1]; show w.heap.size < _; omega)).trans v2
  replace r3 := (hb3.cell (p := ⟨w.heap.size + 1, 3, none⟩) (by rw [hs1]; show w.heap.size + 1 < _; omega)).trans r3
  replace r5 := (hb3.cell (p := ⟨w.heap.size + 1, 5, none⟩) (by rw [hs1]; show w.heap.size + 1 < _; omega)).trans r5
  replace bx : Boxed w3 (w.heap.size + 1 + 1) 30 (.slice none 0 0) := (hb3.block _ (by rw [hs1]; omega)).trans bx
  have hB3 : Below w.heap.size w w3 := hB0.trans (hb3.mono (by rw [hs1]; omega))
  clear hown3 hb2 hb3 hB0
  refine wpIn_rangeFunc_ownF rfl (by omega) (gf := 68) (lb := #[.pointer (some ⟨w2.heap.size, 0, none⟩)]) rfl trivial (enters_of Tryd.func68 (by kernel_rfl) rfl)
    (parts_stops Fence.wide _ trivial rfl (by omega) w2.heap.size g W cap (gut rows t b) (by omega) _ (by omega) (by omega) hbox3.1 hc3) KpG.t (KpG.b (by omega)) (Below.refl _ _) (fun _ => rfl)
    (fun pre W' => (∃ vv, Boxed W' (w.heap.size + 1 + 1) 30 vv ∧ W'.ownsRow w3.heap.size 33 8 vv pre.length ((pre.map (colR rows t b)).flatMap Rg.enc) ∧ True) ∧ Below (w.heap.size + 1 + 1) w3 W')
    (fun _ _ _ => False)
    (OwnFrom.and (Own.from (holdsRow_own w3.heap.size (w.heap.size + 1 + 1) 30 33 8 (fun (pre : List (Nat × Nat)) => pre.length) (fun pre => (pre.map (colR rows t b)).flatMap Rg.enc) (fun _ _ => True)) _) (ownFrom_below (by omega) (by omega)))
    (fun _ _ _ _ _ hs _ _ => hs)
    ⟨⟨_, bx, World.ownsRow_nil _ _ _ _, trivial⟩, Below.refl _ _⟩
    (fun x => { tmps := #[.agg #[.int .i64 W, .int .i64 height, .slice A rows.length c, .int .i64 row, .int .i64 col, .bool vis], .agg #[.int .i64 rk, .int .i64 ri, .int .i64 rp, .int .i64 t, .int .i64 rl, .int .i64 b, .int .i64 rr, .string rlb], .pointer (some ⟨w.heap.size, 0, none⟩), .pointer (some ⟨w.heap.size + 1, 0, none⟩), .slice none 0 0, .pointer (some ⟨w.heap.size + 1 + 1, 0, none⟩), .int .i64 x.1, .int .i64 x.2, .agg #[.int .i64 W, .int .i64 height, .slice A rows.length c, .int .i64 row, .int .i64 col, .bool vis], .pointer (some ⟨w.heap.size + 1, 3, none⟩), .int .i64 t, .pointer (some ⟨w.heap.size + 1, 5, none⟩), .int .i64 b, .slice (some ⟨g, 0, none⟩) W cap, .func (.func 68) #[] #[.pointer (some ⟨w2.heap.size, 0, none⟩)], .int .i64 x.1, .int .i64 x.2, undef, undef, undef, undef, undef, undef, undef, undef, undef, undef, undef, undef, undef, undef, undef, undef, undef, undef, undef, undef], defers := [] }) ?assign ?body ?done ?stop
  case assign =>
    intro l x W1 K hK
    unfold encP
    simp only [List.zip_toArray, List.zip_cons_cons, List.zip_nil_right, List.foldl_toArray', List.foldl_cons, List.foldl_nil, List.setIfInBounds_toArray, List.set_cons_zero, List.set_cons_succ]
    gi_wp2
    exact hK
  case body =>
    rintro l pre x W1 ⟨⟨vv, hbx, hown, -⟩, hB⟩ hlt
    obtain ⟨p1, p2⟩ := x
    have hms := hB.size
    obtain ⟨ba, off, rfl, hbb, A1, c1, e0, e1, e2⟩ := (HH.out.below (hB3.trans (hB.mono (by omega)))).get1 (show t < rows.length by omega)
    obtain ⟨r, hr⟩ : ∃ r, rows[t] = r := ⟨_, rfl⟩
    have hmem : r ∈ rows := by rw [← hr]; exact List.getElem_mem _
    obtain ⟨hrl, hrt⟩ := HTame.out _ hmem
    have Hcol := hide (show colR rows t b (p1, p2) = ⟨4, 0, -1, t, p1, b, p2, cellOf r p1 p2⟩ by unfold colR; rw [List.getElem?_eq_getElem (by omega), hr]; rfl)
    rw [hr] at e0 e1 e2
    clear hr hmem
    have c5 := hbx.cell
    have f5 := hbx.frozen
    have d2 := (hB.cell (p := ⟨w.heap.size, 2, none⟩) (by show w.heap.size < _; omega)).trans v2
    have d3 := (hB.cell (p := ⟨w.heap.size + 1, 3, none⟩) (by show w.heap.size + 1 < _; omega)).trans r3
    have d5 := (hB.cell (p := ⟨w.heap.size + 1, 5, none⟩) (by show w.heap.size + 1 < _; omega)).trans r5
    have hdr : Below W1.heap.size W1 W1.drew := (Below.refl _ _).drew
    have HCell := hide (cellP W1.drew A1 c1 r p1 p2 ((e2.more (B' := W1.heap.size) (by omega)).below (GlAt.stays _) hdr) (by omega) (fun g hg => by have := hrt g hg; omega))
    have hSb : ∀ W2, Below (w.heap.size + 1 + 1) W1 W2 → (W2.cell? ⟨w.heap.size, 2, none⟩ = some (.slice (some ⟨ba, off, none⟩) rows.length c) ∧ W2.cell? ⟨w.heap.size + 1, 3, none⟩ = some (.int .i64 t) ∧ W2.cell? ⟨w.heap.size + 1, 5, none⟩ = some (.int .i64 b) ∧ W2.cell? ⟨ba, off + t, none⟩ = some (.slice A1 r.length c1)) := fun W2 h2 =>
      ⟨(h2.cell (p := ⟨w.heap.size, 2, none⟩) (by show w.heap.size < _; omega)).trans d2, (h2.cell (p := ⟨w.heap.size + 1, 3, none⟩) (by show w.heap.size + 1 < _; omega)).trans d3, (h2.cell (p := ⟨w.heap.size + 1, 5, none⟩) (by show w.heap.size + 1 < _; omega)).trans d5, (h2.cell (p := ⟨ba, off + t, none⟩) (by show ba < _; omega)).trans e0⟩
    have hNM : w.heap.size + 1 + 1 ≤ w3.heap.size := by omega
    have hlt1 : (t : Int) < (rows.length : Int) := by omega
    obtain ⟨ti, hti, htz, htsz, htby⟩ := info_parts el_region.info
    have hlen : pre.length ≤ 1000 := by omega
    clear e2 v2 r3 r5 hbox3 bx
    gi_wp2
    refine wpIn_region_round (S := (fun W2 => W2.cell? ⟨w.heap.size, 2, none⟩ = some (.slice (some ⟨ba, off, none⟩) rows.length c) ∧ W2.cell? ⟨w.heap.size + 1, 3, none⟩ = some (.int .i64 t) ∧ W2.cell? ⟨w.heap.size + 1, 5, none⟩ = some (.int .i64 b) ∧ W2.cell? ⟨ba, off + t, none⟩ = some (.slice A1 r.length c1))) (by kernel_rfl) (by kernel_rfl) ?_ (fun hHeld => ?_)
    · (first | exact hSb _ hB6 | exact hSb _ (hB5.alloc hl5 _) | exact hSb _ (hB6.setCell (p := ⟨w.heap.size + 1 + 1, 0, none⟩) (Nat.le_refl _) _) | exact hSb _ hB5 | exact hSb _ (Below.refl _ _).drew)
    repeat' (first
      | (refine rd_done (by decide +kernel) ?_)
      | (refine rd_take 1 (v := ?_) rfl (by kernel_rfl) (by decide +kernel) (by decide +kernel) (by assumption) (by rfl) ?_ ?_; rotate_left; (· (intro w hSw; (try dsimp only at hSw); (go_simp <;> with_reducible rfl))); (try simp only [Act.put, List.setIfInBounds_toArray, List.set_cons_zero, List.set_cons_succ]))
      | (refine rd_take 2 (v := ?_) rfl (by kernel_rfl) (by decide +kernel) (by decide +kernel) (by assumption) (by rfl) ?_ ?_; rotate_left; (· (intro w hSw; (try dsimp only at hSw); (go_simp <;> with_reducible rfl))); (try simp only [Act.put, List.setIfInBounds_toArray, List.set_cons_zero, List.set_cons_succ]))
      | (refine rd_take 3 (v := ?_) rfl (by kernel_rfl) (by decide +kernel) (by decide +kernel) (by assumption) (by rfl) ?_ ?_; rotate_left; (· (intro w hSw; (try dsimp only at hSw); (go_simp <;> with_reducible rfl))); (try simp only [Act.put, List.setIfInBounds_toArray, List.set_cons_zero, List.set_cons_succ]))
      | (refine rd_take 4 (v := ?_) rfl (by kernel_rfl) (by decide +kernel) (by decide +kernel) (by assumption) (by rfl) ?_ ?_; rotate_left; (· (intro w hSw; (try dsimp only at hSw); (go_simp <;> with_reducible rfl))); (try simp only [Act.put, List.setIfInBounds_toArray, List.set_cons_zero, List.set_cons_succ]))
      | (refine rd_take 5 (v := ?_) rfl (by kernel_rfl) (by decide +kernel) (by decide +kernel) (by assumption) (by rfl) ?_ ?_; rotate_left; (· (intro w hSw; (try dsimp only at hSw); (go_simp <;> with_reducible rfl))); (try simp only [Act.put, List.setIfInBounds_toArray, List.set_cons_zero, List.set_cons_succ]))
      | (refine rd_take 6 (v := ?_) rfl (by kernel_rfl) (by decide +kernel) (by decide +kernel) (by assumption) (by rfl) ?_ ?_; rotate_left; (· (intro w hSw; (try dsimp only at hSw); (go_simp <;> with_reducible rfl))); (try simp only [Act.put, List.setIfInBounds_toArray, List.set_cons_zero, List.set_cons_succ]))
      | (refine rd_take 7 (v := ?_) rfl (by kernel_rfl) (by decide +kernel) (by decide +kernel) (by assumption) (by rfl) ?_ ?_; rotate_left; (· (intro w hSw; (try dsimp only at hSw); (go_simp <;> with_reducible rfl))); (try simp only [Act.put, List.setIfInBounds_toArray, List.set_cons_zero, List.set_cons_succ]))
      | (refine rd_take 8 (v := ?_) rfl (by kernel_rfl) (by decide +kernel) (by decide +kernel) (by assumption) (by rfl) ?_ ?_; rotate_left; (· (intro w hSw; (try dsimp only at hSw); (go_simp <;> with_reducible rfl))); (try simp only [Act.put, List.setIfInBounds_toArray, List.set_cons_zero, List.set_cons_succ]))
      | (refine rd_take 9 (v := ?_) rfl (by kernel_rfl) (by decide +kernel) (by decide +kernel) (by assumption) (by rfl) ?_ ?_; rotate_left; (· (intro w hSw; (try dsimp only at hSw); (go_simp <;> with_reducible rfl))); (try simp only [Act.put, List.setIfInBounds_toArray, List.set_cons_zero, List.set_cons_succ]))
      | (refine rd_take 10 (v := ?_) rfl (by kernel_rfl) (by decide +kernel) (by decide +kernel) (by assumption) (by rfl) ?_ ?_; rotate_left; (· (intro w hSw; (try dsimp only at hSw); (go_simp <;> with_reducible rfl))); (try simp only [Act.put, List.setIfInBounds_toArray, List.set_cons_zero, List.set_cons_succ]))
      | (refine rd_take 11 (v := ?_) rfl (by kernel_rfl) (by decide +kernel) (by decide +kernel) (by assumption) (by rfl) ?_ ?_; rotate_left; (· (intro w hSw; (try dsimp only at hSw); (go_simp <;> with_reducible rfl))); (try simp only [Act.put, List.setIfInBounds_toArray, List.set_cons_zero, List.set_cons_succ]))
      | (refine rd_take 12 (v := ?_) rfl (by kernel_rfl) (by decide +kernel) (by decide +kernel) (by assumption) (by rfl) ?_ ?_; rotate_left; (· (intro w hSw; (try dsimp only at hSw); (go_simp <;> with_reducible rfl))); (try simp only [Act.put, List.setIfInBounds_toArray, List.set_cons_zero, List.set_cons_succ]))
      | (refine rd_take 13 (v := ?_) rfl (by kernel_rfl) (by decide +kernel) (by decide +kernel) (by assumption) (by rfl) ?_ ?_; rotate_left; (· (intro w hSw; (try dsimp only at hSw); (go_simp <;> with_reducible rfl))); (try simp only [Act.put, List.setIfInBounds_toArray, List.set_cons_zero, List.set_cons_succ]))
      | (refine rd_take 14 (v := ?_) rfl (by kernel_rfl) (by decide +kernel) (by decide +kernel) (by assumption) (by rfl) ?_ ?_; rotate_left; (· (intro w hSw; (try dsimp only at hSw); (go_simp <;> with_reducible rfl))); (try simp only [Act.put, List.setIfInBounds_toArray, List.set_cons_zero, List.set_cons_succ]))
      | (refine rd_take 16 (v := ?_) rfl (by kernel_rfl) (by decide +kernel) (by decide +kernel) (by assumption) (by rfl) ?_ ?_; rotate_left; (· (intro w hSw; (try dsimp only at hSw); (go_simp <;> with_reducible rfl))); (try simp only [Act.put, List.setIfInBounds_toArray, List.set_cons_zero, List.set_cons_succ]))
      | (refine rd_ready (rs := [0, 15]) (by decide +kernel) (by simp) ?_; refine rd_cons rfl (fun K hK => ?_) (rd_cons rfl (fun K hK => ?_) (rd_nil)); (focus (go_simp; (first | refine hK.out _ _ ?_ ?_ | (go_wp2_with fail; refine hK.out _ _ ?_ ?_)); (· (first | exact hSb _ hB6 | exact hSb _ (hB5.alloc hl5 _) | exact hSb _ (hB6.setCell (p := ⟨w.heap.size + 1 + 1, 0, none⟩) (Nat.le_refl _) _) | exact hSb _ hB5 | exact hSb _ (Below.refl _ _).drew)); clear hK K hHeld; intro hHeld; (try simp only [Act.put, List.setIfInBounds_toArray, List.set_cons_zero, List.set_cons_succ]))); rotate_left; (focus (go_simp; go_at_call 22; refine HCell.out.mono ?_; rintro e w5 ⟨rfl, hb5⟩; have hB5 : Below (w.heap.size + 1 + 1) W1 w5 := (hdr.trans hb5).mono (by omega); have hl5 : w.heap.size + 1 + 1 ≤ w5.heap.size := (by have := hB5.size; omega); have hm5 : w3.heap.size ≤ w5.heap.size := (by have := hB5.size; omega); have hown5 := own_below hown.drew hb5 (Nat.le_refl _); have hbx5 : Boxed w5 (w.heap.size + 1 + 1) 30 vv := (hb5.block _ (by show _ < W1.heap.size; omega)).trans hbx; have c5' := hbx5.cell; have c5a : (w5.alloc (.cells #[.int .i64 4, .int .i64 0, .int .i64 (-1), .int .i64 t, .int .i64 p1, .int .i64 b, .int .i64 p2, .string (cellOf r p1 p2)] 33)).cell? ⟨w.heap.size + 1 + 1, 0, none⟩ = some vv := (hbx5.alloc _).cell; (first | refine hK.out _ _ ?_ ?_ | (go_wp2_with fail; refine hK.out _ _ ?_ ?_)); (· (first | exact hSb _ hB6 | exact hSb _ (hB5.alloc hl5 _) | exact hSb _ (hB6.setCell (p := ⟨w.heap.size + 1 + 1, 0, none⟩) (Nat.le_refl _) _) | exact hSb _ hB5 | exact hSb _ (Below.refl _ _).drew)); clear hK K hHeld; intro hHeld; (try simp only [Act.put, List.setIfInBounds_toArray, List.set_cons_zero, List.set_cons_succ]))); rotate_left)
      | (refine rd_ready (rs := [15]) (by decide +kernel) (by simp) ?_; refine rd_cons rfl (fun K hK => ?_) (rd_nil); (focus (go_simp; go_at_call 22; refine HCell.out.mono ?_; rintro e w5 ⟨rfl, hb5⟩; have hB5 : Below (w.heap.size + 1 + 1) W1 w5 := (hdr.trans hb5).mono (by omega); have hl5 : w.heap.size + 1 + 1 ≤ w5.heap.size := (by have := hB5.size; omega); have hm5 : w3.heap.size ≤ w5.heap.size := (by have := hB5.size; omega); have hown5 := own_below hown.drew hb5 (Nat.le_refl _); have hbx5 : Boxed w5 (w.heap.size + 1 + 1) 30 vv := (hb5.block _ (by show _ < W1.heap.size; omega)).trans hbx; have c5' := hbx5.cell; have c5a : (w5.alloc (.cells #[.int .i64 4, .int .i64 0, .int .i64 (-1), .int .i64 t, .int .i64 p1, .int .i64 b, .int .i64 p2, .string (cellOf r p1 p2)] 33)).cell? ⟨w.heap.size + 1 + 1, 0, none⟩ = some vv := (hbx5.alloc _).cell; (first | refine hK.out _ _ ?_ ?_ | (go_wp2_with fail; refine hK.out _ _ ?_ ?_)); (· (first | exact hSb _ hB6 | exact hSb _ (hB5.alloc hl5 _) | exact hSb _ (hB6.setCell (p := ⟨w.heap.size + 1 + 1, 0, none⟩) (Nat.le_refl _) _) | exact hSb _ hB5 | exact hSb _ (Below.refl _ _).drew)); clear hK K hHeld; intro hHeld; (try simp only [Act.put, List.setIfInBounds_toArray, List.set_cons_zero, List.set_cons_succ]))); rotate_left)
      | (refine rd_ready (rs := [0, 17]) (by decide +kernel) (by simp) ?_; refine rd_cons rfl (fun K hK => ?_) (rd_cons rfl (fun K hK => ?_) (rd_nil)); (focus (go_simp; (first | refine hK.out _ _ ?_ ?_ | (go_wp2_with fail; refine hK.out _ _ ?_ ?_)); (· (first | exact hSb _ hB6 | exact hSb _ (hB5.alloc hl5 _) | exact hSb _ (hB6.setCell (p := ⟨w.heap.size + 1 + 1, 0, none⟩) (Nat.le_refl _) _) | exact hSb _ hB5 | exact hSb _ (Below.refl _ _).drew)); clear hK K hHeld; intro hHeld; (try simp only [Act.put, List.setIfInBounds_toArray, List.set_cons_zero, List.set_cons_succ]))); rotate_left; (focus (go_simp; (first | refine hK.out _ _ ?_ ?_ | (go_wp2_with fail; refine hK.out _ _ ?_ ?_)); (· (first | exact hSb _ hB6 | exact hSb _ (hB5.alloc hl5 _) | exact hSb _ (hB6.setCell (p := ⟨w.heap.size + 1 + 1, 0, none⟩) (Nat.le_refl _) _) | exact hSb _ hB5 | exact hSb _ (Below.refl _ _).drew)); clear hK K hHeld; intro hHeld; (try simp only [Act.put, List.setIfInBounds_toArray, List.set_cons_zero, List.set_cons_succ]))); rotate_left)
      | (refine rd_ready (rs := [0]) (by decide +kernel) (by simp) ?_; refine rd_cons rfl (fun K hK => ?_) (rd_nil); (focus (go_simp; (first | refine hK.out _ _ ?_ ?_ | (go_wp2_with fail; refine hK.out _ _ ?_ ?_)); (· (first | exact hSb _ hB6 | exact hSb _ (hB5.alloc hl5 _) | exact hSb _ (hB6.setCell (p := ⟨w.heap.size + 1 + 1, 0, none⟩) (Nat.le_refl _) _) | exact hSb _ hB5 | exact hSb _ (Below.refl _ _).drew)); clear hK K hHeld; intro hHeld; (try simp only [Act.put, List.setIfInBounds_toArray, List.set_cons_zero, List.set_cons_succ]))); rotate_left)
      | (refine rd_ready (rs := [17]) (by decide +kernel) (by simp) ?_; refine rd_cons rfl (fun K hK => ?_) (rd_nil); (focus (go_simp; (first | refine hK.out _ _ ?_ ?_ | (go_wp2_with fail; refine hK.out _ _ ?_ ?_)); (· (first | exact hSb _ hB6 | exact hSb _ (hB5.alloc hl5 _) | exact hSb _ (hB6.setCell (p := ⟨w.heap.size + 1 + 1, 0, none⟩) (Nat.le_refl _) _) | exact hSb _ hB5 | exact hSb _ (Below.refl _ _).drew)); clear hK K hHeld; intro hHeld; (try simp only [Act.put, List.setIfInBounds_toArray, List.set_cons_zero, List.set_cons_succ]))); rotate_left)
      | (refine rd_ready (rs := [18]) (by decide +kernel) (by simp) ?_; refine rd_cons rfl (fun K hK => ?_) (rd_nil); (focus (refine step_app_rg w5 (.tmp 17) (.tmp 34) (by rfl) (by rfl) w3.heap.size vv pre.length _ (by rfl) hown5 hm5 hlen ⟨4, 0, -1, t, p1, b, p2, cellOf r p1 p2⟩ (by rfl) ?_; intro g6 cap6 w6 hown6 hg6; have hB6 : Below (w.heap.size + 1 + 1) W1 w6 := (hB5.alloc hl5 _).grown hg6 (Nat.le_trans hl5 (Below.refl w5.heap.size w5 |>.alloc (Nat.le_refl _) _).size) (fun k hk => Nat.le_trans hNM (hown5.lt k hk).1); have hbx6 : Boxed w6 (w.heap.size + 1 + 1) 30 vv := (hbx5.alloc _).kept hg6 (hbx5.not_row (by decide) hown5); have c6 := hbx6.cell; have f6 := hbx6.frozen; (first | refine hK.out _ _ ?_ ?_ | (go_wp2_with fail; refine hK.out _ _ ?_ ?_)); (· (first | exact hSb _ hB6 | exact hSb _ (hB5.alloc hl5 _) | exact hSb _ (hB6.setCell (p := ⟨w.heap.size + 1 + 1, 0, none⟩) (Nat.le_refl _) _) | exact hSb _ hB5 | exact hSb _ (Below.refl _ _).drew)); clear hK K hHeld; intro hHeld; (try simp only [Act.put, List.setIfInBounds_toArray, List.set_cons_zero, List.set_cons_succ]))); rotate_left)
      | (refine rd_ready (rs := [19]) (by decide +kernel) (by simp) ?_; refine rd_cons rfl (fun K hK => ?_) (rd_nil); (focus (go_simp; (first | refine hK.out _ _ ?_ ?_ | (go_wp2_with fail; refine hK.out _ _ ?_ ?_)); (· (first | exact hSb _ hB6 | exact hSb _ (hB5.alloc hl5 _) | exact hSb _ (hB6.setCell (p := ⟨w.heap.size + 1 + 1, 0, none⟩) (Nat.le_refl _) _) | exact hSb _ hB5 | exact hSb _ (Below.refl _ _).drew)); clear hK K hHeld; intro hHeld; (try simp only [Act.put, List.setIfInBounds_toArray, List.set_cons_zero, List.set_cons_succ]))); rotate_left))
    all_goals
      have hk6 : KeepsOthers W1 w6 := ((KeepsOthers.drew W1).trans (others_below hb5)).trans ((KeepsOthers.alloc w5 _).trans (KeepsOthers.of_grownBy hg6 (own_cells (hown5.alloc _))))
      have hM6 : Below w3.heap.size W1 w6 := (((hdr.trans hb5).mono hms).alloc hm5 _).grown hg6 (Nat.le_trans hm5 (Below.refl w5.heap.size w5 |>.alloc (Nat.le_refl _) _).size) (fun k hk => (hown5.lt k hk).1)
      have hs6 := hbx6.set (.slice (some ⟨g6, 0, none⟩) (pre.length + 1) cap6)
      have hg7 := grownBy_setCell' w6 (w.heap.size + 1 + 1) (.slice (some ⟨g6, 0, none⟩) (pre.length + 1) cap6)
      have hown7 := hown6.kept hg7 (.inr (by have := (hown6.lt g6 rfl).1; simp only [Value.ownBlock, ne_eq, Option.some.injEq]; omega))
      refine ⟨hk6.trans (KeepsOthers.setCell _ _ _), fun j hj => ?_, ⟨_, hs6, own_eq hown7 (by simp) (by rw [List.map_append, List.flatMap_append, List.map_singleton, Hcol.out]; simp), trivial⟩, hB.trans (hB6.setCell (p := ⟨w.heap.size + 1 + 1, 0, none⟩) (Nat.le_refl _) _)⟩
      exact (hg7.block g (by have := hM6.size; omega) (by simp; omega) |> World.cell?_of_block (a := ⟨g, j, none⟩)).trans (hM6.cell (p := ⟨g, j, none⟩) (by show g < _; omega))
  case done =>
    rintro D ys W1 hD rfl ⟨⟨vv, hbx, hown, -⟩, hB⟩ hK
    have c5 := hbx.cell
    gi_wp2
    refine ⟨by simp, .inl ⟨_, _, rfl, run_takeDeferred hK, ?_⟩⟩
    refine ⟨_, results_tmp rfl _ _ _, vv, rfl, ownsRow_putObj (own_eq (own_more hown (by omega)) (by simp [colsR]) rfl) _ hK rfl, (hB3.trans (hB.mono (by omega))).trans (belowK_b (w := w) (Nat.le_refl _) W1 D _ _ (by omega) hK rfl rfl)⟩
  case stop =>
    rintro D c pre W _ _ h _
    exact h.elim
end Go.Proofs.YtmgepckhdgoemaaDoor
