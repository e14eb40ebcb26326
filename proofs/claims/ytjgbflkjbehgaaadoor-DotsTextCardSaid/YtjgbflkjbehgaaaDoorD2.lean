/- Dots: dots.Format. -/
import Derived.Test.YtjgbflkjbehgaaaDoorD0
import Derived.Test.YtjgbflkjbehgaaaDoorD1
import Derived.Test.YtjgbflkjbehgaaaDoorRound
import Derived.Deep.AppendLies
import Derived.Outline
namespace Go.Proofs.YtjgbflkjbehgaaaDoor
open Go.RowKit Go.Shelf
attribute [local go_sem] Oper.semAt_some

theorem el_string : ElemOf Tryd.prog 41 9 (.string ⟨#[]⟩) 1 16 := ⟨Tryd.underlying41, by kernel_rfl, rfl, by omega, by omega⟩

section
variable {P : Program}
/-- 's = append(s, x)' in a region that draws its order: s the call's own, x just laid. -/
theorem step_app {ops : Array Oper} {o : Oper} {a : Act} {K : Act → World → Prop} {Q : Exit → Act → World → Prop} {E : Prop} {t e : TypeId} {z : Value} {size bytes : Nat} (hE : ElemOf P t e z size bytes) (W : World) (s x : Operand) (hgd : o.guard = none)
    (ho : o.op = .call { callee := .builtin .append, args := #[s, x], argTypes := #[t, t] }) (base : Nat) (v : Value) (n : Nat) (xs : List Value) (hs : a.eval s = v)
    (hown : W.ownsRow base e size v n xs) (hbase : base ≤ W.heap.size) (hn : (n + 1) * bytes ≤ 140737488355328) (news : List Value) (hl : news.length = size) (h1 : ∀ u ∈ news, u.oneCell' = true) (hx : a.eval x = .slice (some ⟨W.heap.size, 0, none⟩) 1 1)
    (h : ∀ g cap w', w'.ownsRow base e size (.slice (some ⟨g, 0, none⟩) (n + 1) cap) (n + 1) (xs ++ news) → (W.alloc (.cells news.toArray e)).grownBy w' v.ownBlock → K (a.put o.dst (.slice (some ⟨g, 0, none⟩) (n + 1) cap)) w') :
    if Region.wanted o (yielded ops a.tmps) = true then Oper.wp P o a (W.alloc (.cells news.toArray e)) K Q else E := by
  obtain ⟨ti, hti, htz, htsz, htby⟩ := info_parts hE.info
  have h63 : n + 1 ≤ maxLen := by
    unfold maxLen
    have := Nat.le_mul_of_pos_right (n + 1) hE.posb
    omega
  refine step_append_lies _ hgd s x t ho base e ti z size bytes hE.slice hti htz htsz htby hE.cells hE.pos v n xs hs (hown.alloc _) _ 1 1 news hx (by omega)
    (World.news_of_block (block_new W _)) h1 (by omega) h63 hn (by simp; omega) _ rfl ?_
  intro g cap w' h1 h2 _ _
  exact h g cap w' h1 h2
end

theorem own_cells {W : World} {base : Nat} {e : TypeId} {sz n : Nat} {v : Value} {xs : List Value} (h : W.ownsRow base e sz v n xs) : ∀ (j : Nat) (o : Obj), v.ownBlock = some j → W.heap[j]? = some o → o.isCells = true := by
  intro j o hj ho
  rcases h.2 with ⟨rfl, _⟩ | ⟨g, cap, cur, rfl, _, hg, _⟩
  · simp [Value.ownBlock] at hj
  · obtain rfl : g = j := by simpa [Value.ownBlock] using hj
    rw [hg] at ho; cases ho; rfl
theorem others_below {W W' : World} (h : Below W.heap.size W W') : KeepsOthers W W' := ⟨h.size, fun l _ ho _ => (h.block l (Array.getElem?_eq_some_iff.1 ho).1).trans ho⟩

/-- The digit of a dot. -/
def digL (n : Nat) : List UInt8 := [UInt8.ofNat (48 + n)]
def digB (n : Nat) : ByteArray := ⟨(digL n).toArray⟩
theorem dec_dig (n : Nat) (h : n < 10) : Lib.decDigits n = digL n := by rw [Lib.decDigits]; simp [h, digL]
/-- What Format returns. -/
def fmtL (c : Nat) : List UInt8 := if (dotsTo c 8).length = 0 then [48] else Lib.join ((dotsTo c 8).map fun n => digL n.val) [45]
def fmtB (c : Nat) : ByteArray := ⟨(fmtL c).toArray⟩
theorem join_small_all : ∀ c : Nat, c < 256 → (Lib.join ((dotsTo c 8).map fun n => digL n.val) [45]).length ≤ 15 := by decide +kernel
theorem join_small (c : Nat) (hc : c < 256) : (Lib.join ((dotsTo c 8).map fun n => digL n.val) [45]).length ≤ 140737488355328 := by have := join_small_all c hc; omega
/-- A row of the call's own that is not empty lies in a block. -/
theorem own_form1 {w : World} {base : Nat} {e : TypeId} {size : Nat} {v : Value} {n : Nat} {xs : List Value} (h : w.ownsRow base e size v n xs) (hn : 0 < n) : ∃ g cap, v = .slice (some ⟨g, 0, none⟩) n cap ∧ base ≤ g ∧ g < w.heap.size := by
  rcases h.2 with ⟨rfl, h0⟩ | ⟨g, cap, cur, rfl, hg, hh, _⟩
  · omega
  · exact ⟨g, cap, rfl, hg, block_lt hh⟩

theorem joinX : Builder.Extra Tryd.prog laysJoin_ren := { sizeBuilder := by kernel_rfl, liesBuilder := by kernel_rfl, t5 := Tryd.underlying5, a5 := Tryd.isAgg5, z5 := Tryd.sizeOf5, v5 := Tryd.zeroValue5, infoByte := by kernel_rfl, cellsByte := by kernel_rfl, sizeByte := by kernel_rfl, neB5 := by decide }

set_option maxRecDepth 100000 in
set_option maxHeartbeats 4000000 in
theorem formatP (w : World) (c : Nat) (hc : c < 256) :
    Calls Tryd.prog 14 #[.int .u8 c] w fun e w' => e = .returned (.string (fmtB c)) ∧ Below w.heap.size w w' := by
  refine (callsIn_wide (n := 9)).1 ?_
  refine callsIn_of_wp_marks Tryd.func14 rfl trivial ?_ rfl
  simp only [Tryd.ntmps14, List.size_toArray, List.length_cons, List.length_nil, Nat.reduceAdd, Nat.reduceSub, Array.replicate_succ, Array.replicate_zero, List.push_toArray, List.append_toArray, List.nil_append, List.cons_append]
  gi_wp2_with (refine ⟨trivial, ?_⟩; gi_at_call 21; refine (raised_in Fence.wide _ trivial rfl _ _).mono ?_; rintro e w' ⟨rfl, rfl⟩)
  have bx := Boxed.new w 41 (.slice none 0 0)
  replace bx : Boxed ((w.alloc (.cells #[.slice none 0 0] 41)).alloc (.cells #[.int .u8 c] 5)) w.heap.size 41 (.slice none 0 0) := bx.alloc _
  obtain ⟨w3, hw3⟩ : ∃ w3, (w.alloc (.cells #[.slice none 0 0] 41)).alloc (.cells #[.int .u8 c] 5) = w3 := ⟨_, rfl⟩
  have hs3 : w3.heap.size = w.heap.size + 1 + 1 := by rw [← hw3]; simp
  have hB3 : Below w.heap.size w w3 := by rw [← hw3]; exact ((Below.refl _ w).alloc (Nat.le_refl _) _).alloc (by simp) _
  have hc3 : w3.cell? ⟨w.heap.size + 1, 0, none⟩ = some (.int .u8 c) := by
    rw [← hw3]
    have := cell_block (block_new (w.alloc (.cells #[.slice none 0 0] 41)) (.cells #[.int .u8 c] 5)) 0
    rw [World.size_alloc] at this
    exact this
  rw [hw3] at bx ⊢
  clear hw3
  refine wpIn_rangeFunc_ownF rfl (by omega) (gf := 28) (lb := #[.pointer (some ⟨w.heap.size + 1, 0, none⟩)]) rfl trivial (enters_of Tryd.func28 (by kernel_rfl) rfl)
    (raised_stops Fence.wide _ trivial rfl (by omega) (w.heap.size + 1) c hc _ (by omega) hc3) KpG.t (KpG.b (by omega)) (Below.refl _ _) (fun _ => rfl)
    (fun pre W' => (∃ vv, Boxed W' w.heap.size 41 vv ∧ W'.ownsRow w3.heap.size 9 1 vv pre.length (pre.map fun n => .string (digB n.val)) ∧ True) ∧ Below w.heap.size w3 W')
    (fun _ _ _ => False)
    (OwnFrom.and (Own.from (holdsRow_own w3.heap.size w.heap.size 41 9 1 (fun (pre : List (Fin 10)) => pre.length) (fun pre => pre.map fun n => .string (digB n.val)) (fun _ _ => True)) _) (ownFrom_below (by omega) (by omega)))
    (fun _ _ _ _ _ hs _ _ => hs)
    ⟨⟨_, bx, World.ownsRow_nil _ _ _ _, trivial⟩, Below.refl _ _⟩
    (fun x => { tmps := #[.int .u8 c, undef, .string ⟨#[]⟩, .pointer (some ⟨w.heap.size, 0, none⟩), .int .i64 (x.val : Nat), .int .u8 c, .func (.func 28) #[] #[.pointer (some ⟨w.heap.size + 1, 0, none⟩)], .int .i64 (x.val : Nat), undef, undef, undef, undef, undef, undef, undef, undef, undef, undef], defers := [] }) ?assign ?body ?done ?stop
  case assign =>
    intro l x W1 K hK
    unfold encI
    simp only [List.zip_toArray, List.zip_cons_cons, List.zip_nil_right, List.foldl_toArray', List.foldl_cons, List.foldl_nil, List.setIfInBounds_toArray, List.set_cons_zero, List.set_cons_succ]
    gi_wp2
    exact hK
  case body =>
    rintro l pre x W1 ⟨⟨vv, hbx, hown, -⟩, hB⟩ hlt
    have hms := hB.size
    have c5 := hbx.cell
    have f5 := hbx.frozen
    obtain ⟨x, hx⟩ := x
    have HI := hide (fun w => (Any.strconv_Itoa_small laysItoa x (by omega) w).mono fun e w' h => (show e = .returned (.string (digB x)) ∧ Below w.heap.size w w' by rw [dec_dig x hx] at h; exact ⟨h.1, h.2 ▸ Below.refl _ _⟩))
    have hdr : Below W1.heap.size W1 W1.drew := (Below.refl _ _).drew
    dsimp only
    gi_wp2
    refine wpIn_region_round (S := (fun _ => True)) (by kernel_rfl) (by kernel_rfl) ?_ (fun hHeld => ?_)
    · (trivial)
    repeat' (first
      | (refine rd_done (by decide +kernel) ?_)
      | (refine rd_take 1 (v := ?_) rfl (by kernel_rfl) (by decide +kernel) (by decide +kernel) (by assumption) (by rfl) ?_ ?_; rotate_left; (· (intro w hSw; (try dsimp only at hSw); (go_simp <;> with_reducible rfl))); (try simp only [Act.put, List.setIfInBounds_toArray, List.set_cons_zero, List.set_cons_succ]))
      | (refine rd_ready (rs := [0, 2]) (by decide +kernel) (by simp) ?_; refine rd_cons rfl (fun K hK => ?_) (rd_cons rfl (fun K hK => ?_) (rd_nil)); (focus (go_simp; (first | refine hK.out _ _ ?_ ?_ | (go_wp2_with fail; refine hK.out _ _ ?_ ?_)); (· (trivial)); clear hK K hHeld; intro hHeld; (try simp only [Act.put, List.setIfInBounds_toArray, List.set_cons_zero, List.set_cons_succ]))); rotate_left; (focus (go_simp; go_at_call 22; refine (HI.out _).mono ?_; rintro e w5 ⟨rfl, hb5⟩; have hB5 : Below w.heap.size W1 w5 := (hdr.trans hb5).mono (by omega); have hm5 : w3.heap.size ≤ w5.heap.size := (by have := hB5.size; omega); have hown5 := own_below hown.drew hb5 (Nat.le_refl _); have hbx5 : Boxed w5 w.heap.size 41 vv := (hb5.block _ (by show _ < W1.heap.size; omega)).trans hbx; have c5' := hbx5.cell; have c5a : (w5.alloc (.cells #[.string (digB x)] 9)).cell? ⟨w.heap.size, 0, none⟩ = some vv := (hbx5.alloc _).cell; (first | refine hK.out _ _ ?_ ?_ | (go_wp2_with fail; refine hK.out _ _ ?_ ?_)); (· (trivial)); clear hK K hHeld; intro hHeld; (try simp only [Act.put, List.setIfInBounds_toArray, List.set_cons_zero, List.set_cons_succ]))); rotate_left)
      | (refine rd_ready (rs := [2]) (by decide +kernel) (by simp) ?_; refine rd_cons rfl (fun K hK => ?_) (rd_nil); (focus (go_simp; go_at_call 22; refine (HI.out _).mono ?_; rintro e w5 ⟨rfl, hb5⟩; have hB5 : Below w.heap.size W1 w5 := (hdr.trans hb5).mono (by omega); have hm5 : w3.heap.size ≤ w5.heap.size := (by have := hB5.size; omega); have hown5 := own_below hown.drew hb5 (Nat.le_refl _); have hbx5 : Boxed w5 w.heap.size 41 vv := (hb5.block _ (by show _ < W1.heap.size; omega)).trans hbx; have c5' := hbx5.cell; have c5a : (w5.alloc (.cells #[.string (digB x)] 9)).cell? ⟨w.heap.size, 0, none⟩ = some vv := (hbx5.alloc _).cell; (first | refine hK.out _ _ ?_ ?_ | (go_wp2_with fail; refine hK.out _ _ ?_ ?_)); (· (trivial)); clear hK K hHeld; intro hHeld; (try simp only [Act.put, List.setIfInBounds_toArray, List.set_cons_zero, List.set_cons_succ]))); rotate_left)
      | (refine rd_ready (rs := [0, 3]) (by decide +kernel) (by simp) ?_; refine rd_cons rfl (fun K hK => ?_) (rd_cons rfl (fun K hK => ?_) (rd_nil)); (focus (go_simp; (first | refine hK.out _ _ ?_ ?_ | (go_wp2_with fail; refine hK.out _ _ ?_ ?_)); (· (trivial)); clear hK K hHeld; intro hHeld; (try simp only [Act.put, List.setIfInBounds_toArray, List.set_cons_zero, List.set_cons_succ]))); rotate_left; (focus (go_simp; (first | refine hK.out _ _ ?_ ?_ | (go_wp2_with fail; refine hK.out _ _ ?_ ?_)); (· (trivial)); clear hK K hHeld; intro hHeld; (try simp only [Act.put, List.setIfInBounds_toArray, List.set_cons_zero, List.set_cons_succ]))); rotate_left)
      | (refine rd_ready (rs := [0]) (by decide +kernel) (by simp) ?_; refine rd_cons rfl (fun K hK => ?_) (rd_nil); (focus (go_simp; (first | refine hK.out _ _ ?_ ?_ | (go_wp2_with fail; refine hK.out _ _ ?_ ?_)); (· (trivial)); clear hK K hHeld; intro hHeld; (try simp only [Act.put, List.setIfInBounds_toArray, List.set_cons_zero, List.set_cons_succ]))); rotate_left)
      | (refine rd_ready (rs := [3]) (by decide +kernel) (by simp) ?_; refine rd_cons rfl (fun K hK => ?_) (rd_nil); (focus (go_simp; (first | refine hK.out _ _ ?_ ?_ | (go_wp2_with fail; refine hK.out _ _ ?_ ?_)); (· (trivial)); clear hK K hHeld; intro hHeld; (try simp only [Act.put, List.setIfInBounds_toArray, List.set_cons_zero, List.set_cons_succ]))); rotate_left)
      | (refine rd_ready (rs := [4]) (by decide +kernel) (by simp) ?_; refine rd_cons rfl (fun K hK => ?_) (rd_nil); (focus (refine step_app el_string w5 (.tmp 8) (.tmp 11) (by rfl) (by rfl) w3.heap.size vv pre.length _ (by rfl) hown5 hm5 (by omega) [.string (digB x)] rfl (by simp [Value.oneCell']) (by rfl) ?_; intro g6 cap6 w6 hown6 hg6; have hbx6 : Boxed w6 w.heap.size 41 vv := (hbx5.alloc _).kept hg6 (hbx5.not_row (by decide) hown5); have c6 := hbx6.cell; have f6 := hbx6.frozen; (first | refine hK.out _ _ ?_ ?_ | (go_wp2_with fail; refine hK.out _ _ ?_ ?_)); (· (trivial)); clear hK K hHeld; intro hHeld; (try simp only [Act.put, List.setIfInBounds_toArray, List.set_cons_zero, List.set_cons_succ]))); rotate_left)
      | (refine rd_ready (rs := [5]) (by decide +kernel) (by simp) ?_; refine rd_cons rfl (fun K hK => ?_) (rd_nil); (focus (go_simp; (first | refine hK.out _ _ ?_ ?_ | (go_wp2_with fail; refine hK.out _ _ ?_ ?_)); (· (trivial)); clear hK K hHeld; intro hHeld; (try simp only [Act.put, List.setIfInBounds_toArray, List.set_cons_zero, List.set_cons_succ]))); rotate_left))
    all_goals
      have hk6 : KeepsOthers W1 w6 := ((KeepsOthers.drew W1).trans (others_below hb5)).trans ((KeepsOthers.alloc w5 _).trans (KeepsOthers.of_grownBy hg6 (own_cells (hown5.alloc _))))
      have hM6 : Below w3.heap.size W1 w6 := (((hdr.trans hb5).mono hms).alloc hm5 _).grown hg6 (Nat.le_trans hm5 (Below.refl w5.heap.size w5 |>.alloc (Nat.le_refl _) _).size) (fun k hk => (hown5.lt k hk).1)
      have hs6 := hbx6.set (.slice (some ⟨g6, 0, none⟩) (pre.length + 1) cap6)
      have hg7 := grownBy_setCell' w6 w.heap.size (.slice (some ⟨g6, 0, none⟩) (pre.length + 1) cap6)
      have hown7 := hown6.kept hg7 (.inr (by have := (hown6.lt g6 rfl).1; simp only [Value.ownBlock, ne_eq, Option.some.injEq]; omega))
      refine ⟨hk6.trans (KeepsOthers.setCell _ _ _), fun j hj => ?_, ⟨_, hs6, own_eq hown7 (by simp) (by simp), trivial⟩, hB.trans ((hM6.mono (B' := w.heap.size) (by omega)).setCell (p := ⟨w.heap.size, 0, none⟩) (Nat.le_refl _) _)⟩
      exact (hg7.block (w.heap.size + 1) (by have := hM6.size; omega) (by simp) |> World.cell?_of_block (a := ⟨w.heap.size + 1, j, none⟩)).trans (hM6.cell (p := ⟨w.heap.size + 1, j, none⟩) (by show w.heap.size + 1 < _; omega))
  case done =>
    rintro D ys W1 hD rfl ⟨⟨vv, hbx, hown, -⟩, hB⟩ hK
    have c5 := hbx.cell
    have hfin : fmtB c = ⟨(fmtL c).toArray⟩ := rfl
    obtain ⟨N, hN⟩ : ∃ N, (dotsTo c 8).length = N := ⟨_, rfl⟩
    have hNl := dotsTo_len c 8
    rw [hN] at hown hNl
    unfold fmtL at hfin
    rw [hN] at hfin
    by_cases h0 : N = 0
    · subst h0
      rw [if_pos rfl] at hfin
      have Hfin := hide hfin
      obtain ⟨A, cc, rfl⟩ := own_form hown
      clear hfin hN hown
      gi_wp2
      refine ⟨by simp, .inl ⟨_, _, rfl, run_takeDeferred hK, ?_⟩⟩
      exact ⟨_, results_tmp rfl _ _ _, by rw [Hfin.out]; rfl, (hB3.trans hB).trans (belowK_b (w := w) (Nat.le_refl _) W1 D _ _ (by omega) hK rfl rfl)⟩
    · rw [if_neg h0] at hfin
      have Hfin := hide hfin
      have hd0 : ((N : Int) == 0) = false := by simp; omega
      have hgl := own_form1 hown (by omega)
      obtain ⟨g, cap, rfl, hg1, hg2⟩ := hgl
      have hcells : ∀ (j : Nat) x, ((dotsTo c 8).map fun n => digB n.val)[j]? = some x → W1.cell? ⟨g, 0 + j, none⟩ = some (.string x) := fun j x hx => by
        rw [List.getElem?_map] at hx
        have hj : j < N := by
          cases hd : (dotsTo c 8)[j]? with
          | none => rw [hd] at hx; cases hx
          | some y => have := (List.getElem?_eq_some_iff.1 hd).1; omega
        rw [Nat.zero_add, hown.cellAt j (by omega), List.getElem?_map]
        cases hd : (dotsTo c 8)[j]? with
        | none => rw [hd] at hx; cases hx
        | some y => rw [hd] at hx; cases hx; rfl
      have hcap : N ≤ cap := by
        rcases hown.2 with ⟨h, _⟩ | ⟨g', cap', cur, h, _, _, hnc, _⟩
        · cases h
        · cases h; exact hnc
      have hjl : (Lib.join ((dotsTo c 8).map fun n => digL n.val) [45]).length ≤ 140737488355328 := join_small c hc
      have HJ := hide (Any.strings_Join laysJoin joinX g 0 cap ((dotsTo c 8).map fun n => digB n.val) ⟨#[45]⟩ W1 hcells hg2 (by simp; omega) (by simp; omega) (by simpa [Function.comp_def, digB] using hjl))
      rw [List.length_map, hN] at HJ
      clear hfin hN hown hcells hjl
      gi_wp2_with (refine ⟨trivial, ?_⟩; gi_at_call 23; refine (callsIn_wide.2 HJ.out).mono ?_; rintro e w2 ⟨rfl, hb2⟩)
      have hK2 : w2.heap[D]? = _ := (hb2.block D (Array.getElem?_eq_some_iff.1 hK).1).trans hK
      refine ⟨by simp, .inl ⟨_, _, rfl, run_takeDeferred hK2, ?_⟩⟩
      exact ⟨_, results_tmp rfl _ _ _, by rw [Hfin.out]; simp [Function.comp_def, digB], ((hB3.trans hB).trans (hb2.mono (by have := hB.size; omega))).trans (belowK_b (w := w) (Nat.le_refl _) w2 D _ _ (by omega) hK2 rfl rfl)⟩
  case stop =>
    rintro D c pre W _ _ h _
    exact h.elim
end Go.Proofs.YtjgbflkjbehgaaaDoor
