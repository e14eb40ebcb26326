/- Tables: narratorref24.parts. -/
import Derived.Test.YtbbhkibbkecojaaDoorT5
namespace Go.Proofs.YtbbhkibbkecojaaDoor
open Go.RowKit

def partStep (ps : List (Nat × Nat)) (c : Nat) (free : Bool) : List (Nat × Nat) :=
  if free then ps else match ps.getLast? with
    | some p => if c < p.2 + 2 then ps.dropLast ++ [(p.1, c + 1)] else ps ++ [(c, c + 1)]
    | none => [(c, c + 1)]
/-- The columns of a range with gutters f. -/
def partsTo (f : Nat → Bool) : Nat → List (Nat × Nat)
  | 0 => []
  | c + 1 => partStep (partsTo f c) c (f c)

theorem partStep_free {ps : List (Nat × Nat)} {c : Nat} : partStep ps c true = ps := rfl
theorem partStep_nil {c : Nat} : partStep [] c false = [(c, c + 1)] := rfl
theorem partStep_near {qs : List (Nat × Nat)} {a e c : Nat} (h : c < e + 2) : partStep (qs ++ [(a, e)]) c false = qs ++ [(a, c + 1)] := by
  unfold partStep; simp [h]
theorem partStep_far {qs : List (Nat × Nat)} {a e c : Nat} (h : ¬ c < e + 2) : partStep (qs ++ [(a, e)]) c false = qs ++ [(a, e)] ++ [(c, c + 1)] := by
  unfold partStep; simp [h]
theorem snoc_cases {α : Type} (l : List α) : l = [] ∨ ∃ qs x, l = qs ++ [x] := by
  rcases List.eq_nil_or_concat l with h | ⟨qs, x, h⟩
  · exact .inl h
  · exact .inr ⟨qs, x, by rw [h, List.concat_eq_append]⟩
theorem partsTo_bd (f : Nat → Bool) : ∀ c, (partsTo f c).length ≤ c ∧ ∀ p ∈ partsTo f c, p.1 < p.2 ∧ p.2 ≤ c
  | 0 => ⟨Nat.le_refl _, fun p hp => by cases hp⟩
  | c + 1 => by
    obtain ⟨h1, h2⟩ := partsTo_bd f c
    unfold partsTo
    cases f c with
    | true => rw [partStep_free]; exact ⟨by omega, fun p hp => by have := h2 p hp; omega⟩
    | false =>
      rcases snoc_cases (partsTo f c) with h | ⟨qs, ⟨a, e⟩, h⟩
      · rw [h, partStep_nil]; exact ⟨by simp, fun p hp => by simp at hp; subst hp; simp⟩
      · rw [h] at h1 h2 ⊢
        by_cases hn : c < e + 2
        · rw [partStep_near hn]
          refine ⟨by simp at h1 ⊢; omega, fun p hp => ?_⟩
          rcases List.mem_append.1 hp with hp | hp
          · have := h2 p (by simp [hp]); omega
          · have := h2 (a, e) (by simp); simp at hp; subst hp; simp at this ⊢; omega
        · rw [partStep_far hn]
          refine ⟨by simp at h1 ⊢; omega, fun p hp => ?_⟩
          rcases List.mem_append.1 hp with hp | hp
          · have := h2 p hp; omega
          · simp at hp; subst hp; simp

def spanV (p : Nat × Nat) : List Value := [.int .i64 p.1, .int .i64 p.2]
theorem el_span : ElemOf Tryd.prog 61 64 (.agg #[.int .i64 0, .int .i64 0]) 2 16 := ⟨Tryd.underlying61, by kernel_rfl, rfl, by omega, by omega⟩
theorem spans_length (ps : List (Nat × Nat)) : (ps.flatMap spanV).length = ps.length * 2 := flat_len (enc := spanV) (sz := 2) (fun _ => rfl) ps
theorem spans_get (qs : List (Nat × Nat)) (x : Nat × Nat) : ((qs ++ [x]).flatMap spanV)[qs.length * 2]? = some (.int .i64 x.1) ∧ ((qs ++ [x]).flatMap spanV)[qs.length * 2 + 1]? = some (.int .i64 x.2) := by
  constructor
  · have := flat_get (enc := spanV) (sz := 2) (fun _ => rfl) (qs ++ [x]) qs.length x 0 (.int .i64 x.1) (by simp) rfl
    simpa using this
  · exact flat_get (enc := spanV) (sz := 2) (fun _ => rfl) (qs ++ [x]) qs.length x 1 (.int .i64 x.2) (by simp) rfl
theorem spans_set (qs : List (Nat × Nat)) (a e e' : Nat) : ((qs ++ [(a, e)]).flatMap spanV).set (qs.length * 2 + 1) (.int .i64 e') = (qs ++ [(a, e')]).flatMap spanV := by
  rw [List.flatMap_append, List.flatMap_append, List.set_append, if_neg (by rw [spans_length]; omega), spans_length, show qs.length * 2 + 1 - qs.length * 2 = 1 by omega]
  rfl

set_option maxHeartbeats 2000000 in
theorem parts24P (w : World) (g cap W : Nat) (f : Nat → Bool) (hlt : g < w.heap.size) (hcell : ∀ c, c < W → w.cell? ⟨g, c, none⟩ = some (.bool (f c))) (hW : W ≤ 1000) :
    Calls Tryd.prog 37 #[.slice (some ⟨g, 0, none⟩) W cap] w fun e w' => ∃ v, e = .returned v ∧ w'.ownsRow w.heap.size 64 2 v (partsTo f W).length ((partsTo f W).flatMap spanV) ∧ Below w.heap.size w w' := by
  have HC := hide hcell
  clear hcell
  go_enter Tryd.func37, Tryd.ntmps37
  go_wp2
  go_loopw [3, 4] (fun v i wr => ∃ c : Nat, c ≤ W ∧ i = .int .i64 c ∧ wr.ownsRow w.heap.size 64 2 v (partsTo f c).length ((partsTo f c).flatMap spanV) ∧ Below w.heap.size w wr) (fun _ i _ => W - (intOf i).toNat)
  case atStart => exact ⟨0, Nat.zero_le _, rfl, by simpa [partsTo] using own_lit w w.heap.size 64 2 0 #[] (Nat.le_refl _) (by omega) rfl, (Below.refl _ _).alloc (Nat.le_refl _) _⟩
  case round =>
    obtain ⟨c, hc, rfl, hown, hb⟩ := hrel
    have hbs := hb.size
    obtain ⟨hlen, hbd⟩ := partsTo_bd f c
    have hst : partsTo f (c + 1) = partStep (partsTo f c) c (f c) := rfl
    have Hst := hide hst
    clear hst
    by_cases hcW : c < W
    · have e0 := (hb.cell (p := ⟨g, c, none⟩) hlt).trans (HC.out c hcW)
      cases hf : f c with
      | true =>
        rw [hf] at e0 Hst
        go_wp2
        go_roundw
        case rel => exact ⟨c + 1, by omega, by go_num, by rw [Hst.out, partStep_free]; exact hown, hb⟩
        case measure => simp [intOf]; omega
      | false =>
        rw [hf] at e0 Hst
        rcases snoc_cases (partsTo f c) with h | ⟨qs, ⟨a, e⟩, h⟩
        · rw [h] at hown Hst
          rw [partStep_nil] at Hst
          clear h hlen hbd
          obtain ⟨A1, c1, rfl⟩ := own_form hown
          simp only [List.length_nil] at hown
          go_wp2_with (at_builtin; refine wpList_app _ (.tmp 38) (.tmp 43) 61 rfl rfl el_span w.heap.size _ _ _ rfl hown hbs _ 1 1 _ _ rfl (by first | rfl | simp) rfl (by simp [Value.oneCell']) (by omega) ?_; intro v2 w2 hown2 hg2; have hb2 := below_own hb hown hg2 (Nat.le_refl _) hbs)
          go_roundw
          case rel => exact ⟨c + 1, by omega, by go_num, by rw [Hst.out]; exact hown2, hb2⟩
          case measure => simp [intOf]; omega
        · rw [h] at hown Hst hlen hbd
          have hea := hbd (a, e) (by simp)
          clear h hbd
          dsimp only at hea
          rw [List.length_append, List.length_singleton] at hown hlen
          obtain ⟨s1, s2⟩ := spans_get qs (a, e)
          have hset := fun e' => spans_set qs a e e'
          have hlen2 : ∀ x : Nat × Nat, (qs ++ [x]).length = qs.length + 1 := fun x => by simp
          have hlen3 : ∀ x y : Nat × Nat, (qs ++ [x] ++ [y]).length = qs.length + 1 + 1 := fun x y => by simp
          obtain ⟨n, hn⟩ : ∃ n, qs.length = n := ⟨_, rfl⟩
          rw [hn] at hown hlen s1 s2 hset hlen2 hlen3
          clear hn
          have H2 := hide hlen2
          have H3 := hide hlen3
          have HSet := hide hset
          clear hlen2 hlen3 hset
          obtain ⟨go, co, rfl, hgo, -⟩ := own_form1 hown (by omega)
          have q1 := (hown.cellAt (n * 2 + 1) (by omega)).trans s2
          have f1 := hown.frozenAt (n * 2 + 1)
          clear s1 s2
          cases hd : decide ((c : Int) - (e : Int) < 2) with
          | true =>
            have hd2 := of_decide_eq_true hd
            go_wp2
            go_roundw
            case rel =>
              obtain ⟨t1, t2⟩ := hown.stored (n * 2 + 1) (.int .i64 ((c + 1 : Nat) : Int))
              have hres : partsTo f (c + 1) = qs ++ [(a, c + 1)] := by rw [Hst.out, partStep_near (by omega)]
              exact ⟨c + 1, by omega, by go_num, own_eq t1 (by rw [hres, H2.out]) (by rw [HSet.out, hres]), below_own hb hown t2 (Nat.le_refl _) hbs⟩
            case measure => simp [intOf]; omega
          | false =>
            have hd2 := of_decide_eq_false hd
            go_wp2_with (at_builtin; refine wpList_app _ (.tmp 38) (.tmp 43) 61 rfl rfl el_span w.heap.size _ _ _ rfl hown hbs _ 1 1 _ _ rfl (by first | rfl | simp) rfl (by simp [Value.oneCell']) (by omega) ?_; intro v2 w2 hown2 hg2; have hb2 := below_own hb hown hg2 (Nat.le_refl _) hbs)
            go_roundw
            case rel =>
              have hres : partsTo f (c + 1) = qs ++ [(a, e)] ++ [(c, c + 1)] := by rw [Hst.out, partStep_far (by omega)]
              exact ⟨c + 1, by omega, by go_num, own_eq hown2 (by rw [hres, H3.out]) (by rw [hres, List.flatMap_append (xs := qs ++ [(a, e)])]; rfl), hb2⟩
            case measure => simp [intOf]; omega
    · go_wp2
      go_ret
      obtain rfl : c = W := by omega
      exact ⟨_, rfl, hown, hb⟩
end Go.Proofs.YtbbhkibbkecojaaDoor
