/- A region that draws its order and ends in stores: what the stores hit is loaded by the same region. Till the stores alone are left a condition S of the world is held; they wait for all the others. -/
import Derived.Test.YtdkppdjonlldhaaGreatDoorProg
import Derived.WalkKit
import Derived.Orders
import Derived.Deep.RegionHeld3
import Derived.Deep.RegionLaw
namespace Go.Proofs.YtdkppdjonlldhaaGreatDoor
open Go.RowKit

/-- Operation j waits for operation p. -/
def waits (ops : Array Oper) (j p : Nat) : Bool := match ops[j]? with
  | some o => o.after.any fun e => Region.binds .any e && e.on == p
  | none => false
/-- Each of 'ps' is waited for by an operation of 'done' or by an earlier one of 'ps', or is listed. -/
def covers (ops : Array Oper) (listed : Array Bool) : List Nat → List Nat → Bool
  | _, [] => true
  | done, p :: ps => if listed.getD p true then covers ops listed done ps else (done.any fun d => waits ops d p) && covers ops listed (p :: done) ps
def closedB (ops : Array Oper) (listed : Array Bool) : Bool := (List.range ops.size).all fun j => !listed.getD j false || (match ops[j]? with | some o => o.after.all fun e => !Region.binds .any e || listed.getD e.on false | none => true)
/-- The operations T wait for all others that are not listed. -/
def tailOk (ops : Array Oper) (T : List Nat) (listed : Array Bool) : Bool := closedB ops listed && T.all fun t => covers ops listed [t] ((List.range ops.size).reverse.filter fun p => !T.contains p)

def Closed (ops : Array Oper) (listed : Array Bool) : Prop := ∀ j o, ops[j]? = some o → listed.getD j false = true → ∀ e ∈ o.after, Region.binds .any e = true → listed.getD e.on false = true
theorem closed_of {ops : Array Oper} {listed : Array Bool} (h : closedB ops listed = true) : Closed ops listed := fun j o ho hl e he hb => by
  have h1 := List.all_eq_true.1 h j (List.mem_range.2 (Array.getElem?_eq_some_iff.1 ho).1)
  simp only [ho, hl, Bool.not_true, Bool.false_or] at h1
  have h2 := Array.all_eq_true_iff_forall_mem.1 h1 e he
  simpa [hb] using h2

theorem covers_spec {ops : Array Oper} {l0 listed : Array Bool} (hc : Closed ops listed) (h0 : ∀ p, l0.getD p true = true → listed.getD p true = true) : ∀ (ps done : List Nat), covers ops l0 done ps = true → (∀ d ∈ done, ∀ o, ops[d]? = some o → ∀ e ∈ o.after, Region.binds .any e = true → listed.getD e.on false = true) → ∀ p ∈ ps, listed.getD p true = true
  | [], _, _, _ => by simp
  | p :: ps, done, h, hd => by
    unfold covers at h
    by_cases hp0 : l0.getD p true = true
    · rw [if_pos hp0] at h
      intro q hq
      rcases List.mem_cons.1 hq with rfl | hq
      · exact h0 _ hp0
      · exact covers_spec hc h0 ps done h hd q hq
    · rw [if_neg hp0] at h
      simp only [Bool.and_eq_true] at h
      obtain ⟨h1, h2⟩ := h
      have hp : listed.getD p false = true := by
        rw [List.any_eq_true] at h1
        obtain ⟨d, hdm, hw⟩ := h1
        unfold waits at hw
        split at hw
        · rename_i o ho
          obtain ⟨e, he, hb⟩ := Array.any_eq_true'.1 hw
          simp only [Bool.and_eq_true, beq_iff_eq] at hb
          rw [← hb.2]
          exact hd d hdm o ho e he hb.1
        · cases hw
      intro q hq
      rcases List.mem_cons.1 hq with rfl | hq
      · rcases Nat.lt_or_ge q listed.size with hs | hs
        · simp only [Array.getD_eq_getD_getElem?, Array.getElem?_eq_getElem hs, Option.getD_some] at hp ⊢
          exact hp
        · simp [Array.getElem?_eq_none hs]
      · refine covers_spec hc h0 ps (p :: done) h2 ?_ q hq
        intro d hdm
        rcases List.mem_cons.1 hdm with rfl | hdm
        · exact fun o ho e he hb => hc d o ho hp e he hb
        · exact hd d hdm

section
variable {P : Program} {ops : Array Oper} {Q : Exit → Act → World → Prop} {S : World → Prop} {T : List Nat}

/-- Whatever order is picked from here on: S holds behind every operation, till those of T alone are left. -/
def wpHT (P : Program) (ops : Array Oper) (Q : Exit → Act → World → Prop) (S : World → Prop) (T : List Nat) : Nat → Array Bool → Act → World → Prop
  | 0, listed, a, w => Region.ready .any ops listed = [] ∧ Q .normal a w
  | fuel + 1, listed, a, w =>
    ((∀ i ∈ Region.ready .any ops listed, i ∈ T) → wpAny P .any ops Q (fuel + 1) listed a w) ∧
    ∀ i ∈ Region.ready .any ops listed, i ∉ T → wpOp P ops Q i (fun a' w' => S w' ∧ wpHT P ops Q S T fuel (listed.setIfInBounds i true) a' w') a w

theorem wpAny_of_ht {l0 : Array Bool} (hT : tailOk ops T l0 = true) : ∀ (fuel : Nat) (listed : Array Bool) (a : Act) (w : World), Closed ops listed → (∀ p, l0.getD p true = true → listed.getD p true = true) → wpHT P ops Q S T fuel listed a w → wpAny P .any ops Q fuel listed a w
  | 0, _, _, _, _, _, h => h
  | fuel + 1, listed, a, w, hc, h0, h => by
    by_cases hall : ∀ i ∈ Region.ready .any ops listed, i ∈ T
    · exact h.1 hall
    · have hnoT : ∀ t ∈ Region.ready .any ops listed, t ∉ T := fun t ht htT => by
        apply hall
        intro i hi
        refine Classical.byContradiction fun hiT => ?_
        obtain ⟨-, o, ho, hw⟩ := mem_ready.1 ht
        obtain ⟨hu, oi, hoi, -⟩ := mem_ready.1 hi
        unfold tailOk at hT
        rw [Bool.and_eq_true] at hT
        have h2 := List.all_eq_true.1 hT.2 t htT
        have h3 := covers_spec hc h0 _ [t] h2 (fun d hd o' ho' e he hb => by
          rw [List.mem_singleton] at hd
          subst hd
          rw [ho] at ho'
          cases ho'
          exact hw e he hb) i (List.mem_filter.2 ⟨by simpa using (Array.getElem?_eq_some_iff.1 hoi).1, by simpa using hiT⟩)
        rw [hu] at h3
        cases h3
      refine ⟨fun h0' => absurd (fun i hi => by rw [h0'] at hi; cases hi) hall, fun i hi => wpOp_mono (fun a' w' h' => wpAny_of_ht hT fuel _ a' w' (fun j oj hoj hlj e he hb => ?_) (fun p hp => ?_) h'.2) (h.2 i hi (hnoT i hi))⟩
      · obtain ⟨-, oi, hoi, hw⟩ := mem_ready.1 hi
        by_cases hij : i = j
        · subst hij
          rw [hoi] at hoj
          cases hoj
          exact getD_set_true (hw e he hb)
        · rw [getD_set_ne false hij] at hlj
          exact getD_set_true (hc j oj hoj hlj e he hb)
      · by_cases hip : i = p
        · subst hip
          by_cases hs : i < listed.size
          · simp [hs]
          · simp only [Array.getD_eq_getD_getElem?]; rw [Array.getElem?_eq_none (by simp; omega)]; rfl
        · rw [getD_set_ne true hip]; exact h0 p hp

/-- Take number i first. -/
theorem wpHT_first {i : Nat} {oi : Oper} {v : Value} (hi : ops[i]? = some oi) (hiT : i ∉ T) (hsel : ∀ (j : Nat) (o : Oper) cs b, ops[j]? = some o → o.op ≠ .select cs b)
    (hQ : ∀ c a w, Q (.panic c) (a.put oi.dst v) w → Q (.panic c) a w) :
    ∀ (fuel : Nat) (listed : Array Bool) (a : Act) (w : World),
      (∀ j oj, ops[j]? = some oj → j ≠ i → listed.getD j true = false → (∀ e ∈ oj.after, Region.binds .any e = true → e.on ≠ i) → oi.apart ops oj = true) →
      i ∈ Region.ready .any ops listed → YieldsIf P ops S oi v a → S w →
      wpHT P ops Q S T fuel (listed.setIfInBounds i true) (a.put oi.dst v) w → wpHT P ops Q S T (fuel + 1) listed a w := by
  intro fuel
  induction fuel with
  | zero =>
    intro listed a w _ hr hy hS H
    refine ⟨fun h => absurd (h i hr) hiT, fun j hj _ => ?_⟩
    by_cases hji : j = i
    · subst hji; exact hy.wpOp hi hS ⟨hS, H⟩
    · have := ready_mono hj hji
      rw [H.1] at this
      cases this
  | succ fuel ih =>
    intro listed a w hfree hr hy hS H
    refine ⟨fun h => absurd (h i hr) hiT, fun j hj hjT => ?_⟩
    by_cases hji : j = i
    · subst hji; exact hy.wpOp hi hS ⟨hS, H⟩
    · have h1 := H.2 j (ready_mono hj hji) hjT
      obtain ⟨hjun, oj, hoj, hall⟩ := mem_ready.1 hj
      have hnot : ∀ e ∈ oj.after, Region.binds .any e = true → e.on ≠ i := fun e he hb heq => by
        have h1 := hall e he hb
        have h0 := (mem_ready.1 hr).1
        rw [heq] at h1
        rcases Nat.lt_or_ge i listed.size with h' | h'
        · simp [h'] at h0 h1; rw [h0] at h1; cases h1
        · simp [Array.getElem?_eq_none h'] at h1
      have h2 := wpOp_putIf hoj (hfree j oj hoj hji hjun hnot) (fun cs b => hsel i oi cs b hi) (fun cs b => hsel j oj cs b hoj) hQ hy h1
      have hfree' : ∀ k ok, ops[k]? = some ok → k ≠ i → (listed.setIfInBounds j true).getD k true = false →
          (∀ e ∈ ok.after, Region.binds .any e = true → e.on ≠ i) → oi.apart ops ok = true := fun k ok hk hki hun hno => by
        refine hfree k ok hk hki ?_ hno
        by_cases hjk : j = k
        · subst hjk; exact hjun
        · rw [getD_set_ne true hjk] at hun; exact hun
      refine wpOp_mono (fun a' w' h3 => ⟨h3.2.1, ih (listed.setIfInBounds j true) a' w' hfree' (ready_mono hr (Ne.symm hji)) h3.1 h3.2.1 ?_⟩) h2
      rw [Array.setIfInBounds_comm _ _ hji]
      exact h3.2.2
end

/-! ### The moves of a walk, over a region that is written out -/
section
variable {P : Program} {ops : List Oper} {Q : Exit → Act → World → Prop} {S : World → Prop} {T : List Nat} {fuel : Nat} {listed : Array Bool} {a : Act} {w : World}
def TdA (P : Program) (ops : List Oper) (Q : Exit → Act → World → Prop) (fuel : Nat) (listed : Array Bool) (a : Act) (w : World) : Prop := wpAny P .any ops.toArray Q fuel listed a w
def TdAs (P : Program) (ops : List Oper) (Q : Exit → Act → World → Prop) (fuel : Nat) (listed : Array Bool) (a : Act) (w : World) (rs : List Nat) : Prop := AllReady P .any ops.toArray Q fuel listed a w rs
def Td (P : Program) (ops : List Oper) (Q : Exit → Act → World → Prop) (S : World → Prop) (T : List Nat) (fuel : Nat) (listed : Array Bool) (a : Act) (w : World) : Prop := wpHT P ops.toArray Q S T fuel listed a w
def Tds (P : Program) (ops : List Oper) (Q : Exit → Act → World → Prop) (S : World → Prop) (T : List Nat) (fuel : Nat) (listed : Array Bool) (a : Act) (w : World) (rs : List Nat) : Prop :=
  ∀ i ∈ rs, wpOp P ops.toArray Q i (fun a' w' => S w' ∧ Td P ops Q S T fuel (listed.setIfInBounds i true) a' w') a w

theorem td_begin {id : Nat} (hm : P.follows .mixedOrders = true) (h : TdA P ops Q ops.length (Array.replicate ops.length false) a w.drew) : (Code.region id ops.toArray true).wp P Q a w :=
  wp_region_any hm (by simpa [TdA] using h)
/-- An operation that yields in whatever world, ahead of all others. -/
theorem tda_take (i : Nat) {o : Oper} {rest : List Oper} {v : Value} (ho : ops.drop i = o :: rest)
    (hs : Region.noSelect ops.toArray = true) (hf : Region.free .any ops.toArray listed i = true) (hr : (Region.ready .any ops.toArray listed).contains i = true)
    (hQ : ∀ c a w, Q (.panic c) (a.put o.dst v) w → Q (.panic c) a w) (hw : Region.wanted o (yielded ops.toArray a.tmps) = true) (hy : ∀ w, (execOp a.eval o).run P w = .ok (.value v) w)
    (h : TdA P ops Q fuel (listed.setIfInBounds i true) (a.put o.dst v) w) : TdA P ops Q (fuel + 1) listed a w :=
  wpAny_take (i := i) (by
    have := congrArg (fun l => l[0]?) ho
    simpa using this) hs hf hr hQ (.inl ⟨hw, hy⟩) h
/-- From here on S is held. -/
theorem td_hold (S : World → Prop) (T : List Nat) (hT : tailOk ops.toArray T listed = true) (hS : S w) (h : S w → Td P ops Q S T fuel listed a w) : TdA P ops Q fuel listed a w :=
  wpAny_of_ht hT fuel listed a w (closed_of (by unfold tailOk at hT; rw [Bool.and_eq_true] at hT; exact hT.1)) (fun _ h => h) (h hS)
theorem td_take (i : Nat) {o : Oper} {rest : List Oper} {v : Value} (ho : ops.drop i = o :: rest) (hiT : T.contains i = false)
    (hs : Region.noSelect ops.toArray = true) (hf : Region.free .any ops.toArray listed i = true) (hr : (Region.ready .any ops.toArray listed).contains i = true)
    (hQ : ∀ c a w, Q (.panic c) (a.put o.dst v) w → Q (.panic c) a w) (hS : S w) (hw : Region.wanted o (yielded ops.toArray a.tmps) = true) (hy : ∀ w, S w → (execOp a.eval o).run P w = .ok (.value v) w)
    (h : Td P ops Q S T fuel (listed.setIfInBounds i true) (a.put o.dst v) w) : Td P ops Q S T (fuel + 1) listed a w :=
  wpHT_first (i := i) (by
    have := congrArg (fun l => l[0]?) ho
    simpa using this) (by simpa using hiT) (Region.noSelect_spec hs) hQ fuel listed a w (Region.free_spec (by
    have := congrArg (fun l => l[0]?) ho
    simpa using this) hf) (by simpa using hr) (.inl ⟨hw, hy⟩) hS h
theorem td_ready {rs : List Nat} (hr : Region.ready .any ops.toArray listed = rs) (hne : (rs.all fun i => !T.contains i) = true) (hn0 : rs ≠ []) (h : Tds P ops Q S T fuel listed a w rs) : Td P ops Q S T (fuel + 1) listed a w := by
  subst hr
  refine ⟨fun h' => ?_, fun i hi _ => h i hi⟩
  obtain ⟨i, hi⟩ := List.exists_mem_of_ne_nil _ hn0
  have h1 := List.all_eq_true.1 hne i hi
  have h2 := h' i hi
  simp [h2] at h1
theorem td_nil : Tds P ops Q S T fuel listed a w [] := fun _ h => by cases h
theorem td_cons {i : Nat} {o : Oper} {rest : List Oper} {rs : List Nat} (ho : ops.drop i = o :: rest)
    (h : ∀ K' : Act → World → Prop, Shut (∀ a w, S w → (S w → Td P ops Q S T fuel (listed.setIfInBounds i true) a w) → K' a w) → if Region.wanted o (yielded ops.toArray a.tmps) = true then Oper.wp P o a w K' Q else K' (a.put o.dst undef) w)
    (hs : Tds P ops Q S T fuel listed a w rs) : Tds P ops Q S T fuel listed a w (i :: rs) := fun j hj => by
  rcases List.mem_cons.1 hj with rfl | hj
  · exact wpOp_step (by
      have := congrArg (fun l => l[0]?) ho
      simpa using this) (fun K' hK => h K' (fun a w hS hW => hK a w ⟨hS, hW hS⟩))
  · exact hs j hj
/-- The operations of T alone are left. -/
theorem td_last {rs : List Nat} (hr : Region.ready .any ops.toArray listed = rs) (ht : (rs.all fun i => T.contains i) = true) (h : TdA P ops Q (fuel + 1) listed a w) : Td P ops Q S T (fuel + 1) listed a w := by
  subst hr
  refine ⟨fun _ => h, fun i hi hiT => absurd (by simpa using List.all_eq_true.1 ht i hi) hiT⟩
theorem tda_ready {rs : List Nat} (hr : Region.ready .any ops.toArray listed = rs) (hne : rs ≠ []) (h : TdAs P ops Q fuel listed a w rs) : TdA P ops Q (fuel + 1) listed a w := wpAny_ready hr hne h
theorem tda_nil : TdAs P ops Q fuel listed a w [] := AllReady.nil
theorem tda_cons {i : Nat} {o : Oper} {rest : List Oper} {rs : List Nat} (ho : ops.drop i = o :: rest)
    (h : ∀ K' : Act → World → Prop, Shut (∀ a w, TdA P ops Q fuel (listed.setIfInBounds i true) a w → K' a w) → if Region.wanted o (yielded ops.toArray a.tmps) = true then Oper.wp P o a w K' Q else K' (a.put o.dst undef) w)
    (hs : TdAs P ops Q fuel listed a w rs) : TdAs P ops Q fuel listed a w (i :: rs) :=
  AllReady.cons (by
    have := congrArg (fun l => l[0]?) ho
    simpa using this) h hs
theorem tda_done (hr : Region.ready .any ops.toArray listed = []) (h : Q .normal a w) : TdA P ops Q fuel listed a w := wpAny_done hr h fuel
end
end Go.Proofs.YtdkppdjonlldhaaGreatDoor
