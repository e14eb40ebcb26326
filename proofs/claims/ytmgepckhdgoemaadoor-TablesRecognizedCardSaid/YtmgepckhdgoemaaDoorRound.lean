/- A region that draws its order, inside a round of a loop over an iterator (at the wide fence): by the plain laws for regions. The script of the walk is printed by a program (the marks '@@round' of the templates). -/
import Derived.Test.YtmgepckhdgoemaaDoorMem2
import Derived.Deep.RegionHeld3
import Derived.RangeFuncCalls
import Derived.OrdersIn
namespace Go.Proofs.YtmgepckhdgoemaaDoor
open Go.RowKit

/-- Q at the normal exit alone. -/
def OnlyNormal (Q : Exit → Act → World → Prop) : Exit → Act → World → Prop
  | .normal, a, w => Q .normal a w
  | _, _, _ => False

theorem rowsIn_wide {n : Nat} {P : Program} {row : String} {args : Array Value} {w : World} {R : Value → World → Prop} (h : Rows P row args w R) : RowsIn Fence.wide n P row args w R :=
  fun c cs _ => let ⟨v, w', r, s⟩ := h c cs; ⟨v, w', r, (StepsIn.of_steps s).mono fun m _ => fenced_wide P m⟩

theorem opIn_of_op {n : Nat} {P : Program} {o : Oper} {a : Act} {w : World} {K : Act → World → Prop} {Q : Exit → Act → World → Prop} (l : Nat) (hd : ∀ c, o.op ≠ .defer c) (h : o.wp P a w K (OnlyNormal Q)) : o.wpIn (Fence.wide.inRound l) n P a w K Q := by
  refine ⟨fun _ _ => trivial, ?_⟩
  rw [Fence.inRound_round, Oper.semAt_some l _ _ hd]
  unfold Oper.wp at h
  generalize (execOp a.eval o).run P w = r at *
  cases r with
  | ok x w' =>
    cases x <;> simp only [Oper.upon] at h <;> simp only [Oper.uponIn]
    case value => exact h
    case skip => exact h
    case defer => exact h
    case enter f args =>
      refine ⟨(fun h => by cases h), CallsIn.inRound l (callsIn_wide.2 (h.mono ?_))⟩
      intro e w'' he
      cases e with
      | returned v => exact he
      | panicked c => exact (he : False).elim
      | outgrown => obtain ⟨_, _, hx⟩ := (he : LetsOut (OnlyNormal Q)); exact (hx : False).elim
    case row row args => exact ⟨(fun h => by cases h), rowsIn_wide h⟩
  | halt x w' => cases x <;> simp only [Oper.upon] at h <;> first | exact (h : False).elim | skip

theorem anyIn_of_any {n : Nat} {P : Program} {ops : Array Oper} {md : Region.Mode} {Q : Exit → Act → World → Prop} (l : Nat) (hd : ∀ (i : Nat) (o : Oper), ops[i]? = some o → ∀ c, o.op ≠ .defer c) :
    ∀ (fuel : Nat) (listed : Array Bool) (a : Act) (w : World), wpAny P md ops (OnlyNormal Q) fuel listed a w → wpAnyIn (Fence.wide.inRound l) n P md ops Q fuel listed a w
  | 0, _, _, _, h => h
  | fuel + 1, _, _, _, h => ⟨h.1, fun i hi => by
    have h2 := h.2 i hi
    unfold wpOp at h2
    unfold wpOpIn
    cases ho : ops[i]? with
    | none => rw [ho] at h2; exact anyIn_of_any l hd fuel _ _ _ h2
    | some o =>
      rw [ho] at h2
      dsimp only at h2 ⊢
      split
      · rename_i hw
        rw [if_pos hw] at h2
        rcases h2 with h2 | ⟨_, h2⟩
        · exact Oper.wpIn_mono (fun a w h => anyIn_of_any l hd fuel _ _ _ h) (opIn_of_op l (hd i o ho) h2)
        · obtain ⟨_, _, hx⟩ := h2; exact (hx : False).elim
      · rename_i hw
        rw [if_neg hw] at h2
        exact ⟨fun _ _ => trivial, anyIn_of_any l hd fuel _ _ _ h2⟩⟩

def noDefer (ops : List Oper) : Bool := ops.all fun o => match o.op with | .defer _ => false | _ => true
theorem noDefer_of {ops : List Oper} (h : noDefer ops = true) (i : Nat) (o : Oper) (hi : ops.toArray[i]? = some o) (c : _) : o.op ≠ .defer c := by
  unfold noDefer at h
  rw [List.all_eq_true] at h
  have hm : o ∈ ops := by
    rw [List.getElem?_toArray] at hi
    exact List.mem_of_getElem? hi
  have := h o hm
  intro e
  rw [e] at this
  cases this

/-- The walk through a region of a round: what is known of the world (S), the state, the world. -/
def Rd (P : Program) (ops : List Oper) (Q : Exit → Act → World → Prop) (S : World → Prop) (fuel : Nat) (listed : Array Bool) (a : Act) (w : World) : Prop :=
  wpAnyH P .any ops.toArray (OnlyNormal Q) S fuel listed a w
def RdAll (P : Program) (ops : List Oper) (Q : Exit → Act → World → Prop) (S : World → Prop) (fuel : Nat) (listed : Array Bool) (a : Act) (w : World) (rs : List Nat) : Prop :=
  AllReadyH P .any ops.toArray (OnlyNormal Q) S fuel listed a w rs

section
variable {P : Program} {ops : List Oper} {Q : Exit → Act → World → Prop} {S : World → Prop} {fuel : Nat} {listed : Array Bool} {a : Act} {w : World}

theorem wpIn_region_round {n : Nat} {l id : Nat} (hm : P.follows .mixedOrders = true) (hd : noDefer ops = true) (hS : S w.drew)
    (h : S w.drew → Rd P ops Q S ops.length (Array.replicate ops.length false) a w.drew) : (Code.region id ops.toArray true).wpIn (Fence.wide.inRound l) n P Q a w :=
  wpIn_region_any hm (anyIn_of_any l (fun i o hi => noDefer_of hd i o hi) _ _ _ _ (wpAny_of_held _ _ _ _ (by simpa [Rd] using h hS)))

theorem rd_take (i : Nat) {o : Oper} {rest : List Oper} {v : Value} (ho : ops.drop i = o :: rest)
    (hs : Region.noSelect ops.toArray = true) (hf : Region.free .any ops.toArray listed i = true) (hr : (Region.ready .any ops.toArray listed).contains i = true)
    (hS : S w) (hw : Region.wanted o (yielded ops.toArray a.tmps) = true) (hy : ∀ w, S w → (execOp a.eval o).run P w = .ok (.value v) w)
    (h : Rd P ops Q S fuel (listed.setIfInBounds i true) (a.put o.dst v) w) : Rd P ops Q S (fuel + 1) listed a w :=
  wpAnyH_take (i := i) (by
    have := congrArg (fun l => l[0]?) ho
    simpa using this) hs hf hr (fun _ _ _ h => (h : False).elim) (.inl ⟨hw, hy⟩) hS h

theorem rd_done (hr : Region.ready .any ops.toArray listed = []) (h : Q .normal a w) : Rd P ops Q S fuel listed a w := wpAnyH_done (Q := OnlyNormal Q) hr h fuel

theorem rd_ready {rs : List Nat} (hr : Region.ready .any ops.toArray listed = rs) (hne : rs ≠ []) (h : RdAll P ops Q S fuel listed a w rs) : Rd P ops Q S (fuel + 1) listed a w := wpAnyH_ready hr hne h
theorem rd_nil : RdAll P ops Q S fuel listed a w [] := AllReadyH.nil
theorem rd_cons {i : Nat} {o : Oper} {rest : List Oper} {rs : List Nat} (ho : ops.drop i = o :: rest)
    (h : ∀ K' : Act → World → Prop, Shut (∀ a w, S w → (S w → Rd P ops Q S fuel (listed.setIfInBounds i true) a w) → K' a w) → if Region.wanted o (yielded ops.toArray a.tmps) = true then Oper.wp P o a w K' (OnlyNormal Q) else K' (a.put o.dst undef) w)
    (hs : RdAll P ops Q S fuel listed a w rs) : RdAll P ops Q S fuel listed a w (i :: rs) :=
  AllReadyH.cons (by
    have := congrArg (fun l => l[0]?) ho
    simpa using this) h hs
end
end Go.Proofs.YtmgepckhdgoemaaDoor
