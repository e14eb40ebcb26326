/- A region that draws its order, whose operations read memory and whose calls make new memory: one walk in the text's order, the worlds in between known by 'Below' alone. -/
import Derived.Test.YtdkppdjonlldhaaGreatDoorMem2
import Derived.Deep.QuietTactic
import Derived.BigQuiet
namespace Go.Proofs.YtdkppdjonlldhaaGreatDoor
open Go.RowKit

/-- A world that is below N as w0 is. -/
structure Held (N : Nat) (w0 : World) where
  W : World
  hb : Below N w0 W

instance heldNonempty (N : Nat) (w0 : World) : Nonempty (Held N w0) := ⟨⟨w0, Below.refl _ _⟩⟩

abbrev HeldC (N : Nat) (w0 : World) : World → Prop := fun w' => ∃ x : Held N w0, w' = x.W

theorem Held.cell {N : Nat} {w0 : World} {b o : Nat} {v : Value} (h : w0.cell? ⟨b, o, none⟩ = some v) (hb : b < N) : ∀ x : Held N w0, x.W.cell? ⟨b, o, none⟩ = some v := fun x => (x.hb.cell (p := ⟨b, o, none⟩) hb).trans h

theorem wp_region_held {P : Program} {id : Nat} {ops : Array Oper} {Q : Exit → Act → World → Prop} {a : Act} {w : World} (hm : P.follows .mixedOrders = true) (hB : Region.lexB .any ops = true)
    (h : wpQuiet P ops (HeldC w.heap.size w) (fun a' => ∀ w', Below w.heap.size w w' → Q .normal a' w') ops.toList a) : (Code.region id ops true).wp P Q a w :=
  wp_region_quiet (C := HeldC w.heap.size w) hm hB ⟨⟨{ w with drawn := w.drawn + 1 }, ⟨rfl, rfl, rfl, Nat.le_refl _, fun _ _ => rfl⟩⟩, rfl⟩ (by
    have mono : ∀ (l : List Oper) (a : Act) (K K' : Act → Prop), (∀ a, K a → K' a) → wpQuiet P ops (HeldC w.heap.size w) K l a → wpQuiet P ops (HeldC w.heap.size w) K' l a := by
      intro l
      induction l with
      | nil => intro a K K' hk hh; exact hk _ hh
      | cons o l ih =>
        intro a K K' hk hh
        unfold wpQuiet at hh ⊢
        split
        · rename_i hw
          rw [if_pos hw] at hh
          exact Oper.quiet_mono (fun a ha => ih a K K' hk ha) hh
        · rename_i hw
          rw [if_neg hw] at hh
          exact ih _ K K' hk hh
    refine mono _ _ _ _ (fun a ha w' hw' => ?_) h
    obtain ⟨x, rfl⟩ := hw'
    exact ha _ x.hb)

theorem wp_region_held_lit {P : Program} {id : Nat} {Q : Exit → Act → World → Prop} {a : Act} {w : World} {l : List Oper} (hm : P.follows .mixedOrders = true) (hB : Region.lexB .any l.toArray = true)
    (h : wpQuiet P l.toArray (HeldC w.heap.size w) (fun a' => ∀ w', Below w.heap.size w w' → Q .normal a' w') l a) : (Code.region id l.toArray true).wp P Q a w :=
  wp_region_held hm hB (by simpa using h)

/-- A call inside such a region, by its contract. -/
theorem held_call {P : Program} {f : FuncId} {args : Array Value} {w0 : World} {v : Value} (x : Held w0.heap.size w0)
    (h : ∀ W, Below w0.heap.size w0 W → Calls P f args W fun e w' => e = .returned v ∧ Below W.heap.size W w') : Calls P f args x.W fun e w'' => e = .returned v ∧ ∃ y : Held w0.heap.size w0, w'' = y.W :=
  (h x.W x.hb).mono fun _ w'' ⟨he, hb⟩ => ⟨he, ⟨w'', x.hb.trans (hb.mono x.hb.size)⟩, rfl⟩
theorem held_call_same {P : Program} {f : FuncId} {args : Array Value} {w0 : World} {v : Value} (x : Held w0.heap.size w0)
    (h : ∀ W, Below w0.heap.size w0 W → Calls P f args W fun e w' => e = .returned v ∧ W = w') : Calls P f args x.W fun e w'' => e = .returned v ∧ ∃ y : Held w0.heap.size w0, w'' = y.W :=
  held_call x fun W hW => (h W hW).mono fun _ _ ⟨he, hw⟩ => ⟨he, by rw [hw]; exact Below.refl _ _⟩
end Go.Proofs.YtdkppdjonlldhaaGreatDoor
