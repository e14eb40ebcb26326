/- narratorref27.bar. -/
import Derived.Test.YtnhcelckgfmljaaDoorW3
namespace Go.Proofs.YtnhcelckgfmljaaDoor
open Go.RowKit

/-- In the first state the byte at hand is none that goes on filling. -/
def BarGate (s : ByteArray) (st p : Nat) : Prop := ∀ h : p < s.size, st = 0 → s[p] ≠ 35 ∧ s[p] ≠ 61 ∧ s[p] ≠ 62

end Go.Proofs.YtnhcelckgfmljaaDoor
