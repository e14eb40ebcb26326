/- narratorref27.percent. -/
import Derived.Test.YtnhcelckgfmljaaDoorW1
namespace Go.Proofs.YtnhcelckgfmljaaDoor
open Go.RowKit

end Go.Proofs.YtnhcelckgfmljaaDoor
