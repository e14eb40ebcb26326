/- narratorref03: the same error and the same width. -/
import Derived.Test.YtnhcelckgfmljaaDoorV6
namespace Go.Proofs.YtnhcelckgfmljaaDoor
open Go.RowKit

end Go.Proofs.YtnhcelckgfmljaaDoor
