/- Chapter 45: the references of Between and Lines. -/
import Derived.Test.YtdmnnjpbndngeaaDoorK9
namespace Go.Proofs.YtdmnnjpbndngeaaDoor
open Go.RowKit Go.Shelf

end Go.Proofs.YtdmnnjpbndngeaaDoor
