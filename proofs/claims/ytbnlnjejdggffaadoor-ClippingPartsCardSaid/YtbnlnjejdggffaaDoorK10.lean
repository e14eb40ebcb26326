/- Chapter 45: the references of Between and Lines. -/
import Derived.Test.YtbnlnjejdggffaaDoorK9
namespace Go.Proofs.YtbnlnjejdggffaaDoor
open Go.RowKit Go.Shelf

end Go.Proofs.YtbnlnjejdggffaaDoor
