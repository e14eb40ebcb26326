/- narratorref03: the same error and the same width. -/
import Derived.Test.YtbnlnjejdggffaaDoorV6
namespace Go.Proofs.YtbnlnjejdggffaaDoor
open Go.RowKit

end Go.Proofs.YtbnlnjejdggffaaDoor
