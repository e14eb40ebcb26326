/- Tables: narratorref24.table. -/
import Derived.Test.YtmgepckhdgoemaaDoorP2
import Derived.Test.YtmgepckhdgoemaaDoorT12
namespace Go.Proofs.YtmgepckhdgoemaaDoor
open Go.RowKit

theorem valid24_of {v : Vw} {t b : Nat} (hok : v.ok = true) (h1 : t < b) (h2 : b ≤ v.rows.length) : valid24 v t b = true := by
  have := (Vw.proper hok).len
  unfold valid24 validB
  rw [hok]; simp; omega

end Go.Proofs.YtmgepckhdgoemaaDoor
