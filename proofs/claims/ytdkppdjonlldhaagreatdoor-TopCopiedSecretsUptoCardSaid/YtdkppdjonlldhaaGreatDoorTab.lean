/- The listed variables of unicode/utf8, as the contracts ask for them. -/
import Derived.Test.YtdkppdjonlldhaaGreatDoorSh1
import Derived.Test.YtdkppdjonlldhaaGreatDoorRows
import Derived.Lib.LaidU8T
namespace Go.Proofs.YtdkppdjonlldhaaGreatDoor
open Go.Shelf Go.Lib

theorem accept_same : (Rows.laid_unicode_utf8_acceptRanges : DataW Unit) = Lib.acceptData := by kernel_rfl
theorem first_same : Rows.laid_unicode_utf8_first = Lib.firstData := by kernel_rfl
theorem tabs_of_reads {W : World} (h3 : Lib.VarReads Tryz.prog W "unicode/utf8.first" Rows.laid_unicode_utf8_first) (h4 : Lib.VarReads Tryz.prog W "unicode/utf8.acceptRanges" Rows.laid_unicode_utf8_acceptRanges) : Tabs W := by
  rw [first_same] at h3
  rw [accept_same] at h4
  exact utf8Tabs_of_readsT (U8Types.of196 laysValid) ⟨by kernel_rfl, by kernel_rfl, by kernel_rfl, by kernel_rfl, by kernel_rfl, by kernel_rfl, by kernel_rfl⟩ h3 h4
end Go.Proofs.YtdkppdjonlldhaaGreatDoor
