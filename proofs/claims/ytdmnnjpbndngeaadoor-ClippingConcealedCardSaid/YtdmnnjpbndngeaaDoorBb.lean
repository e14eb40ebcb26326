/- strings.Builder's WriteByte and String, laid at this seat's numbers. -/
import Derived.Test.YtdmnnjpbndngeaaDoorMem2
import Derived.Shelf.Strings.BuilderK
namespace Go.Proofs.YtdmnnjpbndngeaaDoor
open Go.RowKit Go.Shelf Go.Lib

def laysString_ren : Go.Shelf.Ren := ⟨fun | 169 => 35 | n => n, fun | 0 => 0 | 3 => 3 | 5 => 5 | 9 => 9 | 37 => 88 | 70 => 87 | 72 => 90 | 127 => 114 | n => n, fun | n => n⟩
theorem laysString : Go.Proofs.Lays.n169 Tryd.prog laysString_ren := { mixed := by kernel_rfl, f169 := Tryd.func35.trans (congrArg some (by kernel_rfl)), t0 := Tryd.underlying0, a0 := Tryd.isAgg0, z0 := Tryd.sizeOf0, v0 := Tryd.zeroValue0, t3 := Tryd.underlying3, a3 := Tryd.isAgg3, z3 := Tryd.sizeOf3, v3 := Tryd.zeroValue3, t9 := Tryd.underlying9, a9 := Tryd.isAgg9, z9 := Tryd.sizeOf9, v9 := Tryd.zeroValue9, t37 := Tryd.underlying88, a37 := Tryd.isAgg88, z37 := Tryd.sizeOf88, v37 := Tryd.zeroValue88, t70 := Tryd.underlying87, a70 := Tryd.isAgg87, z70 := Tryd.sizeOf87, v70 := Tryd.zeroValue87, t72 := Tryd.underlying90, a72 := Tryd.isAgg90, z72 := Tryd.sizeOf90, v72 := Tryd.zeroValue90, t127 := Tryd.underlying114, a127 := Tryd.isAgg114, z127 := Tryd.sizeOf114, v127 := Tryd.zeroValue114 }
theorem stringX : Builder.Extra Tryd.prog laysString_ren := { sizeBuilder := by kernel_rfl, liesBuilder := by kernel_rfl, t5 := Tryd.underlying5, a5 := Tryd.isAgg5, z5 := Tryd.sizeOf5, v5 := Tryd.zeroValue5, infoByte := by kernel_rfl, cellsByte := by kernel_rfl, sizeByte := by kernel_rfl, neB5 := by decide }
end Go.Proofs.YtdmnnjpbndngeaaDoor
