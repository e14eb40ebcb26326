/- The library's contracts of this seat: DecodeRuneInString, HasPrefix, CutPrefix; the tables, as a row lays them. -/
import Derived.Test.YtpilpchijmappaaDoorH22
import Derived.Shelf.Strings.Prefix
import Derived.Shelf.Small.Wraps
namespace Go.Proofs.YtpilpchijmappaaDoor
open Go.RowKit Go.Lib Go.Shelf

def laysDec14_ren : Go.Shelf.Ren := ⟨fun | 197 => 48 | 260 => 59 | n => n, fun | 0 => 0 | 3 => 3 | 4 => 4 | 5 => 5 | 9 => 9 | 21 => 21 | 46 => 72 | 105 => 66 | 119 => 68 | 138 => 70 | 139 => 71 | n => n, fun | 3 => 0 | 4 => 1 | n => n⟩
theorem laysDec14 : Go.Proofs.Lays.n197 Tryd.prog laysDec14_ren := { mixed := by kernel_rfl, f197 := Tryd.func48.trans (congrArg some (by kernel_rfl)), f260 := Tryd.func59.trans (congrArg some (by kernel_rfl)), t0 := Tryd.underlying0, a0 := Tryd.isAgg0, z0 := Tryd.sizeOf0, v0 := Tryd.zeroValue0, t3 := Tryd.underlying3, a3 := Tryd.isAgg3, z3 := Tryd.sizeOf3, v3 := Tryd.zeroValue3, t4 := Tryd.underlying4, a4 := Tryd.isAgg4, z4 := Tryd.sizeOf4, v4 := Tryd.zeroValue4, t5 := Tryd.underlying5, a5 := Tryd.isAgg5, z5 := Tryd.sizeOf5, v5 := Tryd.zeroValue5, t9 := Tryd.underlying9, a9 := Tryd.isAgg9, z9 := Tryd.sizeOf9, v9 := Tryd.zeroValue9, t21 := Tryd.underlying21, a21 := Tryd.isAgg21, z21 := Tryd.sizeOf21, v21 := Tryd.zeroValue21, t46 := Tryd.underlying72, a46 := Tryd.isAgg72, z46 := Tryd.sizeOf72, v46 := Tryd.zeroValue72, t105 := Tryd.underlying66, a105 := Tryd.isAgg66, z105 := Tryd.sizeOf66, v105 := Tryd.zeroValue66, t119 := Tryd.underlying68, a119 := Tryd.isAgg68, z119 := Tryd.sizeOf68, t138 := Tryd.underlying70, a138 := Tryd.isAgg70, z138 := Tryd.sizeOf70, v138 := Tryd.zeroValue70, t139 := Tryd.underlying71, a139 := Tryd.isAgg71, z139 := Tryd.sizeOf71, v139 := Tryd.zeroValue71, g3 := by kernel_rfl, g4 := by kernel_rfl }
def laysHas14_ren : Go.Shelf.Ren := ⟨fun | 99 => 35 | 206 => 50 | n => n, fun | 3 => 3 | 4 => 4 | 9 => 9 | n => n, fun | n => n⟩
theorem laysHas14 : Go.Proofs.Lays.n99 Tryd.prog laysHas14_ren := { mixed := by kernel_rfl, f99 := Tryd.func35.trans (congrArg some (by kernel_rfl)), f206 := Tryd.func50.trans (congrArg some (by kernel_rfl)), t3 := Tryd.underlying3, a3 := Tryd.isAgg3, z3 := Tryd.sizeOf3, v3 := Tryd.zeroValue3, t4 := Tryd.underlying4, a4 := Tryd.isAgg4, z4 := Tryd.sizeOf4, v4 := Tryd.zeroValue4, t9 := Tryd.underlying9, a9 := Tryd.isAgg9, z9 := Tryd.sizeOf9, v9 := Tryd.zeroValue9 }
def laysCut14_ren : Go.Shelf.Ren := ⟨fun | 103 => 32 | 206 => 50 | 210 => 49 | n => n, fun | 3 => 3 | 4 => 4 | 9 => 9 | 24 => 57 | n => n, fun | n => n⟩
theorem laysCut14 : Go.Proofs.Lays.n103 Tryd.prog laysCut14_ren := { mixed := by kernel_rfl, f103 := Tryd.func32.trans (congrArg some (by kernel_rfl)), f206 := Tryd.func50.trans (congrArg some (by kernel_rfl)), f210 := Tryd.func49.trans (congrArg some (by kernel_rfl)), t3 := Tryd.underlying3, a3 := Tryd.isAgg3, z3 := Tryd.sizeOf3, v3 := Tryd.zeroValue3, t4 := Tryd.underlying4, a4 := Tryd.isAgg4, z4 := Tryd.sizeOf4, v4 := Tryd.zeroValue4, t9 := Tryd.underlying9, a9 := Tryd.isAgg9, z9 := Tryd.sizeOf9, v9 := Tryd.zeroValue9, t24 := Tryd.underlying57, a24 := Tryd.isAgg57, z24 := Tryd.sizeOf57, v24 := Tryd.zeroValue57 }

theorem decodeRuneP (s : ByteArray) (w : World) (hT : Tabs w) (hne : s.data.toList ≠ []) : Calls Tryd.prog 48 #[.string s] w fun e w' => e = .returned (.tuple #[.int .i32 (Lib.decodeL s.data.toList).1, .int .i64 (Lib.decodeL s.data.toList).2]) ∧ Below w.heap.size w w' := by
  have h := Any.utf8_DecodeRuneInString laysDec14 s w hT
  have hd : Lib.decodeGo s = Lib.decodeL s.data.toList := by
    unfold Lib.decodeGo Lib.decodeL
    have h0 : ¬ s.size = 0 := fun h => hne (List.eq_nil_of_length_eq_zero h)
    rw [if_neg h0]
  rw [hd] at h
  exact h
theorem hasPrefixP (s p : ByteArray) (w : World) : Calls Tryd.prog 35 #[.string s, .string p] w fun e w' => e = .returned (.bool (p.data.toList.isPrefixOf s.data.toList)) ∧ w = w' :=
  (Any.strings_HasPrefix laysHas14 s p w).mono fun _ _ ⟨h1, h2⟩ => ⟨h1, h2.symm⟩
theorem cutPrefixP (s p : ByteArray) (w : World) : Calls Tryd.prog 32 #[.string s, .string p] w fun e w' => e = .returned (.tuple #[.string ⟨(Lib.trimPrefix s.data.toList p.data.toList).toArray⟩, .bool (p.data.toList.isPrefixOf s.data.toList)]) ∧ w = w' :=
  (Any.strings_CutPrefix laysCut14 s p w).mono fun _ _ ⟨h1, h2⟩ => ⟨h1, h2.symm⟩

theorem accept_same : (Rows.laid_unicode_utf8_acceptRanges : DataW Unit) = Lib.acceptData := by kernel_rfl
theorem first_same : Rows.laid_unicode_utf8_first = Lib.firstData := by kernel_rfl
theorem tabs_of_reads {W : World} (h3 : Lib.VarReads Tryd.prog W "unicode/utf8.first" Rows.laid_unicode_utf8_first) (h4 : Lib.VarReads Tryd.prog W "unicode/utf8.acceptRanges" Rows.laid_unicode_utf8_acceptRanges) : Tabs W := by
  rw [first_same] at h3
  rw [accept_same] at h4
  exact utf8Tabs_of_reads { laysDec14 with } ⟨by kernel_rfl, by kernel_rfl, by kernel_rfl, by kernel_rfl, by kernel_rfl, by kernel_rfl, by kernel_rfl⟩ h3 h4
end Go.Proofs.YtpilpchijmappaaDoor
