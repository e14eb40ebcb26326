/- strconv.Itoa of the numbers of this seat; the table that it reads. -/
import Derived.Test.YtpilpchijmappaaDoorMem2
import Derived.Test.YtpilpchijmappaaDoorRows
import Derived.Lib.LaidU8T
import Derived.Shelf.Strconv.Itoa3
import Derived.Shelf.Unicode.PredsPay
import Derived.Lib.AppendIntMem
namespace Go.Proofs.YtpilpchijmappaaDoor
open Go.RowKit Go.Shelf Go.Lib

def laysItoaM_ren : Go.Shelf.Ren := ⟨fun | 129 => 70 | 171 => 30 | 243 => 47 | 246 => 58 | 283 => 65 | 284 => 66 | 285 => 67 | 286 => 68 | 317 => 69 | 318 => 71 | 319 => 72 | 320 => 73 | 337 => 74 | 338 => 75 | n => n, fun | 0 => 0 | 2 => 2 | 3 => 3 | 4 => 4 | 5 => 5 | 9 => 9 | 20 => 20 | 37 => 36 | 46 => 72 | 51 => 93 | 53 => 85 | 171 => 84 | 173 => 88 | 212 => 92 | 213 => 94 | 232 => 98 | 233 => 99 | n => n, fun | 17 => 2 | 18 => 3 | 19 => 4 | n => n⟩
theorem laysItoaM : Go.Proofs.LaysM.n171 Tryd.prog laysItoaM_ren := { mixed := by kernel_rfl, f129 := Tryd.func70.trans (congrArg some (by kernel_rfl)), f171 := Tryd.func30.trans (congrArg some (by kernel_rfl)), f243 := Tryd.func47.trans (congrArg some (by kernel_rfl)), f246 := Tryd.func58.trans (congrArg some (by kernel_rfl)), f283 := Tryd.func65.trans (congrArg some (by kernel_rfl)), f284 := Tryd.func66.trans (congrArg some (by kernel_rfl)), f285 := Tryd.func67.trans (congrArg some (by kernel_rfl)), f286 := Tryd.func68.trans (congrArg some (by kernel_rfl)), f317 := Tryd.func69.trans (congrArg some (by kernel_rfl)), f318 := Tryd.func71.trans (congrArg some (by kernel_rfl)), f319 := Tryd.func72.trans (congrArg some (by kernel_rfl)), f320 := Tryd.func73.trans (congrArg some (by kernel_rfl)), f337 := Tryd.func74.trans (congrArg some (by kernel_rfl)), f338 := Tryd.func75.trans (congrArg some (by kernel_rfl)), t0 := Tryd.underlying0, a0 := Tryd.isAgg0, z0 := Tryd.sizeOf0, v0 := Tryd.zeroValue0, t2 := Tryd.underlying2, a2 := Tryd.isAgg2, z2 := Tryd.sizeOf2, v2 := Tryd.zeroValue2, t3 := Tryd.underlying3, a3 := Tryd.isAgg3, z3 := Tryd.sizeOf3, v3 := Tryd.zeroValue3, t4 := Tryd.underlying4, a4 := Tryd.isAgg4, z4 := Tryd.sizeOf4, v4 := Tryd.zeroValue4, t5 := Tryd.underlying5, a5 := Tryd.isAgg5, z5 := Tryd.sizeOf5, v5 := Tryd.zeroValue5, t9 := Tryd.underlying9, a9 := Tryd.isAgg9, z9 := Tryd.sizeOf9, v9 := Tryd.zeroValue9, t20 := Tryd.underlying20, a20 := Tryd.isAgg20, z20 := Tryd.sizeOf20, v20 := Tryd.zeroValue20, t37 := Tryd.underlying36, a37 := Tryd.isAgg36, z37 := Tryd.sizeOf36, v37 := Tryd.zeroValue36, t46 := Tryd.underlying72, a46 := Tryd.isAgg72, z46 := Tryd.sizeOf72, v46 := Tryd.zeroValue72, t51 := Tryd.underlying93, a51 := Tryd.isAgg93, z51 := Tryd.sizeOf93, v51 := Tryd.zeroValue93, t53 := Tryd.underlying85, a53 := Tryd.isAgg85, z53 := Tryd.sizeOf85, v53 := Tryd.zeroValue85, t171 := Tryd.underlying84, a171 := Tryd.isAgg84, z171 := Tryd.sizeOf84, v171 := Tryd.zeroValue84, t173 := Tryd.underlying88, a173 := Tryd.isAgg88, z173 := Tryd.sizeOf88, v173 := Tryd.zeroValue88, t212 := Tryd.underlying92, a212 := Tryd.isAgg92, z212 := Tryd.sizeOf92, v212 := Tryd.zeroValue92, t213 := Tryd.underlying94, a213 := Tryd.isAgg94, z213 := Tryd.sizeOf94, t232 := Tryd.underlying98, a232 := Tryd.isAgg98, z232 := Tryd.sizeOf98, v232 := Tryd.zeroValue98, t233 := Tryd.underlying99, a233 := Tryd.isAgg99, z233 := Tryd.sizeOf99, v233 := Tryd.zeroValue99, g17 := by kernel_rfl, g18 := by kernel_rfl, g19 := by kernel_rfl, i0 := by kernel_rfl, i2 := by kernel_rfl, i3 := by kernel_rfl, i4 := by kernel_rfl, i5 := by kernel_rfl, i9 := by kernel_rfl, i20 := by kernel_rfl, i37 := by kernel_rfl, i46 := by kernel_rfl, i51 := by kernel_rfl, i53 := by kernel_rfl, i171 := by kernel_rfl, i173 := by kernel_rfl, i212 := by kernel_rfl, i232 := by kernel_rfl, i233 := by kernel_rfl, m17 := by kernel_rfl, m18 := by kernel_rfl, m19 := by kernel_rfl }

/-- What the table of the powers of ten holds. -/
def Pow (w : World) : Prop := Lib.TabIs Tryd.prog w "internal/strconv.uint64pow10" .u64 Lib.pow10Tab
theorem Pow.below {w w' : World} (h : Pow w) (hb : Below w.heap.size w w') : Pow w' := TabIs_below (g := 2) (by kernel_rfl) h hb
theorem pow_same : (Rows.laid_internal_strconv_uint64pow10 : DataW Unit) = Lib.tabData .u64 Lib.pow10Tab := by kernel_rfl
theorem pow_of_reads {W : World} (h : Lib.VarReads Tryd.prog W "internal/strconv.uint64pow10" Rows.laid_internal_strconv_uint64pow10) : Lib.TabIs Tryd.prog W "internal/strconv.uint64pow10" .u64 Lib.pow10Tab := by
  rw [pow_same] at h
  obtain ⟨g', t', cs, fuel, p, hg', ht', hvar, hd⟩ := h
  have hg : Tryd.prog.globalNamed "internal/strconv.uint64pow10" = some 2 := by kernel_rfl
  obtain rfl := Option.some.inj (hg.symm.trans hg')
  have hty : (Tryd.prog.globals[2]?).map (·.type) = some 92 := by kernel_rfl
  obtain rfl := Option.some.inj (hty.symm.trans ht')
  unfold Lib.TabIs
  rw [hvar, ← cells_of_tab Tryd.underlying92 Tryd.underlying85 (by kernel_rfl) (by kernel_rfl) hd]

theorem itoaP (w : World) (n : Nat) (h : n ≤ 100) (hT : Pow w) : Calls Tryd.prog 30 #[.int .i64 n] w fun e w' => e = .returned (.string ⟨(Lib.itoa n).toArray⟩) ∧ Below w.heap.size w w' :=
  (Any.strconv_Itoa laysItoaM n (by omega) (by omega) w hT).mono fun e w' ⟨he, k, os, hw⟩ => ⟨he, by rw [hw]; exact Lib.below_grow _ w (Nat.le_refl _) k os⟩
end Go.Proofs.YtpilpchijmappaaDoor
