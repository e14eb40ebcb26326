/- strconv.Itoa, strings.Builder; the jumps' targets as a map. -/
import Derived.Test.YtonnjokjbknngaaDoorZ25
import Derived.Test.YtonnjokjbknngaaDoorZ10
import Derived.Test.YtonnjokjbknngaaDoorRows
import Derived.Lib.LaidU8T
import Derived.Shelf.Strconv.Itoa3
import Derived.Shelf.Unicode.PredsPay
import Derived.Lib.AppendIntMem
import Derived.Shelf.Strings.BuilderK
import Derived.Maps.OwnSet
namespace Go.Proofs.YtonnjokjbknngaaDoor
open Go.RowKit Go.Maps Go.Lib Go.Shelf

def laysWriteString_ren : Go.Shelf.Ren := ⟨fun | 166 => 45 | 240 => 67 | 276 => 81 | n => n, fun | 0 => 0 | 3 => 3 | 4 => 4 | 5 => 5 | 9 => 9 | 20 => 20 | 37 => 64 | 70 => 72 | 72 => 74 | 75 => 77 | 80 => 81 | 164 => 107 | n => n, fun | n => n⟩
theorem laysWriteString : Go.Proofs.Lays.n166 Tryd.prog laysWriteString_ren := { mixed := by kernel_rfl, f166 := Tryd.func45.trans (congrArg some (by kernel_rfl)), f240 := Tryd.func67.trans (congrArg some (by kernel_rfl)), f276 := Tryd.func81.trans (congrArg some (by kernel_rfl)), t0 := Tryd.underlying0, a0 := Tryd.isAgg0, z0 := Tryd.sizeOf0, v0 := Tryd.zeroValue0, t3 := Tryd.underlying3, a3 := Tryd.isAgg3, z3 := Tryd.sizeOf3, v3 := Tryd.zeroValue3, t4 := Tryd.underlying4, a4 := Tryd.isAgg4, z4 := Tryd.sizeOf4, v4 := Tryd.zeroValue4, t9 := Tryd.underlying9, a9 := Tryd.isAgg9, z9 := Tryd.sizeOf9, v9 := Tryd.zeroValue9, t20 := Tryd.underlying20, a20 := Tryd.isAgg20, z20 := Tryd.sizeOf20, v20 := Tryd.zeroValue20, t37 := Tryd.underlying64, a37 := Tryd.isAgg64, z37 := Tryd.sizeOf64, v37 := Tryd.zeroValue64, t70 := Tryd.underlying72, a70 := Tryd.isAgg72, z70 := Tryd.sizeOf72, v70 := Tryd.zeroValue72, t72 := Tryd.underlying74, a72 := Tryd.isAgg74, z72 := Tryd.sizeOf74, v72 := Tryd.zeroValue74, t75 := Tryd.underlying77, a75 := Tryd.isAgg77, z75 := Tryd.sizeOf77, v75 := Tryd.zeroValue77, t164 := Tryd.underlying107, a164 := Tryd.isAgg107, z164 := Tryd.sizeOf107, v164 := Tryd.zeroValue107 }
theorem writeStringX : Builder.Extra Tryd.prog laysWriteString_ren := { sizeBuilder := by kernel_rfl, liesBuilder := by kernel_rfl, t5 := Tryd.underlying5, a5 := Tryd.isAgg5, z5 := Tryd.sizeOf5, v5 := Tryd.zeroValue5, infoByte := by kernel_rfl, cellsByte := by kernel_rfl, sizeByte := by kernel_rfl, neB5 := by decide }
def laysString_ren : Go.Shelf.Ren := ⟨fun | 169 => 47 | n => n, fun | 0 => 0 | 3 => 3 | 5 => 5 | 9 => 9 | 37 => 64 | 70 => 72 | 72 => 74 | 127 => 100 | n => n, fun | n => n⟩
theorem laysString : Go.Proofs.Lays.n169 Tryd.prog laysString_ren := { mixed := by kernel_rfl, f169 := Tryd.func47.trans (congrArg some (by kernel_rfl)), t0 := Tryd.underlying0, a0 := Tryd.isAgg0, z0 := Tryd.sizeOf0, v0 := Tryd.zeroValue0, t3 := Tryd.underlying3, a3 := Tryd.isAgg3, z3 := Tryd.sizeOf3, v3 := Tryd.zeroValue3, t9 := Tryd.underlying9, a9 := Tryd.isAgg9, z9 := Tryd.sizeOf9, v9 := Tryd.zeroValue9, t37 := Tryd.underlying64, a37 := Tryd.isAgg64, z37 := Tryd.sizeOf64, v37 := Tryd.zeroValue64, t70 := Tryd.underlying72, a70 := Tryd.isAgg72, z70 := Tryd.sizeOf72, v70 := Tryd.zeroValue72, t72 := Tryd.underlying74, a72 := Tryd.isAgg74, z72 := Tryd.sizeOf74, v72 := Tryd.zeroValue74, t127 := Tryd.underlying100, a127 := Tryd.isAgg100, z127 := Tryd.sizeOf100, v127 := Tryd.zeroValue100 }
theorem stringX : Builder.Extra Tryd.prog laysString_ren := { sizeBuilder := by kernel_rfl, liesBuilder := by kernel_rfl, t5 := Tryd.underlying5, a5 := Tryd.isAgg5, z5 := Tryd.sizeOf5, v5 := Tryd.zeroValue5, infoByte := by kernel_rfl, cellsByte := by kernel_rfl, sizeByte := by kernel_rfl, neB5 := by decide }
def laysItoaM_ren : Go.Shelf.Ren := ⟨fun | 129 => 95 | 171 => 49 | 243 => 69 | 246 => 83 | 283 => 89 | 284 => 90 | 285 => 91 | 286 => 92 | 317 => 94 | 318 => 96 | 319 => 97 | 320 => 98 | 337 => 99 | 338 => 100 | n => n, fun | 0 => 0 | 2 => 2 | 3 => 3 | 4 => 4 | 5 => 5 | 9 => 9 | 20 => 20 | 37 => 64 | 46 => 65 | 51 => 94 | 53 => 97 | 171 => 117 | 173 => 120 | 212 => 124 | 213 => 125 | 232 => 128 | 233 => 129 | n => n, fun | 17 => 3 | 18 => 4 | 19 => 5 | n => n⟩
theorem laysItoaM : Go.Proofs.LaysM.n171 Tryd.prog laysItoaM_ren := { mixed := by kernel_rfl, f129 := Tryd.func95.trans (congrArg some (by kernel_rfl)), f171 := Tryd.func49.trans (congrArg some (by kernel_rfl)), f243 := Tryd.func69.trans (congrArg some (by kernel_rfl)), f246 := Tryd.func83.trans (congrArg some (by kernel_rfl)), f283 := Tryd.func89.trans (congrArg some (by kernel_rfl)), f284 := Tryd.func90.trans (congrArg some (by kernel_rfl)), f285 := Tryd.func91.trans (congrArg some (by kernel_rfl)), f286 := Tryd.func92.trans (congrArg some (by kernel_rfl)), f317 := Tryd.func94.trans (congrArg some (by kernel_rfl)), f318 := Tryd.func96.trans (congrArg some (by kernel_rfl)), f319 := Tryd.func97.trans (congrArg some (by kernel_rfl)), f320 := Tryd.func98.trans (congrArg some (by kernel_rfl)), f337 := Tryd.func99.trans (congrArg some (by kernel_rfl)), f338 := Tryd.func100.trans (congrArg some (by kernel_rfl)), t0 := Tryd.underlying0, a0 := Tryd.isAgg0, z0 := Tryd.sizeOf0, v0 := Tryd.zeroValue0, t2 := Tryd.underlying2, a2 := Tryd.isAgg2, z2 := Tryd.sizeOf2, v2 := Tryd.zeroValue2, t3 := Tryd.underlying3, a3 := Tryd.isAgg3, z3 := Tryd.sizeOf3, v3 := Tryd.zeroValue3, t4 := Tryd.underlying4, a4 := Tryd.isAgg4, z4 := Tryd.sizeOf4, v4 := Tryd.zeroValue4, t5 := Tryd.underlying5, a5 := Tryd.isAgg5, z5 := Tryd.sizeOf5, v5 := Tryd.zeroValue5, t9 := Tryd.underlying9, a9 := Tryd.isAgg9, z9 := Tryd.sizeOf9, v9 := Tryd.zeroValue9, t20 := Tryd.underlying20, a20 := Tryd.isAgg20, z20 := Tryd.sizeOf20, v20 := Tryd.zeroValue20, t37 := Tryd.underlying64, a37 := Tryd.isAgg64, z37 := Tryd.sizeOf64, v37 := Tryd.zeroValue64, t46 := Tryd.underlying65, a46 := Tryd.isAgg65, z46 := Tryd.sizeOf65, v46 := Tryd.zeroValue65, t51 := Tryd.underlying94, a51 := Tryd.isAgg94, z51 := Tryd.sizeOf94, v51 := Tryd.zeroValue94, t53 := Tryd.underlying97, a53 := Tryd.isAgg97, z53 := Tryd.sizeOf97, v53 := Tryd.zeroValue97, t171 := Tryd.underlying117, a171 := Tryd.isAgg117, z171 := Tryd.sizeOf117, v171 := Tryd.zeroValue117, t173 := Tryd.underlying120, a173 := Tryd.isAgg120, z173 := Tryd.sizeOf120, v173 := Tryd.zeroValue120, t212 := Tryd.underlying124, a212 := Tryd.isAgg124, z212 := Tryd.sizeOf124, v212 := Tryd.zeroValue124, t213 := Tryd.underlying125, a213 := Tryd.isAgg125, z213 := Tryd.sizeOf125, t232 := Tryd.underlying128, a232 := Tryd.isAgg128, z232 := Tryd.sizeOf128, v232 := Tryd.zeroValue128, t233 := Tryd.underlying129, a233 := Tryd.isAgg129, z233 := Tryd.sizeOf129, v233 := Tryd.zeroValue129, g17 := by kernel_rfl, g18 := by kernel_rfl, g19 := by kernel_rfl, i0 := by kernel_rfl, i2 := by kernel_rfl, i3 := by kernel_rfl, i4 := by kernel_rfl, i5 := by kernel_rfl, i9 := by kernel_rfl, i20 := by kernel_rfl, i37 := by kernel_rfl, i46 := by kernel_rfl, i51 := by kernel_rfl, i53 := by kernel_rfl, i171 := by kernel_rfl, i173 := by kernel_rfl, i212 := by kernel_rfl, i232 := by kernel_rfl, i233 := by kernel_rfl, m17 := by kernel_rfl, m18 := by kernel_rfl, m19 := by kernel_rfl }

/-- What the table of the powers of ten holds. -/
def Pow (w : World) : Prop := Lib.TabIs Tryd.prog w "internal/strconv.uint64pow10" .u64 Lib.pow10Tab
theorem Pow.below {w w' : World} (h : Pow w) (hb : Below w.heap.size w w') : Pow w' := TabIs_below (g := 3) (by kernel_rfl) h hb
theorem pow_same : (Rows.laid_internal_strconv_uint64pow10 : DataW Unit) = Lib.tabData .u64 Lib.pow10Tab := by kernel_rfl
theorem pow_of_reads {W : World} (h : Lib.VarReads Tryd.prog W "internal/strconv.uint64pow10" Rows.laid_internal_strconv_uint64pow10) : Lib.TabIs Tryd.prog W "internal/strconv.uint64pow10" .u64 Lib.pow10Tab := by
  rw [pow_same] at h
  obtain ⟨g', t', cs, fuel, p, hg', ht', hvar, hd⟩ := h
  have hg : Tryd.prog.globalNamed "internal/strconv.uint64pow10" = some 3 := by kernel_rfl
  obtain rfl := Option.some.inj (hg.symm.trans hg')
  have hty : (Tryd.prog.globals[3]?).map (·.type) = some 124 := by kernel_rfl
  obtain rfl := Option.some.inj (hty.symm.trans ht')
  unfold Lib.TabIs
  rw [hvar, ← cells_of_tab Tryd.underlying124 Tryd.underlying97 (by kernel_rfl) (by kernel_rfl) hd]
theorem itoaP (w : World) (z : Int) (h1 : -999999999 ≤ z) (h2 : z ≤ 999999999) (hT : Pow w) : Calls Tryd.prog 49 #[.int .i64 z] w fun e w' => e = .returned (.string ⟨(Lib.itoa z).toArray⟩) ∧ Below w.heap.size w w' :=
  (Any.strconv_Itoa laysItoaM z (by omega) (by omega) w hT).mono fun e w' ⟨he, k, os, hw⟩ => ⟨he, by rw [hw]; exact Lib.below_grow _ w (Nat.le_refl _) k os⟩

theorem bldAt_below {T e : TypeId} {B b : Nat} {p : Value} {bs : List Value} {W W' : World} (h : BuilderAtF T e B b p bs W) (hb : Below W.heap.size W W') : BuilderAtF T e B b p bs W' := by
  have hlt := h.lt
  obtain ⟨hB, v, hv, hown, hne⟩ := h
  exact ⟨hB, v, (hb.block b hlt).trans hv, hown.kept (row := none) ⟨hb.os, hb.tape, hb.output, hb.size, fun k hk _ => hb.block k hk⟩ (Classical.em _), hne⟩
theorem bld_below {T e : TypeId} {B b : Nat} {bs : List Value} {W W' : World} (h : IsBuilderF T e B b bs W) (hb : Below W.heap.size W W') : IsBuilderF T e B b bs W' :=
  h.elim (fun x => .inl (bldAt_below x hb)) (fun x => .inr (bldAt_below x hb))
abbrev Bld (w : World) (b : Nat) (s : List UInt8) : Prop := IsBuilderF 74 5 b b (byteCells s) w
theorem bld_lt {w : World} {b : Nat} {s : List UInt8} (h : Bld w b s) : b < w.heap.size := h.elim (fun x => x.lt) (fun x => x.lt)
/-- A string written. -/
theorem writeP (w : World) (b : Nat) (bs : List UInt8) (s : ByteArray) (h : Bld w b bs) (hz : bs.length + s.size ≤ 1000000) :
    Calls Tryd.prog 45 #[.pointer (some ⟨b, 0, none⟩), .string s] w fun e w' => e = .returned (.tuple #[.int .i64 s.size, .nilIface]) ∧ Bld w' b (bs ++ s.data.toList) ∧ Below b w w' := by
  refine (Any.Builder_WriteString_k laysWriteString writeStringX b b _ s w h (by rw [byteCells_length]; omega) (Nat.le_of_lt (bld_lt h))).mono ?_
  rintro e w2 ⟨he, h1, b1, -⟩
  exact ⟨he, .inr (by rw [byteCells_append]; exact h1), b1⟩
theorem stringP (w : World) (b : Nat) (bs : List UInt8) (h : Bld w b bs) : Calls Tryd.prog 47 #[.pointer (some ⟨b, 0, none⟩)] w fun e w' => e = .returned (.string ⟨bs.toArray⟩) ∧ Below b w w' := by
  refine (Any.Builder_String_any_k laysString stringX b b _ w h (Nat.le_of_lt (bld_lt h))).mono ?_
  rintro e w2 ⟨he, _, b1, _⟩
  exact ⟨by simpa using he, b1⟩

/-! ### the targets -/
def tFrom (D : DataW Unit) : List Ins → DataW Unit
  | [] => D
  | x :: r => tFrom (if isJ x = true then D.put (.int .i64 x.arg) (.lit (.bool true)) else D) r
def tD (l : List Ins) : DataW Unit := tFrom (.map []) l
theorem tFrom_snoc : ∀ (l : List Ins) (D : DataW Unit) (x : Ins), tFrom D (l ++ [x]) = if isJ x = true then (tFrom D l).put (.int .i64 x.arg) (.lit (.bool true)) else tFrom D l
  | [], _, _ => rfl
  | y :: l, D, x => by rw [List.cons_append, tFrom, tFrom, tFrom_snoc l]
theorem t_at (i : Nat) (z : DataW Unit) : ∀ (l : List Ins) (D : DataW Unit), IsMap D → (tFrom D l).atKey (.int .i64 (i : Int)) z = if isT l i = true then .lit (.bool true) else D.atKey (.int .i64 (i : Int)) z
  | [], D, _ => by simp [tFrom, isT]
  | x :: r, D, h => by
    have hc : isT (x :: r) i = ((isJ x && decide (x.arg = (i : Int))) || isT r i) := by simp [isT]
    rw [tFrom, hc]
    by_cases hj : isJ x = true
    · rw [if_pos hj, t_at i z r _ (h.put _ _), hj, Bool.true_and]
      by_cases hr : isT r i = true
      · rw [if_pos hr, hr, Bool.or_true, if_pos rfl]
      · rw [if_neg hr]
        by_cases ha : x.arg = (i : Int)
        · rw [ha, atKey_put_same h (by trivial)]; simp
        · rw [atKey_put_other (fun e => ha (by simpa using e.symm)), decide_eq_false ha, Bool.false_or, if_neg hr]
    · rw [if_neg hj, t_at i z r _ h]
      have : isJ x = false := by simpa using hj
      rw [this, Bool.false_and, Bool.false_or]
set_option maxRecDepth 100000 in
theorem t_look {w : World} {b m : Nat} {l : List Ins} (h : w.ownsMap Tryd.prog 3 (plainElem (H := Unit) Tryd.prog 4) b m (tD l)) (i : Nat) (hi : i ≤ 1000) : (Instr.lookup 84 (.map (some b)) (.int .i64 (i : Int)) false).run Tryd.prog w = .ok (.bool (isT l i)) w := by
  obtain ⟨v, ps, hrun, hv⟩ := h.lookup (int_keyed Tryd.underlying3) Tryd.underlying84 (z := .bool false) (by kernel_rfl) (zd := .lit (.bool false)) (zp := []) (plainElem_bool Tryd.underlying4 false) (keyOf_int_mk Tryd.underlying3 (Go.WalkArith.wf_i64 (n := (i : Int)) (by omega)))
  have hat : (tD l).atKey (.int .i64 (i : Int)) (.lit (.bool false)) = .lit (.bool (isT l i)) := by
    unfold tD
    rw [t_at i _ l _ isMap_empty]
    cases isT l i <;> simp [DataW.atKey]
  rw [hat] at hv
  rw [hrun]
  unfold plainElem at hv
  rw [Tryd.underlying4] at hv
  cases v <;> simp at hv
  obtain ⟨h1, -⟩ := hv
  rw [h1]
end Go.Proofs.YtonnjokjbknngaaDoor
