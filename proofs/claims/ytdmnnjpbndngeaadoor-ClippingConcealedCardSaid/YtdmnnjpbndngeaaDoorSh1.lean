/- The library's contracts that this seat uses, laid at its numbers: utf8.ValidString; and '[]rune(s)'. -/
import Derived.Test.YtdmnnjpbndngeaaDoorU1
import Derived.Shelf.Unicode.ValidAny
namespace Go.Proofs.YtdmnnjpbndngeaaDoor
open Go.RowKit Go.Shelf Go.Lib

def laysValid_ren : Go.Shelf.Ren := ⟨fun | 196 => 70 | 259 => 75 | n => n, fun | 0 => 0 | 3 => 3 | 4 => 4 | 5 => 5 | 9 => 9 | 12 => 12 | 46 => 138 | 53 => 139 | 119 => 134 | 138 => 136 | 139 => 137 | n => n, fun | 3 => 0 | 4 => 1 | n => n⟩
theorem laysValid : Go.Proofs.Lays.n196 Tryd.prog laysValid_ren := { mixed := by kernel_rfl, f196 := Tryd.func70.trans (congrArg some (by kernel_rfl)), f259 := Tryd.func75.trans (congrArg some (by kernel_rfl)), t0 := Tryd.underlying0, a0 := Tryd.isAgg0, z0 := Tryd.sizeOf0, v0 := Tryd.zeroValue0, t3 := Tryd.underlying3, a3 := Tryd.isAgg3, z3 := Tryd.sizeOf3, v3 := Tryd.zeroValue3, t4 := Tryd.underlying4, a4 := Tryd.isAgg4, z4 := Tryd.sizeOf4, v4 := Tryd.zeroValue4, t5 := Tryd.underlying5, a5 := Tryd.isAgg5, z5 := Tryd.sizeOf5, v5 := Tryd.zeroValue5, t9 := Tryd.underlying9, a9 := Tryd.isAgg9, z9 := Tryd.sizeOf9, v9 := Tryd.zeroValue9, t12 := Tryd.underlying12, a12 := Tryd.isAgg12, z12 := Tryd.sizeOf12, v12 := Tryd.zeroValue12, t46 := Tryd.underlying138, a46 := Tryd.isAgg138, z46 := Tryd.sizeOf138, v46 := Tryd.zeroValue138, t53 := Tryd.underlying139, a53 := Tryd.isAgg139, z53 := Tryd.sizeOf139, v53 := Tryd.zeroValue139, t119 := Tryd.underlying134, a119 := Tryd.isAgg134, z119 := Tryd.sizeOf134, t138 := Tryd.underlying136, a138 := Tryd.isAgg136, z138 := Tryd.sizeOf136, v138 := Tryd.zeroValue136, t139 := Tryd.underlying137, a139 := Tryd.isAgg137, z139 := Tryd.sizeOf137, v139 := Tryd.zeroValue137, g3 := by kernel_rfl, g4 := by kernel_rfl }

/-- unicode/utf8's two tables hold what their initialisers lay. -/
def Tabs (w : World) : Prop := Lib.Utf8Tabs 0 1 w
theorem Tabs.below {w w' : World} (h : Tabs w) (hb : Below w.heap.size w w') : Tabs w' := Utf8Tabs_below h hb

theorem validLib (s : ByteArray) (w : World) (hs : s.size ≤ 1000) (hT : Tabs w) : Calls Tryd.prog 70 #[.string s] w fun e w' => e = .returned (.bool (Lib.validD s.data.toList)) ∧ Below w.heap.size w w' :=
  Any.utf8_ValidString laysValid s w (by omega) hT

theorem runesFrom_eq (s : ByteArray) : ∀ (n i : Nat) (acc : Array Value), Conv.runesFrom s n i acc = acc ++ ((runesL n (s.data.toList.drop i)).map (Value.int .i32)).toArray
  | 0, i, acc => by simp [Conv.runesFrom, runesL]
  | n + 1, i, acc => by
    unfold Conv.runesFrom runesL
    by_cases h : i < s.size
    · have hne : s.data.toList.drop i ≠ [] := by
        intro h'
        have := congrArg List.length h'
        rw [List.length_drop, List.length_nil] at this
        have hs : s.data.toList.length = s.size := rfl
        omega
      rw [if_pos h, if_neg hne]
      simp only
      rw [runesFrom_eq s n, decodeL_drop, List.drop_drop]
      simp
    · have hs : s.data.toList.length = s.size := rfl
      have he : s.data.toList.drop i = [] := List.drop_of_length_le (by omega)
      rw [if_neg h, if_pos he]
      simp
theorem runesFrom_all (s : ByteArray) : Conv.runesFrom s s.size 0 #[] = ((runesD s.data.toList).map (Value.int .i32)).toArray := by
  rw [runesFrom_eq]
  simp [runesD]

theorem runesL_len : ∀ (n : Nat) (l : List UInt8), (runesL n l).length ≤ n
  | 0, _ => by simp [runesL]
  | n + 1, l => by
    unfold runesL
    split
    · simp
    · have := runesL_len n (l.drop (decodeL l).2); simp; omega
theorem runesD_len (l : List UInt8) : (runesD l).length ≤ l.length := runesL_len _ _

section
variable {P : Program} {ops : Array Oper} {rest : List Oper} {o : Oper} {a : Act} {Q : Exit → Act → World → Prop}
/-- '[]rune(s)'. -/
theorem wpList_runes (W : World) (x : Operand) (src dst e : TypeId) (hgd : o.guard = none) (ho : o.op = .convert src dst x)
    (hs : P.underlying src = some .string) (hd : P.underlying dst = some (.slice e)) (he : P.underlying e = some (.int .i32)) (s : ByteArray) (hx : a.eval x = .string s) (hsz : s.size ≤ 1000)
    (h : ∀ w' A c, Below W.heap.size W w' → RnRow w' w'.heap.size A (runesD s.data.toList) → (runesD s.data.toList).length ≤ c → wpList P ops Q rest (a.put o.dst (.slice A (runesD s.data.toList).length c)) w') : wpList P ops Q (o :: rest) a W := by
  have hlen : (Conv.runesFrom s s.size 0 #[]).size = (runesD s.data.toList).length := by rw [runesFrom_all]; simp
  have hle : (runesD s.data.toList).length ≤ s.size := runesD_len _
  have hrun := run_runes_of_string (P := P) W src dst e s hs hd he (by rw [hlen]; omega)
  rw [hlen, runesFrom_all] at hrun
  have hge := grownCap_ge W (runesD s.data.toList).length 0 e
  refine wpList_plain hgd fun K hK => ?_
  unfold Oper.wp execOp
  simp only [ho, hx, hrun, Sem.run_bind, Sem.run_pure, Result.andThen_ok]
  refine hK _ _ (h _ _ _ ((Below.refl _ W).drew.alloc (Nat.le_refl _) _) ?_ hge)
  refine fun _ => ⟨W.heap.size, 0, rfl, by simp, fun k r hk => ?_⟩
  refine (cell_block (w := W.drew.alloc _) (b := W.heap.size) (block_new W.drew _) _).trans ?_
  have hkl : k < (runesD s.data.toList).length := (List.getElem?_eq_some_iff.1 hk).1
  rw [Nat.zero_add, Nat.mul_one, Array.getElem?_append_left (by simpa using hkl)]
  simp [hk]
end
end Go.Proofs.YtdmnnjpbndngeaaDoor
