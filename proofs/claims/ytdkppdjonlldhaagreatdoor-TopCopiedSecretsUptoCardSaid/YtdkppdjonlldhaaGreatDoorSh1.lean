/- The library's contracts that this seat uses, laid at its numbers: utf8.ValidString; and '[]rune(s)'. -/
import Derived.Test.YtdkppdjonlldhaaGreatDoorU1
import Derived.Shelf.Unicode.ValidAny
namespace Go.Proofs.YtdkppdjonlldhaaGreatDoor
open Go.RowKit Go.Shelf Go.Lib

def laysValid_ren : Go.Shelf.Ren := ⟨fun | 196 => 70 | 259 => 98 | n => n, fun | 0 => 0 | 3 => 3 | 4 => 4 | 5 => 5 | 9 => 9 | 12 => 12 | 46 => 134 | 53 => 159 | 119 => 108 | 138 => 132 | 139 => 133 | n => n, fun | 3 => 2 | 4 => 3 | n => n⟩
theorem laysValid : Go.Proofs.Lays.n196 Tryz.prog laysValid_ren := { mixed := by kernel_rfl, f196 := Tryz.func70.trans (congrArg some (by kernel_rfl)), f259 := Tryz.func98.trans (congrArg some (by kernel_rfl)), t0 := Tryz.underlying0, a0 := Tryz.isAgg0, z0 := Tryz.sizeOf0, v0 := Tryz.zeroValue0, t3 := Tryz.underlying3, a3 := Tryz.isAgg3, z3 := Tryz.sizeOf3, v3 := Tryz.zeroValue3, t4 := Tryz.underlying4, a4 := Tryz.isAgg4, z4 := Tryz.sizeOf4, v4 := Tryz.zeroValue4, t5 := Tryz.underlying5, a5 := Tryz.isAgg5, z5 := Tryz.sizeOf5, v5 := Tryz.zeroValue5, t9 := Tryz.underlying9, a9 := Tryz.isAgg9, z9 := Tryz.sizeOf9, v9 := Tryz.zeroValue9, t12 := Tryz.underlying12, a12 := Tryz.isAgg12, z12 := Tryz.sizeOf12, v12 := Tryz.zeroValue12, t46 := Tryz.underlying134, a46 := Tryz.isAgg134, z46 := Tryz.sizeOf134, v46 := Tryz.zeroValue134, t53 := Tryz.underlying159, a53 := Tryz.isAgg159, z53 := Tryz.sizeOf159, v53 := Tryz.zeroValue159, t119 := Tryz.underlying108, a119 := Tryz.isAgg108, z119 := Tryz.sizeOf108, t138 := Tryz.underlying132, a138 := Tryz.isAgg132, z138 := Tryz.sizeOf132, v138 := Tryz.zeroValue132, t139 := Tryz.underlying133, a139 := Tryz.isAgg133, z139 := Tryz.sizeOf133, v139 := Tryz.zeroValue133, g3 := by kernel_rfl, g4 := by kernel_rfl }

/-- unicode/utf8's two tables hold what their initialisers lay. -/
def Tabs (w : World) : Prop := Lib.Utf8Tabs 2 3 w
theorem Tabs.below {w w' : World} (h : Tabs w) (hb : Below w.heap.size w w') : Tabs w' := Utf8Tabs_below h hb

theorem validLib (s : ByteArray) (w : World) (hs : s.size ≤ 8000000) (hT : Tabs w) : Calls Tryz.prog 70 #[.string s] w fun e w' => e = .returned (.bool (Lib.validD s.data.toList)) ∧ Below w.heap.size w w' :=
  Any.utf8_ValidString laysValid s w (by omega) hT

theorem runesFrom_eq (s : ByteArray) : ∀ (n i : Nat) (acc : Array Value), Conv.runesFrom s n i acc = acc ++ ((runesL n (s.data.toList.drop i)).map (Value.int .i32)).toArray
  | 0, i, acc => by simp [Conv.runesFrom, runesL]
  | n + 1, i, acc => by
    unfold Conv.runesFrom runesL
    by_cases h : i < s.size
    · have hne : s.data.toList.drop i ≠ [] := by
        intro h'
        have := congrArg List.length h'
        rw [List.length_drop, List.length_nil] at this
        have hs : s.data.toList.length = s.size := rfl
        omega
      rw [if_pos h, if_neg hne]
      simp only
      rw [runesFrom_eq s n, decodeL_drop, List.drop_drop]
      simp
    · have hs : s.data.toList.length = s.size := rfl
      have he : s.data.toList.drop i = [] := List.drop_of_length_le (by omega)
      rw [if_neg h, if_pos he]
      simp
theorem runesFrom_all (s : ByteArray) : Conv.runesFrom s s.size 0 #[] = ((runesD s.data.toList).map (Value.int .i32)).toArray := by
  rw [runesFrom_eq]
  simp [runesD]

theorem runesL_len : ∀ (n : Nat) (l : List UInt8), (runesL n l).length ≤ n
  | 0, _ => by simp [runesL]
  | n + 1, l => by
    unfold runesL
    split
    · simp
    · have := runesL_len n (l.drop (decodeL l).2); simp; omega
theorem runesD_len (l : List UInt8) : (runesD l).length ≤ l.length := runesL_len _ _

section
variable {P : Program} {ops : Array Oper} {rest : List Oper} {o : Oper} {a : Act} {Q : Exit → Act → World → Prop}
/-- '[]rune(s)'. -/
theorem wpList_runes (W : World) (x : Operand) (src dst e : TypeId) (hgd : o.guard = none) (ho : o.op = .convert src dst x)
    (hs : P.underlying src = some .string) (hd : P.underlying dst = some (.slice e)) (he : P.underlying e = some (.int .i32)) (s : ByteArray) (hx : a.eval x = .string s) (hsz : s.size ≤ 8000000)
    (h : ∀ w' A c, Below W.heap.size W w' → RnRow w' w'.heap.size A (runesD s.data.toList) → (runesD s.data.toList).length ≤ c → wpList P ops Q rest (a.put o.dst (.slice A (runesD s.data.toList).length c)) w') : wpList P ops Q (o :: rest) a W := by
  have hlen : (Conv.runesFrom s s.size 0 #[]).size = (runesD s.data.toList).length := by rw [runesFrom_all]; simp
  have hle : (runesD s.data.toList).length ≤ s.size := runesD_len _
  have hrun := run_runes_of_string (P := P) W src dst e s hs hd he (by rw [hlen]; omega)
  rw [hlen, runesFrom_all] at hrun
  have hge := grownCap_ge W (runesD s.data.toList).length 0 e
  refine wpList_plain hgd fun K hK => ?_
  unfold Oper.wp execOp
  simp only [ho, hx, hrun, Sem.run_bind, Sem.run_pure, Result.andThen_ok]
  refine hK _ _ (h _ _ _ ((Below.refl _ W).drew.alloc (Nat.le_refl _) _) ?_ hge)
  refine fun _ => ⟨W.heap.size, 0, rfl, by simp, fun k r hk => ?_⟩
  refine (cell_block (w := W.drew.alloc _) (b := W.heap.size) (block_new W.drew _) _).trans ?_
  have hkl : k < (runesD s.data.toList).length := (List.getElem?_eq_some_iff.1 hk).1
  rw [Nat.zero_add, Nat.mul_one, Array.getElem?_append_left (by simpa using hkl)]
  simp [hk]
end
end Go.Proofs.YtdkppdjonlldhaaGreatDoor
