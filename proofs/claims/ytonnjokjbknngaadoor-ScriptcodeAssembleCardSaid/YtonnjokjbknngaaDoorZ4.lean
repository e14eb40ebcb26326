/- The library's contracts that scriptcode uses: Split, FieldsFunc, ContainsFunc, CutPrefix, CutSuffix. -/
import Derived.Test.YtonnjokjbknngaaDoorZ3
import Derived.Shelf.Strings.SplitShaped
import Derived.Shelf.Strings.FieldsFuncGrows
import Derived.Shelf.Small.Wraps
import Derived.Shelf.Vars
namespace Go.Proofs.YtonnjokjbknngaaDoor
open Go.RowKit Go.Lib Go.Shelf

def laysSplit_ren : Go.Shelf.Ren := ⟨fun | 138 => 62 | 143 => 39 | 146 => 19 | 195 => 78 | 197 => 63 | 217 => 74 | 218 => 79 | 219 => 60 | 221 => 40 | 224 => 76 | 225 => 75 | 260 => 80 | 266 => 87 | 267 => 77 | 268 => 61 | 314 => 88 | n => n, fun | 0 => 0 | 3 => 3 | 4 => 4 | 5 => 5 | 9 => 9 | 21 => 21 | 31 => 36 | 46 => 65 | 51 => 94 | 105 => 92 | 119 => 113 | 138 => 115 | 139 => 116 | 146 => 95 | n => n, fun | 1 => 0 | 3 => 1 | 4 => 2 | n => n⟩
theorem laysSplit : Go.Proofs.Lays.n146 Tryd.prog laysSplit_ren := { mixed := by kernel_rfl, f138 := Tryd.func62.trans (congrArg some (by kernel_rfl)), f143 := Tryd.func39.trans (congrArg some (by kernel_rfl)), f146 := Tryd.func19.trans (congrArg some (by kernel_rfl)), f195 := Tryd.func78.trans (congrArg some (by kernel_rfl)), f197 := Tryd.func63.trans (congrArg some (by kernel_rfl)), f217 := Tryd.func74.trans (congrArg some (by kernel_rfl)), f218 := Tryd.func79.trans (congrArg some (by kernel_rfl)), f219 := Tryd.func60.trans (congrArg some (by kernel_rfl)), f221 := Tryd.func40.trans (congrArg some (by kernel_rfl)), f224 := Tryd.func76.trans (congrArg some (by kernel_rfl)), f225 := Tryd.func75.trans (congrArg some (by kernel_rfl)), f260 := Tryd.func80.trans (congrArg some (by kernel_rfl)), f266 := Tryd.func87.trans (congrArg some (by kernel_rfl)), f267 := Tryd.func77.trans (congrArg some (by kernel_rfl)), f268 := Tryd.func61.trans (congrArg some (by kernel_rfl)), f314 := Tryd.func88.trans (congrArg some (by kernel_rfl)), t0 := Tryd.underlying0, a0 := Tryd.isAgg0, z0 := Tryd.sizeOf0, v0 := Tryd.zeroValue0, t3 := Tryd.underlying3, a3 := Tryd.isAgg3, z3 := Tryd.sizeOf3, v3 := Tryd.zeroValue3, t4 := Tryd.underlying4, a4 := Tryd.isAgg4, z4 := Tryd.sizeOf4, v4 := Tryd.zeroValue4, t5 := Tryd.underlying5, a5 := Tryd.isAgg5, z5 := Tryd.sizeOf5, v5 := Tryd.zeroValue5, t9 := Tryd.underlying9, a9 := Tryd.isAgg9, z9 := Tryd.sizeOf9, v9 := Tryd.zeroValue9, t21 := Tryd.underlying21, a21 := Tryd.isAgg21, z21 := Tryd.sizeOf21, v21 := Tryd.zeroValue21, t31 := Tryd.underlying36, a31 := Tryd.isAgg36, z31 := Tryd.sizeOf36, v31 := Tryd.zeroValue36, t46 := Tryd.underlying65, a46 := Tryd.isAgg65, z46 := Tryd.sizeOf65, v46 := Tryd.zeroValue65, t51 := Tryd.underlying94, a51 := Tryd.isAgg94, z51 := Tryd.sizeOf94, v51 := Tryd.zeroValue94, t105 := Tryd.underlying92, a105 := Tryd.isAgg92, z105 := Tryd.sizeOf92, v105 := Tryd.zeroValue92, t119 := Tryd.underlying113, a119 := Tryd.isAgg113, z119 := Tryd.sizeOf113, t138 := Tryd.underlying115, a138 := Tryd.isAgg115, z138 := Tryd.sizeOf115, v138 := Tryd.zeroValue115, t139 := Tryd.underlying116, a139 := Tryd.isAgg116, z139 := Tryd.sizeOf116, v139 := Tryd.zeroValue116, t146 := Tryd.underlying95, a146 := Tryd.isAgg95, z146 := Tryd.sizeOf95, v146 := Tryd.zeroValue95, g1 := by kernel_rfl, g3 := by kernel_rfl, g4 := by kernel_rfl }
def laysFF_ren : Go.Shelf.Ren := ⟨fun | 229 => 56 | n => n, fun | 0 => 0 | 3 => 3 | 4 => 4 | 9 => 9 | 21 => 21 | 31 => 36 | 40 => 90 | 152 => 102 | 154 => 104 | n => n, fun | n => n⟩
theorem laysFF : Go.Proofs.Lays.n229 Tryd.prog laysFF_ren := { mixed := by kernel_rfl, f229 := Tryd.func56.trans (congrArg some (by kernel_rfl)), t0 := Tryd.underlying0, a0 := Tryd.isAgg0, z0 := Tryd.sizeOf0, v0 := Tryd.zeroValue0, t3 := Tryd.underlying3, a3 := Tryd.isAgg3, z3 := Tryd.sizeOf3, v3 := Tryd.zeroValue3, t4 := Tryd.underlying4, a4 := Tryd.isAgg4, z4 := Tryd.sizeOf4, v4 := Tryd.zeroValue4, t9 := Tryd.underlying9, a9 := Tryd.isAgg9, z9 := Tryd.sizeOf9, v9 := Tryd.zeroValue9, t21 := Tryd.underlying21, a21 := Tryd.isAgg21, z21 := Tryd.sizeOf21, v21 := Tryd.zeroValue21, t31 := Tryd.underlying36, a31 := Tryd.isAgg36, z31 := Tryd.sizeOf36, v31 := Tryd.zeroValue36, t40 := Tryd.underlying90, a40 := Tryd.isAgg90, z40 := Tryd.sizeOf90, v40 := Tryd.zeroValue90, t152 := Tryd.underlying102, a152 := Tryd.isAgg102, z152 := Tryd.sizeOf102, v152 := Tryd.zeroValue102, t154 := Tryd.underlying104, a154 := Tryd.isAgg104, z154 := Tryd.sizeOf104, v154 := Tryd.zeroValue104 }
def laysConF_ren : Go.Shelf.Ren := ⟨fun | 15 => 85 | 17 => 71 | 20 => 93 | n => n, fun | 0 => 0 | 3 => 3 | 4 => 4 | 9 => 9 | 21 => 21 | 23 => 90 | n => n, fun | n => n⟩
theorem laysConF : Go.Proofs.LaysGw.n17 Tryd.prog laysConF_ren := { mixed := by kernel_rfl, f15 := Tryd.func85.trans (congrArg some (by kernel_rfl)), f17 := Tryd.func71.trans (congrArg some (by kernel_rfl)), f20 := Tryd.func93.trans (congrArg some (by kernel_rfl)), t0 := Tryd.underlying0, a0 := Tryd.isAgg0, z0 := Tryd.sizeOf0, v0 := Tryd.zeroValue0, i0 := by kernel_rfl, t3 := Tryd.underlying3, a3 := Tryd.isAgg3, z3 := Tryd.sizeOf3, v3 := Tryd.zeroValue3, i3 := by kernel_rfl, t4 := Tryd.underlying4, a4 := Tryd.isAgg4, z4 := Tryd.sizeOf4, v4 := Tryd.zeroValue4, i4 := by kernel_rfl, t9 := Tryd.underlying9, a9 := Tryd.isAgg9, z9 := Tryd.sizeOf9, v9 := Tryd.zeroValue9, i9 := by kernel_rfl, t21 := Tryd.underlying21, a21 := Tryd.isAgg21, z21 := Tryd.sizeOf21, v21 := Tryd.zeroValue21, i21 := by kernel_rfl, t23 := Tryd.underlying90, a23 := Tryd.isAgg90, z23 := Tryd.sizeOf90, v23 := Tryd.zeroValue90, i23 := by kernel_rfl }
def laysCutP_ren : Go.Shelf.Ren := ⟨fun | 103 => 73 | 206 => 66 | 210 => 86 | n => n, fun | 3 => 3 | 4 => 4 | 9 => 9 | 24 => 56 | n => n, fun | n => n⟩
theorem laysCutP : Go.Proofs.Lays.n103 Tryd.prog laysCutP_ren := { mixed := by kernel_rfl, f103 := Tryd.func73.trans (congrArg some (by kernel_rfl)), f206 := Tryd.func66.trans (congrArg some (by kernel_rfl)), f210 := Tryd.func86.trans (congrArg some (by kernel_rfl)), t3 := Tryd.underlying3, a3 := Tryd.isAgg3, z3 := Tryd.sizeOf3, v3 := Tryd.zeroValue3, t4 := Tryd.underlying4, a4 := Tryd.isAgg4, z4 := Tryd.sizeOf4, v4 := Tryd.zeroValue4, t9 := Tryd.underlying9, a9 := Tryd.isAgg9, z9 := Tryd.sizeOf9, v9 := Tryd.zeroValue9, t24 := Tryd.underlying56, a24 := Tryd.isAgg56, z24 := Tryd.sizeOf56, v24 := Tryd.zeroValue56 }
def laysCutS_ren : Go.Shelf.Ren := ⟨fun | 104 => 52 | 207 => 84 | 211 => 70 | n => n, fun | 3 => 3 | 4 => 4 | 9 => 9 | 24 => 56 | n => n, fun | n => n⟩
theorem laysCutS : Go.Proofs.Lays.n104 Tryd.prog laysCutS_ren := { mixed := by kernel_rfl, f104 := Tryd.func52.trans (congrArg some (by kernel_rfl)), f207 := Tryd.func84.trans (congrArg some (by kernel_rfl)), f211 := Tryd.func70.trans (congrArg some (by kernel_rfl)), t3 := Tryd.underlying3, a3 := Tryd.isAgg3, z3 := Tryd.sizeOf3, v3 := Tryd.zeroValue3, t4 := Tryd.underlying4, a4 := Tryd.isAgg4, z4 := Tryd.sizeOf4, v4 := Tryd.zeroValue4, t9 := Tryd.underlying9, a9 := Tryd.isAgg9, z9 := Tryd.sizeOf9, v9 := Tryd.zeroValue9, t24 := Tryd.underlying56, a24 := Tryd.isAgg56, z24 := Tryd.sizeOf56, v24 := Tryd.zeroValue56 }

def strV (n : BS) : Value := .string ⟨n.toArray⟩
theorem str_of (s : ByteArray) : Value.string s = strV s.data.toList := by unfold strV; congr 1
theorem strs_of (l : List ByteArray) (r : List BS) (h : l.map (·.data.toList) = r) : l.map Value.string = r.map strV := by
  rw [← h, List.map_map]
  exact List.map_congr_left fun s _ => str_of s
/-- A slice of strings of the call's own. -/
def OwnStrs (w : World) (B : Nat) (v : Value) (l : List BS) : Prop := w.ownsRow B 9 1 v l.length (l.map strV)

/-- The library's variable MaxLen holds some number. -/
def Mx (w : World) : Prop := 0 < w.heap.size ∧ ∃ m : Int, w.cell? ⟨0, 0, none⟩ = some (.int .i64 m)
theorem Mx.below {w w' : World} (h : Mx w) (hb : Below w.heap.size w w') : Mx w' :=
  ⟨Nat.lt_of_lt_of_le h.1 hb.size, let ⟨m, hm⟩ := h.2; ⟨m, (hb.cell (p := ⟨_, 0, none⟩) h.1).trans hm⟩⟩
theorem Mx.shaped {w : World} (h : w.ShapedOpen Tryd.prog) : Mx w := by
  have hc := cell_of_shapedOpen_int (P := Tryd.prog) (g := 0) (t := 3) (zero := #[.int .i64 0]) (k := .i64) h (of_decide_eq_true (by kernel_rfl)) (by kernel_rfl) rfl (by kernel_rfl) (by kernel_rfl) Tryd.underlying3
  obtain ⟨m, hm⟩ := hc
  exact ⟨World.block_lt_of_cell? w ⟨0, 0, none⟩ hm, m, hm⟩
theorem linesB_pos : ∀ (l cur : BS), 0 < (linesG l cur).length
  | [], cur => by simp [linesG]
  | c :: t, cur => by unfold linesG; split; simp; exact linesB_pos t _
theorem splitP (w : World) (s : ByteArray) (hs : s.size ≤ 3000000) (hm : Mx w) : Calls Tryd.prog 19 #[.string s, .string ⟨#[10]⟩] w fun e w' =>
    ∃ g, e = .returned (.slice (some ⟨g, 0, none⟩) (linesB s.data.toList).length (linesB s.data.toList).length) ∧ w.heap.size ≤ g ∧ g < w'.heap.size ∧ (∀ k x, (linesB s.data.toList)[k]? = some x → w'.cell? ⟨g, k, none⟩ = some (strV x)) ∧ Below w.heap.size w w' := by
  obtain ⟨-, m, hm1⟩ := hm
  have h := Any.strings_Split laysSplit (by kernel_rfl) s ⟨#[10]⟩ m w (by omega) hm1 (by decide)
  have hlen : (linesB s.data.toList).length = Lib.countB s ⟨#[10]⟩ + 1 := by
    rw [← split_lines s, List.length_map]
    exact Lib.splitB_all _ (by decide) 0 _ s rfl
  refine h.mono ?_
  rintro e w' ⟨rfl, rfl⟩
  refine ⟨w.heap.size, by rw [hlen], Nat.le_refl _, by simp, fun k x hx => ?_, (Below.refl _ w).alloc (Nat.le_refl _) _⟩
  refine (cell_block (block_new w _) k).trans ?_
  rw [strs_of _ _ (split_lines s)]
  simp [hx]

set_option maxHeartbeats 400000 in
theorem wordsCl (w : World) (x : Nat) : Calls Tryd.prog 57 #[.int .i32 x] w fun e w' => e = .returned (.bool (x == 32)) ∧ w = w' := by
  have hq : ((x : Int) == 32) = (x == 32) := by rw [Bool.eq_iff_iff]; simp; omega
  go_enter Tryd.func57, Tryd.ntmps57
  go_wp2
  go_ret
  exact ⟨rfl, rfl⟩
set_option maxHeartbeats 400000 in
theorem wordsP (w : World) (s : ByteArray) (hs : s.size ≤ 3000000) : Calls Tryd.prog 31 #[.string s] w fun e w' =>
    ∃ g, e = .returned (.slice (some ⟨g, 0, none⟩) (wordsB s.data.toList).length (wordsB s.data.toList).length) ∧ w.heap.size ≤ g ∧ g < w'.heap.size ∧ (∀ k x, (wordsB s.data.toList)[k]? = some x → w'.cell? ⟨g, k, none⟩ = some (strV x)) ∧ Below w.heap.size w w' := by
  have h := hide (Any.strings_FieldsFunc_grows laysFF 57 #[] (enters_of Tryd.func57 (by kernel_rfl) rfl) (· == 32) s w (by omega)
    (fun W x hx hb => (wordsCl W x).mono fun e w' ⟨he, hw⟩ => ⟨he, by rw [hw]; exact Below.refl _ _⟩) (by kernel_rfl) (by kernel_rfl))
  go_enter Tryd.func31, Tryd.ntmps31
  go_wp2_with (go_at_call 56; refine h.out.mono ?_; rintro e w' ⟨A, rfl, hA, hown, hb⟩)
  go_ret
  have hf := fields_eq s
  have hl : (goFieldsP (fun x => x == 32) s).length = (wordsB s.data.toList).length := by rw [← hf, List.length_map]
  rw [hl, strs_of _ _ hf] at hown
  refine ⟨A, by rw [hl]; rfl, hA, ?_, fun k x hx => ?_, hb⟩
  · rcases hown.2 with ⟨h0, -⟩ | ⟨g', cap, cur, hv, -, hh, -⟩
    · cases h0
    · cases hv; exact block_lt hh
  · have hk := (List.getElem?_eq_some_iff.1 hx).1
    rw [hown.cellAt k (by omega)]
    simp [hx]
end Go.Proofs.YtonnjokjbknngaaDoor
