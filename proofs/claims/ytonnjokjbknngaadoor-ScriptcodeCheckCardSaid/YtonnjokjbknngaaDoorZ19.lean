/- strings.Repeat; the walk of the law ScriptcodeBackward. -/
import Derived.Test.YtonnjokjbknngaaDoorZ12
import Derived.Test.YtonnjokjbknngaaDoorZ18
import Derived.Shelf.Strings.Repeat
namespace Go.Proofs.YtonnjokjbknngaaDoor
open Go.RowKit Go.Lib Go.Shelf

def laysRep_ren : Go.Shelf.Ren := ⟨fun | 99 => 43 | 105 => 21 | 165 => 44 | 166 => 45 | 169 => 47 | 170 => 46 | 206 => 66 | 212 => 42 | 240 => 67 | 241 => 68 | 263 => 64 | 264 => 65 | 276 => 81 | 277 => 82 | n => n, fun | 0 => 0 | 3 => 3 | 4 => 4 | 5 => 5 | 9 => 9 | 20 => 20 | 37 => 64 | 46 => 65 | 51 => 94 | 53 => 97 | 70 => 72 | 72 => 74 | 75 => 77 | 76 => 78 | 80 => 81 | 109 => 70 | 127 => 100 | 146 => 95 | 148 => 98 | 164 => 107 | n => n, fun | n => n⟩
theorem laysRep : Go.Proofs.Lays.n105 Tryd.prog laysRep_ren := { mixed := by kernel_rfl, f99 := Tryd.func43.trans (congrArg some (by kernel_rfl)), f105 := Tryd.func21.trans (congrArg some (by kernel_rfl)), f165 := Tryd.func44.trans (congrArg some (by kernel_rfl)), f166 := Tryd.func45.trans (congrArg some (by kernel_rfl)), f169 := Tryd.func47.trans (congrArg some (by kernel_rfl)), f170 := Tryd.func46.trans (congrArg some (by kernel_rfl)), f206 := Tryd.func66.trans (congrArg some (by kernel_rfl)), f212 := Tryd.func42.trans (congrArg some (by kernel_rfl)), f240 := Tryd.func67.trans (congrArg some (by kernel_rfl)), f241 := Tryd.func68.trans (congrArg some (by kernel_rfl)), f263 := Tryd.func64.trans (congrArg some (by kernel_rfl)), f264 := Tryd.func65.trans (congrArg some (by kernel_rfl)), f276 := Tryd.func81.trans (congrArg some (by kernel_rfl)), f277 := Tryd.func82.trans (congrArg some (by kernel_rfl)), t0 := Tryd.underlying0, a0 := Tryd.isAgg0, z0 := Tryd.sizeOf0, v0 := Tryd.zeroValue0, t3 := Tryd.underlying3, a3 := Tryd.isAgg3, z3 := Tryd.sizeOf3, v3 := Tryd.zeroValue3, t4 := Tryd.underlying4, a4 := Tryd.isAgg4, z4 := Tryd.sizeOf4, v4 := Tryd.zeroValue4, t5 := Tryd.underlying5, a5 := Tryd.isAgg5, z5 := Tryd.sizeOf5, v5 := Tryd.zeroValue5, t9 := Tryd.underlying9, a9 := Tryd.isAgg9, z9 := Tryd.sizeOf9, v9 := Tryd.zeroValue9, t20 := Tryd.underlying20, a20 := Tryd.isAgg20, z20 := Tryd.sizeOf20, v20 := Tryd.zeroValue20, t37 := Tryd.underlying64, a37 := Tryd.isAgg64, z37 := Tryd.sizeOf64, v37 := Tryd.zeroValue64, t46 := Tryd.underlying65, a46 := Tryd.isAgg65, z46 := Tryd.sizeOf65, v46 := Tryd.zeroValue65, t51 := Tryd.underlying94, a51 := Tryd.isAgg94, z51 := Tryd.sizeOf94, v51 := Tryd.zeroValue94, t53 := Tryd.underlying97, a53 := Tryd.isAgg97, z53 := Tryd.sizeOf97, v53 := Tryd.zeroValue97, t70 := Tryd.underlying72, a70 := Tryd.isAgg72, z70 := Tryd.sizeOf72, v70 := Tryd.zeroValue72, t72 := Tryd.underlying74, a72 := Tryd.isAgg74, z72 := Tryd.sizeOf74, v72 := Tryd.zeroValue74, t75 := Tryd.underlying77, a75 := Tryd.isAgg77, z75 := Tryd.sizeOf77, v75 := Tryd.zeroValue77, t76 := Tryd.underlying78, a76 := Tryd.isAgg78, z76 := Tryd.sizeOf78, v76 := Tryd.zeroValue78, t109 := Tryd.underlying70, a109 := Tryd.isAgg70, z109 := Tryd.sizeOf70, v109 := Tryd.zeroValue70, t127 := Tryd.underlying100, a127 := Tryd.isAgg100, z127 := Tryd.sizeOf100, v127 := Tryd.zeroValue100, t146 := Tryd.underlying95, a146 := Tryd.isAgg95, z146 := Tryd.sizeOf95, v146 := Tryd.zeroValue95, t148 := Tryd.underlying98, a148 := Tryd.isAgg98, z148 := Tryd.sizeOf98, v148 := Tryd.zeroValue98, t164 := Tryd.underlying107, a164 := Tryd.isAgg107, z164 := Tryd.sizeOf107, v164 := Tryd.zeroValue107 }
theorem repX : Builder.Extra Tryd.prog laysRep_ren := { sizeBuilder := by kernel_rfl, liesBuilder := by kernel_rfl, t5 := Tryd.underlying5, a5 := Tryd.isAgg5, z5 := Tryd.sizeOf5, v5 := Tryd.zeroValue5, infoByte := by kernel_rfl, cellsByte := by kernel_rfl, sizeByte := by kernel_rfl, neB5 := by decide }
/-- A line, repeated. -/
theorem repeatP (w : World) (s : ByteArray) (l : BS) (n : Nat) (hs : s.data.toList = l ++ [10]) (hn : n ≤ 1000) (hl : l.length ≤ 1000) : Calls Tryd.prog 21 #[.string s, .int .i64 n] w fun e w' => e = .returned (.string ⟨(repB l n).toArray⟩) ∧ Below w.heap.size w w' := by
  have hz : s.size = l.length + 1 := by
    have : s.size = (l ++ [10]).length := by rw [← hs]; rfl
    rw [this, List.length_append]; rfl
  have h := Any.strings_Repeat laysRep repX s n w (by omega) (by
    rw [hz]
    have := Nat.mul_le_mul (show l.length + 1 ≤ 1001 by omega) hn
    omega)
  rw [hs, repB_lib] at h
  exact h
theorem asmK (w : World) (s : ByteArray) (src : BS) (hs : s.data.toList = src) (hz : src.length ≤ 2900000) (hm : Mx w) {er no : Int} {l : List Ins} (h : asmF src = (er, no, l)) :
    Calls Tryd.prog 12 #[.string s] w fun e w' => ∃ v, e = .returned (.tuple #[v, .int .i64 no, .int .i64 er]) ∧ OwnIns w' w.heap.size v l ∧ Below w.heap.size w w' := by
  have ha := asmP w s (by rw [← hs] at hz; exact hz) hm
  unfold AsmRet at ha
  rw [hs, h] at ha
  exact ha
theorem ba_app (a b : ByteArray) : (a ++ b).data.toList = a.data.toList ++ b.data.toList := by simp

set_option maxRecDepth 100000 in
set_option maxHeartbeats 1000000 in
theorem backwardLawP (w : World) (c : Nat) (hc : c < 256) (hm : Mx w) : Calls Tryd.prog 8 #[.int .u8 c] w fun e w' => e = .returned (.bool true) ∧ Below w.heap.size w w' := by
  have HA := hide (fun (W : World) (hb : Below w.heap.size w W) => awakeP W (hm.below hb))
  obtain ⟨n, hn⟩ : ∃ n, c % 100 = n := ⟨_, rfl⟩
  have hn1 : n < 100 := by omega
  have hk : (c : Int) % 100 = (n : Int) := by omega
  have HRp := hide (repeatP w ⟨#[100, 117, 112, 10]⟩ dupW n rfl (by omega) (by decide))
  have hMl := repB_len dupW n
  obtain ⟨M, hM⟩ : ∃ M : ByteArray, (⟨(repB dupW n).toArray⟩ : ByteArray) = M := ⟨_, rfl⟩
  have hMd : M.data.toList = repB dupW n := by rw [← hM]
  rw [hM] at HRp
  have hMz : M.size ≤ 400 := by
    have : M.size = (repB dupW n).length := by rw [← hMd]; rfl
    rw [this, hMl, show dupW.length = 3 from rfl]; omega
  have H1 := hide (fun (W : World) (hb : Below w.heap.size w W) => asmK W (⟨#[120, 58, 10]⟩ ++ M ++ ⟨#[106, 117, 109, 112, 32, 120]⟩) (back1 n) (by rw [ba_app, ba_app, hMd]; rfl) (by unfold back1; simp [hMl]; rw [show dupW.length = 3 from rfl]; omega) (hm.below hb) (asm_back1 n hn1))
  have H2 := hide (fun (W : World) (hb : Below w.heap.size w W) => asmK W (M ++ ⟨#[106, 117, 109, 112, 122, 101, 114, 111, 32, 121, 10, 120, 58]⟩) (back2 n) (by rw [ba_app, hMd]; rfl) (by unfold back2; simp [hMl]; rw [show dupW.length = 3 from rfl]; omega) (hm.below hb) (asm_back2 n hn1))
  have H3 := hide (fun (W : World) (hb : Below w.heap.size w W) => asmK W (⟨#[120, 58, 10]⟩ ++ M ++ ⟨#[120, 58, 10]⟩) (back3 n) (by rw [ba_app, ba_app, hMd]; rfl) (by unfold back3; simp [hMl]; rw [show dupW.length = 3 from rfl]; omega) (hm.below hb) (asm_back3 n hn1))
  have z1 : 3 + M.size + 6 ≤ 9223372036854775807 := by omega
  have z2 : M.size + 13 ≤ 9223372036854775807 := by omega
  have z3 : 3 + M.size + 3 ≤ 9223372036854775807 := by omega
  clear hm hn hM hMd hMl hMz
  go_enter Tryd.func8, Tryd.ntmps8
  go_wp2_with (first
    | (go_at_call 12; (with_reducible refine (H3.out _ Hb3.out).mono ?_); rintro e w4 ⟨v4, rfl, -, hb4⟩; have Hb4 := hide (Hb3.out.trans (hb4.mono Hb3.out.size)); clear hb4)
    | (go_at_call 12; (with_reducible refine (H2.out _ Hb2.out).mono ?_); rintro e w3 ⟨v3, rfl, -, hb3⟩; have Hb3 := hide (Hb2.out.trans (hb3.mono Hb2.out.size)); clear hb3)
    | (go_at_call 12; (with_reducible refine (H1.out _ Hb1.out).mono ?_); rintro e w2 ⟨v2, rfl, -, hb2⟩; have Hb2 := hide (Hb1.out.trans (hb2.mono Hb1.out.size)); clear hb2)
    | (go_at_call 21; (with_reducible refine HRp.out.mono ?_); rintro e w1 ⟨rfl, hb1⟩; have Hb1 := hide hb1; clear hb1)
    | (go_at_call 11; refine (HA.out _ Hb4.out).mono ?_; rintro e w5 ⟨rfl, hb5⟩)
    | fail)
  go_ret
  exact ⟨rfl, Hb4.out.trans (hb5.mono Hb4.out.size)⟩
end Go.Proofs.YtonnjokjbknngaaDoor
