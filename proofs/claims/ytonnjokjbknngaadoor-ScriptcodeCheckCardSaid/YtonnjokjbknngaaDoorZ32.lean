/- The walk of the law ScriptcodeCheck. -/
import Derived.Test.YtonnjokjbknngaaDoorZ28
import Derived.Test.YtonnjokjbknngaaDoorZ30
import Derived.Test.YtonnjokjbknngaaDoorZ31
import Derived.Shelf.Strings.OnBuilder
namespace Go.Proofs.YtonnjokjbknngaaDoor
open Go.RowKit Go.Lib Go.Shelf

def laysJoin_ren : Go.Shelf.Ren := ⟨fun | 156 => 26 | 165 => 44 | 166 => 45 | 169 => 47 | 240 => 67 | 241 => 68 | 276 => 81 | 277 => 82 | n => n, fun | 0 => 0 | 3 => 3 | 4 => 4 | 5 => 5 | 9 => 9 | 20 => 20 | 31 => 36 | 37 => 64 | 70 => 72 | 72 => 74 | 75 => 77 | 76 => 78 | 80 => 81 | 127 => 100 | 164 => 107 | n => n, fun | n => n⟩
theorem laysJoin : Go.Proofs.Lays.n156 Tryd.prog laysJoin_ren := { mixed := by kernel_rfl, f156 := Tryd.func26.trans (congrArg some (by kernel_rfl)), f165 := Tryd.func44.trans (congrArg some (by kernel_rfl)), f166 := Tryd.func45.trans (congrArg some (by kernel_rfl)), f169 := Tryd.func47.trans (congrArg some (by kernel_rfl)), f240 := Tryd.func67.trans (congrArg some (by kernel_rfl)), f241 := Tryd.func68.trans (congrArg some (by kernel_rfl)), f276 := Tryd.func81.trans (congrArg some (by kernel_rfl)), f277 := Tryd.func82.trans (congrArg some (by kernel_rfl)), t0 := Tryd.underlying0, a0 := Tryd.isAgg0, z0 := Tryd.sizeOf0, v0 := Tryd.zeroValue0, t3 := Tryd.underlying3, a3 := Tryd.isAgg3, z3 := Tryd.sizeOf3, v3 := Tryd.zeroValue3, t4 := Tryd.underlying4, a4 := Tryd.isAgg4, z4 := Tryd.sizeOf4, v4 := Tryd.zeroValue4, t9 := Tryd.underlying9, a9 := Tryd.isAgg9, z9 := Tryd.sizeOf9, v9 := Tryd.zeroValue9, t20 := Tryd.underlying20, a20 := Tryd.isAgg20, z20 := Tryd.sizeOf20, v20 := Tryd.zeroValue20, t31 := Tryd.underlying36, a31 := Tryd.isAgg36, z31 := Tryd.sizeOf36, v31 := Tryd.zeroValue36, t37 := Tryd.underlying64, a37 := Tryd.isAgg64, z37 := Tryd.sizeOf64, v37 := Tryd.zeroValue64, t70 := Tryd.underlying72, a70 := Tryd.isAgg72, z70 := Tryd.sizeOf72, v70 := Tryd.zeroValue72, t72 := Tryd.underlying74, a72 := Tryd.isAgg74, z72 := Tryd.sizeOf74, v72 := Tryd.zeroValue74, t75 := Tryd.underlying77, a75 := Tryd.isAgg77, z75 := Tryd.sizeOf77, v75 := Tryd.zeroValue77, t76 := Tryd.underlying78, a76 := Tryd.isAgg78, z76 := Tryd.sizeOf78, v76 := Tryd.zeroValue78, t127 := Tryd.underlying100, a127 := Tryd.isAgg100, z127 := Tryd.sizeOf100, v127 := Tryd.zeroValue100, t164 := Tryd.underlying107, a164 := Tryd.isAgg107, z164 := Tryd.sizeOf107, v164 := Tryd.zeroValue107 }
theorem joinX : Builder.Extra Tryd.prog laysJoin_ren := { sizeBuilder := by kernel_rfl, liesBuilder := by kernel_rfl, t5 := Tryd.underlying5, a5 := Tryd.isAgg5, z5 := Tryd.sizeOf5, v5 := Tryd.zeroValue5, infoByte := by kernel_rfl, cellsByte := by kernel_rfl, sizeByte := by kernel_rfl, neB5 := by decide }

def namesL : List ByteArray := opNames.map fun w => (⟨w.toArray⟩ : ByteArray)
def namesJ : ByteArray := ⟨(Lib.join (namesL.map (·.data.toList)) (⟨#[32]⟩ : ByteArray).data.toList).toArray⟩
set_option maxRecDepth 100000 in
theorem joinP (W : World) (base g c : Nat) (hown : W.ownsRow base 9 1 (.slice (some ⟨g, 0, none⟩) 21 c) 21 (opNames.map strV)) :
    Calls Tryd.prog 26 #[.slice (some ⟨g, 0, none⟩) 21 c, .string ⟨#[32]⟩] W fun e w' => e = .returned (.string namesJ) ∧ Below W.heap.size W w' := by
  have hl : namesL.length = 21 := by kernel_rfl
  have hcap : 21 ≤ c := by
    rcases hown.2 with ⟨h, _⟩ | ⟨g, cap, cur, h, _, _, hnc, _⟩
    · cases h
    · cases h; exact hnc
  have hcells : ∀ (j : Nat) x, namesL[j]? = some x → W.cell? ⟨g, 0 + j, none⟩ = some (.string x) := fun j x hx => by
    have hj := (List.getElem?_eq_some_iff.1 hx).1
    rw [Nat.zero_add, hown.cellAt j (by omega)]
    unfold namesL at hx
    rw [List.getElem?_map] at hx ⊢
    cases ho : opNames[j]? with
    | none => rw [ho] at hx; cases hx
    | some y => rw [ho] at hx; cases hx; rfl
  have hb : (Lib.join (namesL.map (·.data.toList)) (⟨#[32]⟩ : ByteArray).data.toList).length ≤ 140737488355328 := of_decide_eq_true (by kernel_rfl)
  have h := Any.strings_Join laysJoin joinX g 0 c namesL ⟨#[32]⟩ W hcells (hown.lt g rfl).2 (by omega) (by omega) hb
  rw [hl] at h
  exact h

set_option maxRecDepth 100000 in
set_option maxHeartbeats 2000000 in
theorem checkLawP (w : World) (A : Option Addr) (c : Nat) (l : List Ins) (h : InsRow w w.heap.size A l) (hm : Mx w) (hT : Pow w) :
    Calls Tryd.prog 10 #[.slice A l.length c] w fun e w' => e = .returned (.bool true) ∧ Below w.heap.size w w' := by
  have HA := hide (fun (W : World) (hb : Below w.heap.size w W) => awakeP W (hm.below hb))
  have hrf := Below.refl w.heap.size w
  by_cases hz : 200 < l.length
  · obtain ⟨n, hn⟩ : ∃ n, l.length = n := ⟨_, rfl⟩
    rw [hn] at hz ⊢
    have hzI : (200 : Int) < (n : Int) := by omega
    have HA0 := hide (HA.out w hrf)
    clear HA hm hT h hn hz
    go_enter Tryd.func10, Tryd.ntmps10
    go_wp2_with (go_at_call 11; refine HA0.out.mono ?_; rintro e w1 ⟨rfl, hb1⟩)
    go_ret
    exact ⟨rfl, hb1⟩
  have HE := hide (encodeP w A c l h)
  have HER := hide (fun (W : World) (hb : Below w.heap.size w W) => encodeR W A c l (h.on hb))
  have HD := hide (fun (W : World) (hb : Below w.heap.size w W) => disasmP W A c l (h.on hb) (hT.below hb))
  have HDR := hide (fun (W : World) (hb : Below w.heap.size w W) => disasmR W A c l (h.on hb))
  have HC := hide (fun (W : World) (hb : Below w.heap.size w W) => checkP W A c l (h.on hb))
  have HCR := hide (fun (W : World) (hb : Below w.heap.size w W) => checkR W A c l (h.on hb))
  obtain ⟨SE, hSE⟩ : ∃ s : ByteArray, (⟨(if codeErr l = 0 then encFrom 0 l else []).toArray⟩ : ByteArray) = s := ⟨_, rfl⟩
  obtain ⟨SD, hSD⟩ : ∃ s : ByteArray, (⟨(if codeErr l = 0 then disB l else []).toArray⟩ : ByteArray) = s := ⟨_, rfl⟩
  rw [hSE] at HE HER
  rw [hSD] at HD HDR
  have HJ := hide joinP
  obtain ⟨JN, hJN⟩ : ∃ s, namesJ = s := ⟨_, rfl⟩
  rw [hJN] at HJ
  have HN := hide namesP
  have HNR := hide names46
  obtain ⟨E, hE⟩ : ∃ e, codeErr l = e := ⟨_, rfl⟩
  rw [hE] at HE HER HD HDR HC HCR
  obtain ⟨n, hn⟩ : ∃ n, l.length = n := ⟨_, rfl⟩
  rw [hn] at HE HER HD HDR HC HCR hz ⊢
  have hz' : n ≤ 200 := by omega
  clear hm hT h hn hz hSE hSD hJN hE hrf
  go_enter Tryd.func10, Tryd.ntmps10
  go_wp2_with (first
    | (go_at_call 11; (with_reducible refine (HA.out w10 Hb10.out).mono ?_); rintro e w11 ⟨rfl, hb11⟩)
    | (go_at_call 29; (with_reducible refine (HCR.out w9 Hb9.out).mono ?_); rintro e w10 ⟨rfl, hb10⟩; have Hb10 := hide (Hb9.out.trans (hb10.mono Hb9.out.size)); clear hb10)
    | (go_at_call 22; (with_reducible refine (HC.out w8 Hb8.out).mono ?_); rintro e w9 ⟨rfl, hb9⟩; have Hb9 := hide (Hb8.out.trans (hb9.mono Hb8.out.size)); clear hb9)
    | (go_at_call 26; (with_reducible refine (HJ.out w7 _ g7 c7 Hown7.out).mono ?_); rintro e w8 ⟨rfl, hb8⟩; have Hb8 := hide (Hb7.out.trans (hb8.mono Hb7.out.size)); clear hb8)
    | (go_at_call 28; (with_reducible refine (HNR.out w6).mono ?_); rintro e w7 ⟨g7, c7, rfl, hown7, hb7⟩; have Hown7 := hide hown7; have Hb7 := hide (Hb6.out.trans (hb7.mono Hb6.out.size)); clear hb7 hown7)
    | (go_at_call 26; (with_reducible refine (HJ.out w5 _ g5 c5 Hown5.out).mono ?_); rintro e w6 ⟨rfl, hb6⟩; have Hb6 := hide (Hb5.out.trans (hb6.mono Hb5.out.size)); clear hb6)
    | (go_at_call 27; (with_reducible refine (HN.out w4).mono ?_); rintro e w5 ⟨g5, c5, rfl, hown5, hb5⟩; have Hown5 := hide hown5; have Hb5 := hide (Hb4.out.trans (hb5.mono Hb4.out.size)); clear hb5 hown5)
    | (go_at_call 25; (with_reducible refine (HDR.out w3 Hb3.out).mono ?_); rintro e w4 ⟨rfl, hb4⟩; have Hb4 := hide (Hb3.out.trans (hb4.mono Hb3.out.size)); clear hb4)
    | (go_at_call 23; (with_reducible refine (HD.out w2 Hb2.out).mono ?_); rintro e w3 ⟨rfl, hb3⟩; have Hb3 := hide (Hb2.out.trans (hb3.mono Hb2.out.size)); clear hb3)
    | (go_at_call 24; (with_reducible refine (HER.out w1 Hb1.out).mono ?_); rintro e w2 ⟨rfl, hb2⟩; have Hb2 := hide (Hb1.out.trans (hb2.mono Hb1.out.size)); clear hb2)
    | (go_at_call 17; (with_reducible refine HE.out.mono ?_); rintro e w1 ⟨rfl, hb1⟩; have Hb1 := hide hb1; clear hb1)
    | fail)
  go_ret
  exact ⟨rfl, Hb10.out.trans (hb11.mono Hb10.out.size)⟩
end Go.Proofs.YtonnjokjbknngaaDoor
