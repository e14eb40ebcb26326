/- Dots: the example of the chapter; what Parse and Format are to each other. -/
import Derived.Test.YtjgbflkjbehgaaaDoorD3
namespace Go.Proofs.YtjgbflkjbehgaaaDoor
open Go.RowKit Go.Shelf

theorem fmtB_list (c : Nat) : (fmtB c).toList = fmtL c := by rw [ByteArray.toList_eq]; rfl
/-- Parse, on the list of bytes. -/
def orAllL (l : List UInt8) : Nat := (Lib.split l [45]).foldl orL 0
def parseRL (l : List UInt8) : Nat × Int := if fmtL (orAllL l) == l then (orAllL l, 0) else (0, 3)
theorem orAll_list (s : ByteArray) : orAll s = orAllL s.data.toList := by
  unfold orAll orAllL Lib.split partsB
  have h := Lib.splitB_data ⟨#[45]⟩ 0 (Lib.countB s ⟨#[45]⟩) s
  have e : Lib.countB s ⟨#[45]⟩ = Lib.count s.data.toList [45] := rfl
  rw [e] at h ⊢
  have h2 : Lib.splitK [45] 0 (Lib.count s.data.toList [45]) s.data.toList = (Lib.splitB ⟨#[45]⟩ 0 (Lib.count s.data.toList [45]) s).map (·.data.toList) := h.symm
  rw [h2, List.foldl_map]
theorem parseR_list (s : ByteArray) : parseR s = parseRL s.data.toList := by
  unfold parseR parseRL
  rw [fmtB_list, ByteArray.toList_eq, orAll_list]
theorem fmt_back_all : ∀ c : Nat, c < 256 → orAllL (fmtL c) = c := by decide +kernel
theorem fmt_len_all : ∀ c : Nat, c < 256 → (fmtL c).length ≤ 15 := by decide +kernel
theorem parseRL_fmt (c : Nat) (hc : c < 256) : parseRL (fmtL c) = (c, 0) := by unfold parseRL; rw [fmt_back_all c hc]; simp
theorem fmtB_size (c : Nat) (hc : c < 256) : (fmtB c).size ≤ 15 := fmt_len_all c hc

set_option maxHeartbeats 1000000 in
theorem awakeP (w : World) (hm : Mx w) : Calls Tryd.prog 11 #[] w fun e w' => e = .returned (.bool true) ∧ Below w.heap.size w w' := by
  have H1 := hide (parseP w ⟨#[49, 45, 50, 45, 53]⟩ (by decide) hm)
  have H2 := hide (fun w1 (hb : Below w.heap.size w w1) => parseP w1 ⟨#[50, 45, 49]⟩ (by decide) (hm.below hb))
  rw [show parseR ⟨#[49, 45, 50, 45, 53]⟩ = (19, 0) by rw [parseR_list]; decide +kernel] at H1
  simp only [show parseR ⟨#[50, 45, 49]⟩ = (0, 3) by rw [parseR_list]; decide +kernel] at H2
  have H3 := hide (fun w1 => formatP w1 19 (by omega))
  have H4 := hide (fun w1 => formatP w1 0 (by omega))
  have H5 := hide (fun w1 => runeP w1 19 (by omega))
  simp only [show fmtB 19 = ⟨#[49, 45, 50, 45, 53]⟩ by decide +kernel] at H3
  simp only [show fmtB 0 = ⟨#[48]⟩ by decide +kernel] at H4
  go_enter Tryd.func11, Tryd.ntmps11
  go_wp2_with fail
  refine H1.out.mono ?_
  rintro e w1 ⟨rfl, hb1⟩
  go_wp2_with fail
  refine (H2.out _ hb1).mono ?_
  rintro e w2 ⟨rfl, hb2⟩
  go_wp2_with fail
  refine (H3.out _).mono ?_
  rintro e w3 ⟨rfl, hb3⟩
  go_wp2_with fail
  refine (H5.out _).mono ?_
  rintro e w4 ⟨rfl, rfl⟩
  go_wp2_with fail
  refine (H4.out _).mono ?_
  rintro e w5 ⟨rfl, hb5⟩
  go_wp2_with fail
  go_ret
  exact ⟨rfl, ((hb1.trans (hb2.mono hb1.size)).trans (hb3.mono (hb1.trans (hb2.mono hb1.size)).size)).trans (hb5.mono (by have := hb1.size; have := hb2.size; have := hb3.size; omega))⟩
end Go.Proofs.YtjgbflkjbehgaaaDoor
