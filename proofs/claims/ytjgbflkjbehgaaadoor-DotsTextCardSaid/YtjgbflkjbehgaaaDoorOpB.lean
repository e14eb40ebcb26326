/- A row's argument that is a slice of bytes, opened to the words of the walks. -/
import Derived.Test.YtjgbflkjbehgaaaDoorD11
import Derived.Test.YtjgbflkjbehgaaaDoorLaw
import Derived.ChangeSlices
import Derived.SizedLaws
namespace Go.Proofs.YtjgbflkjbehgaaaDoor
open Go.ChangeShapes Go.WideShapes Go.RowKit

theorem cell_spotB {w : World} {a : Addr} {v : Value} (h : w.cell? a = some v) : a.spot = none := by
  unfold World.cell? at h
  split at h
  · split at h
    · cases h
    · rename_i hs; simpa using hs
  · cases h
theorem add_plainB {a : Addr} (h : a.spot = none) (n : Nat) : a.add n = ⟨a.block, a.off + n, none⟩ := by
  obtain ⟨b, o, s⟩ := a
  dsimp only at h
  subst h
  unfold Addr.add
  split
  · simp_all
  · rfl
section
variable {H : Type} {enc : TypeId × Value → H} {w : World} {base : Nat} {spare : Nat → Bool} {held : Bool}
theorem open_bytes {r : Reach} {b0 : Nat} {v : Value} {d : DataW H} {p : List MemPlace} (hv : Value.okWide Tryd.prog w r b0 30 v) (h : DataW.Trod enc Tryd.prog w base spare held 30 v d p) :
    ∃ (A : Option Addr) (c : Nat) (l : List UInt8), v = .slice A l.length c ∧ Sl ByteAt 1 w w.heap.size A l ∧ (A = none → c = 0) ∧ (l = [] ∨ ∃ (el sp : List (DataW H)), d = .slice el sp ∧ el.length = l.length) := by
  obtain ⟨a0, len, cap, rfl⟩ := okWide_slice Tryd.underlying30 hv
  obtain ⟨fuel, hf⟩ := h
  rcases open_ints Tryd.underlying30 Tryd.underlying5 (by kernel_rfl) hf with ⟨hcs, hx⟩ | ⟨a, len', cap', zs, hcs, hb, hl, hm, hz, hx, hcell, hwz⟩
  · simp [Value.cells] at hcs
    obtain ⟨rfl, rfl, rfl⟩ := hcs
    exact ⟨none, 0, [], rfl, Sl.nil rfl, fun _ => rfl, .inl rfl⟩
  · simp [Value.cells] at hcs
    obtain ⟨rfl, rfl, rfl⟩ := hcs
    simp only [Prod.mk.injEq] at hx
    obtain ⟨rfl, -⟩ := hx
    have hlz : len ≤ zs.length := by rw [hz]; split <;> omega
    have hll : ((zs.take len).map fun z => UInt8.ofNat z.toNat).length = len := by simp; omega
    refine ⟨some a, cap, (zs.take len).map fun z => UInt8.ofNat z.toNat, by rw [hll], fun h0 => ?_, (fun h => by cases h), .inr ⟨_, _, rfl, by rw [hll]; simp [lits]; omega⟩⟩
    rw [hll] at h0
    have c0 := hcell 0 (by omega)
    have hspot : a.spot = none := cell_spotB (a := a.add 0) c0 |> fun h => by
      obtain ⟨b, o, s⟩ := a
      unfold Addr.add at h
      split at h <;> simp_all
    have hblk : a.block < w.heap.size := by
      rw [add_plainB hspot] at c0
      exact World.block_lt_of_cell? w ⟨a.block, a.off + 0, none⟩ c0
    obtain ⟨bl, of, sp⟩ := a
    dsimp only at hspot
    subst hspot
    refine ⟨bl, of, rfl, hblk, fun k x hx => ?_⟩
    have hk : k < len := by have := (List.getElem?_eq_some_iff.1 hx).1; rw [hll] at this; exact this
    have hck := hcell k (by omega)
    rw [add_plainB rfl] at hck
    obtain ⟨c, hc, hc2⟩ := u8_wf (hwz (zs[k]'(by omega)) (List.getElem_mem _))
    rw [List.getElem?_map, List.getElem?_take, if_pos hk, List.getElem?_eq_getElem (by omega)] at hx
    simp only [Option.map_some, Option.some.injEq] at hx
    unfold ByteAt One
    rw [Nat.mul_one]
    refine hck.trans ?_
    rw [← hx, show zs.getD k 0 = zs[k]'(by omega) by simp [List.getD, List.getElem?_eq_getElem (show k < zs.length by omega)], hc]
    simp
    omega
end
end Go.Proofs.YtjgbflkjbehgaaaDoor
