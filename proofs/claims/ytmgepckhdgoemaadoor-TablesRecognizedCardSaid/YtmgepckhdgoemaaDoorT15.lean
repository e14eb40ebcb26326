/- Tables: narratorref24.Cell. -/
import Derived.Test.YtmgepckhdgoemaaDoorT14
import Derived.Test.YtmgepckhdgoemaaDoorT11
namespace Go.Proofs.YtmgepckhdgoemaaDoor
open Go.RowKit

theorem el_glyph : ElemOf Tryd.prog 27 29 (.agg #[.string ⟨#[]⟩, .bool false, .int .i64 0]) 3 32 := ⟨Tryd.underlying27, by kernel_rfl, rfl, by omega, by omega⟩
theorem gl_len (l : List Gl) : (l.flatMap Gl.enc).length = l.length * 3 := flat_len (enc := Gl.enc) (sz := 3) (fun _ => rfl) l
theorem span_get (l : List (Nat × Nat)) (k : Nat) (p : Nat × Nat) (h : l[k]? = some p) : (l.flatMap spanV)[k * 2]? = some (.int .i64 p.1) ∧ (l.flatMap spanV)[k * 2 + 1]? = some (.int .i64 p.2) :=
  ⟨flat_get (enc := spanV) (sz := 2) (fun _ => rfl) l k p 0 _ h rfl, flat_get (enc := spanV) (sz := 2) (fun _ => rfl) l k p 1 _ h rfl⟩
theorem glErr_ne {g : Gl} (h : glErr g = 0) : g.text.toList ≠ [] := by
  intro h0
  unfold glErr at h
  rw [clErr_syntax (.inl h0)] at h
  simp at h
theorem ok_texts {v : Vw} (h : v.ok = true) : ∀ r ∈ v.rows, ∀ g ∈ r, g.text.toList ≠ [] := by
  intro r hr g hg
  have h1 := (Vw.proper h).rows r hr
  unfold rowErr at h1
  by_cases h2 : firstErr glErr r = 0
  · exact glErr_ne (firstErr_zero h2 g hg)
  · rw [if_pos h2] at h1; exact absurd h1 h2

end Go.Proofs.YtmgepckhdgoemaaDoor
