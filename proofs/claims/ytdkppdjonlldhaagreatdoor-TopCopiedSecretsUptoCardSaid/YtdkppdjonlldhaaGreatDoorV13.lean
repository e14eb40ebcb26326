/- narratorref15.Index, narratorref15.Text. -/
import Derived.Test.YtdkppdjonlldhaaGreatDoorV9
namespace Go.Proofs.YtdkppdjonlldhaaGreatDoor
open Go.RowKit

theorem glW_pos (g : Gl) : 1 ≤ glW g := by unfold glW; split <;> omega
theorem glW_le (g : Gl) : glW g ≤ 2 := by unfold glW; split <;> omega

/-- The index of the glyph at a column (that is not negative). -/
def idx : List Gl → Int → Int
  | [], c => c
  | g :: l, c => if c < glW g then 0 else 1 + idx l (c - glW g)
def index15 (l : List Gl) (c : Int) : Int := if c < 0 then -1 else idx l c

theorem idx_step (l : List Gl) (k : Nat) (hk : k < l.length) (c : Int) : idx (l.drop k) (c - widthOf (l.take k)) =
    if c < widthOf (l.take (k + 1)) then 0 else 1 + idx (l.drop (k + 1)) (c - widthOf (l.take (k + 1))) := by
  rw [List.drop_eq_getElem_cons hk, widthOf_snoc l k hk]
  show (if c - (widthOf (l.take k) : Int) < glW l[k] then (0 : Int) else 1 + idx (l.drop (k + 1)) (c - widthOf (l.take k) - glW l[k])) = _
  by_cases h : c - (widthOf (l.take k) : Int) < glW l[k]
  · rw [if_pos h, if_pos (by omega)]
  · rw [if_neg h, if_neg (by omega)]; congr 2; omega

theorem Sl.take1 {α : Type} {R : World → Nat → Nat → α → Prop} {sz : Nat} {w : World} {B : Nat} {b off : Nat} {l : List α} (h : Sl R sz w B (some ⟨b, off, none⟩) l) {k : Nat} (hk : k < l.length) :
    Sl R sz w B (some ⟨b, off + k * sz, none⟩) [l[k]] := by
  have h1 := (h.drop k).take 1
  rw [List.drop_eq_getElem_cons hk] at h1
  exact h1

/-- The text of glyphs. -/
def textB (l : List Gl) : ByteArray := l.foldl (fun s g => s ++ g.text) ⟨#[]⟩
theorem textB_snoc (l : List Gl) (k : Nat) (hk : k < l.length) : textB (l.take (k + 1)) = textB (l.take k) ++ l[k].text := by
  unfold textB; rw [List.take_succ_eq_append_getElem hk, List.foldl_append]; rfl

theorem textB_size (l : List Gl) (h : ∀ g ∈ l, g.text.size ≤ 500) : ∀ k, k ≤ l.length → (textB (l.take k)).size ≤ 500 * k
  | 0, _ => by simp [textB, ByteArray.size]
  | k + 1, hk => by
    have h1 := textB_size l h k (by omega)
    have h2 := h _ (List.getElem_mem (show k < l.length by omega))
    rw [textB_snoc l k (by omega), ByteArray.size_append]; omega

end Go.Proofs.YtdkppdjonlldhaaGreatDoor
