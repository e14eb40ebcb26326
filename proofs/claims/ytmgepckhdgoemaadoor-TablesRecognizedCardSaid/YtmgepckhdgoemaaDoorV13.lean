/- narratorref15.Index, narratorref15.Text. -/
import Derived.Test.YtmgepckhdgoemaaDoorV9
namespace Go.Proofs.YtmgepckhdgoemaaDoor
open Go.RowKit

theorem glW_pos (g : Gl) : 1 ≤ glW g := by unfold glW; split <;> omega
theorem glW_le (g : Gl) : glW g ≤ 2 := by unfold glW; split <;> omega

/-- The index of the glyph at a column (that is not negative). -/
def idx : List Gl → Int → Int
  | [], c => c
  | g :: l, c => if c < glW g then 0 else 1 + idx l (c - glW g)
def index15 (l : List Gl) (c : Int) : Int := if c < 0 then -1 else idx l c

theorem idx_step (l : List Gl) (k : Nat) (hk : k < l.length) (c : Int) : idx (l.drop k) (c - widthOf (l.take k)) =
    if c < widthOf (l.take (k + 1)) then 0 else 1 + idx (l.drop (k + 1)) (c - widthOf (l.take (k + 1))) := by
  rw [List.drop_eq_getElem_cons hk, widthOf_snoc l k hk]
  show (if c - (widthOf (l.take k) : Int) < glW l[k] then (0 : Int) else 1 + idx (l.drop (k + 1)) (c - widthOf (l.take k) - glW l[k])) = _
  by_cases h : c - (widthOf (l.take k) : Int) < glW l[k]
  · rw [if_pos h, if_pos (by omega)]
  · rw [if_neg h, if_neg (by omega)]; congr 2; omega

theorem Sl.take1 {α : Type} {R : World → Nat → Nat → α → Prop} {sz : Nat} {w : World} {B : Nat} {b off : Nat} {l : List α} (h : Sl R sz w B (some ⟨b, off, none⟩) l) {k : Nat} (hk : k < l.length) :
    Sl R sz w B (some ⟨b, off + k * sz, none⟩) [l[k]] := by
  have h1 := (h.drop k).take 1
  rw [List.drop_eq_getElem_cons hk] at h1
  exact h1

/-- The text of glyphs. -/
def textB (l : List Gl) : ByteArray := l.foldl (fun s g => s ++ g.text) ⟨#[]⟩
theorem textB_snoc (l : List Gl) (k : Nat) (hk : k < l.length) : textB (l.take (k + 1)) = textB (l.take k) ++ l[k].text := by
  unfold textB; rw [List.take_succ_eq_append_getElem hk, List.foldl_append]; rfl

theorem textB_size (l : List Gl) (h : ∀ g ∈ l, g.text.size ≤ 500) : ∀ k, k ≤ l.length → (textB (l.take k)).size ≤ 500 * k
  | 0, _ => by simp [textB, ByteArray.size]
  | k + 1, hk => by
    have h1 := textB_size l h k (by omega)
    have h2 := h _ (List.getElem_mem (show k < l.length by omega))
    rw [textB_snoc l k (by omega), ByteArray.size_append]; omega

set_option maxHeartbeats 400000 in
theorem text15 (w : World) (A : Option Addr) (c : Nat) (l : List Gl) (h : GlRow w w.heap.size A l) (hl : l.length ≤ 1000) (ht : ∀ g ∈ l, g.text.size ≤ 500) :
    Calls Tryd.prog 12 #[.slice A l.length c] w fun e w' => e = .returned (.string (textB l)) ∧ w = w' := by
  have HH := hide h
  clear h
  have HT := hide ht
  go_enter Tryd.func12, Tryd.ntmps12
  go_wp2
  go_loop [3, 4] (fun s i => ∃ k : Nat, k ≤ l.length ∧ i = .int .i64 k ∧ s = .string (textB (l.take k))) (fun _ i => l.length - (intOf i).toNat)
  case atStart => exact ⟨0, Nat.zero_le _, rfl, rfl⟩
  case round =>
    obtain ⟨k, hk, rfl, rfl⟩ := hrel
    by_cases hlt : k < l.length
    · obtain ⟨b, off, rfl, hbb, c0, c1, c2⟩ := HH.out.get hlt
      have HS := hide (textB_snoc l k hlt)
      have hb1 := textB_size l ht k hk
      have hb2 := ht _ (List.getElem_mem hlt)
      have hcat : (textB (l.take k)).size + l[k].text.size ≤ 9223372036854775807 := by omega
      go_wp2
      go_round
      case rel => exact ⟨k + 1, by omega, by go_num, by rw [HS.out]⟩
      case measure => simp [intOf]; omega
    · go_wp2
      go_ret
      refine ⟨?_, rfl⟩
      rw [List.take_of_length_le (by omega)]; rfl
end Go.Proofs.YtmgepckhdgoemaaDoor
