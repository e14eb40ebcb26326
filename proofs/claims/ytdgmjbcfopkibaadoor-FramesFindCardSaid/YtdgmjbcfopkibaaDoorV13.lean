/- narratorref15.Index, narratorref15.Text. -/
import Derived.Test.YtdgmjbcfopkibaaDoorV9
namespace Go.Proofs.YtdgmjbcfopkibaaDoor
open Go.RowKit

theorem glW_pos (g : Gl) : 1 ≤ glW g := by unfold glW; split <;> omega
theorem glW_le (g : Gl) : glW g ≤ 2 := by unfold glW; split <;> omega

/-- The index of the glyph at a column (that is not negative). -/
def idx : List Gl → Int → Int
  | [], c => c
  | g :: l, c => if c < glW g then 0 else 1 + idx l (c - glW g)
def index15 (l : List Gl) (c : Int) : Int := if c < 0 then -1 else idx l c

theorem idx_step (l : List Gl) (k : Nat) (hk : k < l.length) (c : Int) : idx (l.drop k) (c - widthOf (l.take k)) =
    if c < widthOf (l.take (k + 1)) then 0 else 1 + idx (l.drop (k + 1)) (c - widthOf (l.take (k + 1))) := by
  rw [List.drop_eq_getElem_cons hk, widthOf_snoc l k hk]
  show (if c - (widthOf (l.take k) : Int) < glW l[k] then (0 : Int) else 1 + idx (l.drop (k + 1)) (c - widthOf (l.take k) - glW l[k])) = _
  by_cases h : c - (widthOf (l.take k) : Int) < glW l[k]
  · rw [if_pos h, if_pos (by omega)]
  · rw [if_neg h, if_neg (by omega)]; congr 2; omega

theorem Sl.take1 {α : Type} {R : World → Nat → Nat → α → Prop} {sz : Nat} {w : World} {B : Nat} {b off : Nat} {l : List α} (h : Sl R sz w B (some ⟨b, off, none⟩) l) {k : Nat} (hk : k < l.length) :
    Sl R sz w B (some ⟨b, off + k * sz, none⟩) [l[k]] := by
  have h1 := (h.drop k).take 1
  rw [List.drop_eq_getElem_cons hk] at h1
  exact h1

set_option maxHeartbeats 1000000 in
theorem index15P (w : World) (A : Option Addr) (c : Nat) (l : List Gl) (col : Int) (h : GlRow w w.heap.size A l) (hl : l.length ≤ 1000) (hlc : l.length ≤ c) (h0 : -100000 ≤ col) (h1 : col ≤ 100000) :
    Calls Tryd.prog 70 #[.slice A l.length c, .int .i64 col] w fun e w' => e = .returned (.int .i64 (index15 l col)) ∧ w = w' := by
  have HH := hide h
  clear h
  cases hn : decide (col < 0) with
  | true =>
    go_enter Tryd.func70, Tryd.ntmps70
    go_wp2
    go_ret
    exact ⟨ret_int (by unfold index15; rw [if_pos (of_decide_eq_true hn)]), rfl⟩
  | false =>
    have hidx := hide (show index15 l col = idx l col by unfold index15; rw [if_neg (of_decide_eq_false hn)])
    have hcol : 0 ≤ col := by have := of_decide_eq_false hn; omega
    go_enter Tryd.func70, Tryd.ntmps70
    go_wp2
    go_loop [5, 6] (fun n i => ∃ k : Nat, k ≤ l.length ∧ i = .int .i64 k ∧ n = .int .i64 (widthOf (l.take k)) ∧ (widthOf (l.take k) : Int) ≤ col ∧ idx l col = k + idx (l.drop k) (col - widthOf (l.take k))) (fun _ i => l.length - (intOf i).toNat)
    case atStart => exact ⟨0, Nat.zero_le _, rfl, rfl, by simpa [widthOf] using hcol, by simp [widthOf]⟩
    case round =>
      obtain ⟨k, hk, rfl, rfl, hle, hix⟩ := hrel
      have Hix := hide hix
      clear hix
      have hw2 := widthOf_take_le l k
      have hw3 := widthOf_take_le l (k + 1)
      by_cases hlt : k < l.length
      · obtain ⟨b, off, rfl, hbb, c0⟩ := HH.out.get hlt
        have hone := hide (HH.out.take1 hlt)
        clear c0
        have HS := hide (widthOf_snoc l k hlt)
        have Hst := hide (idx_step l k hlt col)
        have h1w : widthOf [l[k]] = glW l[k] := by simp [widthOf]
        have H1w := hide h1w
        clear h1w
        have hg2 := glW_le l[k]
        have hsum : (widthOf (l.take k) : Int) + (widthOf [l[k]] : Int) = (widthOf (l.take (k + 1)) : Int) := by rw [HS.out, H1w.out]; simp
        have HP := hide (fun (w : World) (A : Option Addr) (c : Nat) (hh : GlRow w w.heap.size A [l[k]]) => width15 w A c [l[k]] hh (by simp))
        cases hm : decide (col < (widthOf (l.take (k + 1)) : Int)) with
        | true =>
          go_wp2_with (go_at_call 41; refine (HP.out _ _ _ hone.out).mono ?_; rintro e w1 ⟨rfl, rfl⟩)
          go_ret
          exact ⟨ret_int (by rw [hidx.out, Hix.out, Hst.out, if_pos (of_decide_eq_true hm)]; omega), rfl⟩
        | false =>
          go_wp2_with (go_at_call 41; refine (HP.out _ _ _ hone.out).mono ?_; rintro e w1 ⟨rfl, rfl⟩)
          go_round
          case rel =>
            refine ⟨k + 1, by omega, by go_num, by first | rfl | go_num, by have := of_decide_eq_false hm; omega, ?_⟩
            rw [Hix.out, Hst.out, if_neg (of_decide_eq_false hm)]; omega
          case measure => simp [intOf]; omega
      · go_wp2
        go_ret
        refine ⟨ret_int ?_, rfl⟩
        have h2 := Hix.out
        rw [List.drop_of_length_le (by omega)] at h2
        rw [hidx.out, h2]
        have : k = l.length := by omega
        show _ = (k : Int) + (col - _)
        omega

/-- The text of glyphs. -/
def textB (l : List Gl) : ByteArray := l.foldl (fun s g => s ++ g.text) ⟨#[]⟩
theorem textB_snoc (l : List Gl) (k : Nat) (hk : k < l.length) : textB (l.take (k + 1)) = textB (l.take k) ++ l[k].text := by
  unfold textB; rw [List.take_succ_eq_append_getElem hk, List.foldl_append]; rfl

theorem textB_size (l : List Gl) (h : ∀ g ∈ l, g.text.size ≤ 500) : ∀ k, k ≤ l.length → (textB (l.take k)).size ≤ 500 * k
  | 0, _ => by simp [textB, ByteArray.size]
  | k + 1, hk => by
    have h1 := textB_size l h k (by omega)
    have h2 := h _ (List.getElem_mem (show k < l.length by omega))
    rw [textB_snoc l k (by omega), ByteArray.size_append]; omega

end Go.Proofs.YtdgmjbcfopkibaaDoor
