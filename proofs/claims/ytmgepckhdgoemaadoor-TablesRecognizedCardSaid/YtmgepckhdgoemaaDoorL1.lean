/- narratorref15.Trim; the views of the example. -/
import Derived.Test.YtmgepckhdgoemaaDoorT15
import Derived.Test.YtmgepckhdgoemaaDoorApp
import Derived.Deep.RegionHeld3
namespace Go.Proofs.YtmgepckhdgoemaaDoor
open Go.RowKit

/-- A row without the blanks at its end. -/
def trimR (l : List Gl) : List Gl := (l.reverse.dropWhile isBlank).reverse
theorem trimR_blank {l : List Gl} {g : Gl} (h : isBlank g = true) : trimR (l ++ [g]) = trimR l := by unfold trimR; rw [List.reverse_append]; show (List.dropWhile isBlank (g :: l.reverse)).reverse = _; rw [List.dropWhile_cons, if_pos h]
theorem trimR_done {l : List Gl} {g : Gl} (h : isBlank g = false) : trimR (l ++ [g]) = l ++ [g] := by unfold trimR; rw [List.reverse_append]; show (List.dropWhile isBlank (g :: l.reverse)).reverse = _; rw [List.dropWhile_cons, if_neg (by simp [h])]; simp
theorem trimR_take (l : List Gl) (k : Nat) (hk : k < l.length) : trimR (l.take (k + 1)) = if isBlank l[k] then trimR (l.take k) else l.take (k + 1) := by
  rw [List.take_succ_eq_append_getElem hk]
  cases h : isBlank l[k] with
  | true => rw [trimR_blank h, if_pos rfl]
  | false => rw [trimR_done h, if_neg (by simp)]

set_option maxHeartbeats 2000000 in
theorem trim15P (w : World) (b off c : Nat) (l : List Gl) (h : GlRow w w.heap.size (some ⟨b, off, none⟩) l) (hl : l.length ≤ 1000) (hlc : l.length ≤ c) :
    Calls Tryd.prog 38 #[.slice (some ⟨b, off, none⟩) l.length c] w fun e w' => ∃ vv, e = .returned vv ∧ w'.ownsRow w.heap.size 29 3 vv (trimR l).length ((trimR l).flatMap Gl.enc) ∧ Below w.heap.size w w' := by
  have HH := hide h
  clear h
  go_enter Tryd.func38, Tryd.ntmps38
  go_wp2
  go_loopw [3] (fun n wr => ∃ k : Nat, k ≤ l.length ∧ n = .int .i64 k ∧ trimR l = trimR (l.take k) ∧ Below w.heap.size w wr) (fun n _ => (intOf n).toNat)
  case atStart => exact ⟨l.length, Nat.le_refl _, rfl, by rw [List.take_length], Below.refl _ _⟩
  case round =>
    obtain ⟨k, hk, rfl, ht, hb⟩ := hrel
    have Ht := hide ht
    clear ht
    have hsz := hb.size
    by_cases h0 : k = 0
    · subst h0
      have hown := own_lit wr w.heap.size 29 3 0 #[] hsz (by omega) rfl
      have hHt : trimR l = [] := by rw [Ht.out]; rfl
      have HHt := hide hHt
      clear hHt
      go_wp2_with (at_builtin; refine wpList_apps _ (.tmp 18) (.tmp 21) 27 rfl rfl el_glyph w.heap.size _ 0 [] rfl hown (by simp; omega) b off 0 c [] rfl rfl (by simp) (by simp) (by omega) ?_; intro v2 w2 hown2 hg2)
      go_ret
      exact ⟨_, rfl, own_eq hown2 (by rw [HHt.out]; rfl) (by rw [HHt.out]; rfl), below_own (hb.alloc hsz _) hown hg2 (Nat.le_refl _) (by simp; omega)⟩
    · obtain ⟨m, rfl⟩ : ∃ m, k = m + 1 := ⟨k - 1, by omega⟩
      have hm : m < l.length := by omega
      obtain ⟨b2, off2, hA, hb2, c0, c1, c2⟩ := (HH.out.below (GlAt.stays _) hb).get hm
      cases hA
      have hstep := trimR_take l m hm
      have hB := hide (fun w1 => blank15 w1 l[m])
      have hix : ((m + 1 : Nat) : Int) - 1 = (m : Int) := by omega
      have hpos : (0 : Int) < ((m + 1 : Nat) : Int) := by omega
      obtain ⟨g, hg⟩ : ∃ g, l[m] = g := ⟨_, rfl⟩
      rw [hg] at c0 c1 c2 hB hstep
      clear hg
      unfold Gl.val at hB
      cases hbl : isBlank g with
      | true =>
        rw [hbl] at hB hstep
        rw [if_pos rfl] at hstep
        have Hst := hide hstep
        clear hstep hbl
        go_wp2_with (go_at_call 43; refine (hB.out _).mono ?_; rintro e w2 ⟨rfl, hb2⟩)
        go_roundw
        case rel => exact ⟨m, by omega, by go_num, by rw [Ht.out, Hst.out], hb.trans (hb2.mono hsz)⟩
        case measure => simp [intOf]
      | false =>
        rw [hbl] at hB hstep
        rw [if_neg (by simp)] at hstep
        have Hst := hide (Ht.out.trans hstep)
        clear hstep hbl
        have hcast : ((m + 1 : Nat) : Int) = (m : Int) + 1 := by omega
        have htl : (l.take (m + 1)).length = m + 1 := by rw [List.length_take]; omega
        have hgl : ((l.take (m + 1)).flatMap Gl.enc).length = (m + 1) * 3 := by rw [gl_len, htl]
        have hone := gl_one (l.take (m + 1))
        have hcl : ∀ w2, Below wr.heap.size wr w2 → ∀ j u, ((l.take (m + 1)).flatMap Gl.enc)[j]? = some u → (w2.alloc (.cells #[] 29)).cell? ⟨b, off + j, none⟩ = some u := fun w2 hb2 =>
          GlRow.cells ((((HH.out.below (GlAt.stays _) hb).below (GlAt.stays _) (hb2.mono hsz)).below (GlAt.stays _) (((Below.refl w2.heap.size w2).alloc (Nat.le_refl _) (.cells #[] 29)).mono (by have := hb2.size; omega))).take (m + 1))
        have hol : ∀ w2 : World, w.heap.size ≤ w2.heap.size → (w2.alloc (.cells #[] 29)).ownsRow w.heap.size 29 3 (.slice (some ⟨w2.heap.size, 0, none⟩) 0 0) 0 [] := fun w2 h2 => own_lit w2 w.heap.size 29 3 0 #[] h2 (by omega) rfl
        have Hcl := hide hcl
        have Hol := hide hol
        have Hgl := hide hgl
        have Hone := hide hone
        have Htl := hide htl
        clear hcl hol hgl hone htl
        obtain ⟨L, hL⟩ : ∃ L, (l.take (m + 1)).flatMap Gl.enc = L := ⟨_, rfl⟩
        rw [hL] at Hcl Hgl Hone
        have HL := hide hL
        clear hL
        rw [hcast]
        go_wp2_with (first
          | (go_at_call 43; refine (hB.out _).mono ?_; rintro e w2 ⟨rfl, hb2⟩; have hs2 : w.heap.size ≤ w2.heap.size := Nat.le_trans hsz hb2.size)
          | (at_builtin; refine wpList_apps _ (.tmp 18) (.tmp 21) 27 rfl rfl el_glyph w.heap.size _ 0 [] rfl (Hol.out _ hs2) (by simp; omega) b off (m + 1) c L rfl Hgl.out (Hcl.out _ hb2) Hone.out (by omega) ?_; intro v3 w3 hown3 hg3))
        go_ret
        exact ⟨_, rfl, own_eq hown3 (by rw [Hst.out, Htl.out]; omega) (by rw [Hst.out, HL.out]; simp), below_own ((hb.trans (hb2.mono hsz)).alloc hs2 _) (Hol.out _ hs2) hg3 (Nat.le_refl _) (by simp; omega)⟩
end Go.Proofs.YtmgepckhdgoemaaDoor
