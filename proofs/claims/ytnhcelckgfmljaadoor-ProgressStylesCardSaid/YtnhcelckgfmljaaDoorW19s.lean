/- Progress: narratorref27.Same (equal lists), for seats that hold neither the law ProgressFind nor ProgressRegions. -/
import Derived.Test.YtnhcelckgfmljaaDoorW11
import Derived.Deep.RegionHeld3
namespace Go.Proofs.YtnhcelckgfmljaaDoor
open Go.RowKit

theorem progT_len (v : Vw) : (progT v).length ≤ v.rows.length := by
  unfold progT; split
  · exact progL_len _ _
  · simp


set_option maxHeartbeats 2000000 in
theorem same27P (w : World) (b1 b2 : Nat) (v1 v2 : Value) (l : List Rg) (h1 : w.ownsRow b1 47 8 v1 l.length (l.flatMap Rg.enc)) (h2 : w.ownsRow b2 47 8 v2 l.length (l.flatMap Rg.enc)) (hl : l.length ≤ 1000) :
    Calls Tryd.prog 7 #[v1, v2] w fun e w' => e = .returned (.bool true) ∧ Below w.heap.size w w' := by
  obtain ⟨A1, c1, rfl⟩ := own_form h1
  obtain ⟨A2, c2, rfl⟩ := own_form h2
  have H1 := hide h1
  have H2 := hide h2
  clear h1 h2
  obtain ⟨n, hn⟩ : ∃ n, l.length = n := ⟨_, rfl⟩
  rw [hn] at H1 H2 hl ⊢
  have Hn := hide hn
  clear hn
  go_enter Tryd.func7, Tryd.ntmps7
  go_wp2
  go_loopw [5] (fun i wr => ∃ k : Nat, k ≤ n ∧ i = .int .i64 k ∧ Below w.heap.size w wr) (fun i _ => n - (intOf i).toNat)
  case atStart => exact ⟨0, Nat.zero_le _, rfl, Below.refl _ _⟩
  case round =>
    rename World => wo
    obtain ⟨k, hk, rfl, hb⟩ := hrel
    by_cases hlt : k < n
    · obtain ⟨g1, d1, he1, -, hg1⟩ := own_form1 H1.out (by omega)
      obtain ⟨g2, d2, he2, -, hg2⟩ := own_form1 H2.out (by omega)
      cases he1
      cases he2
      obtain ⟨x, hx⟩ : ∃ x, l[k]? = some x := ⟨_, List.getElem?_eq_getElem (by rw [Hn.out]; exact hlt)⟩
      have hf : ∀ j u, (Rg.enc x)[j]? = some u → wo.cell? ⟨g1, k * 8 + j, none⟩ = some u ∧ wo.cell? ⟨g2, k * 8 + j, none⟩ = some u := fun j u hu => by
        have hj : j < 8 := (List.getElem?_eq_some_iff.1 hu).1
        have hfl := flat_get (enc := Rg.enc) (sz := 8) (fun _ => rfl) l k x j u hx hu
        exact ⟨by rw [hb.cell (p := ⟨g1, k * 8 + j, none⟩) hg1, H1.out.cellAt (k * 8 + j) (by omega), hfl], by rw [hb.cell (p := ⟨g2, k * 8 + j, none⟩) hg2, H2.out.cellAt (k * 8 + j) (by omega), hfl]⟩
      obtain ⟨x0, y0⟩ := hf 0 _ rfl
      obtain ⟨x1, y1⟩ := hf 1 _ rfl
      obtain ⟨x2, y2⟩ := hf 2 _ rfl
      obtain ⟨x3, y3⟩ := hf 3 _ rfl
      obtain ⟨x4, y4⟩ := hf 4 _ rfl
      obtain ⟨x5, y5⟩ := hf 5 _ rfl
      obtain ⟨x6, y6⟩ := hf 6 _ rfl
      obtain ⟨x7, y7⟩ := hf 7 _ rfl
      rw [Nat.add_zero] at x0 y0
      have hltn : (k : Int) < (n : Int) := by omega
      obtain ⟨xk, xi, xp, xt, xl, xb, xr, xlb⟩ := x
      dsimp only at x0 x1 x2 x3 x4 x5 x6 x7 y0 y1 y2 y3 y4 y5 y6 y7
      clear hx hf
      have hbd := hb.drew
      go_wp2
      go_region_held3 (fun W2 => W2.cell? ⟨g1, k * 8, none⟩ = some (.int .i64 xk) ∧ W2.cell? ⟨g1, k * 8 + 1, none⟩ = some (.int .i64 xi) ∧ W2.cell? ⟨g1, k * 8 + 2, none⟩ = some (.int .i64 xp) ∧ W2.cell? ⟨g1, k * 8 + 3, none⟩ = some (.int .i64 xt) ∧ W2.cell? ⟨g1, k * 8 + 4, none⟩ = some (.int .i64 xl) ∧
        W2.cell? ⟨g1, k * 8 + 5, none⟩ = some (.int .i64 xb) ∧ W2.cell? ⟨g1, k * 8 + 6, none⟩ = some (.int .i64 xr) ∧ W2.cell? ⟨g1, k * 8 + 7, none⟩ = some (.string xlb) ∧
        W2.cell? ⟨g2, k * 8, none⟩ = some (.int .i64 xk) ∧ W2.cell? ⟨g2, k * 8 + 1, none⟩ = some (.int .i64 xi) ∧ W2.cell? ⟨g2, k * 8 + 2, none⟩ = some (.int .i64 xp) ∧ W2.cell? ⟨g2, k * 8 + 3, none⟩ = some (.int .i64 xt) ∧ W2.cell? ⟨g2, k * 8 + 4, none⟩ = some (.int .i64 xl) ∧
        W2.cell? ⟨g2, k * 8 + 5, none⟩ = some (.int .i64 xb) ∧ W2.cell? ⟨g2, k * 8 + 6, none⟩ = some (.int .i64 xr) ∧ W2.cell? ⟨g2, k * 8 + 7, none⟩ = some (.string xlb)) (go_keep) (fail)
      go_wp2
      go_roundw
      case rel => exact ⟨k + 1, by omega, by go_num, hbd⟩
      case measure => simp [intOf]; omega
    · obtain rfl : k = n := by omega
      go_wp2
      go_ret
      exact ⟨rfl, hb⟩
end Go.Proofs.YtnhcelckgfmljaaDoor
