/- The example of chapter 27. -/
import Derived.Test.YtnhcelckgfmljaaDoorW10
namespace Go.Proofs.YtnhcelckgfmljaaDoor
open Go.RowKit

def awS : ByteArray := ⟨#[99, 111, 112, 121, 32, 91, 35, 35, 46, 46, 93, 32, 52, 53, 37]⟩
def awV : Vw := ⟨20, 1, [glyL awS.data.toList], 0, 0, false⟩
def awR : Rg := ⟨8, 0, -1, 0, 5, 1, 15, ⟨#[52, 53, 37]⟩⟩
theorem aw_perc : percV awS = (45, true) := by decide +kernel
theorem aw_bar : barsV awS = (2, 4, true) := by decide +kernel
theorem aw_great : awV.great = false := by decide +kernel
theorem aw_find : progT awV = [awR] := by kernel_rfl
theorem aw_asc : ∀ k (h : k < awS.size), awS[k].toNat < 128 := by decide +kernel

theorem rows_one {w1 : World} {A1 : Option Addr} {c1 : Nat} {r : List Gl} {n : Nat} (hc : r.length ≤ c1) (hgl : GlRow w1 w1.heap.size A1 r) (hn : r.length = n := by rfl) :
    Rows2 (w1.alloc (.cells #[.slice A1 n c1] 29)) (w1.alloc (.cells #[.slice A1 n c1] 29)).heap.size (some ⟨w1.heap.size, 0, none⟩) [r] := fun _ => by
  have hb : Below w1.heap.size w1 (w1.alloc (.cells #[.slice A1 n c1] 29)) := (Below.refl _ _).alloc (Nat.le_refl _) _
  refine ⟨w1.heap.size, 0, rfl, by simp, fun k x hx => ?_⟩
  obtain ⟨rfl, rfl⟩ : k = 0 ∧ r = x := by
    cases k with
    | zero => simp at hx; exact ⟨rfl, hx⟩
    | succ k => simp at hx
  subst hn
  exact ⟨A1, c1, cell_block (block_new w1 _) 0, hc, (hgl.below (GlAt.stays _) hb).more hb.size⟩

set_option maxRecDepth 100000 in
set_option maxHeartbeats 4000000 in
theorem awakeP (w : World) (hT : Tabs27 w) : Calls Tryd.prog 6 #[] w fun e w' => e = .returned (.bool true) ∧ Below w.heap.size w w' := by
  have H1 := hide (PercentP w awS (by decide +kernel))
  have H2 := hide (BarP w awS (by decide +kernel))
  have H3 := hide (glyphsP w awS (by decide +kernel) aw_asc)
  rw [aw_perc] at H1
  rw [aw_bar] at H2
  have HT := hide hT
  clear hT
  rw [show awS.size = 15 from rfl] at H3
  dsimp only at H1 H2
  have HS := hide (show awS = ⟨#[99, 111, 112, 121, 32, 91, 35, 35, 46, 46, 93, 32, 52, 53, 37]⟩ from rfl)
  rw [HS.out] at H1 H2
  rw [show Value.string awS = .string ⟨#[99, 111, 112, 121, 32, 91, 35, 35, 46, 46, 93, 32, 52, 53, 37]⟩ from rfl] at H3
  go_enter Tryd.func6, Tryd.ntmps6
  go_wp2_with (first
    | (go_at_call 14; refine H1.out.mono ?_; rintro e w1 ⟨rfl, rfl⟩)
    | (go_at_call 15; refine H2.out.mono ?_; rintro e w1 ⟨rfl, rfl⟩)
    | (go_at_call 16; refine H3.out.mono ?_; rintro e w1 ⟨vv, rfl, hown, hb1⟩; obtain ⟨A1, c1, rfl, hc1, hgl⟩ := Sl.of_own GlAt.lays (l := glyL awS.data.toList) hown; have hbx := (Below.refl w1.heap.size w1).alloc (Nat.le_refl _) (.cells #[.slice A1 15 c1] 29); have hbw := hb1.trans (hbx.mono hb1.size); have hrows : Rows2 (w1.alloc (.cells #[.slice A1 15 c1] 29)) (w1.alloc (.cells #[.slice A1 15 c1] 29)).heap.size (some ⟨w1.heap.size, 0, none⟩) awV.rows := rows_one hc1 hgl; have HF := hide (findP _ (some ⟨w1.heap.size, 0, none⟩) 1 awV hrows (Vw.tame aw_great) (HT.out.below hbw)); rw [aw_find] at HF)
    | (go_at_call 8; refine HF.out.mono ?_; rintro e w2 ⟨v2, rfl, hown2, hb2⟩; obtain ⟨go, co, rfl, hgo, hgl2⟩ := own_form1 hown2 (by simp); have e0 := (hown2.cellAt 0 (by simp)).trans (show _ = some (.int .i64 8) from rfl); have e1 := (hown2.cellAt 1 (by simp)).trans (show _ = some (.int .i64 0) from rfl); have e2 := (hown2.cellAt 2 (by simp)).trans (show _ = some (.int .i64 (-1)) from rfl); have e3 := (hown2.cellAt 3 (by simp)).trans (show _ = some (.int .i64 0) from rfl); have e4 := (hown2.cellAt 4 (by simp)).trans (show _ = some (.int .i64 5) from rfl); have e5 := (hown2.cellAt 5 (by simp)).trans (show _ = some (.int .i64 1) from rfl); have e6 := (hown2.cellAt 6 (by simp)).trans (show _ = some (.int .i64 15) from rfl); have e7 := (hown2.cellAt 7 (by simp)).trans (show _ = some (.string ⟨#[52, 53, 37]⟩) from rfl))
    | fail)
  go_ret
  exact ⟨rfl, hbw.trans (hb2.mono hbw.size)⟩
end Go.Proofs.YtnhcelckgfmljaaDoor
