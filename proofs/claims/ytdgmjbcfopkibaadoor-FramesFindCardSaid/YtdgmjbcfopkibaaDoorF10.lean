/- frames.Title. -/
import Derived.Test.YtdgmjbcfopkibaaDoorF9
namespace Go.Proofs.YtdgmjbcfopkibaaDoor
open Go.RowKit Go.Shelf

/-- What Title returns. -/
def titleT (v : Vw) (r : Rg) : ByteArray := if closedT v r.top r.left r.bottom r.right = true then titleB v.pic (v.rows.getD r.top.toNat []) r.top.toNat r.left.toNat r.right.toNat else ⟨#[]⟩

set_option maxRecDepth 100000 in
set_option maxHeartbeats 4000000 in
theorem titleP (w : World) (A : Option Addr) (c : Nat) (v : Vw) (rg : Rg) (h : Rows2 w w.heap.size A v.rows) (ht : v.Tame) (hT : Tabs w) :
    Calls Tryd.prog 15 #[v.val A c, rg.val] w fun e w' => e = .returned (.string (titleT v rg)) ∧ Below w.heap.size w w' := by
  obtain ⟨W0, hW0, hbox, hs0, hvb, hrb⟩ := boxes2 w v A c rg
  have HCl := hide (fun (w1 : World) (hb1 : Below w.heap.size w w1) => closedP w1 A c v rg.top rg.left rg.bottom rg.right ((h.below hb1).more hb1.size) ht (hT.below hb1))
  rw [hW0] at hbox hs0 hvb hrb
  clear hW0
  obtain ⟨CT, hCT⟩ : ∃ CT, closedT v rg.top rg.left rg.bottom rg.right = CT := ⟨_, rfl⟩
  simp only [hCT] at HCl
  cases CT with
  | false =>
    have HR := hide (show titleT v rg = ⟨#[]⟩ by unfold titleT; rw [if_neg (by rw [hCT]; simp)])
    obtain ⟨k0, k1, k2, k3, k4, k5⟩ := hvb.cells
    obtain ⟨r0, r1, r2, r3, r4, r5, r6, r7⟩ := hrb.cells
    clear h ht hT hCT hvb hrb
    unfold Vw.val at HCl ⊢
    unfold Rg.val
    go_enter Tryd.func15, Tryd.ntmps15
    go_wp2_with (go_at_call 14; refine (HCl.out _ hbox).mono ?_; rintro e w1 ⟨rfl, hb1⟩)
    go_ret
    exact ⟨by rw [HR.out]; rfl, hbox.trans (hb1.mono (by omega))⟩
  | true =>
    have HR := hide (show titleT v rg = titleB v.pic (v.rows.getD rg.top.toNat []) rg.top.toNat rg.left.toNat rg.right.toNat by unfold titleT; rw [if_pos hCT])
    have hok : v.ok = true := by unfold closedT at hCT; simp only [Bool.and_eq_true] at hCT; exact hCT.1.1
    have hrect : rectB v rg.top rg.left rg.bottom rg.right = true := by unfold closedT at hCT; simp only [Bool.and_eq_true] at hCT; exact hCT.1.2
    rw [rectB_iff] at hrect
    have hni := Vw.nice ht hok
    obtain ⟨W, hW⟩ : ∃ W : Nat, v.width = W := ⟨_, hni.width⟩
    have hWn : v.width.toNat = W := by rw [hW]; rfl
    rw [hWn] at hni
    have hht := hni.height
    have hW2 := hni.w2
    rw [hW, hht] at hrect
    obtain ⟨rk, ri, rp, rt, rl, rb, rr, rlb⟩ := rg
    dsimp only at HCl HR hrect hbox hrb hs0
    obtain ⟨t', rfl⟩ : ∃ x : Nat, rt = (x : Int) := ⟨rt.toNat, by omega⟩
    obtain ⟨l', rfl⟩ : ∃ x : Nat, rl = (x : Int) := ⟨rl.toNat, by omega⟩
    obtain ⟨r', rfl⟩ : ∃ x : Nat, rr = (x : Int) := ⟨rr.toNat, by omega⟩
    simp only [Int.toNat_natCast] at HR
    have HD := hide (fun (w1 : World) (hb1 : Below w.heap.size w w1) => drawP w1 A c v W ((h.below hb1).more hb1.size) hni)
    have HTi := hide (fun (w1 : World) (hb1 : Below w.heap.size w w1) (bp : Nat) (hP : PicAt w1 bp v.rows.length W v.pic) => titlePicP w1 bp W t' l' r' A c v hP ((h.below hb1).more hb1.size) ht (by omega) (by omega) (by omega) hW2)
    obtain ⟨k0, k1, k2, k3, k4, k5⟩ := hvb.cells
    obtain ⟨r0, r1, r2, r3, r4, r5, r6, r7⟩ := hrb.cells
    dsimp only at r0 r1 r2 r3 r4 r5 r6 r7
    have HS0 := hide (fun (W2 : World) (hb : Below (w.heap.size + 1 + 1) _ W2) => And.intro (hvb.below hb (by omega)).cells (hrb.below hb (by omega)).cells)
    unfold Vw.val at HCl HD HTi ⊢
    unfold Rg.val
    clear h ht hT hCT hvb hrb hok hrect hni hW hWn hht hW2
    go_enter Tryd.func15, Tryd.ntmps15
    go_wp2_with (go_at_call 14; refine (HCl.out _ hbox).mono ?_; rintro e w1 ⟨rfl, hb1⟩; obtain ⟨⟨x0, x1, x2, x3, x4, x5⟩, y0, y1, y2, y3, y4, y5, y6, y7⟩ := HS0.out w1 (hb1.mono (by omega)))
    have hbw1 := hbox.trans (hb1.mono (by omega))
    have hl1 : w.heap.size + 1 + 1 ≤ w1.heap.size := by have := hb1.size; omega
    have hbd := (Below.refl w1.heap.size w1).drew
    have HS := hide (fun (W2 : World) (hb : Below w1.heap.size w1 W2) => HS0.out W2 ((hb1.mono (by omega)).trans (hb.mono hl1)))
    have HB := hide (fun (W2 : World) (hb : Below w1.heap.size w1 W2) => hbw1.trans (hb.mono (by omega)))
    clear k0 k1 k2 k3 k4 k5 r0 r1 r2 r3 r4 r5 r6 r7 HCl
    go_region_held3 (fun W2 => (W2.cell? ⟨w.heap.size, 0, none⟩ = some (.int .i64 v.width) ∧ W2.cell? ⟨w.heap.size, 1, none⟩ = some (.int .i64 v.height) ∧ W2.cell? ⟨w.heap.size, 2, none⟩ = some (.slice A v.rows.length c) ∧ W2.cell? ⟨w.heap.size, 3, none⟩ = some (.int .i64 v.row) ∧ W2.cell? ⟨w.heap.size, 4, none⟩ = some (.int .i64 v.col) ∧ W2.cell? ⟨w.heap.size, 5, none⟩ = some (.bool v.visible)) ∧
        W2.cell? ⟨w.heap.size + 1, 0, none⟩ = some (.int .i64 rk) ∧ W2.cell? ⟨w.heap.size + 1, 1, none⟩ = some (.int .i64 ri) ∧ W2.cell? ⟨w.heap.size + 1, 2, none⟩ = some (.int .i64 rp) ∧ W2.cell? ⟨w.heap.size + 1, 3, none⟩ = some (.int .i64 t') ∧ W2.cell? ⟨w.heap.size + 1, 4, none⟩ = some (.int .i64 l') ∧ W2.cell? ⟨w.heap.size + 1, 5, none⟩ = some (.int .i64 rb) ∧ W2.cell? ⟨w.heap.size + 1, 6, none⟩ = some (.int .i64 r') ∧ W2.cell? ⟨w.heap.size + 1, 7, none⟩ = some (.string rlb))
      (first | exact HS.out _ hb6 | exact HS.out _ hb5 | exact HS.out _ hbd)
      (first
        | (go_at_call 21; refine (HTi.out _ (HB.out _ hb5) bp hP5).mono ?_; rintro e w6 ⟨rfl, hbJ⟩; have hb6 := hb5.trans (hbJ.mono hb5.size))
        | (go_at_call 19; refine (HD.out _ (HB.out _ hbd)).mono ?_; rintro e w5 ⟨bp, rfl, -, hP5, hbI⟩; have hb5 := hbd.trans (hbI.mono hbd.size))
        | fail)
    all_goals
      go_wp2
      go_ret
      exact ⟨by rw [HR.out]; rfl, HB.out _ hb6⟩
end Go.Proofs.YtdgmjbcfopkibaaDoor
