/- scriptcode: bounds, size, base, Check; the reference's Same. -/
import Derived.Test.YtonnjokjbknngaaDoorZ7
import Derived.Test.YtonnjokjbknngaaDoorZ5
import Derived.Test.YtonnjokjbknngaaDoorHeld
import Derived.Deep.RegionHeld3
import Derived.Deep.QuietTactic
import Derived.BigQuiet
import Derived.WalkArith
namespace Go.Proofs.YtonnjokjbknngaaDoor
open Go.RowKit Go.Lib Go.Shelf

/-- An instruction in two cells. -/
def InsAt : World → Nat → Nat → Ins → Prop := fun w b o x => w.cell? ⟨b, o, none⟩ = some (.int .i64 x.op) ∧ w.cell? ⟨b, o + 1, none⟩ = some (.int .i64 x.arg)
theorem InsAt.stays (B : Nat) : Stays InsAt B := fun _ _ _ _ _ hk hb h => ⟨(hk _ hb).trans h.1, (hk _ hb).trans h.2⟩
theorem InsAt.lays : Lays InsAt 2 Ins.enc := ⟨fun _ => rfl, fun _ _ _ _ h => ⟨h 0 _ rfl, h 1 _ rfl⟩⟩
abbrev InsRow (w : World) (B : Nat) (A : Option Addr) (l : List Ins) : Prop := Sl InsAt 2 w B A l
theorem InsRow.of_own {w : World} {B : Nat} {v : Value} {l : List Ins} (h : OwnIns w B v l) : ∃ A c, v = .slice A l.length c ∧ l.length ≤ c ∧ InsRow w w.heap.size A l := Sl.of_own InsAt.lays h

set_option maxHeartbeats 400000 in
theorem boundsP (w : World) (op : Int) (i n : Nat) (hi : i ≤ 100000) : Calls Tryd.prog 48 #[.int .i64 op, .int .i64 i, .int .i64 n] w fun e w' => e = .returned (.tuple #[.int .i64 (loA op i), .int .i64 (hiA op n)]) ∧ w = w' := by
  by_cases h1 : op = 1
  · subst h1
    go_enter Tryd.func48, Tryd.ntmps48
    go_wp2
    go_ret2
    exact ⟨rfl, rfl⟩
  have q1 : (op == 1) = false := by rw [beq_eq_false_iff_ne]; exact h1
  by_cases h2 : op = 17
  · subst h2
    go_enter Tryd.func48, Tryd.ntmps48
    go_wp2
    go_ret2
    exact ⟨rfl, rfl⟩
  have q2 : (op == 17) = false := by rw [beq_eq_false_iff_ne]; exact h2
  by_cases h3 : op = 18
  · subst h3
    go_enter Tryd.func48, Tryd.ntmps48
    go_wp2
    go_ret2
    exact ⟨rfl, rfl⟩
  have q3 : (op == 18) = false := by rw [beq_eq_false_iff_ne]; exact h3
  have H := hide (show loA op i = 0 ∧ hiA op n = 0 by unfold loA hiA; rw [if_neg h1, if_neg (by omega), if_neg h1, if_neg (by omega)]; exact ⟨rfl, rfl⟩)
  clear h1 h2 h3
  go_enter Tryd.func48, Tryd.ntmps48
  go_wp2
  go_ret2
  exact ⟨by rw [H.out.1, H.out.2]; rfl, rfl⟩
set_option maxHeartbeats 400000 in
theorem sizeP (w : World) (b : Nat) : Calls Tryd.prog 37 #[.int .i64 b] w fun e w' => e = .returned (.int .i64 (szN b)) ∧ w = w' := by
  by_cases h1 : b = 1
  · subst h1
    go_enter Tryd.func37, Tryd.ntmps37
    go_wp2
    go_ret
    exact ⟨rfl, rfl⟩
  have q1 : ((b : Int) == 1) = false := by rw [beq_eq_false_iff_ne]; omega
  by_cases h2 : b = 17
  · subst h2
    go_enter Tryd.func37, Tryd.ntmps37
    go_wp2
    go_ret
    exact ⟨rfl, rfl⟩
  have q2 : ((b : Int) == 17) = false := by rw [beq_eq_false_iff_ne]; omega
  by_cases h3 : b = 18
  · subst h3
    go_enter Tryd.func37, Tryd.ntmps37
    go_wp2
    go_ret
    exact ⟨rfl, rfl⟩
  have q3 : ((b : Int) == 18) = false := by rw [beq_eq_false_iff_ne]; omega
  have H := hide (show szN b = 0 by unfold szN; rw [if_neg h1, if_neg (by omega)])
  clear h1 h2 h3
  go_enter Tryd.func37, Tryd.ntmps37
  go_wp2
  go_ret
  exact ⟨by rw [H.out]; rfl, rfl⟩
set_option maxHeartbeats 400000 in
theorem baseP (w : World) (op : Int) (i : Nat) (hi : i ≤ 100000) : Calls Tryd.prog 38 #[.int .i64 op, .int .i64 i] w fun e w' => e = .returned (.int .i64 (loA op i)) ∧ w = w' := by
  have HB := hide (show Calls Tryd.prog 48 #[.int .i64 op, .int .i64 i, .int .i64 0] w fun e w' => e = .returned (.tuple #[.int .i64 (loA op i), .int .i64 (hiA op 0)]) ∧ w = w' from boundsP w op i 0 hi)
  obtain ⟨L, hL⟩ : ∃ x, loA op i = x := ⟨_, rfl⟩
  obtain ⟨H, hH⟩ : ∃ x, hiA op 0 = x := ⟨_, rfl⟩
  rw [hL] at HB ⊢
  rw [hH] at HB
  clear hL hH
  go_enter Tryd.func38, Tryd.ntmps38
  go_wp2_with (go_at_call 48; refine HB.out.mono ?_; rintro e w1 ⟨rfl, rfl⟩)
  go_ret
  exact ⟨rfl, rfl⟩

theorem below_drewN' {B : Nat} {a w : World} (h : Below B a w) (n : Nat) : Below B a (w.drewN n) := ⟨h.os, h.tape, h.output, h.size, h.block⟩
/-- The error from instruction k on, and the whole. -/
theorem errFrom_cons (n i : Nat) (x : Ins) (l : List Ins) : errFrom n i (x :: l) = if insErr n i x = 0 then errFrom n (i + 1) l else insErr n i x := rfl

set_option maxRecDepth 100000 in
set_option maxHeartbeats 2000000 in
theorem checkP (w : World) (A : Option Addr) (c : Nat) (l : List Ins) (h : InsRow w w.heap.size A l) :
    Calls Tryd.prog 22 #[.slice A l.length c] w fun e w' => e = .returned (.int .i64 (codeErr l)) ∧ Below w.heap.size w w' := by
  have hrf := Below.refl w.heap.size w
  obtain ⟨n, hn⟩ : ∃ n, l.length = n := ⟨_, rfl⟩
  rw [hn]
  by_cases h5 : 500 < n
  · have HR := hide (show codeErr l = 5 by unfold codeErr; rw [hn, if_pos h5])
    have h5I : (500 : Int) < (n : Int) := by omega
    clear h hn h5
    go_enter Tryd.func22, Tryd.ntmps22
    go_wp2
    go_ret
    exact ⟨ret_int HR.out.symm, hrf⟩
  · have HR := hide (show codeErr l = errFrom n 0 l by unfold codeErr; rw [hn, if_neg h5])
    have h5n : n ≤ 500 := by omega
    have Hn := hide hn
    have Hh := hide h
    clear h hn h5
    go_enter Tryd.func22, Tryd.ntmps22
    go_wp2
    go_loopw [12] (fun i wr => ∃ k : Nat, k ≤ n ∧ i = .int .i64 k ∧ errFrom n 0 l = errFrom n k (l.drop k) ∧ Below w.heap.size w wr) (fun i _ => n - (intOf i).toNat)
    case atStart => exact ⟨0, Nat.zero_le _, rfl, rfl, hrf⟩
    case round =>
      obtain ⟨k, hk, rfl, he, hbr⟩ := hrel
      rename World => wo
      have He := hide he
      have HB := hide hbr
      clear he
      by_cases hlt : k < n
      · have hltI : (k : Int) < (n : Int) := by omega
        have hkl : k < l.length := by rw [Hn.out]; exact hlt
        obtain ⟨b, off, rfl, hb, hc0, hc1⟩ := Hh.out.get hkl
        have hdr := List.drop_eq_getElem_cons hkl
        obtain ⟨x, hx⟩ : ∃ x, l[k]'hkl = x := ⟨_, rfl⟩
        rw [hx] at hc0 hc1 hdr
        rw [hdr, errFrom_cons] at He
        obtain ⟨op, arg⟩ := x
        dsimp only at hc0 hc1
        have e0 : wo.cell? ⟨b, off + k * 2, none⟩ = some (.int .i64 op) := (hbr.cell (p := ⟨b, _, none⟩) hb).trans hc0
        have e1 : wo.cell? ⟨b, off + k * 2 + 1, none⟩ = some (.int .i64 arg) := (hbr.cell (p := ⟨b, _, none⟩) hb).trans hc1
        clear hc0 hc1 hdr hx hbr hkl hb
        obtain ⟨W1, hW1⟩ : ∃ W1, wo.alloc (.cells #[.int .i64 op, .int .i64 arg] 41) = W1 := ⟨_, rfl⟩
        have hb1 : Below wo.heap.size wo W1 := by rw [← hW1]; exact (Below.refl _ _).alloc (Nat.le_refl _) _
        have hbx : W1.heap[wo.heap.size]? = some (.cells #[.int .i64 op, .int .i64 arg] 41) := by rw [← hW1]; exact block_new _ _
        have hs1 : wo.heap.size < W1.heap.size := block_lt hbx
        have hwo : w.heap.size ≤ wo.heap.size := HB.out.size
        by_cases hop : op < 0
        · have hd : decide (op < 0) = true := decide_eq_true hop
          have HR2 := hide (show (9 : Int) = codeErr l by
            rw [HR.out, He.out]
            have : insErr n k ⟨op, arg⟩ = 9 := by unfold insErr; rw [if_pos (.inl hop)]
            rw [this, if_neg (by decide)])
          have Hb1 := hide hb1
          have HW1 := hide hW1
          clear He HR hW1 hb1 hbx hs1 hop
          go_wp2
          go_quiet (fail)
          go_wp2
          go_ret
          exact ⟨ret_int HR2.out, below_drewN' (HB.out.alloc hwo _) _⟩
        · have hd : decide (op < 0) = false := decide_eq_false hop
          have hbd := (hb1.drew)
          have HNm := hide (namesP W1.drew)
          have HS := hide (fun (W : World) (hb : Below W1.heap.size W1 W) => (show W.cell? ⟨wo.heap.size, 0, none⟩ = some (.int .i64 op) ∧ W.cell? ⟨wo.heap.size, 1, none⟩ = some (.int .i64 arg) from ⟨cell_block (block_below hbx hb hs1) 0, cell_block (block_below hbx hb hs1) 1⟩))
          have HW1 := hide hW1
          have Hb1 := hide hb1
          have hd0 := (Below.refl W1.heap.size W1).drew
          rw [← hW1] at hd0 HNm
          clear hW1 hb1 hbx hbd hs1
          go_wp2
          go_region_held3 (fun W2 => W2.cell? ⟨wo.heap.size, 0, none⟩ = some (.int .i64 op) ∧ W2.cell? ⟨wo.heap.size, 1, none⟩ = some (.int .i64 arg))
            (first | exact HS.out _ (by rw [← HW1.out]; exact hb2) | exact HS.out _ (by rw [← HW1.out]; exact hd0))
            (first | (go_at_call 27; refine HNm.out.mono ?_; rintro e w2 ⟨g', c', rfl, hown2, hbF⟩; have hb2 := hd0.trans (hbF.mono hd0.size)) | fail)
          obtain ⟨x0, x1⟩ := HS.out w2 (by rw [← HW1.out]; exact hb2)
          have HBz := hide ((HB.out.alloc hwo (.cells #[.int .i64 op, .int .i64 arg] 41)).trans (hb2.mono (by simp; omega)))
          clear hown2 hbF hb2 hd0 HS HNm HW1 Hb1
          by_cases h20 : 20 < op
          · have HR2 := hide (show (9 : Int) = codeErr l by
              rw [HR.out, He.out]
              have : insErr n k ⟨op, arg⟩ = 9 := by unfold insErr; rw [if_pos (.inr h20)]
              rw [this, if_neg (by decide)])
            have h21 : (21 : Int) ≤ op := by omega
            clear He HR h20 hop
            go_wp2
            go_ret
            exact ⟨ret_int HR2.out, HBz.out⟩
          · have HBo := hide (boundsP w2 op k n (by omega))
            obtain ⟨L, hL⟩ : ∃ x, loA op k = x := ⟨_, rfl⟩
            obtain ⟨H, hH⟩ : ∃ x, hiA op n = x := ⟨_, rfl⟩
            have hins : insErr n k ⟨op, arg⟩ = if arg < L ∨ H < arg then 2 else 0 := by
              rw [← hL, ← hH]
              unfold insErr
              rw [if_neg (by dsimp only; omega)]
            rw [hL, hH] at HBo
            have h21 : ¬ (21 : Int) ≤ op := by omega
            have h21' : op < 21 := by omega
            have h0o : 0 ≤ op := by omega
            rw [hins] at He
            clear hins hL hH hop h20 hd
            by_cases hr : arg < L ∨ H < arg
            · have HR2 := hide (show (2 : Int) = codeErr l by
                rw [HR.out, He.out, if_pos hr, if_neg (by decide)])
              have hq : decide (arg < L) = true ∨ (decide (arg < L) = false ∧ decide (H < arg) = true) := by
                by_cases h : arg < L
                · exact .inl (decide_eq_true h)
                · exact .inr ⟨decide_eq_false h, decide_eq_true (hr.resolve_left h)⟩
              clear He HR hr
              rcases hq with hq | ⟨hq, hq2⟩
              all_goals
                go_wp2_with (go_at_call 48; refine HBo.out.mono ?_; rintro e w3 ⟨rfl, rfl⟩)
                go_ret
                exact ⟨ret_int HR2.out, HBz.out⟩
            · have HE2 := hide (show errFrom n 0 l = errFrom n (k + 1) (l.drop (k + 1)) by rw [He.out, if_neg hr, if_pos rfl])
              have hq : decide (arg < L) = false := decide_eq_false (fun h => hr (.inl h))
              have hq2 : decide (H < arg) = false := decide_eq_false (fun h => hr (.inr h))
              clear He hr
              go_wp2_with (go_at_call 48; refine HBo.out.mono ?_; rintro e w3 ⟨rfl, rfl⟩)
              go_roundw
              case rel => exact ⟨k + 1, by omega, by go_num, HE2.out, HBz.out⟩
              case measure => simp [intOf]; omega
      · obtain rfl : k = n := by omega
        have HR2 := hide (show (0 : Int) = codeErr l by rw [HR.out, He.out, List.drop_of_length_le (by rw [Hn.out]; exact Nat.le_refl _)]; rfl)
        clear hbr HR He
        go_wp2
        go_ret
        exact ⟨ret_int HR2.out, HB.out⟩
end Go.Proofs.YtonnjokjbknngaaDoor
