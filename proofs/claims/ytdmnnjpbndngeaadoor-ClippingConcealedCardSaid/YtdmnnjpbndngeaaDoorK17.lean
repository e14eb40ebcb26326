/- The example of chapter 45. -/
import Derived.Test.YtdmnnjpbndngeaaDoorK16
import Derived.Lib.OthersKept
namespace Go.Proofs.YtdmnnjpbndngeaaDoor
open Go.RowKit

/-- The glyph of an ASCII byte. -/
def chU (b : UInt8) : Gl := ⟨Utf8.encode (b.toNat : Int), false, 0⟩
def glyL (l : List UInt8) : List Gl := l.map chU
theorem glyL_len (l : List UInt8) : (glyL l).length = l.length := by simp [glyL]
theorem glyL_snoc (s : ByteArray) (k : Nat) (h : k < s.size) : glyL (s.data.toList.take (k + 1)) = glyL (s.data.toList.take k) ++ [chU s[k]] := by
  unfold glyL; rw [List.take_succ_eq_append_getElem (by simpa using h), List.map_append]; rfl
theorem own_not {w : World} {b : Nat} {e : TypeId} {s n : Nat} {v : Value} {xs : List Value} (h : w.ownsRow b e s v n xs) {k : Nat} {o : Obj} (hk : w.heap[k]? = some o) (ho : o.isCells = false) : v.ownBlock ≠ some k := fun he => by
  have := own_cells h k o he hk
  rw [ho] at this; cases this
/-- A row of the call's own stands while an iterator in another block moves on. -/
theorem own_iter {w : World} {b : Nat} {e : TypeId} {s n : Nat} {v : Value} {xs : List Value} (h : w.ownsRow b e s v n xs) {k : Nat} (str : ByteArray) {p : Nat} (hk : w.heap[k]? = some (.stringIter str p)) (pos : Nat) : (w.iterAt k str pos).ownsRow b e s v n xs :=
  h.kept (row := some k) ⟨rfl, rfl, rfl, by rw [Lib.iterAt_size]; exact Nat.le_refl _, fun j _ hj => Lib.iterAt_other w k j str pos (fun e => hj (by rw [e]))⟩ (.inr (own_not h hk rfl))

set_option maxRecDepth 100000 in
set_option maxHeartbeats 2000000 in
theorem text45P (w : World) (s : ByteArray) (hs : s.size ≤ 100) (ha : ∀ k (h : k < s.size), s[k].toNat < 128) :
    Calls Tryd.prog 13 #[.string s] w fun e w' => ∃ vv, e = .returned vv ∧ w'.ownsRow w.heap.size 73 3 vv s.size ((glyL s.data.toList).flatMap Gl.enc) ∧ Below w.heap.size w w' := by
  have HA := hide ha
  clear ha
  go_enter Tryd.func13, Tryd.ntmps13
  go_wp2
  have hlit := own_lit w w.heap.size 73 3 0 #[] (Nat.le_refl _) (by omega) rfl
  go_loopw [3] (fun o wr => ∃ pos : Nat, pos ≤ s.size ∧ wr.ownsRow w.heap.size 73 3 o pos ((glyL (s.data.toList.take pos)).flatMap Gl.enc) ∧ wr.heap[w.heap.size + 1]? = some (.stringIter s pos) ∧ Below w.heap.size w wr) (fun _ wr => s.size - wr.iterPos (w.heap.size + 1))
  case atStart =>
    have hi := World.iter_heap (w.alloc (.cells #[] 73)) s 0
    rw [World.size_alloc] at hi
    exact ⟨0, Nat.zero_le _, hlit.alloc (.stringIter s 0), hi, ((Below.refl _ w).alloc (Nat.le_refl _) _).alloc (by simp) _⟩
  case round =>
    rename World => wo
    obtain ⟨pos, hp, hown, hit, hb⟩ := hrel
    have hsz : w.heap.size + 1 < wo.heap.size := block_lt hit
    clear hlit
    by_cases hlt : pos < s.size
    · have hnx : ∀ ty, (Instr.next (.pointer (some ⟨w.heap.size + 1, 0, none⟩)) true ty).run Tryd.prog wo = _ := fun ty => Lib.run_next_ascii_at wo (w.heap.size + 1) s pos ty hit hlt (HA.out pos hlt)
      have Hsn := hide (glyL_snoc s pos hlt)
      obtain ⟨Ao, co0, rfl⟩ := own_form hown
      have hown5 := own_iter hown s hit (pos + 1)
      have hit5 := Lib.iterAt_heap wo (w.heap.size + 1) s pos (pos + 1) hit
      have hb5 := Lib.below_iterAt hb (k := w.heap.size + 1) (Nat.le_succ _) s (pos + 1)
      have hs5 := Lib.iterAt_size wo (w.heap.size + 1) s (pos + 1)
      obtain ⟨w5, hw5⟩ : ∃ w5, wo.iterAt (w.heap.size + 1) s (pos + 1) = w5 := ⟨_, rfl⟩
      rw [hw5] at hnx hown5 hit5 hb5 hs5
      have hs5' : w.heap.size ≤ w5.heap.size := by omega
      clear hw5 hown hb hs5
      have Hit5 := hide hit5
      clear hit5
      go_wp2_with (first
        | (at_builtin; (refine wpList_app w5 (.tmp 12) (.tmp 16) 61 rfl rfl el_glyph w.heap.size _ pos _ (by rfl) hown5 hs5' _ 1 1 _ _ (by rfl) rfl rfl (by simp [Value.oneCell']) (by omega) ?_); intro v6 w6 hown6 hg6)
        | fail)
      have hb6 := below_own hb5 hown5 hg6 (Nat.le_refl _) hs5'
      have hit6 := (hg6.block _ (block_lt Hit5.out) (own_not hown5 Hit5.out rfl).symm).trans Hit5.out
      have hit0 := hide hit
      go_roundw
      case rel => exact ⟨pos + 1, by omega, own_eq hown6 rfl (by rw [Hsn.out]; simp [Gl.enc, chU]), hit6, hb6⟩
      case measure => simp only [World.iterPos, hit6, hit0.out]; omega
    · obtain rfl : pos = s.size := by omega
      have hnx : ∀ ty, (Instr.next (.pointer (some ⟨w.heap.size + 1, 0, none⟩)) true ty).run Tryd.prog wo = _ := fun ty => Lib.run_next_end_at wo (w.heap.size + 1) s s.size ty hit hlt
      have HTk := hide (show s.data.toList.take s.size = s.data.toList from List.take_length)
      go_wp2
      go_ret
      exact ⟨_, rfl, own_eq hown rfl (by rw [HTk.out]), hb⟩

def awA : ByteArray := ⟨#[111, 110, 101, 32, 116, 119, 111]⟩
def awB : ByteArray := ⟨#[116, 104, 114, 101, 101]⟩
def awV : Vw := ⟨9, 2, [glyL awA.data.toList, glyL awB.data.toList], 0, 0, false⟩
theorem aw_great : awV.great = false := by decide +kernel
theorem aw_betE : betE awV 0 4 1 2 = 0 := by decide +kernel
theorem aw_betT : betT awV 0 4 1 2 = ⟨#[116, 119, 111, 10, 116, 104]⟩ := by kernel_rfl
theorem aw_wordE : wordE awV 0 5 = 0 := by decide +kernel
theorem aw_wordT : wordT awV 0 5 = ⟨#[116, 119, 111]⟩ := by kernel_rfl
theorem aw_ascA : ∀ k (h : k < awA.size), awA[k].toNat < 128 := by decide +kernel
theorem aw_ascB : ∀ k (h : k < awB.size), awB[k].toNat < 128 := by decide +kernel

theorem rows_two {w1 : World} {A1 A2 : Option Addr} {c1 c2 : Nat} {r1 r2 : List Gl} {n1 n2 : Nat} (hc1 : r1.length ≤ c1) (hg1 : GlRow w1 w1.heap.size A1 r1) (hc2 : r2.length ≤ c2) (hg2 : GlRow w1 w1.heap.size A2 r2) (hn1 : r1.length = n1 := by rfl) (hn2 : r2.length = n2 := by rfl) :
    Rows2 (w1.alloc (.cells #[.slice A1 n1 c1, .slice A2 n2 c2] 61)) (w1.alloc (.cells #[.slice A1 n1 c1, .slice A2 n2 c2] 61)).heap.size (some ⟨w1.heap.size, 0, none⟩) [r1, r2] := fun _ => by
  have hb : Below w1.heap.size w1 (w1.alloc (.cells #[.slice A1 n1 c1, .slice A2 n2 c2] 61)) := (Below.refl _ _).alloc (Nat.le_refl _) _
  refine ⟨w1.heap.size, 0, rfl, by simp, fun k x hx => ?_⟩
  subst hn1 hn2
  match k, hx with
  | 0, hx => cases hx; exact ⟨A1, c1, cell_block (block_new w1 _) 0, hc1, (hg1.below (GlAt.stays _) hb).more hb.size⟩
  | 1, hx => cases hx; exact ⟨A2, c2, cell_block (block_new w1 _) 1, hc2, (hg2.below (GlAt.stays _) hb).more hb.size⟩
  | k + 2, hx => simp at hx

/-- The two calls of the example. -/
theorem aw_calls (w2 : World) (A1 A2 : Option Addr) (c1 c2 : Nat) (hc1 : (glyL awA.data.toList).length ≤ c1) (hg1 : GlRow w2 w2.heap.size A1 (glyL awA.data.toList)) (hc2 : (glyL awB.data.toList).length ≤ c2) (hg2 : GlRow w2 w2.heap.size A2 (glyL awB.data.toList)) (hT : Tabs w2) :
    ∃ W4, (w2.alloc (.cells #[.slice A1 (glyL awA.data.toList).length c1, .slice A2 (glyL awB.data.toList).length c2] 61)).alloc (.cells #[.int .i64 9, .int .i64 2, .slice (some ⟨w2.heap.size, 0, none⟩) 2 2, .int .i64 0, .int .i64 0, .bool false] 54) = W4 ∧ Below w2.heap.size w2 W4 ∧
    (∀ W, Below W4.heap.size W4 W → W.cell? ⟨w2.heap.size + 1, 0, none⟩ = some (.int .i64 9) ∧ W.cell? ⟨w2.heap.size + 1, 1, none⟩ = some (.int .i64 2) ∧ W.cell? ⟨w2.heap.size + 1, 2, none⟩ = some (.slice (some ⟨w2.heap.size, 0, none⟩) 2 2) ∧ W.cell? ⟨w2.heap.size + 1, 3, none⟩ = some (.int .i64 0) ∧ W.cell? ⟨w2.heap.size + 1, 4, none⟩ = some (.int .i64 0) ∧ W.cell? ⟨w2.heap.size + 1, 5, none⟩ = some (.bool false)) ∧
    Calls Tryd.prog 7 #[.agg #[.int .i64 9, .int .i64 2, .slice (some ⟨w2.heap.size, 0, none⟩) 2 2, .int .i64 0, .int .i64 0, .bool false], .agg #[.int .i64 0, .int .i64 0, .int .i64 4], .agg #[.int .i64 0, .int .i64 1, .int .i64 2]] W4 (fun e w' => e = .returned (.tuple #[.string ⟨#[116, 119, 111, 10, 116, 104]⟩, .int .i64 0]) ∧ Below W4.heap.size W4 w') ∧
    ∀ W, Below W4.heap.size W4 W → Calls Tryd.prog 14 #[.agg #[.int .i64 9, .int .i64 2, .slice (some ⟨w2.heap.size, 0, none⟩) 2 2, .int .i64 0, .int .i64 0, .bool false], .int .i64 0, .int .i64 5] W (fun e w' => e = .returned (.tuple #[.string ⟨#[116, 119, 111]⟩, .int .i64 0]) ∧ Below W.heap.size W w') := by
  have hr3 := rows_two hc1 hg1 hc2 hg2
  have hb3 := (Below.refl w2.heap.size w2).alloc (Nat.le_refl _) (.cells #[.slice A1 (glyL awA.data.toList).length c1, .slice A2 (glyL awB.data.toList).length c2] 61)
  obtain ⟨W3, hW3⟩ : ∃ W3, w2.alloc (.cells #[.slice A1 (glyL awA.data.toList).length c1, .slice A2 (glyL awB.data.toList).length c2] 61) = W3 := ⟨_, rfl⟩
  have hs3 : W3.heap.size = w2.heap.size + 1 := by rw [← hW3]; simp
  rw [hW3] at hr3 hb3 ⊢
  have hb4 := hb3.alloc hb3.size (.cells #[.int .i64 9, .int .i64 2, .slice (some ⟨w2.heap.size, 0, none⟩) 2 2, .int .i64 0, .int .i64 0, .bool false] 54)
  have hb34 := (Below.refl W3.heap.size W3).alloc (Nat.le_refl _) (.cells #[.int .i64 9, .int .i64 2, .slice (some ⟨w2.heap.size, 0, none⟩) 2 2, .int .i64 0, .int .i64 0, .bool false] 54)
  have hv4 := block_new W3 (.cells #[.int .i64 9, .int .i64 2, .slice (some ⟨w2.heap.size, 0, none⟩) 2 2, .int .i64 0, .int .i64 0, .bool false] 54)
  rw [hs3] at hv4
  obtain ⟨W4, hW4⟩ : ∃ W4, W3.alloc (.cells #[.int .i64 9, .int .i64 2, .slice (some ⟨w2.heap.size, 0, none⟩) 2 2, .int .i64 0, .int .i64 0, .bool false] 54) = W4 := ⟨_, rfl⟩
  have hs4 : W4.heap.size = w2.heap.size + 1 + 1 := by rw [← hW4]; simp [hs3]
  rw [hW4] at hb4 hb34 hv4 ⊢
  have hr4 : Rows2 W4 W4.heap.size (some ⟨w2.heap.size, 0, none⟩) awV.rows := (Rows2.below hr3 hb34).more hb34.size
  have hT4 := hT.below hb4
  refine ⟨W4, rfl, hb4, fun W hb => ?_, ?_, fun W hb => ?_⟩
  · have hh := fun i => cell_block (block_below hv4 hb (by omega)) i
    exact ⟨hh 0, hh 1, hh 2, hh 3, hh 4, hh 5⟩
  · have := betweenP W4 (some ⟨w2.heap.size, 0, none⟩) 2 awV ⟨0, 0, 4⟩ ⟨0, 1, 2⟩ hr4 (Vw.tame aw_great) hT4
    dsimp only at this
    rw [aw_betE, aw_betT] at this
    exact this
  · have := wordP W (some ⟨w2.heap.size, 0, none⟩) 2 awV 0 5 ((Rows2.below hr4 hb).more hb.size) (Vw.tame aw_great) (hT4.below hb)
    rw [aw_wordE, aw_wordT] at this
    exact this

set_option maxRecDepth 100000 in
set_option maxHeartbeats 2000000 in
theorem awakeP (w : World) (hT : Tabs w) : Calls Tryd.prog 6 #[] w fun e w' => e = .returned (.bool true) ∧ Below w.heap.size w w' := by
  have H1 := hide (text45P w awA (by decide +kernel) aw_ascA)
  have H2 := hide (fun w1 => text45P w1 awB (by decide +kernel) aw_ascB)
  have HT := hide hT
  clear hT
  rw [show awA.size = 7 from rfl, show Value.string awA = .string ⟨#[111, 110, 101, 32, 116, 119, 111]⟩ from rfl] at H1
  simp only [show awB.size = 5 from rfl, show Value.string awB = .string ⟨#[116, 104, 114, 101, 101]⟩ from rfl] at H2
  go_enter Tryd.func6, Tryd.ntmps6
  go_wp2_with (first
    | (go_at_call 13; refine (H2.out w1).mono ?_; rintro e w2 ⟨v2, rfl, hown2, hb2⟩; obtain ⟨A2, c2, rfl, hc2, hgl2⟩ := Sl.of_own GlAt.lays (l := glyL awB.data.toList) hown2; obtain ⟨W4, hW4, hb4, HCl, HBt, HWd⟩ := aw_calls w2 A1 A2 c1 c2 hc1 ((hgl1.below (GlAt.stays _) hb2).more hb2.size) hc2 hgl2 (HT.out.below (hb1.trans (hb2.mono hb1.size))); have HCl := hide HCl; have HBt := hide HBt; have HWd := hide HWd; have HW4 := hide hW4; clear hW4)
    | (go_at_call 13; refine H1.out.mono ?_; rintro e w1 ⟨v1, rfl, hown1, hb1⟩; obtain ⟨A1, c1, rfl, hc1, hgl1⟩ := Sl.of_own GlAt.lays (l := glyL awA.data.toList) hown1)
    | (go_at_call 7; rw [HW4.out]; refine HBt.out.mono ?_; rintro e w5 ⟨rfl, hb5⟩; obtain ⟨x0, x1, x2, x3, x4, x5⟩ := HCl.out w5 hb5)
    | (go_at_call 14; refine (HWd.out w5 hb5).mono ?_; rintro e w6 ⟨rfl, hb6⟩)
    | fail)
  go_ret
  have hbb := hb1.trans ((hb2.trans ((hb4.trans ((hb5.trans (hb6.mono hb5.size)).mono hb4.size)).mono hb2.size)).mono hb1.size)
  exact ⟨rfl, hbb⟩
end Go.Proofs.YtdmnnjpbndngeaaDoor
