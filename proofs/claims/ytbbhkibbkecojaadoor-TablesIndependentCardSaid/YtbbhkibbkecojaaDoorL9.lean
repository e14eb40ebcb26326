/- The walk of the law TablesIndependent. -/
import Derived.Test.YtbbhkibbkecojaaDoorL7
import Derived.Test.YtbbhkibbkecojaaDoorL4
import Derived.Test.YtbbhkibbkecojaaDoorP4
namespace Go.Proofs.YtbbhkibbkecojaaDoor
open Go.RowKit

theorem heads_one {w : World} {B : Nat} {rows : List (List Gl)} {xs : List Value} (h1 : xs.length = rows.length) (h3 : ∀ (k : Nat) (r : List Gl), rows[k]? = some r → ∃ (A : Option Addr) (c : Nat), xs[k]? = some (Value.slice A r.length c) ∧ r.length ≤ c ∧ GlRow w B A r) : ∀ u ∈ xs, u.oneCell' = true := fun u hu => by
  obtain ⟨k, hk, rfl⟩ := List.mem_iff_getElem.1 hu
  obtain ⟨A, c, e, -⟩ := h3 k _ (List.getElem?_eq_getElem (by omega))
  rw [List.getElem?_eq_getElem hk] at e
  rw [Option.some.inj e]; rfl

theorem heads_nil {w : World} {b : Nat} {t : TypeId} {fr : Nat × Nat} (h : w.heap[b]? = some (.cells #[.slice none 0 0] t fr)) : ∀ (j : Nat) (u : Value), [Value.slice none 0 0][j]? = some u → w.cell? ⟨b, 0 + j, none⟩ = some u := fun j u hu => by
  rw [cell_block h]
  rw [Nat.zero_add]
  simpa using hu

theorem findF_at (rows : List (List Gl)) (W : Nat) : ∀ f t, ∀ r ∈ findF rows W f t, ∃ t' e : Nat, r.top = t' ∧ r.bottom = e ∧ t' ≤ rows.length ∧ e ≤ rows.length
  | 0, t, r, h => by simp [findF] at h
  | f + 1, t, r, h => by
    by_cases ht : t < rows.length
    · have hbd := endTo_bd rows W t rows.length
      by_cases he : endTo rows W t rows.length = t + 1
      · rw [findF_none rows W f t ht he] at h; exact findF_at rows W f _ r h
      · rw [findF_some rows W f t ht he] at h
        rcases List.mem_cons.1 h with rfl | h
        · exact ⟨t, endTo rows W t rows.length, rfl, rfl, by omega, by omega⟩
        · exact findF_at rows W f _ r h
    · rw [findF_end rows W (f + 1) t (by omega)] at h; cases h
theorem findT_at (v : Vw) (r : Rg) (h : r ∈ findT v) : ∃ t e : Nat, r.top = t ∧ r.bottom = e ∧ t ≤ v.rows.length ∧ e ≤ v.rows.length := by
  unfold findT at h
  split at h
  · exact findF_at _ _ _ _ r h
  · cases h
theorem own_le {w : World} {b g n c : Nat} {e : TypeId} {s : Nat} {xs : List Value} (h : w.ownsRow b e s (.slice (some ⟨g, 0, none⟩) n c) n xs) : n ≤ c := by
  rcases h.2 with ⟨hv, -⟩ | ⟨g', cap, cur, hv, _, hh, hnc, _⟩
  · cases hv
  · cases hv; exact hnc
theorem own_apart {w w' : World} {b1 b2 : Nat} {e1 e2 : TypeId} {s1 s2 n1 n2 : Nat} {v1 v2 : Value} {xs1 xs2 : List Value} (h1 : w.ownsRow b1 e1 s1 v1 n1 xs1) (h2 : w'.ownsRow b2 e2 s2 v2 n2 xs2) (hb : w.heap.size ≤ b2) : v2.ownBlock = none ∨ v2.ownBlock ≠ v1.ownBlock := by
  cases h : v2.ownBlock with
  | none => exact .inl rfl
  | some g =>
    right
    intro he
    have a := h1.lt g he.symm
    have b := h2.lt g h
    omega
section
variable {P : Program} {ops : Array Oper} {rest : List Oper} {o : Oper} {a : Act} {Q : Exit → Act → World → Prop}
/-- 's = append(s, x)': where the new slice lies, besides. -/
theorem wpList_appL (W : World) (s x : Operand) (t : TypeId) (hgd : o.guard = none)
    (ho : o.op = .call { callee := .builtin .append, args := #[s, x], argTypes := #[t, t] })
    {e : TypeId} {z : Value} {size bytes : Nat} (hE : ElemOf P t e z size bytes) (base : Nat) (v : Value) (n : Nat) (xs : List Value) (hs : a.eval s = v) (hown : W.ownsRow base e size v n xs) (hbase : base ≤ W.heap.size)
    (news : Array Value) (c : Nat) (e' : TypeId) (g0 : Nat) (hx : a.eval x = .slice (some ⟨g0, 0, none⟩) 1 c) (hg0 : g0 = W.heap.size) (hl : news.size = size) (h1 : ∀ u ∈ news.toList, u.oneCell' = true) (hbytes : (n + 1) * bytes ≤ 140737488355328)
    (h : ∀ g cap w', w'.ownsRow base e size (.slice (some ⟨g, 0, none⟩) (n + 1) cap) (n + 1) (xs ++ news.toList) → W.grownBy w' v.ownBlock → (v.ownBlock = some g ∨ g = W.heap.size + 1) → wpList P ops Q rest (a.put o.dst (.slice (some ⟨g, 0, none⟩) (n + 1) cap)) w') : wpList P ops Q (o :: rest) a (W.alloc (.cells news e')) := by
  subst hg0
  obtain ⟨i, hi, hz, hsz, hby⟩ := info_parts hE.info
  have h63 : n + 1 ≤ maxLen := by
    unfold maxLen
    have := Nat.le_mul_of_pos_right (n + 1) hE.posb
    omega
  refine wpList_append_lies (w := W.alloc (.cells news e')) hgd s x t ho base e i z size bytes hE.slice hi hz hsz hby hE.cells hE.pos v n xs hs (hown.alloc _) ⟨W.heap.size, 0, none⟩ 1 c news.toList hx (by simpa using hl) ?_ h1 (by omega) h63 hbytes (by simp; omega) (W.heap.size + 1) (by simp) ?_
  · intro j u hj
    have hplain : (⟨W.heap.size, 0, none⟩ : Addr).add j = ⟨W.heap.size, j, none⟩ := by unfold Addr.add; split <;> simp_all
    rw [hplain, cell_block (block_new _ _), ← Array.getElem?_toList]
    exact hj
  · intro g cap w' hown' hg hat _
    exact h g cap w' hown' ⟨hg.os, hg.tape, hg.output, Nat.le_trans (by simp) hg.size, fun k hk hne => (hg.block k (by simp; omega) hne).trans (Below.heap_alloc W _ k hk)⟩ hat
end

/-- Two views in variables. -/
theorem boxesV (w : World) (a b : Vw) (A B : Option Addr) (c d : Nat) : ∃ W, W = (w.alloc (.cells #[.int .i64 a.width, .int .i64 a.height, .slice A a.rows.length c, .int .i64 a.row, .int .i64 a.col, .bool a.visible] 24)).alloc (.cells #[.int .i64 b.width, .int .i64 b.height, .slice B b.rows.length d, .int .i64 b.row, .int .i64 b.col, .bool b.visible] 24) ∧
    Below w.heap.size w W ∧ W.heap.size = w.heap.size + 1 + 1 ∧ VwBox W w.heap.size a A c ∧ VwBox W (w.heap.size + 1) b B d := by
  have hb1 := (Below.refl w.heap.size w).alloc (Nat.le_refl _) (.cells #[.int .i64 a.width, .int .i64 a.height, .slice A a.rows.length c, .int .i64 a.row, .int .i64 a.col, .bool a.visible] 24)
  have hv1 : VwBox _ w.heap.size a A c := block_new w (.cells #[.int .i64 a.width, .int .i64 a.height, .slice A a.rows.length c, .int .i64 a.row, .int .i64 a.col, .bool a.visible] 24)
  refine ⟨_, rfl, hb1.alloc hb1.size _, by simp, block_alloc hv1 _, ?_⟩
  have := block_new (w.alloc (.cells #[.int .i64 a.width, .int .i64 a.height, .slice A a.rows.length c, .int .i64 a.row, .int .i64 a.col, .bool a.visible] 24)) (.cells #[.int .i64 b.width, .int .i64 b.height, .slice B b.rows.length d, .int .i64 b.row, .int .i64 b.col, .bool b.visible] 24)
  rw [World.size_alloc] at this
  exact this

set_option maxRecDepth 100000 in
set_option maxHeartbeats 8000000 in
theorem indepLawP (w : World) (A B : Option Addr) (c d : Nat) (a b : Vw) (ha : Rows2 w w.heap.size A a.rows) (hb : Rows2 w w.heap.size B b.rows) (hT : Tabs w) (hc : a.rows.length ≤ c) (hd : b.rows.length ≤ d) :
    Calls Tryd.prog 5 #[a.val A c, b.val B d] w fun e w' => e = .returned (.bool true) ∧ Below w.heap.size w w' := by
  obtain ⟨W0, hW0, hbox, hs0, hva, hvb⟩ := boxesV w a b A B c d
  have HA := hide (fun w1 (hb1 : Below w.heap.size w w1) => awakeP w1 (hT.below hb1))
  have HSa := hide (fun w1 (hb1 : Below w.heap.size w w1) => smallP w1 A c a ((ha.below hb1).more hb1.size))
  have HSb := hide (fun w1 (hb1 : Below w.heap.size w w1) => smallP w1 B d b ((hb.below hb1).more hb1.size))
  have HK := hide (fun w1 (hb1 : Below (w.heap.size + 1 + 1) W0 w1) => And.intro (hva.below hb1 (by omega)).cells (hvb.below hb1 (by omega)).cells)
  have k := HK.out W0 (Below.refl _ _)
  rw [hW0] at hbox hs0 k HK hva hvb
  clear hW0
  obtain ⟨⟨k0, k1, k2, k3, k4, k5⟩, q0, q1, q2, q3, q4, q5⟩ := k
  cases hsa : smallB a with
  | false =>
    simp only [hsa] at HSa
    clear ha hb hT hva hvb hsa
    unfold Vw.val at HSa ⊢
    go_enter Tryd.func5, Tryd.ntmps5
    go_wp2_with (first
      | (go_at_call 17; refine (HSa.out _ hbox).mono ?_; rintro e w1 ⟨rfl, hb1⟩; have hbw := hbox.trans (hb1.mono (by omega)))
      | (go_at_call 11; refine (HA.out _ hbw).mono ?_; rintro e w2 ⟨rfl, hb2⟩)
      | fail)
    go_ret
    exact ⟨rfl, hbw.trans (hb2.mono hbw.size)⟩
  | true =>
    simp only [hsa] at HSa
    have hga : a.great = false ∧ a.ok = true := by unfold smallB at hsa; simpa using hsa
    cases hsb : smallB b with
    | false =>
      simp only [hsb] at HSb
      clear ha hb hT hva hvb hsa hsb hga
      unfold Vw.val at HSa HSb ⊢
      go_enter Tryd.func5, Tryd.ntmps5
      go_wp2_with (first
        | (go_at_call 17; refine (HSb.out _ hbw1).mono ?_; rintro e w2 ⟨rfl, hb2⟩; have hbw := hbw1.trans (hb2.mono hbw1.size))
        | (go_at_call 17; refine (HSa.out _ hbox).mono ?_; rintro e w1 ⟨rfl, hb1⟩; have hbw1 := hbox.trans (hb1.mono (by omega)); obtain ⟨⟨x0, x1, x2, x3, x4, x5⟩, y0, y1, y2, y3, y4, y5⟩ := HK.out w1 (by rw [hs0] at hb1; exact hb1))
        | (go_at_call 11; refine (HA.out _ hbw).mono ?_; rintro e w3 ⟨rfl, hb3⟩)
        | fail)
      go_ret
      exact ⟨rfl, hbw.trans (hb3.mono hbw.size)⟩
    | true =>
      simp only [hsb] at HSb
      have hgb : b.great = false ∧ b.ok = true := by unfold smallB at hsb; simpa using hsb
      have hta := Vw.tame hga.1
      have htb := Vw.tame hgb.1
      by_cases h5 : 5 < a.height
      · have hd1 : decide (5 < a.height) = true := by simp; omega
        clear ha hb hT hva hvb hsa hsb hga hgb hta htb
        unfold Vw.val at HSa HSb ⊢
        go_enter Tryd.func5, Tryd.ntmps5
        go_wp2_with (first
          | (go_at_call 17; refine (HSb.out _ hbw1).mono ?_; rintro e w2 ⟨rfl, hb2⟩; have hbw := hbw1.trans (hb2.mono hbw1.size); obtain ⟨⟨z0, z1, z2, z3, z4, z5⟩, t0, t1, t2, t3, t4, t5⟩ := HK.out w2 ((show Below (w.heap.size + 1 + 1) _ w1 by rw [hs0] at hb1; exact hb1).trans (hb2.mono (by have := hb1.size; omega))))
          | (go_at_call 17; refine (HSa.out _ hbox).mono ?_; rintro e w1 ⟨rfl, hb1⟩; have hbw1 := hbox.trans (hb1.mono (by omega)); obtain ⟨⟨x0, x1, x2, x3, x4, x5⟩, y0, y1, y2, y3, y4, y5⟩ := HK.out w1 (by rw [hs0] at hb1; exact hb1))
          | (go_at_call 11; refine (HA.out _ hbw).mono ?_; rintro e w3 ⟨rfl, hb3⟩)
          | fail)
        go_ret
        exact ⟨rfl, hbw.trans (hb3.mono hbw.size)⟩
      have hd1 : decide (5 < a.height) = false := by simp; omega
      by_cases h6 : 5 < b.height
      · have hd2 : decide (5 < b.height) = true := by simp; omega
        clear ha hb hT hva hvb hsa hsb hga hgb hta htb
        unfold Vw.val at HSa HSb ⊢
        go_enter Tryd.func5, Tryd.ntmps5
        go_wp2_with (first
          | (go_at_call 17; refine (HSb.out _ hbw1).mono ?_; rintro e w2 ⟨rfl, hb2⟩; have hbw := hbw1.trans (hb2.mono hbw1.size); obtain ⟨⟨z0, z1, z2, z3, z4, z5⟩, t0, t1, t2, t3, t4, t5⟩ := HK.out w2 ((show Below (w.heap.size + 1 + 1) _ w1 by rw [hs0] at hb1; exact hb1).trans (hb2.mono (by have := hb1.size; omega))))
          | (go_at_call 17; refine (HSa.out _ hbox).mono ?_; rintro e w1 ⟨rfl, hb1⟩; have hbw1 := hbox.trans (hb1.mono (by omega)); obtain ⟨⟨x0, x1, x2, x3, x4, x5⟩, y0, y1, y2, y3, y4, y5⟩ := HK.out w1 (by rw [hs0] at hb1; exact hb1))
          | (go_at_call 11; refine (HA.out _ hbw).mono ?_; rintro e w3 ⟨rfl, hb3⟩)
          | fail)
        go_ret
        exact ⟨rfl, hbw.trans (hb3.mono hbw.size)⟩
      have hd2 : decide (5 < b.height) = false := by simp; omega
      have hpa := Vw.proper hga.2
      have hpb := Vw.proper hgb.2
      have hwd : a.width ≤ 132 ∧ 1 ≤ a.width ∧ b.width ≤ 132 ∧ 1 ≤ b.width ∧ 1 ≤ a.height ∧ 1 ≤ b.height := ⟨hpa.w2, hpa.w1, hpb.w2, hpb.w1, hpa.h1, hpb.h1⟩
      have hfind := two_find hta htb hga.2 hgb.2 (by omega) (by omega)
      have hok := two_ok hga.2 hgb.2 (by omega) (by omega)
      have hra := hpa.len
      have hrb := hpb.len
      have hal : 0 < a.rows.length := by omega
      have hbl : 0 < b.rows.length := by omega
      have hal5 : a.rows.length ≤ 5 := by omega
      have hbl5 : b.rows.length ≤ 5 := by omega
      obtain ⟨ba, offa, hAe, hba, -⟩ := ha hal
      subst hAe
      obtain ⟨bb, offb, hBe, hbb, -⟩ := hb hbl
      subst hBe
      obtain ⟨xa, xa1, xa2, xa3⟩ := Rows2.heads ha
      obtain ⟨xb, xb1, xb2, xb3⟩ := Rows2.heads hb
      have xa4 := heads_one xa1 xa3
      have xb4 := heads_one xb1 xb3
      have HaH : Hid (a.height = (a.rows.length : Int)) := hide hra.symm
      clear hpa hpb hra hrb
      unfold Vw.val at HSa HSb ⊢
      have Hfind := hide hfind
      have Hok := hide hok
      have Hta := hide hta
      have Htb := hide htb
      have HFa := hide (fun (w1 : World) (hb1 : Below w.heap.size w w1) => findP w1 (some ⟨ba, offa, none⟩) c a ((ha.below hb1).more hb1.size) hta (hT.below hb1) hc)
      have HFb := hide (fun (w1 : World) (hb1 : Below w.heap.size w w1) => findP w1 (some ⟨bb, offb, none⟩) d b ((hb.below hb1).more hb1.size) htb (hT.below hb1) hd)
      have htv := two_tame hta htb hal5 hbl5
      have HFv := hide (fun (w1 : World) (hb1 : Below w.heap.size w w1) (A : Option Addr) (c : Nat) (hr : Rows2 w1 w1.heap.size A (twoV a b).rows) (hc : (twoV a b).rows.length ≤ c) => findP w1 A c (twoV a b) hr htv (hT.below hb1) hc)
      rw [hfind] at HFv
      unfold Vw.val at HFa HFb HFv
      clear hfind hok hta htb hsa hsb hga hgb htv
      have hmx : ∃ M : Int, max a.width b.width = M ∧ 1 ≤ M ∧ M ≤ 132 := ⟨_, rfl, by omega, by omega⟩
      go_enter Tryd.func5, Tryd.ntmps5
      go_wp2_with (first
        | (go_at_call 17; refine (HSb.out _ hbw1).mono ?_; rintro e w2 ⟨rfl, hb2⟩; have hbw := hbw1.trans (hb2.mono hbw1.size); obtain ⟨⟨z0, z1, z2, z3, z4, z5⟩, t0, t1, t2, t3, t4, t5⟩ := HK.out w2 ((show Below (w.heap.size + 1 + 1) _ w1 by rw [hs0] at hb1; exact hb1).trans (hb2.mono (by have := hb1.size; omega))))
        | (go_at_call 17; refine (HSa.out _ hbox).mono ?_; rintro e w1 ⟨rfl, hb1⟩; have hbw1 := hbox.trans (hb1.mono (by omega)); obtain ⟨⟨x0, x1, x2, x3, x4, x5⟩, y0, y1, y2, y3, y4, y5⟩ := HK.out w1 (by rw [hs0] at hb1; exact hb1))
        | (go_at_call 11; refine (HA.out _ hbw).mono ?_; rintro e w3 ⟨rfl, hb3⟩)
        | fail)
      have hs2 : w.heap.size + 1 + 1 ≤ w2.heap.size := by have := hb1.size; have := hb2.size; omega
      have hb12 : Below (w.heap.size + 1 + 1) _ w2 := (show Below (w.heap.size + 1 + 1) _ w1 by rw [hs0] at hb1; exact hb1).trans (hb2.mono (by have := hb1.size; omega))
      obtain ⟨w3, hw3⟩ : ∃ w3, w2.alloc (.cells #[.int .i64 a.width, .int .i64 a.height, .slice (some ⟨ba, offa, none⟩) a.rows.length c, .int .i64 a.row, .int .i64 a.col, .bool a.visible] 24) = w3 := ⟨_, rfl⟩
      have hb23 : Below w2.heap.size w2 w3 := by rw [← hw3]; exact (Below.refl _ _).alloc (Nat.le_refl _) _
      have hs3 : w3.heap.size = w2.heap.size + 1 := by rw [← hw3]; simp
      have hvv : VwBox w3 w2.heap.size a (some ⟨ba, offa, none⟩) c := by rw [← hw3]; exact block_new w2 _
      rw [hw3]
      clear hw3 k0 k1 k2 k3 k4 k5 q0 q1 q2 q3 q4 q5 x0 x1 x2 x3 x4 x5 y0 y1 y2 y3 y4 y5 z0 z1 z2 z3 z4 z5 t0 t1 t2 t3 t4 t5
      have hb3 := hb12.trans (hb23.mono hs2)
      have hbw3 := hbw.trans (hb23.mono (by omega))
      obtain ⟨⟨z0, z1, z2, z3, z4, z5⟩, t0, t1, t2, t3, t4, t5⟩ := HK.out w3 hb3
      have f0 := frozen_block hvv 0
      have f1 := frozen_block hvv 1
      obtain ⟨u0, u1, u2, u3, u4, u5⟩ := hvv.cells
      have hwr1 : IntKind.i64.wrap (a.height + 1) = a.height + 1 := IntWalk.i64_in _ (by omega)
      have hwr2 : IntKind.i64.wrap (a.height + 1 + b.height) = a.height + 1 + b.height := IntWalk.i64_in _ (by omega)
      obtain ⟨M, hM, hM1, hM2⟩ := hmx
      have hMx := hide hM
      have n1 : w.heap.size ≠ w2.heap.size := by omega
      have n2 : w.heap.size + 1 ≠ w2.heap.size := by omega
      have n3 : w2.heap.size ≠ w.heap.size := by omega
      have n4 : w2.heap.size ≠ w.heap.size + 1 := by omega
      go_region_held3 (fun W2 => W2.cell? ⟨w.heap.size, 0, none⟩ = some (.int .i64 a.width) ∧ W2.cell? ⟨w.heap.size + 1, 0, none⟩ = some (.int .i64 b.width) ∧ W2.cell? ⟨w.heap.size, 1, none⟩ = some (.int .i64 a.height) ∧ W2.cell? ⟨w.heap.size + 1, 1, none⟩ = some (.int .i64 b.height)) (go_keep) (fail)
      have hvv5 : VwBox ((w3.setCell ⟨w2.heap.size, 0, none⟩ (.int .i64 M)).setCell ⟨w2.heap.size, 1, none⟩ (.int .i64 (a.height + 1 + b.height))).drew w2.heap.size ⟨M, a.height + 1 + b.height, a.rows, a.row, a.col, a.visible⟩ (some ⟨ba, offa, none⟩) c :=
        heap_setCell_same _ _ 1 _ _ (.int .i64 (a.height + 1 + b.height)) (heap_setCell_same _ _ 0 _ _ (.int .i64 M) hvv)
      have hb35 : Below w2.heap.size w3 ((w3.setCell ⟨w2.heap.size, 0, none⟩ (.int .i64 M)).setCell ⟨w2.heap.size, 1, none⟩ (.int .i64 (a.height + 1 + b.height))).drew := (((Below.refl _ _).setCell (p := ⟨w2.heap.size, 0, none⟩) (Nat.le_refl _) _).setCell (p := ⟨w2.heap.size, 1, none⟩) (Nat.le_refl _) _).drew
      obtain ⟨w5, hw5⟩ : ∃ w5, ((w3.setCell ⟨w2.heap.size, 0, none⟩ (.int .i64 M)).setCell ⟨w2.heap.size, 1, none⟩ (.int .i64 (a.height + 1 + b.height))).drew = w5 := ⟨_, rfl⟩
      rw [hw5] at hvv5 hb35 ⊢
      have hs5 := hb35.size
      clear hw5 z0 z1 z2 z3 z4 z5 t0 t1 t2 t3 t4 t5 f0 f1 u0 u1 u2 u3 u4 u5 hvv
      have hb5 := hb3.trans (hb35.mono hs2)
      have hbw5 := hbw3.trans (hb35.mono (by omega))
      obtain ⟨⟨z0, z1, z2, z3, z4, z5⟩, t0, t1, t2, t3, t4, t5⟩ := HK.out w5 hb5
      have f2 := frozen_block hvv5 2
      go_wp2
      have hbA : Below w5.heap.size w5 (w5.alloc (.cells #[] 38)).drew := ((Below.refl _ _).alloc (Nat.le_refl _) _).drew
      have hlA : (w5.alloc (.cells #[] 38)).drew.ownsRow w5.heap.size 38 1 (.slice (some ⟨w5.heap.size, 0, none⟩) 0 0) 0 [] := own_lit w5 w5.heap.size 38 1 0 #[] (Nat.le_refl _) (by omega) rfl
      have hsA := hbA.size
      have xaA := fun j u (hu : xa[j]? = some u) => (hbA.cell (p := ⟨ba, offa + j, none⟩) (by show ba < _; omega)).trans ((hbw5.cell (p := ⟨ba, offa + j, none⟩) hba).trans (xa2 j u hu))
      have hbB : Below w5.heap.size w5 ((w5.alloc (.cells #[] 38)).alloc (.cells #[.slice none 0 0] 38)).drew := (((Below.refl _ _).alloc (Nat.le_refl _) _).alloc (by simp) _).drew
      have hlB : ((w5.alloc (.cells #[] 38)).alloc (.cells #[.slice none 0 0] 38)).drew.ownsRow w5.heap.size 38 1 (.slice (some ⟨w5.heap.size, 0, none⟩) 0 0) 0 [] := (own_lit w5 w5.heap.size 38 1 0 #[] (Nat.le_refl _) (by omega) rfl).alloc _
      have hsB := hbB.size
      have hltB : w5.heap.size + 1 < ((w5.alloc (.cells #[] 38)).alloc (.cells #[.slice none 0 0] 38)).drew.heap.size := by show _ < ((w5.alloc _).alloc _).heap.size; simp
      have hnB : ((w5.alloc (.cells #[] 38)).alloc (.cells #[.slice none 0 0] 38)).drew.heap[w5.heap.size + 1]? = some (.cells #[.slice none 0 0] 38 (0, 0)) := by
        have := block_new (w5.alloc (.cells #[] 38)) (.cells #[.slice none 0 0] 38)
        rw [World.size_alloc] at this
        exact this
      have xaB := fun j u (hu : xa[j]? = some u) => (hbB.cell (p := ⟨ba, offa + j, none⟩) (by show ba < _; omega)).trans ((hbw5.cell (p := ⟨ba, offa + j, none⟩) hba).trans (xa2 j u hu))
      have hbC : Below w5.heap.size w5 ((w5.alloc (.cells #[.slice none 0 0] 38)).alloc (.cells #[] 38)).drew := (((Below.refl _ _).alloc (Nat.le_refl _) _).alloc (by simp) _).drew
      have hlC : ((w5.alloc (.cells #[.slice none 0 0] 38)).alloc (.cells #[] 38)).drew.ownsRow w5.heap.size 38 1 (.slice (some ⟨w5.heap.size + 1, 0, none⟩) 0 0) 0 [] := by
        have := own_lit (w5.alloc (.cells #[.slice none 0 0] 38)) w5.heap.size 38 1 0 #[] (by simp) (by omega) rfl
        rw [World.size_alloc] at this
        exact this
      have hsC := hbC.size
      have hltC : w5.heap.size < ((w5.alloc (.cells #[.slice none 0 0] 38)).alloc (.cells #[] 38)).drew.heap.size := by show _ < ((w5.alloc _).alloc _).heap.size; simp; omega
      have hnC : ((w5.alloc (.cells #[.slice none 0 0] 38)).alloc (.cells #[] 38)).drew.heap[w5.heap.size]? = some (.cells #[.slice none 0 0] 38 (0, 0)) := block_alloc (block_new w5 (.cells #[.slice none 0 0] 38)) _
      have xaC := fun j u (hu : xa[j]? = some u) => (hbC.cell (p := ⟨ba, offa + j, none⟩) (by show ba < _; omega)).trans ((hbw5.cell (p := ⟨ba, offa + j, none⟩) hba).trans (xa2 j u hu))
      have hK2 := hide (fun w1 (hb1 : Below w5.heap.size w5 w1) => (show w1.cell? ⟨w.heap.size, 2, none⟩ = some (.slice (some ⟨ba, offa, none⟩) a.rows.length c) ∧ w1.cell? ⟨w.heap.size + 1, 2, none⟩ = some (.slice (some ⟨bb, offb, none⟩) b.rows.length d) from ⟨(HK.out w1 (hb5.trans (hb1.mono (by omega)))).1.2.2.1, (HK.out w1 (hb5.trans (hb1.mono (by omega)))).2.2.2.1⟩))
      go_region_held3 (fun W2 => W2.cell? ⟨w.heap.size, 2, none⟩ = some (.slice (some ⟨ba, offa, none⟩) a.rows.length c) ∧ W2.cell? ⟨w.heap.size + 1, 2, none⟩ = some (.slice (some ⟨bb, offb, none⟩) b.rows.length d)) (first | exact hK2.out _ hb8 | exact hK2.out _ (hb7.alloc hb7.size _) | exact hK2.out _ hb7 | exact hK2.out _ (hb6.alloc hb6.size _) | exact hK2.out _ hb6 | exact hK2.out _ hb6b | exact hK2.out _ hb6c | exact hK2.out _ hbC | exact hK2.out _ hbB | exact hK2.out _ hbA | go_keep)
        (first
          | (refine step_apps el_rows w7 (.tmp 47) (.tmp 49) (by rfl) (by rfl) w5.heap.size _ (a.rows.length + 1) _ (by rfl) hown7 hb7.size bb offb b.rows.length d xb (by rfl) hbl (by omega) xbA xb4 (by omega) (a.rows.length + 1 + b.rows.length) rfl ?_; intro g8 cap8 w8 hown8 hg8 hl8; have hb8 := below_own hb7 hown7 hg8 (Nat.le_refl _) hb7.size; have hvv8 := hvv5.below hb8 (by omega); have c8 := hvv8.cells.2.2.1; have f8 := frozen_block hvv8 2)
          | (refine step_app el_rows w6 (.tmp 45) (.tmp 46) (by rfl) (by rfl) w5.heap.size _ a.rows.length _ (by rfl) hown6 hb6.size (by omega) [.slice none 0 0] rfl (by simp [Value.oneCell']) (by rfl) ?_; intro g7 cap7 w7 hown7 hg7; have hb7 := below_own (hb6.alloc hb6.size _) (hown6.alloc _) hg7 (Nat.le_refl _) (hb6.alloc hb6.size _).size; have xbA := (fun j u (hu : xb[j]? = some u) => (hb7.cell (p := ⟨bb, offb + j, none⟩) (by show bb < _; omega)).trans ((hbw5.cell (p := ⟨bb, offb + j, none⟩) hbb).trans (xb2 j u hu))))
          | (refine step_apps el_rows w6b (.tmp 45) (.tmp 46) (by rfl) (by rfl) w5.heap.size _ a.rows.length _ (by rfl) hown6b hb6b.size (w5.heap.size + 1) 0 1 1 [.slice none 0 0] (by rfl) (by omega) rfl cn6 (by simp [Value.oneCell']) (by omega) (a.rows.length + 1) rfl ?_; intro g7 cap7 w7 hown7 hg7 _; have hb7 := below_own hb6b hown6b hg7 (Nat.le_refl _) hb6b.size; have xbA := (fun j u (hu : xb[j]? = some u) => (hb7.cell (p := ⟨bb, offb + j, none⟩) (by show bb < _; omega)).trans ((hbw5.cell (p := ⟨bb, offb + j, none⟩) hbb).trans (xb2 j u hu))))
          | (refine step_apps el_rows ((w5.alloc (.cells #[] 38)).alloc (.cells #[.slice none 0 0] 38)).drew (.tmp 42) (.tmp 44) (by rfl) (by rfl) w5.heap.size _ 0 [] (by rfl) hlB hsB ba offa a.rows.length c xa (by rfl) hal (by omega) xaB xa4 (by omega) a.rows.length (by omega) ?_; intro g6 cap6 w6b hown6b hg6b hl6b; rw [List.nil_append] at hown6b; have hb6b := below_own hbB hlB hg6b (Nat.le_refl _) hsB; have cn6 := heads_nil ((hg6b.block (w5.heap.size + 1) hltB (by simp [Value.ownBlock])).trans hnB))
          | (refine step_apps el_rows w6c (.tmp 45) (.tmp 46) (by rfl) (by rfl) w5.heap.size _ a.rows.length _ (by rfl) hown6c hb6c.size w5.heap.size 0 1 1 [.slice none 0 0] (by rfl) (by omega) rfl cn6c (by simp [Value.oneCell']) (by omega) (a.rows.length + 1) rfl ?_; intro g7 cap7 w7 hown7 hg7 _; have hb7 := below_own hb6c hown6c hg7 (Nat.le_refl _) hb6c.size; have xbA := (fun j u (hu : xb[j]? = some u) => (hb7.cell (p := ⟨bb, offb + j, none⟩) (by show bb < _; omega)).trans ((hbw5.cell (p := ⟨bb, offb + j, none⟩) hbb).trans (xb2 j u hu))))
          | (refine step_apps el_rows ((w5.alloc (.cells #[.slice none 0 0] 38)).alloc (.cells #[] 38)).drew (.tmp 42) (.tmp 44) (by rfl) (by rfl) w5.heap.size _ 0 [] (by rfl) hlC hsC ba offa a.rows.length c xa (by rfl) hal (by omega) xaC xa4 (by omega) a.rows.length (by omega) ?_; intro g6 cap6 w6c hown6c hg6c hl6c; rw [List.nil_append] at hown6c; have hb6c := below_own hbC hlC hg6c (Nat.le_refl _) hsC; have cn6c := heads_nil ((hg6c.block w5.heap.size hltC (by simp [Value.ownBlock])).trans hnC))
          | (refine step_apps el_rows (w5.alloc (.cells #[] 38)).drew (.tmp 42) (.tmp 44) (by rfl) (by rfl) w5.heap.size _ 0 [] (by rfl) hlA hsA ba offa a.rows.length c xa (by rfl) hal (by omega) xaA xa4 (by omega) a.rows.length (by omega) ?_; intro g6 cap6 w6 hown6 hg6 hl6; rw [List.nil_append] at hown6; have hb6 := below_own hbA hlA hg6 (Nat.le_refl _) hsA)
          | fail)
      all_goals
        have hvv9 : VwBox (w8.setCell ⟨w2.heap.size, 2, none⟩ (.slice (some ⟨g8, 0, none⟩) (a.rows.length + 1 + b.rows.length) cap8)) w2.heap.size (twoV a b) (some ⟨g8, 0, none⟩) cap8 := by
          have := heap_setCell_same _ _ 2 _ _ (.slice (some ⟨g8, 0, none⟩) (a.rows.length + 1 + b.rows.length) cap8) hvv8
          rw [← hMx.out] at this
          unfold VwBox twoV
          rw [twoR_len]
          exact this
        have hb29 : Below w2.heap.size w5 (w8.setCell ⟨w2.heap.size, 2, none⟩ (.slice (some ⟨g8, 0, none⟩) (a.rows.length + 1 + b.rows.length) cap8)) := (hb8.mono (B' := w2.heap.size) (by omega)).setCell (p := ⟨w2.heap.size, 2, none⟩) (Nat.le_refl _) _
        have hown9 : (w8.setCell ⟨w2.heap.size, 2, none⟩ (.slice (some ⟨g8, 0, none⟩) (a.rows.length + 1 + b.rows.length) cap8)).ownsRow _ _ _ _ _ _ := ownsRow_setCell_below hown8 (show w2.heap.size < w5.heap.size by omega) _
        obtain ⟨w9, hw9⟩ : ∃ w9, w8.setCell ⟨w2.heap.size, 2, none⟩ (.slice (some ⟨g8, 0, none⟩) (a.rows.length + 1 + b.rows.length) cap8) = w9 := ⟨_, rfl⟩
        rw [hw9] at hvv9 hb29 hown9 ⊢
        have hs9 := hb29.size
        have hb9 := hb5.trans (hb29.mono hs2)
        have hbw9 := hbw5.trans (hb29.mono (by omega))
        have hrows9 := Rows2.of_heads hown9 (Nat.le_refl _) (twoR_len a.rows b.rows) (twoR_heads hbw9 hbw9.size xa1 xa3 xb3)
        have Hcap8 := hide (show (twoV a b).rows.length ≤ cap8 by have := own_le hown9; rw [show (twoV a b).rows.length = a.rows.length + 1 + b.rows.length from twoR_len a.rows b.rows]; exact this)
        have Hvv9 := hide hvv9
        have Hrows9 := hide hrows9
        clear hw9 hvv9 hrows9 hown9
        clear z0 z1 z2 z3 z4 z5 t0 t1 t2 t3 t4 t5
        obtain ⟨⟨z0, z1, z2, z3, z4, z5⟩, t0, t1, t2, t3, t4, t5⟩ := HK.out w9 hb9
        have hl9 : w.heap.size + 1 + 1 ≤ w9.heap.size := by omega
        go_wp2_with (first
          | (go_at_call 18; refine (HFb.out _ hbw10).mono ?_; rintro e w11 ⟨vb, rfl, hownB, hb11⟩; obtain ⟨AB, cB, rfl⟩ := own_form hownB; have hlB := findT_len b; obtain ⟨n, hn⟩ : ∃ n, (findT b).length = n := ⟨_, rfl⟩; rw [hn] at hownB hlB ⊢; have Hn := hide hn; clear hn)
          | (go_at_call 18; refine (HFa.out _ hbw9).mono ?_; rintro e w10 ⟨va, rfl, hownA, hb10⟩; have hbw10 := hbw9.trans (hb10.mono (by omega)); obtain ⟨⟨x0, x1, x2, x3, x4, x5⟩, y0, y1, y2, y3, y4, y5⟩ := HK.out w10 (hb9.trans (hb10.mono hl9)))
          | fail)
        have hs10 := hb10.size
        have hs11 := hb11.size
        have hownA1 := own_below hownA hb11 (Nat.le_refl _)
        have hap := own_apart hownA hownB (Nat.le_refl _)
        have hla := findT_len a
        obtain ⟨na, hna⟩ : ∃ na, (findT a).length = na := ⟨_, rfl⟩
        rw [hna] at hownA1 hla
        have Hna := hide hna
        have Hat := hide (findT_at b)
        have hb911 : Below w9.heap.size w9 w11 := hb10.trans (hb11.mono hs10)
        have hal5' : a.rows.length ≤ 5 := by omega
        have hbl5' : b.rows.length ≤ 5 := by omega
        have haB : a.height ≤ 5 := by omega
        have haB0 : 0 ≤ a.height := by have := HaH.out; omega
        clear hna hownA hb10 hb11
        clear x0 x1 x2 x3 x4 x5 y0 y1 y2 y3 y4 y5 z0 z1 z2 z3 z4 z5 t0 t1 t2 t3 t4 t5
        go_loopw [6, 57] (fun o i wr => ∃ k : Nat, k ≤ n ∧ i = .int .i64 k ∧ wr.ownsRow w9.heap.size 26 8 o (na + k) ((findT a ++ ((findT b).take k).map fun r => r.down a.rows.length).flatMap Rg.enc) ∧
          wr.ownsRow w10.heap.size 26 8 (.slice AB n cB) n ((findT b).flatMap Rg.enc) ∧ ((Value.slice AB n cB).ownBlock = none ∨ (Value.slice AB n cB).ownBlock ≠ o.ownBlock) ∧ Below w9.heap.size w9 wr) (fun _ i _ => n - (intOf i).toNat)
        case atStart => exact ⟨0, Nat.zero_le _, rfl, own_eq hownA1 (by omega) (by simp), hownB, hap, hb911⟩
        case round =>
          clear hownA1 hownB hap hb911
          rename World => wo
          obtain ⟨k, hk, rfl, hownO, hownB, hap, hbo⟩ := hrel
          have hso := hbo.size
          obtain ⟨⟨x0, x1, x2, x3, x4, x5⟩, y0, y1, y2, y3, y4, y5⟩ := HK.out wo (hb9.trans (hbo.mono hl9))
          by_cases hlt : k < n
          · obtain ⟨gB, d1, he1, -, hgB⟩ := own_form1 hownB (by omega)
            cases he1
            obtain ⟨x, hx⟩ : ∃ x, (findT b)[k]? = some x := ⟨_, List.getElem?_eq_getElem (by rw [Hn.out]; exact hlt)⟩
            have hf : ∀ j u, (Rg.enc x)[j]? = some u → wo.cell? ⟨gB, k * 8 + j, none⟩ = some u := fun j u hu => by
              have hj : j < 8 := (List.getElem?_eq_some_iff.1 hu).1
              have hfl := flat_get (enc := Rg.enc) (sz := 8) (fun _ => rfl) (findT b) k x j u hx hu
              rw [hownB.cellAt (k * 8 + j) (by omega), hfl]
            have p0 := hf 0 _ rfl
            have p1 := hf 1 _ rfl
            have p2 := hf 2 _ rfl
            have p3 := hf 3 _ rfl
            have p4 := hf 4 _ rfl
            have p5 := hf 5 _ rfl
            have p6 := hf 6 _ rfl
            have p7 := hf 7 _ rfl
            rw [Nat.add_zero] at p0
            obtain ⟨tt, te, ht1, ht2, ht3, ht4⟩ := Hat.out x (List.mem_of_getElem? hx)
            have htl1 : tt ≤ 5 := by omega
            have htl2 : te ≤ 5 := by omega
            have Hsnoc := hide (show (findT b).take (k + 1) = (findT b).take k ++ [x] by rw [List.take_add_one, hx]; rfl)
            obtain ⟨xk, xi, xp, xt, xl, xb, xr, xlb⟩ := x
            dsimp only at p0 p1 p2 p3 p4 p5 p6 p7 ht1 ht2
            subst ht1 ht2
            clear hx hf ht3 ht4
            have hltn : (k : Int) < (n : Int) := by omega
            have hlw : w.heap.size < wo.heap.size := by omega
            have hlwn : w.heap.size ≠ wo.heap.size := by omega
            have hown5 := hownO.alloc (.cells #[.int .i64 xk, .int .i64 xi, .int .i64 xp, .int .i64 ((tt : Int) + (a.height + 1)), .int .i64 xl, .int .i64 ((te : Int) + (a.height + 1)), .int .i64 xr, .string xlb] 26)
            have hownB5 := hownB.alloc (.cells #[.int .i64 xk, .int .i64 xi, .int .i64 xp, .int .i64 ((tt : Int) + (a.height + 1)), .int .i64 xl, .int .i64 ((te : Int) + (a.height + 1)), .int .i64 xr, .string xlb] 26)
            have hb5' := hbo.alloc hbo.size (.cells #[.int .i64 xk, .int .i64 xi, .int .i64 xp, .int .i64 ((tt : Int) + (a.height + 1)), .int .i64 xl, .int .i64 ((te : Int) + (a.height + 1)), .int .i64 xr, .string xlb] 26)
            have hs5 := World.size_alloc wo (.cells #[.int .i64 xk, .int .i64 xi, .int .i64 xp, .int .i64 ((tt : Int) + (a.height + 1)), .int .i64 xl, .int .i64 ((te : Int) + (a.height + 1)), .int .i64 xr, .string xlb] 26)
            obtain ⟨W5, hW5⟩ : ∃ W5, wo.alloc (.cells #[.int .i64 xk, .int .i64 xi, .int .i64 xp, .int .i64 ((tt : Int) + (a.height + 1)), .int .i64 xl, .int .i64 ((te : Int) + (a.height + 1)), .int .i64 xr, .string xlb] 26) = W5 := ⟨_, rfl⟩
            rw [hW5] at hown5 hownB5 hb5' hs5
            have HW5 := hide hW5
            have H5 := hide (And.intro hown5 (And.intro hownB5 hb5'))
            clear hW5 hown5 hownB5 hb5' hownO hownB hbo
            go_wp2_with (first
              | (at_builtin; (try rw [HW5.out]); refine wpList_appL W5 (.tmp 75) (.tmp 77) 33 rfl rfl el_region w9.heap.size _ (na + k) _ (by rfl) H5.out.1 (by omega) _ 1 _ wo.heap.size.succ (by rfl) hs5.symm rfl (by simp [Value.oneCell']) (by omega) ?_; intro g6 cap6 w6 hown6 hg6 hat6)
              | fail)
            obtain ⟨h51, h52, h53⟩ := H5.out
            have hb6 := below_own h53 h51 hg6 (Nat.le_refl _) (by omega)
            have hB6 := h52.kept hg6 hap
            have hap6 : (Value.slice (some ⟨gB, 0, none⟩) n cB).ownBlock = none ∨ (Value.slice (some ⟨gB, 0, none⟩) n cB).ownBlock ≠ (Value.slice (some ⟨g6, 0, none⟩) (na + k + 1) cap6).ownBlock := by
              right
              rcases hat6 with h | h
              · rw [h] at hap
                rcases hap with h' | h'
                · cases h'
                · exact h'
              · show some gB ≠ some g6
                intro he
                cases he
                omega
            have Hlist := hide (show (findT a ++ List.map (fun r => r.down a.rows.length) (List.take k (findT b))).flatMap Rg.enc ++ [Value.int .i64 xk, .int .i64 xi, .int .i64 xp, .int .i64 ((tt : Int) + (a.height + 1)), .int .i64 xl, .int .i64 ((te : Int) + (a.height + 1)), .int .i64 xr, .string xlb] =
                (findT a ++ List.map (fun r => r.down a.rows.length) (List.take (k + 1) (findT b))).flatMap Rg.enc by
              rw [Hsnoc.out, List.map_append, ← List.append_assoc, List.flatMap_append (xs := findT a ++ _)]
              congr 1
              simp [Rg.enc, Rg.down, HaH.out])
            clear p0 p1 p2 p3 p4 p5 p6 p7 x0 x1 x2 x3 x4 x5 y0 y1 y2 y3 y4 y5 hat6 hg6 h51 h52 h53
            go_roundw
            case rel => exact ⟨k + 1, by omega, by go_num, own_eq hown6 (by omega) Hlist.out, hB6, hap6, hb6⟩
            case measure => simp [intOf]; omega
          · obtain rfl : k = n := by omega
            have hbw := hbw9.trans (hbo.mono (by omega))
            obtain ⟨u0, u1, u2, u3, u4, u5⟩ := (Hvv9.out.below hbo (by omega)).cells
            have HF := hide (HFv.out wo hbw (some ⟨g8, 0, none⟩) cap8 ((Hrows9.out.below hbo).more hso) Hcap8.out)
            obtain ⟨L, hL⟩ : ∃ L, findT a ++ (findT b).map (fun r => r.down a.rows.length) = L := ⟨_, rfl⟩
            have hLl : L.length = na + k := by rw [← hL, List.length_append, List.length_map, Hna.out, Hn.out]
            have HO := hide (own_eq hownO (n' := L.length) (xs' := L.flatMap Rg.enc) (by omega) (by rw [List.take_of_length_le (by rw [Hn.out]; omega), hL]))
            rw [hL] at HF
            have HLl := hide hLl
            clear hL hLl hownO hownB hap
            have hl1000 : L.length ≤ 1000 := by have := HLl.out; omega
            go_wp2_with (first
              | (go_at_call 14; refine (same24P w12 _ _ _ _ L hown12 (own_below HO.out hb12 (Nat.le_refl _)) hl1000).mono ?_; rintro e w13 ⟨rfl, hb13⟩; have hb14 := (hbw.trans (hb12.mono hbw.size)).trans (hb13.mono (by have := hbw.size; have := hb12.size; omega)))
              | (go_at_call 18; refine HF.out.mono ?_; rintro e w12 ⟨v12, rfl, hown12, hb12⟩)
              | (go_at_call 11; refine (HA.out _ hb14).mono ?_; rintro e w15 ⟨rfl, hb15⟩)
              | fail)
            go_ret
            exact ⟨rfl, hb14.trans (hb15.mono hb14.size)⟩
end Go.Proofs.YtbbhkibbkecojaaDoor
