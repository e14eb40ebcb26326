/- Chapter 45: narratorref22.Words. -/
import Derived.Test.YtmloijhdibicdaaDoorK16
namespace Go.Proofs.YtmloijhdibicdaaDoor
open Go.RowKit Go.Shelf

theorem spans_get (qs : List (Nat × Nat)) (x : Nat × Nat) : ((qs ++ [x]).flatMap spanV)[qs.length * 2]? = some (.int .i64 x.1) ∧ ((qs ++ [x]).flatMap spanV)[qs.length * 2 + 1]? = some (.int .i64 x.2) := by
  constructor
  · have := flat_get (enc := spanV) (sz := 2) (fun _ => rfl) (qs ++ [x]) qs.length x 0 (.int .i64 x.1) (by simp) rfl
    simpa using this
  · exact flat_get (enc := spanV) (sz := 2) (fun _ => rfl) (qs ++ [x]) qs.length x 1 (.int .i64 x.2) (by simp) rfl
theorem spans_set (qs : List (Nat × Nat)) (a e e' : Nat) : ((qs ++ [(a, e)]).flatMap spanV).set (qs.length * 2 + 1) (.int .i64 e') = (qs ++ [(a, e')]).flatMap spanV := by
  rw [List.flatMap_append, List.flatMap_append, List.set_append, if_neg (by rw [spans_length]; omega), spans_length, show qs.length * 2 + 1 - qs.length * 2 = 1 by omega]
  rfl

set_option maxRecDepth 100000 in
set_option maxHeartbeats 1000000 in
theorem words22P (w : World) (A : Option Addr) (c : Nat) (L : List Gl) (h : GlRow w w.heap.size A L) (hl : L.length ≤ 1000) :
    Calls Tryd.prog 43 #[.slice A L.length c] w fun e w' => ∃ v, e = .returned v ∧ w'.ownsRow w.heap.size 89 2 v (wordsTo (kindAt L) L.length).length ((wordsTo (kindAt L) L.length).flatMap spanV) ∧ Below w.heap.size w w' := by
  obtain ⟨N, hN⟩ : ∃ N, L.length = N := ⟨_, rfl⟩
  have Hgl := hide h
  rw [hN] at hl ⊢
  have HN := hide hN
  obtain ⟨kd, hkd⟩ : ∃ kd, kindAt L = kd := ⟨_, rfl⟩
  have Hkd := hide (fun k (hk : k < L.length) => (show kd k = kindT L[k].text by rw [← hkd]; exact kindAt_get hk))
  rw [hkd]
  clear h hN hkd
  go_enter Tryd.func43, Tryd.ntmps43
  go_wp2
  go_loopw [3, 4] (fun v i wr => ∃ j : Nat, j ≤ N ∧ i = .int .i64 j ∧ wr.ownsRow w.heap.size 89 2 v (wordsTo kd j).length ((wordsTo kd j).flatMap spanV) ∧ Below w.heap.size w wr) (fun _ i _ => N - (intOf i).toNat)
  case atStart => exact ⟨0, Nat.zero_le _, rfl, by simpa [wordsTo] using own_lit w w.heap.size 89 2 0 #[] (Nat.le_refl _) (by omega) rfl, (Below.refl _ _).alloc (Nat.le_refl _) _⟩
  case round =>
    rename World => wo
    obtain ⟨j, hj, rfl, hown, hbo⟩ := hrel
    have hso := hbo.size
    by_cases hlt : j < N
    · have hjl : j < L.length := by rw [HN.out]; exact hlt
      have hjI : (j : Int) < (N : Int) := by omega
      have Hst := hide (show wordsTo kd (j + 1) = wordStep kd (wordsTo kd j) j from rfl)
      have Hglo := hide ((Hgl.out.below (GlAt.stays _) hbo).more hso)
      obtain ⟨bk, off, rfl, hbb, c0, c1, c2⟩ := Hglo.out.get hjl
      have hkj := Hkd.out j hjl
      obtain ⟨⟨t2, w2, s2⟩, h2⟩ : ∃ x, L[j] = x := ⟨_, rfl⟩
      rw [h2] at c0 c1 c2 hkj
      dsimp only at c0 c1 c2 hkj
      have hbk : bk < wo.heap.size := World.block_lt_of_cell? wo ⟨bk, _, none⟩ c0
      have HKj := hide (fun W => kind22P W ⟨t2, w2, s2⟩)
      unfold Gl.val at HKj
      dsimp only at HKj
      rw [← hkj] at HKj
      have Hkj := hide (show kd j = kd j from rfl)
      obtain ⟨K, hK⟩ : ∃ K, kd j = K := ⟨_, rfl⟩
      rw [hK] at HKj
      have HK := hide hK
      clear h2 hkj hK Hkj
      rcases Nat.eq_zero_or_pos K with hz | hz
      · have HZ := hide (HK.out.trans hz)
        have hq : ((K : Int) == 0) = true := by rw [hz]; rfl
        clear hz
        go_wp2_with (go_at_call 76; refine (HKj.out _).mono ?_; rintro e w5 ⟨rfl, hb5⟩)
        go_roundw
        case rel => exact ⟨j + 1, by omega, by go_num, own_eq (own_below hown hb5 (Nat.le_refl _)) (by rw [Hst.out, word_blank HZ.out]) (by rw [Hst.out, word_blank HZ.out]), hbo.trans (hb5.mono hso)⟩
        case measure => simp [intOf]; omega
      · have HZ := hide (show kd j ≠ 0 by rw [HK.out]; omega)
        have hq : ((K : Int) == 0) = false := by rw [beq_eq_false_iff_ne]; omega
        clear hz
        have hpl := (words_bd kd j).1
        have Hlast := hide (fun m (hm : j = m + 1) (hk : kd m = K) => words_last kd m (by rw [hk, ← HK.out]; exact HZ.out))
        rcases (show j = 0 ∨ (∃ m, j = m + 1 ∧ kd m = K) ∨ (∃ m, j = m + 1 ∧ kd m ≠ K) by
          rcases Nat.eq_zero_or_pos j with h0 | h0
          · exact .inl h0
          · by_cases hm : kd (j - 1) = K
            · exact .inr (.inl ⟨j - 1, by omega, hm⟩)
            · exact .inr (.inr ⟨j - 1, by omega, hm⟩)) with h0 | ⟨m, hm, hmk⟩ | ⟨m, hm, hmk⟩
        · have H0 := hide h0
          have hd0 : decide ((0 : Int) < (j : Int)) = false := by rw [h0]; rfl
          have hd1 : decide (0 < j) = false := by rw [h0]; rfl
          obtain ⟨PL, hPL⟩ : ∃ PL, wordsTo kd j = PL := ⟨_, rfl⟩
          rw [hPL] at hown hpl Hst
          obtain ⟨pl, hpl2⟩ : ∃ pl, PL.length = pl := ⟨_, rfl⟩
          have Hpl2 := hide hpl2
          rw [hpl2] at hown hpl
          clear hPL hpl2 h0 Hlast
          obtain ⟨A1, cc1, rfl⟩ := own_form hown
          go_wp2_with (go_at_call 76; refine (HKj.out _).mono ?_; rintro e w5 ⟨rfl, hb5⟩)
          have hown5 := own_below hown hb5 (Nat.le_refl _)
          refine wp_region_held_lit (by kernel_rfl) (by kernel_rfl) ?_
          repeat go_big_quiet_step (fail)
          refine wpQuiet_nil ?_
          intro w6 hb6
          have hb56 := hb5.trans (hb6.mono hb5.size)
          have hown6 := own_below hown hb56 (Nat.le_refl _)
          have hbo6 := hbo.trans (hb56.mono hso)
          go_wp2_with (at_builtin; refine wpList_app _ (.tmp 42) (.tmp 47) 86 rfl rfl el_span w.heap.size _ _ _ rfl hown6 hbo6.size _ 1 1 _ _ rfl (by first | rfl | simp) rfl (by simp [Value.oneCell']) (by omega) ?_; intro v7 w7 hown7 hg7; have hb7 := below_own hbo6 hown6 hg7 (Nat.le_refl _) hbo6.size)
          go_roundw
          case rel => exact ⟨j + 1, by omega, by go_num, own_eq hown7 (by rw [Hst.out, word_new HZ.out (.inl H0.out)]; simp [Hpl2.out]) (by rw [Hst.out, word_new HZ.out (.inl H0.out), List.flatMap_append]; rfl), hb7⟩
          case measure => simp [intOf]; omega
        all_goals
          have hml : m < L.length := by omega
          have hmN : (m : Int) < (N : Int) := by omega
          have hd0 : decide ((0 : Int) < (j : Int)) = true := by rw [decide_eq_true_iff]; omega
          have hd1 : decide (0 < j) = true := by rw [decide_eq_true_iff]; omega
          have hix : (j : Int) - 1 = (m : Int) := by omega
          obtain ⟨bk', off', he, hbb', d0, d1, d2⟩ := Hglo.out.get hml
          cases he
          have hkm := Hkd.out m hml
          obtain ⟨⟨t1, w1, s1⟩, h1⟩ : ∃ x, L[m] = x := ⟨_, rfl⟩
          rw [h1] at d0 d1 d2 hkm
          dsimp only at d0 d1 d2 hkm
          have HKm := hide (fun W => kind22P W ⟨t1, w1, s1⟩)
          unfold Gl.val at HKm
          dsimp only at HKm
          rw [← hkm] at HKm
          have HM := hide hm
          clear h1 hkm
        · rw [hmk] at HKm
          obtain ⟨qs, a, hq1, hq2⟩ := Hlast.out m hm hmk
          have hmk2 := HM.out
          rw [← hmk2] at hq1
          have Hmk := hide (show kd (j - 1) = kd j by rw [show j - 1 = m by omega, hmk, HK.out])
          rw [hq1] at hown hpl Hst
          rw [List.length_append, List.length_singleton] at hown hpl
          obtain ⟨g1, g2⟩ := spans_get qs (a, j)
          have Hset := hide (fun e' => spans_set qs a j e')
          have Hlen := hide (fun x : Nat × Nat => (show (qs ++ [x]).length = qs.length + 1 by simp))
          obtain ⟨n, hn⟩ : ∃ n, qs.length = n := ⟨_, rfl⟩
          rw [hn] at hown hpl g1 g2 Hset Hlen
          have hbeq : ((K : Int) == (K : Int)) = true := by simp
          clear hn hq1 hm hmk hmk2
          obtain ⟨go, co, rfl, hgo, -⟩ := own_form1 hown (by omega)
          go_wp2_with (go_at_call 76; refine (HKj.out _).mono ?_; rintro e w5 ⟨rfl, hb5⟩)
          have hs5 := hb5.size
          obtain ⟨hc5, -⟩ := bcell hb5
          have x0 := Held.cell ((hc5 _ _ hbk).trans c0) (show bk < w5.heap.size by omega)
          have x1 := Held.cell ((hc5 _ _ hbk).trans c1) (show bk < w5.heap.size by omega)
          have x2 := Held.cell ((hc5 _ _ hbk).trans c2) (show bk < w5.heap.size by omega)
          have y0 := Held.cell ((hc5 _ _ hbk).trans d0) (show bk < w5.heap.size by omega)
          have y1 := Held.cell ((hc5 _ _ hbk).trans d1) (show bk < w5.heap.size by omega)
          have y2 := Held.cell ((hc5 _ _ hbk).trans d2) (show bk < w5.heap.size by omega)
          refine wp_region_held_lit (by kernel_rfl) (by kernel_rfl) ?_
          repeat go_big_quiet_step ((go_at_call 76; first | (with_reducible exact held_call _ fun W _ => HKm.out W) | (with_reducible exact held_call _ fun W _ => HKj.out W)))
          refine wpQuiet_nil ?_
          intro w6 hb6
          clear x0 x1 x2 y0 y1 y2 hc5
          have hb56 := hb5.trans (hb6.mono hb5.size)
          have hown6 := own_below hown hb56 (Nat.le_refl _)
          have hbo6 := hbo.trans (hb56.mono hso)
          have q1 := (hown6.cellAt (n * 2 + 1) (by omega)).trans g2
          have f1 := hown6.frozenAt (n * 2 + 1)
          go_wp2
          go_roundw
          case rel =>
            obtain ⟨t1, t2⟩ := hown6.stored (n * 2 + 1) (.int .i64 ((j + 1 : Nat) : Int))
            have hres : wordsTo kd (j + 1) = qs ++ [(a, j + 1)] := by rw [Hst.out, word_on HZ.out (by have := HM.out; omega) Hmk.out]
            exact ⟨j + 1, by omega, by go_num, own_eq t1 (by rw [hres, Hlen.out]) (by rw [Hset.out, hres]), below_own hbo6 hown6 t2 (Nat.le_refl _) hbo6.size⟩
          case measure => simp [intOf]; omega
        · obtain ⟨Km, hKm⟩ : ∃ Km, kd m = Km := ⟨_, rfl⟩
          rw [hKm] at HKm hmk
          have Hmk := hide (show kd (j - 1) ≠ kd j by rw [show j - 1 = m by omega, hKm, HK.out]; exact hmk)
          have hbeq : ((Km : Int) == (K : Int)) = false := by rw [beq_eq_false_iff_ne]; omega
          obtain ⟨PL, hPL⟩ : ∃ PL, wordsTo kd j = PL := ⟨_, rfl⟩
          rw [hPL] at hown hpl Hst
          obtain ⟨pl, hpl2⟩ : ∃ pl, PL.length = pl := ⟨_, rfl⟩
          have Hpl2 := hide hpl2
          rw [hpl2] at hown hpl
          clear hPL hpl2 hKm hm hmk Hlast
          obtain ⟨A1, cc1, rfl⟩ := own_form hown
          go_wp2_with (go_at_call 76; refine (HKj.out _).mono ?_; rintro e w5 ⟨rfl, hb5⟩)
          have hs5 := hb5.size
          obtain ⟨hc5, -⟩ := bcell hb5
          have x0 := Held.cell ((hc5 _ _ hbk).trans c0) (show bk < w5.heap.size by omega)
          have x1 := Held.cell ((hc5 _ _ hbk).trans c1) (show bk < w5.heap.size by omega)
          have x2 := Held.cell ((hc5 _ _ hbk).trans c2) (show bk < w5.heap.size by omega)
          have y0 := Held.cell ((hc5 _ _ hbk).trans d0) (show bk < w5.heap.size by omega)
          have y1 := Held.cell ((hc5 _ _ hbk).trans d1) (show bk < w5.heap.size by omega)
          have y2 := Held.cell ((hc5 _ _ hbk).trans d2) (show bk < w5.heap.size by omega)
          refine wp_region_held_lit (by kernel_rfl) (by kernel_rfl) ?_
          repeat go_big_quiet_step ((go_at_call 76; first | (with_reducible exact held_call _ fun W _ => HKm.out W) | (with_reducible exact held_call _ fun W _ => HKj.out W)))
          refine wpQuiet_nil ?_
          intro w6 hb6
          clear x0 x1 x2 y0 y1 y2 hc5
          have hb56 := hb5.trans (hb6.mono hb5.size)
          have hown6 := own_below hown hb56 (Nat.le_refl _)
          have hbo6 := hbo.trans (hb56.mono hso)
          go_wp2_with (at_builtin; refine wpList_app _ (.tmp 42) (.tmp 47) 86 rfl rfl el_span w.heap.size _ _ _ rfl hown6 hbo6.size _ 1 1 _ _ rfl (by first | rfl | simp) rfl (by simp [Value.oneCell']) (by omega) ?_; intro v7 w7 hown7 hg7; have hb7 := below_own hbo6 hown6 hg7 (Nat.le_refl _) hbo6.size)
          go_roundw
          case rel => exact ⟨j + 1, by omega, by go_num, own_eq hown7 (by rw [Hst.out, word_new HZ.out (.inr Hmk.out)]; simp [Hpl2.out]) (by rw [Hst.out, word_new HZ.out (.inr Hmk.out), List.flatMap_append]; rfl), hb7⟩
          case measure => simp [intOf]; omega
    · obtain rfl : j = N := by omega
      go_wp2
      go_ret
      exact ⟨_, rfl, hown, hbo⟩
end Go.Proofs.YtmloijhdibicdaaDoor
