/- keyinput.Check. -/
import Derived.Test.YtpilpchijmappaaDoorH2
import Derived.Test.YtpilpchijmappaaDoorH4
import Derived.Deep.RegionHeld3
namespace Go.Proofs.YtpilpchijmappaaDoor
open Go.RowKit

theorem keyErr_char {k : Key} (h : k.nm = []) : keyErr k = if charB k then 0 else 1 := by unfold keyErr; rw [if_pos h]
theorem keyErr_no {k : Key} (h : k.nm ≠ []) (h2 : k.nm ∉ keyNames) : keyErr k = 6 := by unfold keyErr; rw [if_neg h, if_pos h2]
theorem keyErr_named {k : Key} (h : k.nm ≠ []) (h2 : k.nm ∈ keyNames) : keyErr k = if decide (k.rune = 0) && modB k.nm k.control k.alt k.shift then 0 else 1 := by
  unfold keyErr; rw [if_neg h, if_neg (by simpa using h2)]
theorem ba_of {s : ByteArray} {l : List UInt8} (h : s.data.toList = l) : s = ⟨l.toArray⟩ := ba_ext (by simpa using h)
theorem str_no {s : ByteArray} {l : List UInt8} (h : s.data.toList ≠ l) : (s.toList == l) = false := by rw [ByteArray.toList_eq]; simpa using h

set_option maxRecDepth 100000 in
set_option maxHeartbeats 1000000 in
theorem checkP (w : World) (k : Key) (hP : Pow w) : Calls Tryd.prog 14 #[k.val] w fun e w' => e = .returned (.int .i64 (keyErr k)) ∧ Below w.heap.size w w' := by
  obtain ⟨W0, hW0, hbox, hs0, hk⟩ := boxK w k
  have HK := hide (fun w1 (hb : Below W0.heap.size W0 w1) => (hk.below hb (by omega)).cells)
  have HC := hide (fun w1 => characterP w1 k)
  have HNm := hide (fun w1 (hb : Below W0.heap.size W0 w1) => namesP w1 (hP.below (hbox.trans (hb.mono (by omega)))))
  obtain ⟨k0, k1, k2, k3, k4⟩ := HK.out W0 (Below.refl _ _)
  have Hbox := hide hbox
  have hrf := Below.refl W0.heap.size W0
  obtain ⟨nm, r, c, a, s⟩ := k
  obtain ⟨E, hE⟩ : ∃ E, keyErr ⟨nm, r, c, a, s⟩ = E := ⟨_, rfl⟩
  have HE := hide hE
  rw [hE]
  clear hbox hk hP hE
  subst hW0
  unfold Key.val at HC ⊢
  dsimp only at HC HK k0 k1 k2 k3 k4 ⊢
  by_cases g0 : nm.data.toList = []
  · obtain rfl := ba_of g0
    have Hd := hide (HE.out.symm.trans (keyErr_char rfl))
    obtain ⟨B, hB⟩ : ∃ B, charB ⟨⟨[].toArray⟩, r, c, a, s⟩ = B := ⟨_, rfl⟩
    rw [hB] at HC Hd
    clear hB HE HNm g0
    cases B
    all_goals
      go_enter Tryd.func14, Tryd.ntmps14
      go_wp2_with (go_at_call 26; refine (HC.out _).mono ?_; rintro e w1 ⟨rfl, hb1⟩)
      go_ret
      exact ⟨ret_int Hd.out.symm, Hbox.out.trans (hb1.mono Hbox.out.size)⟩
  clear HC
  have hrr : r = 0 ∨ ((r == 0) = false ∧ decide (r = 0) = false) := by
    by_cases h : r = 0
    · exact .inl h
    · exact .inr ⟨by simpa using h, by simpa using h⟩
  have g1 : (∃ n, nm.data.toList = n ∧ ((n = nTab ∧ modB n c a s = (!c && !(s && a))) ∨ ((n = nEnter ∨ n = nEscape ∨ n = nBack) ∧ modB n c a s = (!c && !s)))) ∨ (nm.data.toList ≠ nTab ∧ nm.data.toList ≠ nEnter ∧ nm.data.toList ≠ nEscape ∧ nm.data.toList ≠ nBack) := by
    by_cases h1 : nm.data.toList = nTab
    · exact .inl ⟨_, h1, .inl ⟨rfl, rfl⟩⟩
    by_cases h2 : nm.data.toList = nEnter
    · exact .inl ⟨_, h2, .inr ⟨.inl rfl, rfl⟩⟩
    by_cases h3 : nm.data.toList = nEscape
    · exact .inl ⟨_, h3, .inr ⟨.inr (.inl rfl), rfl⟩⟩
    by_cases h4 : nm.data.toList = nBack
    · exact .inl ⟨_, h4, .inr ⟨.inr (.inr rfl), rfl⟩⟩
    exact .inr ⟨h1, h2, h3, h4⟩
  rcases g1 with ⟨n, hn, ⟨rfl, hm⟩ | ⟨rfl | rfl | rfl, hm⟩⟩ | ⟨g1, g2, g3, g4⟩
  iterate 4
    · obtain rfl := ba_of hn
      have Hd := HE.out.symm.trans (keyErr_named g0 (by dsimp only [Key.nm]; decide))
      dsimp only [Key.nm] at Hd
      rw [hm] at Hd
      clear HE HNm g0 hm hn
      rcases hrr with rfl | ⟨hr0, hr1⟩
      · cases c <;> cases a <;> cases s
        all_goals
          have HD := hide Hd
          clear Hd
          go_enter Tryd.func14, Tryd.ntmps14
          go_wp2
          go_ret
          exact ⟨ret_int HD.out.symm, Hbox.out⟩
      · rw [hr1] at Hd
        have HD := hide Hd
        clear Hd hr1
        go_enter Tryd.func14, Tryd.ntmps14
        go_wp2
        go_ret
        exact ⟨ret_int HD.out.symm, Hbox.out⟩
  · have t0 := str_no g0
    have t1 := str_no g1
    have t2 := str_no g2
    have t3 := str_no g3
    have t4 := str_no g4
    have Hno := hide (fun (h : nm.data.toList ∉ keyNames) => HE.out.symm.trans (keyErr_no g0 h))
    have Hyes := hide (fun (h : nm.data.toList ∈ keyNames) => (show E = if decide (r = 0) && true then 0 else 1 from (HE.out.symm.trans (keyErr_named g0 h)).trans (by dsimp only [Key.nm]; unfold modB; rw [if_neg g1, if_neg (show ¬ (nm.data.toList = nEnter ∨ nm.data.toList = nEscape ∨ nm.data.toList = nBack) by simp [g2, g3, g4])])))
    unfold nTab at t1
    unfold nEnter at t2
    unfold nEscape at t3
    unfold nBack at t4
    have HS := hide (fun W2 hb => (HK.out W2 hb).1)
    clear g0 g1 g2 g3 g4 HE
    by_cases hin : nm.data.toList ∈ keyNames
    · have Hd := Hyes.out hin
      have HCo := hide (fun W base g c hown => (show Calls Tryd.prog 27 #[.slice (some ⟨g, 0, none⟩) 26 c, .string nm] W fun e w' => e = .returned (.bool true) ∧ W = w' from by have := containsS W base g c hown nm; rw [decide_eq_true hin] at this; exact this))
      clear Hno Hyes hin
      rcases hrr with rfl | ⟨hr0, hr1⟩
      · have HD := hide Hd
        clear Hd
        go_enter Tryd.func14, Tryd.ntmps14
        go_wp2
        have hbd := hrf.drew
        go_region_held3 (fun W2 => W2.cell? ⟨w.heap.size, 0, none⟩ = some (.string nm))
          (first | exact HS.out _ hb3 | exact HS.out _ hb2 | exact HS.out _ hbd)
          (first
            | (go_at_call 16; refine (HNm.out _ hbd).mono ?_; rintro e w2 ⟨g, cc, rfl, hown2, hbF⟩; have hb2 := hbd.trans (hbF.mono hbd.size))
            | (go_at_call 27; refine (HCo.out w2 _ g cc hown2).mono ?_; rintro e w3 ⟨rfl, rfl⟩; have hb3 := hb2)
            | fail)
        all_goals
          go_wp2
          go_ret
          exact ⟨ret_int HD.out.symm, Hbox.out.trans (hb3.mono Hbox.out.size)⟩
      · rw [hr1] at Hd
        have HD := hide Hd
        clear Hd hr1
        go_enter Tryd.func14, Tryd.ntmps14
        go_wp2
        have hbd := hrf.drew
        go_region_held3 (fun W2 => W2.cell? ⟨w.heap.size, 0, none⟩ = some (.string nm))
          (first | exact HS.out _ hb3 | exact HS.out _ hb2 | exact HS.out _ hbd)
          (first
            | (go_at_call 16; refine (HNm.out _ hbd).mono ?_; rintro e w2 ⟨g, cc, rfl, hown2, hbF⟩; have hb2 := hbd.trans (hbF.mono hbd.size))
            | (go_at_call 27; refine (HCo.out w2 _ g cc hown2).mono ?_; rintro e w3 ⟨rfl, rfl⟩; have hb3 := hb2)
            | fail)
        all_goals
          go_wp2
          go_ret
          exact ⟨ret_int HD.out.symm, Hbox.out.trans (hb3.mono Hbox.out.size)⟩
    · have Hd := hide (Hno.out hin)
      have HCo := hide (fun W base g c hown => (show Calls Tryd.prog 27 #[.slice (some ⟨g, 0, none⟩) 26 c, .string nm] W fun e w' => e = .returned (.bool false) ∧ W = w' from by have := containsS W base g c hown nm; rw [decide_eq_false hin] at this; exact this))
      clear Hno Hyes hin
      rcases hrr with rfl | ⟨hr0, hr1⟩
      all_goals
        go_enter Tryd.func14, Tryd.ntmps14
        go_wp2
        have hbd := hrf.drew
        go_region_held3 (fun W2 => W2.cell? ⟨w.heap.size, 0, none⟩ = some (.string nm))
          (first | exact HS.out _ hb3 | exact HS.out _ hb2 | exact HS.out _ hbd)
          (first
            | (go_at_call 16; refine (HNm.out _ hbd).mono ?_; rintro e w2 ⟨g, cc, rfl, hown2, hbF⟩; have hb2 := hbd.trans (hbF.mono hbd.size))
            | (go_at_call 27; refine (HCo.out w2 _ g cc hown2).mono ?_; rintro e w3 ⟨rfl, rfl⟩; have hb3 := hb2)
            | fail)
        all_goals
          go_wp2
          go_ret
          exact ⟨ret_int Hd.out.symm, Hbox.out.trans (hb3.mono Hbox.out.size)⟩
end Go.Proofs.YtpilpchijmappaaDoor
