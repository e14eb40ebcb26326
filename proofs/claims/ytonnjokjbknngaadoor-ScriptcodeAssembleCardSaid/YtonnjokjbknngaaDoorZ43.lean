/- The walk of the law ScriptcodeAssemble. -/
import Derived.Test.YtonnjokjbknngaaDoorZ12
import Derived.Test.YtonnjokjbknngaaDoorZ42
namespace Go.Proofs.YtonnjokjbknngaaDoor
open Go.RowKit Go.Lib Go.Shelf

theorem jumpsF_len' (labs : List (BS × Nat)) : ∀ (l : List Ins) (i : Nat) (ls : List Int) (ts : List BS), (jumpsF labs i l ls ts).2.2.length ≤ l.length
  | [], _, _, _ => by simp [jumpsF]
  | x :: l, i, ls, ts => by
    have ih := jumpsF_len' labs l (i + 1) ls.tail ts.tail
    unfold jumpsF
    dsimp only
    split
    · split
      · simp
      · split
        · simp
        · simp; exact ih
    · simp; exact ih
theorem lineF_len' {no : Int} {ws : List BS} {st : St} (h : st.code.length ≤ 500) (h0 : (lineF no ws st).1 = 0) : (lineF no ws st).2.code.length ≤ 500 := by
  have hadd : ∀ (x : Ins) (t : BS), (st.add no x t).1 = 0 → (st.add no x t).2.code.length ≤ 500 := fun x t h0 => by
    unfold St.add at h0 ⊢
    by_cases h5 : st.code.length = 500
    · rw [if_pos h5] at h0; simp at h0
    · rw [if_neg h5]; simp; omega
  match ws with
  | [] => exact h
  | w :: r =>
    unfold lineF at h0 ⊢
    dsimp only at h0 ⊢
    by_cases c1 : w.head? = some 35
    · rw [if_pos c1]; exact h
    rw [if_neg c1] at h0 ⊢
    by_cases c2 : r = [] ∧ w.getLast? = some 58
    · rw [if_pos c2] at h0 ⊢
      by_cases c3 : labB w.dropLast = false
      · rw [if_pos c3] at h0; simp at h0
      rw [if_neg c3] at h0 ⊢
      by_cases c4 : (findL w.dropLast st.labs).isSome
      · rw [if_pos c4] at h0; simp at h0
      rw [if_neg c4]
      exact h
    rw [if_neg c2] at h0 ⊢
    by_cases c5 : opOf w = -1
    · rw [if_pos c5] at h0; simp at h0
    rw [if_neg c5] at h0 ⊢
    by_cases c6 : opOf w = 1
    · rw [if_pos c6] at h0 ⊢
      match r with
      | [] => simp at h0
      | _ :: _ :: _ => simp at h0
      | [a] =>
        dsimp only at h0 ⊢
        cases hn : numOf 1000000000 a with
        | none => rw [hn] at h0; simp at h0
        | some n =>
          rw [hn] at h0
          dsimp only at h0 ⊢
          by_cases c7 : n < -999999999 ∨ 999999999 < n
          · rw [if_pos c7] at h0; simp at h0
          rw [if_neg c7] at h0 ⊢
          exact hadd _ _ h0
    rw [if_neg c6] at h0 ⊢
    by_cases c8 : opOf w = 17 ∨ opOf w = 18
    · rw [if_pos c8] at h0 ⊢
      match r with
      | [] => simp at h0
      | _ :: _ :: _ => simp at h0
      | [a] =>
        dsimp only at h0 ⊢
        by_cases c9 : labB a = true
        · rw [if_pos c9] at h0 ⊢
          exact hadd _ _ h0
        · rw [if_neg c9] at h0; simp at h0
    rw [if_neg c8] at h0 ⊢
    by_cases c10 : r = []
    · rw [if_pos c10] at h0 ⊢
      exact hadd _ _ h0
    · rw [if_neg c10] at h0; simp at h0
theorem linesF_len' : ∀ (r : List (List BS)) (k : Nat) (st : St), st.code.length ≤ 500 → (linesF k r st).1 = 0 → (linesF k r st).2.2.code.length ≤ 500
  | [], _, _, h, _ => h
  | ws :: r, k, st, h, h0 => by
    rw [linesF_cons] at h0 ⊢
    by_cases he : (lineF ((k : Int) + 1) ws st).1 = 0
    · rw [if_pos he] at h0 ⊢
      exact linesF_len' r _ _ (lineF_len' h he) h0
    · rw [if_neg he] at h0
      exact absurd h0 he
theorem asm_short' (src : BS) : (asmF src).2.2.length ≤ 500 := by
  obtain ⟨e, no, st, h⟩ : ∃ e no st, linesF 0 ((linesB src).map wordsB) St.zero = (e, no, st) := ⟨_, _, _, rfl⟩
  by_cases he : e = 0
  · subst he
    have hl := linesF_len' ((linesB src).map wordsB) 0 St.zero (by simp [St.zero]) (by rw [h])
    rw [h] at hl
    rw [asm_ok (no := no) h]
    split
    · exact Nat.le_trans (jumpsF_len' _ _ _ _ _) hl
    · simp
  · rw [asm_err h he]; simp

set_option maxRecDepth 100000 in
set_option maxHeartbeats 1000000 in
theorem assembleLawP (w : World) (s : ByteArray) (hm : Mx w) : Calls Tryd.prog 3 #[.string s] w fun e w' => e = .returned (.bool true) ∧ Below w.heap.size w w' := by
  have HA := hide (fun (W : World) (hb : Below w.heap.size w W) => awakeP W (hm.below hb))
  have hrf := Below.refl w.heap.size w
  by_cases hz : 1000 < s.size
  · have hzI : (1000 : Int) < (s.size : Int) := by omega
    have HA0 := hide (HA.out w hrf)
    clear HA hm hz
    go_enter Tryd.func3, Tryd.ntmps3
    go_wp2_with (go_at_call 11; refine HA0.out.mono ?_; rintro e w1 ⟨rfl, hb1⟩)
    go_ret
    exact ⟨rfl, hb1⟩
  have hz2 : s.size ≤ 1000 := by omega
  have hD := asmP w s (by omega) hm
  have hR := fun W => assembleR W s hz2
  have hls := asm_short' s.data.toList
  obtain ⟨E, M, l, hEl⟩ : ∃ E M l, asmF s.data.toList = (E, M, l) := ⟨_, _, _, rfl⟩
  unfold AsmRet at hD hR
  rw [hEl] at hD hls
  simp only [hEl] at hR
  dsimp only at hD hls
  obtain ⟨n, hn⟩ : ∃ n, l.length = n := ⟨_, rfl⟩
  have HS := hide (fun (W : World) (A A' : Option Addr) (c c' : Nat) (h : InsRow W W.heap.size A l) (h' : InsRow W W.heap.size A' l) => sameP W A A' c c' l (by omega) h h')
  rw [hn] at HS
  have HD := hide hD
  have HR := hide hR
  have Hn := hide hn
  clear hm hz hD hR hEl hn hls
  go_enter Tryd.func3, Tryd.ntmps3
  go_wp2_with (first
    | (go_at_call 12; (with_reducible refine HD.out.mono ?_); rintro e w1 ⟨v, rfl, hown, hb1⟩; obtain ⟨A1, c1, rfl, -, hr1⟩ := InsRow.of_own hown; rw [Hn.out]; have Hr1 := hide hr1; have Hb1 := hide hb1; clear hown hr1 hb1)
    | (go_at_call 13; (with_reducible refine (HR.out w1).mono ?_); rintro e w2 ⟨v2, rfl, hown2, hb2⟩; obtain ⟨A2, c2, rfl, -, hr2⟩ := InsRow.of_own hown2; rw [Hn.out]; have Hr2 := hide hr2; have Hb2 := hide hb2; clear hown2 hr2 hb2)
    | (go_at_call 14; (with_reducible refine (HS.out w2 A1 A2 c1 c2 ((Hr1.out.below (InsAt.stays _) Hb2.out).more Hb2.out.size) Hr2.out).mono ?_); rintro e w3 ⟨rfl, hb3⟩; have Hb3 := hide ((Hb1.out.trans (Hb2.out.mono Hb1.out.size)).trans (hb3.mono (Nat.le_trans Hb1.out.size Hb2.out.size))); clear hb3)
    | (go_at_call 11; refine (HA.out _ Hb3.out).mono ?_; rintro e w4 ⟨rfl, hb4⟩)
    | fail)
  go_ret
  exact ⟨rfl, Hb3.out.trans (hb4.mono Hb3.out.size)⟩
end Go.Proofs.YtonnjokjbknngaaDoor
