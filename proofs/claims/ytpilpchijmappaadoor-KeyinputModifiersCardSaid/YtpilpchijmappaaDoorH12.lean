/- keyinput.Encode. -/
import Derived.Test.YtpilpchijmappaaDoorH10
import Derived.Test.YtpilpchijmappaaDoorH11
namespace Go.Proofs.YtpilpchijmappaaDoor
open Go.RowKit

def encT (app nl : Bool) (k : Key) : ByteArray := if keyErr k = 0 then ⟨(keyEnc app nl k).toArray⟩ else ⟨#[]⟩
theorem name_kinds : ∀ n ∈ keyNames, n = nTab ∨ n = nEnter ∨ n = nEscape ∨ n = nBack ∨ (lookL n letterTab).isSome = true ∨ (lookL n tildeTab).isSome = true := by decide
theorem keyErr_ok_name {k : Key} (h : keyErr k = 0) (h0 : k.nm ≠ []) : k.nm ∈ keyNames := by
  by_cases h1 : k.nm ∈ keyNames
  · exact h1
  · rw [keyErr_no h0 h1] at h; omega
theorem keyEnc_name {app nl : Bool} {k : Key} (h : k.nm ≠ []) : keyEnc app nl k = encName app nl k.nm k.control k.alt k.shift := by unfold keyEnc; rw [if_neg h]
theorem keyEnc_char {app nl : Bool} {k : Key} (h : k.nm = []) : keyEnc app nl k = (if k.alt then [27] else []) ++ encChar k.rune k.control := by unfold keyEnc; rw [if_pos h]
theorem encChar_pos (k : Key) : 1 ≤ (encChar k.rune k.control).length ∧ (encChar k.rune k.control).length ≤ 4 := by
  unfold encChar
  split
  · simp
  · have h1 := (Lib.encodeRuneZ_length k.rune)
    unfold Lib.encodeRune
    rw [List.length_map]
    exact h1
theorem bare_none {nl : Bool} {k : Key} (h0 : k.nm ≠ []) (h1 : k.nm ≠ nTab) (h2 : k.nm ≠ nEnter) (h3 : k.nm ≠ nEscape) (h4 : k.nm ≠ nBack) : bareS nl k = [] := by
  unfold bareS; rw [if_neg h0, if_neg h1, if_neg h2, if_neg h3, if_neg h4]

set_option maxRecDepth 100000 in
set_option maxHeartbeats 2000000 in
theorem encodeP (w : World) (k : Key) (m : Md) (hP : Pow w) : Calls Tryd.prog 12 #[k.val, m.val] w fun e w' => e = .returned (.tuple #[.string (encT m.app m.nl k), .int .i64 (keyErr k)]) ∧ Below w.heap.size w w' := by
  obtain ⟨W0, hW0, hbox, hs0, hk, hm⟩ := boxKM w k m
  have HK := hide (fun w1 (hb : Below W0.heap.size W0 w1) => And.intro (hk.below hb (by omega)).cells (hm.below hb (by omega)).cells)
  have HC := hide (fun w1 (hb : Below W0.heap.size W0 w1) => checkP w1 k (hP.below (hbox.trans (hb.mono (by omega)))))
  have HB := hide (fun w1 (hok : keyErr k = 0) => bareP w1 k m hok)
  have HN := hide (fun w1 (hb : Below W0.heap.size W0 w1) h => namedP w1 k m (hP.below (hbox.trans (hb.mono (by omega)))) h)
  obtain ⟨⟨k0, k1, k2, k3, k4⟩, m0, m1, m2, m3, m4, m5, m6, m7, m8, m9, m10⟩ := HK.out W0 (Below.refl _ _)
  have Hbox := hide hbox
  have hrf := Below.refl W0.heap.size W0
  have Hs0 := hide hs0
  obtain ⟨E, hE⟩ : ∃ E, keyErr k = E := ⟨_, rfl⟩
  have HE := hide hE
  rw [hE] at HC ⊢
  by_cases hok : E = 0
  · subst hok
    have hok2 := hE
    have HB2 := hide (fun w1 => HB.out w1 hok2)
    have HT := hide (show encT m.app m.nl k = ⟨(keyEnc m.app m.nl k).toArray⟩ by unfold encT; rw [if_pos hok2])
    obtain ⟨T, hT⟩ : ∃ T, encT m.app m.nl k = T := ⟨_, rfl⟩
    rw [hT] at HT ⊢
    clear hbox hk hm hP hs0 hE HB hT
    by_cases g0 : k.nm = []
    · have hz := encChar_pos k
      have HT2 := HT.out
      rw [keyEnc_char g0] at HT2
      rw [show bareS m.nl k = encChar k.rune k.control by unfold bareS; rw [if_pos g0]] at HB2
      obtain ⟨C, hC⟩ : ∃ C, encChar k.rune k.control = C := ⟨_, rfl⟩
      rw [hC] at HT2 HB2 hz
      obtain ⟨S, hS⟩ : ∃ S : ByteArray, (⟨C.toArray⟩ : ByteArray) = S := ⟨_, rfl⟩
      have hS2 : C = S.data.toList := by rw [← hS]
      have hSz : S.size ≤ 4 := by rw [← hS]; simpa [ByteArray.size] using hz.2
      have hS0 : (S.toList == []) = false := by
        rw [ByteArray.toList_eq, ← hS2]
        cases C with
        | nil => simp at hz
        | cons x l => rfl
      rw [hS] at HB2
      rw [hS2] at HT2
      have HTT := hide HT2
      clear hz HT2 hC hS hS2 HT HN
      obtain ⟨nm, r, c, a, s⟩ := k
      obtain ⟨ins, nl, app, org, wrp, vis, alt, con, s0, s1, sh⟩ := m
      obtain rfl := ba_of g0
      subst hW0
      unfold Key.val at HC HB2 ⊢
      unfold Md.val at HB2 ⊢
      dsimp only [Key.nm] at *
      have hcat : (⟨#[27]⟩ : ByteArray).size + S.size ≤ 9223372036854775807 := by have : (⟨#[27]⟩ : ByteArray).size = 1 := rfl; omega
      have hcat1 : 1 + S.size ≤ 9223372036854775807 := by omega
      clear g0 hok2 HE
      cases a
      all_goals
        go_enter Tryd.func12, Tryd.ntmps12
        go_wp2_with (first
          | (go_at_call 14; refine (HC.out _ hrf).mono ?_; rintro e w1 ⟨rfl, hb1⟩; obtain ⟨⟨x0, x1, x2, x3, x4⟩, y0, y1, y2, y3, y4, y5, y6, y7, y8, y9, y10⟩ := HK.out w1 hb1)
          | (go_at_call 19; refine (HB2.out _).mono ?_; rintro e w2 ⟨rfl, hb2'⟩; have hb2 := hb1.trans (hb2'.mono hb1.size); obtain ⟨⟨z0, z1, z2, z3, z4⟩, v0, v1, v2, v3, v4, v5, v6, v7, v8, v9, v10⟩ := HK.out w2 hb2)
          | fail)
        go_ret2
        exact ⟨congrArg (fun x => Ending.returned (.tuple #[Value.string x, .int .i64 0])) (by rw [HTT.out]; exact ba_ext (by simp)), Hbox.out.trans (hb2.mono Hbox.out.size)⟩
    · have hin := keyErr_ok_name hok2 g0
      have HT2 := HT.out
      rw [keyEnc_name g0] at HT2
      by_cases hsp : k.nm = nTab ∨ k.nm = nEnter ∨ k.nm = nEscape ∨ k.nm = nBack
      · have HTT := hide HT2
        clear HT2 HT HN HE hin g0 hok2
        obtain ⟨nm, r, c, a, s⟩ := k
        obtain ⟨ins, nl, app, org, wrp, vis, alt, con, s0, s1, sh⟩ := m
        dsimp only [Key.nm] at hsp
        rcases hsp with hn | hn | hn | hn
        all_goals
          obtain rfl := ba_of hn
        · rw [show bareS nl ⟨⟨nTab.toArray⟩, r, c, a, s⟩ = [9] from rfl] at HB2
          subst hW0
          unfold Key.val at HC HB2 ⊢
          unfold Md.val at HB2 ⊢
          dsimp only at *
          clear hn
          rcases (show s = true ∨ (s = false ∧ a = true) ∨ (s = false ∧ a = false) by cases s <;> cases a <;> simp) with rfl | ⟨rfl, rfl⟩ | ⟨rfl, rfl⟩
          all_goals
            go_enter Tryd.func12, Tryd.ntmps12
            go_wp2_with (first
              | (go_at_call 14; refine (HC.out _ hrf).mono ?_; rintro e w1 ⟨rfl, hb1⟩; obtain ⟨⟨x0, x1, x2, x3, x4⟩, y0, y1, y2, y3, y4, y5, y6, y7, y8, y9, y10⟩ := HK.out w1 hb1)
              | (go_at_call 19; refine (HB2.out _).mono ?_; rintro e w2 ⟨rfl, hb2'⟩; have hb2 := hb1.trans (hb2'.mono hb1.size); obtain ⟨⟨z0, z1, z2, z3, z4⟩, v0, v1, v2, v3, v4, v5, v6, v7, v8, v9, v10⟩ := HK.out w2 hb2)
              | fail)
            go_ret2
            exact ⟨congrArg (fun x => Ending.returned (.tuple #[Value.string x, .int .i64 0])) (by rw [HTT.out]; exact ba_ext rfl), Hbox.out.trans (hb2.mono Hbox.out.size)⟩
        · subst hW0
          cases nl
          all_goals
            first
              | rw [show bareS false ⟨⟨nEnter.toArray⟩, r, c, a, s⟩ = [13] from rfl] at HB2
              | rw [show bareS true ⟨⟨nEnter.toArray⟩, r, c, a, s⟩ = [13, 10] from rfl] at HB2
            unfold Key.val at HC HB2 ⊢
            unfold Md.val at HB2 ⊢
            dsimp only at *
            clear hn
            cases a
            all_goals
              go_enter Tryd.func12, Tryd.ntmps12
              go_wp2_with (first
                | (go_at_call 14; refine (HC.out _ hrf).mono ?_; rintro e w1 ⟨rfl, hb1⟩; obtain ⟨⟨x0, x1, x2, x3, x4⟩, y0, y1, y2, y3, y4, y5, y6, y7, y8, y9, y10⟩ := HK.out w1 hb1)
                | (go_at_call 19; refine (HB2.out _).mono ?_; rintro e w2 ⟨rfl, hb2'⟩; have hb2 := hb1.trans (hb2'.mono hb1.size); obtain ⟨⟨z0, z1, z2, z3, z4⟩, v0, v1, v2, v3, v4, v5, v6, v7, v8, v9, v10⟩ := HK.out w2 hb2)
                | fail)
              go_ret2
              exact ⟨congrArg (fun x => Ending.returned (.tuple #[Value.string x, .int .i64 0])) (by rw [HTT.out]; exact ba_ext rfl), Hbox.out.trans (hb2.mono Hbox.out.size)⟩
        all_goals
          subst hW0
          first
            | rw [show bareS nl ⟨⟨nEscape.toArray⟩, r, c, a, s⟩ = [27] from rfl] at HB2
            | rw [show bareS nl ⟨⟨nBack.toArray⟩, r, c, a, s⟩ = [127] from rfl] at HB2
          unfold Key.val at HC HB2 ⊢
          unfold Md.val at HB2 ⊢
          dsimp only at *
          clear hn
          cases a
          all_goals
            go_enter Tryd.func12, Tryd.ntmps12
            go_wp2_with (first
              | (go_at_call 14; refine (HC.out _ hrf).mono ?_; rintro e w1 ⟨rfl, hb1⟩; obtain ⟨⟨x0, x1, x2, x3, x4⟩, y0, y1, y2, y3, y4, y5, y6, y7, y8, y9, y10⟩ := HK.out w1 hb1)
              | (go_at_call 19; refine (HB2.out _).mono ?_; rintro e w2 ⟨rfl, hb2'⟩; have hb2 := hb1.trans (hb2'.mono hb1.size); obtain ⟨⟨z0, z1, z2, z3, z4⟩, v0, v1, v2, v3, v4, v5, v6, v7, v8, v9, v10⟩ := HK.out w2 hb2)
              | fail)
            go_ret2
            exact ⟨congrArg (fun x => Ending.returned (.tuple #[Value.string x, .int .i64 0])) (by rw [HTT.out]; exact ba_ext rfl), Hbox.out.trans (hb2.mono Hbox.out.size)⟩
      · have hsome : (lookL k.nm letterTab).isSome = true ∨ (lookL k.nm tildeTab).isSome = true := by
          rcases name_kinds _ hin with h | h | h | h | h | h
          · exact absurd (.inl h) hsp
          · exact absurd (.inr (.inl h)) hsp
          · exact absurd (.inr (.inr (.inl h))) hsp
          · exact absurd (.inr (.inr (.inr h))) hsp
          · exact .inl h
          · exact .inr h
        rw [bare_none g0 (fun h => hsp (.inl h)) (fun h => hsp (.inr (.inl h))) (fun h => hsp (.inr (.inr (.inl h)))) (fun h => hsp (.inr (.inr (.inr h))))] at HB2
        have HN2 := hide (fun w1 hb => HN.out w1 hb hsome)
        rw [← HT2] at HN2
        clear HT2 HT HN HE hin g0 hok2 hsp hsome
        obtain ⟨nm, r, c, a, s⟩ := k
        obtain ⟨ins, nl, app, org, wrp, vis, alt, con, s0, s1, sh⟩ := m
        subst hW0
        unfold Key.val at HC HB2 HN2 ⊢
        unfold Md.val at HB2 HN2 ⊢
        dsimp only at *
        go_enter Tryd.func12, Tryd.ntmps12
        go_wp2_with (first
          | (go_at_call 14; refine (HC.out _ hrf).mono ?_; rintro e w1 ⟨rfl, hb1⟩; obtain ⟨⟨x0, x1, x2, x3, x4⟩, y0, y1, y2, y3, y4, y5, y6, y7, y8, y9, y10⟩ := HK.out w1 hb1)
          | (go_at_call 19; refine (HB2.out _).mono ?_; rintro e w2 ⟨rfl, hb2'⟩; have hb2 := hb1.trans (hb2'.mono hb1.size); obtain ⟨⟨z0, z1, z2, z3, z4⟩, v0, v1, v2, v3, v4, v5, v6, v7, v8, v9, v10⟩ := HK.out w2 hb2)
          | (go_at_call 20; refine (HN2.out _ hb2).mono ?_; rintro e w3 ⟨rfl, hb3'⟩; have hb3 := hb2.trans (hb3'.mono hb2.size))
          | fail)
        go_ret2
        exact ⟨rfl, Hbox.out.trans (hb3.mono Hbox.out.size)⟩
  · have HT := hide (show encT m.app m.nl k = ⟨#[]⟩ by unfold encT; rw [if_neg (by rw [hE]; exact hok)])
    have hne : (E != 0) = true := by simpa using hok
    obtain ⟨T, hT⟩ : ∃ T, encT m.app m.nl k = T := ⟨_, rfl⟩
    rw [hT] at HT ⊢
    obtain rfl := HT.out
    clear hbox hk hm hP hs0 hE HB HN hT hok HE HT
    subst hW0
    unfold Key.val at HC ⊢
    unfold Md.val
    go_enter Tryd.func12, Tryd.ntmps12
    go_wp2_with (go_at_call 14; refine (HC.out _ hrf).mono ?_; rintro e w1 ⟨rfl, hb1⟩)
    go_ret2
    exact ⟨rfl, Hbox.out.trans (hb1.mono Hbox.out.size)⟩
end Go.Proofs.YtpilpchijmappaaDoor
