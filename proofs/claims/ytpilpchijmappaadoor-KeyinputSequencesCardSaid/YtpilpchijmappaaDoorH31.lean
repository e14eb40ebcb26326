/- The walk of the law KeyinputSequences. -/
import Derived.Test.YtpilpchijmappaaDoorH30
namespace Go.Proofs.YtpilpchijmappaaDoor
open Go.RowKit

/-- The encodings one behind the other. -/
def catE (app nl : Bool) (l : List Key) : List UInt8 := l.flatMap (keyEnc app nl)
theorem catE_snoc {app nl : Bool} {l : List Key} {j : Nat} (hj : j < l.length) : catE app nl (l.take (j + 1)) = catE app nl (l.take j) ++ keyEnc app nl l[j] := by
  unfold catE; rw [List.take_succ_eq_append_getElem hj, List.flatMap_append]; simp
theorem catE_drop {app nl : Bool} {l : List Key} {j : Nat} (hj : j < l.length) : catE app nl (l.drop j) = keyEnc app nl l[j] ++ catE app nl (l.drop (j + 1)) := by
  unfold catE; rw [List.drop_eq_getElem_cons hj]; rfl
theorem catE_len {app nl : Bool} {l : List Key} (h : ∀ k ∈ l, keyErr k = 0) : (catE app nl l).length ≤ 7 * l.length := by
  unfold catE
  induction l with
  | nil => simp
  | cons k l ih =>
    have h1 := key_len (app := app) (nl := nl) (h k (by simp))
    have h2 := ih fun k hk => h k (by simp [hk])
    simp only [List.flatMap_cons, List.length_append, List.length_cons]; omega
theorem encT_list {app nl : Bool} {k : Key} (h : keyErr k = 0) : (encT app nl k).data.toList = keyEnc app nl k := by unfold encT; rw [if_pos h]
/-- Decode at encodings one behind the other. -/
theorem decode_seq (w : World) (s : ByteArray) (t : List UInt8) (k : Key) (m : Md) (hP : Pow w) (hT : Tabs w) (h : keyErr k = 0) (hh : ¬ headKey k) (hs : s.data.toList = keyEnc m.app m.nl k ++ t) (hsz : s.size ≤ 1000) :
    Calls Tryd.prog 17 #[.string s, m.val] w fun e w' => e = .returned (.tuple #[k.val, .int .i64 ((keyEnc m.app m.nl k).length : Int), .int .i64 0]) ∧ Below w.heap.size w w' := by
  refine (decodeKP w s m hP hT hsz).mono ?_
  rintro e w' ⟨he, hb⟩
  refine ⟨?_, hb⟩
  unfold DecRet decErr at he
  have hp := List.length_pos_iff.2 (key_nonempty (app := m.app) (nl := m.nl) h)
  rw [hs, dec_seq h hh t] at he
  rw [he, if_pos hp]
theorem extract_drop (s : ByteArray) (n : Nat) : (s.extract n s.size).data.toList = s.data.toList.drop n := by
  rw [ByteArray.data_extract, Array.toList_extract]
  show (s.data.toList.drop n).take (s.size - n) = _
  have : s.data.toList.length = s.size := rfl
  exact List.take_of_length_le (by rw [List.length_drop]; omega)
theorem head_no {k : Key} (h1 : k.nm ≠ nEscape) (h2 : k.alt = false ∨ (k.rune ≠ 91 ∧ k.rune ≠ 79)) : ¬ headKey k := by
  rintro (h | ⟨-, h3, h4⟩)
  · exact h1 h
  · rcases h2 with h2 | ⟨h2, h5⟩
    · rw [h2] at h3; cases h3
    · rcases h4 with h4 | h4
      · exact h2 h4
      · exact h5 h4

def SeqOK (l : List Key) (j : Nat) : Prop := ∀ k ∈ l.take j, keyErr k = 0 ∧ ¬ headKey k
theorem SeqOK.succ {l : List Key} {j : Nat} (h : SeqOK l j) (hj : j < l.length) (h1 : keyErr l[j] = 0) (h2 : ¬ headKey l[j]) : SeqOK l (j + 1) := by
  intro k hk
  rw [List.take_succ_eq_append_getElem hj, List.mem_append] at hk
  rcases hk with hk | hk
  · exact h k hk
  · rw [List.mem_singleton] at hk; subst hk; exact ⟨h1, h2⟩
def SeqS (app nl : Bool) (l : List Key) (j : Nat) (v : Value) : Prop := ∃ S : ByteArray, v = .string S ∧ S.data.toList = catE app nl (l.take j) ∧ S.size ≤ 7 * j
def SeqR (app nl : Bool) (l : List Key) (j : Nat) (v : Value) : Prop := ∃ S : ByteArray, v = .string S ∧ S.data.toList = catE app nl (l.drop j) ∧ S.size ≤ 140

set_option maxRecDepth 100000 in
set_option maxHeartbeats 2000000 in
theorem sequencesLawP (w : World) (A : Option Addr) (cp : Nat) (l : List Key) (m : Md) (hP : Pow w) (hT : Tabs w) (hl : Sl KeyAt 5 w w.heap.size A l) : Calls Tryd.prog 10 #[.slice A l.length cp, m.val] w fun e w' => e = .returned (.bool true) ∧ Below w.heap.size w w' := by
  have hrf := Below.refl w.heap.size w
  have HA := hide (fun w1 (hb : Below w.heap.size w w1) => awakeP w1 (hP.below hb))
  have HE := hide (fun w1 k (hb : Below w.heap.size w w1) => encodeP w1 k m (hP.below hb))
  have HD := hide (fun w1 s t k (hb : Below w.heap.size w w1) h1 h2 h3 h4 => decode_seq w1 s t k m (hP.below hb) (hT.below hb) h1 h2 h3 h4)
  have HL := hide (fun w1 (hb : Below w.heap.size w w1) => hl.below (KeyAt.stays _) hb)
  have HM := hide (fun w1 (hb : Below (w.heap.size + 1) (w.alloc (.cells #[.bool m.ins, .bool m.nl, .bool m.app, .bool m.org, .bool m.wrap, .bool m.vis, .bool m.alt, .bool m.con, .int .u8 m.s0, .int .u8 m.s1, .int .i64 m.sh] 26)) w1) => (show MdBox w1 w.heap.size m from MdBox.below (block_new w _) hb (by omega)))
  have Hb0 := hide (hrf.alloc (Nat.le_refl _) (.cells #[.bool m.ins, .bool m.nl, .bool m.app, .bool m.org, .bool m.wrap, .bool m.vis, .bool m.alt, .bool m.con, .int .u8 m.s0, .int .u8 m.s1, .int .i64 m.sh] 26))
  obtain ⟨ins, nl, app, org, wrp, vis, alt, con, s0, s1, sh⟩ := m
  clear hP hT hl
  unfold Md.val at HE HD ⊢
  dsimp only at HE HD HM Hb0 ⊢
  by_cases hlen : l.length ≤ 20
  case neg =>
    have hlI : (20 : Int) < (l.length : Int) := by omega
    clear hlen
    go_enter Tryd.func10, Tryd.ntmps10
    go_wp2_with (go_at_call 11; refine (HA.out _ Hb0.out).mono ?_; rintro e w5 ⟨rfl, hb5⟩)
    go_ret
    exact ⟨rfl, Hb0.out.trans (hb5.mono Hb0.out.size)⟩
  have hlI : ¬ (20 : Int) < (l.length : Int) := by omega
  obtain ⟨N, hN⟩ : ∃ n, l.length = n := ⟨_, rfl⟩
  have HN := hide hN
  rw [hN] at hlI hlen ⊢
  clear hN
  go_enter Tryd.func10, Tryd.ntmps10
  go_wp2
  go_loopw [5, 21] (fun v i wr => ∃ j : Nat, j ≤ N ∧ i = .int .i64 j ∧ SeqS app nl l j v ∧ SeqOK l j ∧ Below (w.heap.size + 1) (w.alloc (.cells #[.bool ins, .bool nl, .bool app, .bool org, .bool wrp, .bool vis, .bool alt, .bool con, .int .u8 s0, .int .u8 s1, .int .i64 sh] 26)) wr) (fun _ i _ => N - (intOf i).toNat)
  case atStart => exact ⟨0, Nat.zero_le _, rfl, ⟨⟨#[]⟩, rfl, rfl, by decide⟩, fun k hk => (by simp at hk), Below.refl _ _⟩
  case round =>
    obtain ⟨j, hj, rfl, ⟨S, rfl, hS, hSz⟩, hok, hbr⟩ := hrel
    have hbw := Hb0.out.trans (hbr.mono (by omega))
    have Hok := hide hok
    have HS := hide hS
    clear hok hS
    by_cases hlt : j < N
    · have hltI : (j : Int) < N := by omega
      have hjl : j < l.length := by rw [HN.out]; exact hlt
      obtain ⟨b, off, rfl, hbb, k0, k1, k2, k3, k4⟩ := (HL.out wr hbw).get hjl
      have Hcat := hide (catE_snoc (app := app) (nl := nl) hjl)
      have Hsucc := hide (fun h1 h2 => Hok.out.succ hjl h1 h2)
      obtain ⟨K, hK⟩ : ∃ K, l[j]'hjl = K := ⟨_, rfl⟩
      rw [hK] at k0 k1 k2 k3 k4 Hcat Hsucc
      have Hhd := hide (fun h1 h2 => head_no (k := K) h1 h2)
      have HEk := hide (fun W hb => HE.out W K hb)
      have HEl := hide (fun h => encT_list (app := app) (nl := nl) (k := K) h)
      have HTs := encT_size (app := app) (nl := nl) (k := K)
      obtain ⟨E, hE⟩ : ∃ E, keyErr K = E := ⟨_, rfl⟩
      obtain ⟨T, hT⟩ : ∃ T, encT app nl K = T := ⟨_, rfl⟩
      rw [hE, hT] at HEk
      rw [hT] at HTs
      rw [hE, hT] at HEl
      rw [hE] at Hsucc
      have HNK := hide (fun W => keyBox_new W K)
      obtain ⟨m0, m1, m2, m3, m4, m5, m6, m7, m8, m9, m10⟩ := (HM.out (wr.alloc (.cells #[.string K.name, .int .i32 K.rune, .bool K.control, .bool K.alt, .bool K.shift] 23)) (hbr.alloc (Nat.le_trans (by simp) hbr.size) _)).cells
      have Hba := hide (hbw.alloc hbw.size (.cells #[.string K.name, .int .i32 K.rune, .bool K.control, .bool K.alt, .bool K.shift] 23))
      have Hbar := hide (hbr.alloc (Nat.le_trans (by simp) hbr.size) (.cells #[.string K.name, .int .i32 K.rune, .bool K.control, .bool K.alt, .bool K.shift] 23))
      obtain ⟨nm, r, c, a, sh'⟩ := K
      unfold Key.val at HEk
      dsimp only [Key.nm] at HEk HNK m0 m1 m2 m3 m4 m5 m6 m7 m8 m9 m10 k0 k1 k2 k3 k4 Hba Hbar Hhd
      clear hK hE hT
      by_cases h1 : E = 0
      · subst h1
        by_cases h2 : nm.data.toList = nEscape
        · have t1 : (nm.toList == [69, 115, 99, 97, 112, 101]) = true := by rw [ByteArray.toList_eq, h2]; rfl
          clear h2
          go_wp2_with (first
            | (go_at_call 12; with_reducible refine (HEk.out _ Hba.out).mono ?_; rintro e w7 ⟨rfl, hb7⟩; have hb7' := Hba.out.trans (hb7.mono Hba.out.size); obtain ⟨x0, x1, x2, x3, x4⟩ := ((HNK.out wr).below hb7 (by simp)).cells)
            | (go_at_call 11; refine (HA.out _ hb7').mono ?_; rintro e w8 ⟨rfl, hb8⟩)
            | fail)
          go_ret
          exact ⟨rfl, hb7'.trans (hb8.mono hb7'.size)⟩
        · have t1 : (nm.toList == [69, 115, 99, 97, 112, 101]) = false := by rw [ByteArray.toList_eq]; simpa [nEscape] using h2
          have hcase : (a = true ∧ (r == 91) = true) ∨ (a = true ∧ (r == 91) = false ∧ (r == 79) = true) ∨ (a = false ∧ (a = false ∨ (r ≠ 91 ∧ r ≠ 79))) ∨ (a = true ∧ (r == 91) = false ∧ (r == 79) = false ∧ (a = false ∨ (r ≠ 91 ∧ r ≠ 79))) := by
            by_cases q1 : r = 91 <;> by_cases q2 : r = 79 <;> cases a <;> simp [q1, q2]
          rcases hcase with ⟨rfl, q1⟩ | ⟨rfl, q1, q2⟩ | ⟨ha, hq⟩ | ⟨ha, q1, q2, hq⟩
          iterate 2
            · clear h2
              go_wp2_with (first
                | (go_at_call 12; with_reducible refine (HEk.out _ Hba.out).mono ?_; rintro e w7 ⟨rfl, hb7⟩; have hb7' := Hba.out.trans (hb7.mono Hba.out.size); obtain ⟨x0, x1, x2, x3, x4⟩ := ((HNK.out wr).below hb7 (by simp)).cells)
                | (go_at_call 11; refine (HA.out _ hb7').mono ?_; rintro e w8 ⟨rfl, hb8⟩)
                | fail)
              go_ret
              exact ⟨rfl, hb7'.trans (hb8.mono hb7'.size)⟩
          all_goals
            have HO := hide (Hsucc.out rfl (Hhd.out h2 hq))
            have hTl := hide (HEl.out rfl)
            have hcat : S.size + T.size ≤ 9223372036854775807 := by omega
            subst ha
            clear h2 hq
            go_wp2_with (first
              | (go_at_call 12; with_reducible refine (HEk.out _ Hba.out).mono ?_; rintro e w7 ⟨rfl, hb7⟩; have hb7' := Hbar.out.trans (hb7.mono (Nat.le_trans (by simp) Hbar.out.size)); obtain ⟨x0, x1, x2, x3, x4⟩ := ((HNK.out wr).below hb7 (by simp)).cells)
              | fail)
            go_roundw
            case rel => exact ⟨j + 1, by omega, by go_num, ⟨_, rfl, by rw [Hcat.out, ← HS.out, ← hTl.out]; simp, by simp; omega⟩, HO.out, hb7'⟩
            case measure => simp [intOf]; omega
      · have hne : (E != 0) = true := by simpa using h1
        clear h1
        go_wp2_with (first
          | (go_at_call 12; with_reducible refine (HEk.out _ Hba.out).mono ?_; rintro e w7 ⟨rfl, hb7⟩; have hb7' := Hba.out.trans (hb7.mono Hba.out.size))
          | (go_at_call 11; refine (HA.out _ hb7').mono ?_; rintro e w8 ⟨rfl, hb8⟩)
          | fail)
        go_ret
        exact ⟨rfl, hb7'.trans (hb8.mono hb7'.size)⟩
    · obtain rfl : j = N := by omega
      have hall : ∀ k ∈ l, keyErr k = 0 ∧ ¬ headKey k := fun k hk => Hok.out k (by rw [List.take_of_length_le (by rw [HN.out]; omega)]; exact hk)
      have hS140 : S.size ≤ 140 := by omega
      have HS0 := hide (show S.data.toList = catE app nl (l.drop 0) by rw [HS.out, List.drop_zero, List.take_of_length_le (by rw [HN.out]; omega)])
      have Hall := hide hall
      have Hbr := hide hbr
      clear hall Hok HS HE hbr hbw
      rename World => wo
      go_wp2
      go_loopw [5, 59] (fun v i wr => ∃ k : Nat, k ≤ j ∧ i = .int .i64 k ∧ SeqR app nl l k v ∧ Below (w.heap.size + 1) (w.alloc (.cells #[.bool ins, .bool nl, .bool app, .bool org, .bool wrp, .bool vis, .bool alt, .bool con, .int .u8 s0, .int .u8 s1, .int .i64 sh] 26)) wr) (fun _ i _ => j - (intOf i).toNat)
      case atStart => exact ⟨0, Nat.zero_le _, rfl, ⟨S, rfl, HS0.out, hS140⟩, Hbr.out⟩
      case round =>
        obtain ⟨k, hk, rfl, ⟨R, rfl, hR, hRz⟩, hbr⟩ := hrel
        have hbw := Hb0.out.trans (hbr.mono (by omega))
        have HR := hide hR
        clear hR
        by_cases hlt : k < j
        · have hltI : (k : Int) < j := by omega
          have hkl : k < l.length := by rw [HN.out]; exact hlt
          obtain ⟨b, off, rfl, hbb, k0, k1, k2, k3, k4⟩ := (HL.out wr hbw).get hkl
          have hcat := catE_drop (app := app) (nl := nl) hkl
          have hv := Hall.out _ (List.getElem_mem hkl)
          obtain ⟨K, hK⟩ : ∃ K, l[k]'hkl = K := ⟨_, rfl⟩
          rw [hK] at k0 k1 k2 k3 k4 hcat hv
          have hRK := HR.out.trans hcat
          have HDk := hide (fun W hb => HD.out W R (catE app nl (l.drop (k + 1))) K hb hv.1 hv.2 hRK (by omega))
          have hn1 : 1 ≤ (keyEnc app nl K).length := List.length_pos_iff.2 (key_nonempty (app := app) (nl := nl) hv.1)
          have hRl : R.size = (keyEnc app nl K).length + (catE app nl (l.drop (k + 1))).length := by rw [← List.length_append, ← hRK]; rfl
          have hnext : (R.extract (keyEnc app nl K).length R.size).data.toList = catE app nl (l.drop (k + 1)) := by rw [extract_drop, hRK, List.drop_left']; rfl
          obtain ⟨n1, hN1⟩ : ∃ n, (keyEnc app nl K).length = n := ⟨_, rfl⟩
          obtain ⟨n2, hN2⟩ : ∃ n, (catE app nl (l.drop (k + 1))).length = n := ⟨_, rfl⟩
          rw [hN1] at HDk hn1 hnext
          rw [hN1, hN2] at hRl
          have hle : n1 ≤ R.size := by omega
          have q1 : ¬ (n1 : Int) < 1 := by omega
          have q2 : ¬ (R.size : Int) < (n1 : Int) := by omega
          have HX := hide hnext
          have HNK := hide (fun W => keyBox_new W K)
          obtain ⟨m0, m1, m2, m3, m4, m5, m6, m7, m8, m9, m10⟩ := (HM.out (wr.alloc (.cells #[.string K.name, .int .i32 K.rune, .bool K.control, .bool K.alt, .bool K.shift] 23)) (hbr.alloc (Nat.le_trans (by simp) hbr.size) _)).cells
          have Hba := hide (hbw.alloc hbw.size (.cells #[.string K.name, .int .i32 K.rune, .bool K.control, .bool K.alt, .bool K.shift] 23))
          have Hbar := hide (hbr.alloc (Nat.le_trans (by simp) hbr.size) (.cells #[.string K.name, .int .i32 K.rune, .bool K.control, .bool K.alt, .bool K.shift] 23))
          obtain ⟨nm, r, c, a, sh'⟩ := K
          unfold Key.val at HDk
          dsimp only at HDk HNK m0 m1 m2 m3 m4 m5 m6 m7 m8 m9 m10 k0 k1 k2 k3 k4 Hba Hbar
          clear hK hcat hv hRK hN1 hN2 hRl hnext
          go_wp2_with (first
            | (go_at_call 17; with_reducible refine (HDk.out _ Hba.out).mono ?_; rintro e w7 ⟨rfl, hb7⟩; have hb7' := (Hbar.out.trans (hb7.mono (Nat.le_trans (by simp) Hbar.out.size))); have hb8 := hb7'.alloc (Nat.le_trans (by simp) hb7'.size) (.cells #[.string nm, .int .i32 r, .bool c, .bool a, .bool sh'] 23); obtain ⟨x0, x1, x2, x3, x4⟩ := (((HNK.out wr).below hb7 (by simp)).alloc (.cells #[.string nm, .int .i32 r, .bool c, .bool a, .bool sh'] 23)).cells; obtain ⟨y0, y1, y2, y3, y4⟩ := (HNK.out w7).cells)
            | fail)
          go_roundw
          case rel => exact ⟨k + 1, by omega, by go_num, ⟨_, rfl, HX.out, by simp [ByteArray.size_extract]; omega⟩, hb8⟩
          case measure => simp [intOf]; omega
        · obtain rfl : k = j := by omega
          obtain rfl : R = ⟨#[]⟩ := ba_ext (by rw [HR.out, List.drop_of_length_le (by rw [HN.out]; omega)]; rfl)
          clear HR
          go_wp2_with (go_at_call 11; refine (HA.out _ hbw).mono ?_; rintro e w8 ⟨rfl, hb8⟩)
          go_ret
          exact ⟨rfl, hbw.trans (hb8.mono hbw.size)⟩
end Go.Proofs.YtpilpchijmappaaDoor
