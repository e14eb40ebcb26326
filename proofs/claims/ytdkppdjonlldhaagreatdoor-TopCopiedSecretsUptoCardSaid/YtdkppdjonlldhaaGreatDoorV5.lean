/- narratorref01.Decode: a chunk's characters. -/
import Derived.Test.YtdkppdjonlldhaaGreatDoorV4
import Derived.Deep.QuietTactic
import Derived.BigQuiet
namespace Go.Proofs.YtdkppdjonlldhaaGreatDoor
open Go.RowKit

/-- What the loop comes to from the bytes that are left, the kept bytes and the characters so far. -/
def decFrom : List UInt8 → List UInt8 → List Int → List Int × List UInt8
  | [], kept, out => (out, kept)
  | b :: rest, [], out => if b.toNat < 0x80 then decFrom rest [] (out ++ [(b.toNat : Int)]) else if 0 < limSize b.toNat then decFrom rest [b] out else decFrom rest [] (out ++ [0xFFFD])
  | b :: rest, k0 :: ks, out =>
    if b.toNat < limLow (ks.length + 1) k0.toNat ∨ limHigh (ks.length + 1) k0.toNat < b.toNat then
      if b.toNat < 0x80 then decFrom rest [] ((out ++ [0xFFFD]) ++ [(b.toNat : Int)]) else if 0 < limSize b.toNat then decFrom rest [b] (out ++ [0xFFFD]) else decFrom rest [] ((out ++ [0xFFFD]) ++ [0xFFFD])
    else if ks.length + 2 = limSize k0.toNat then decFrom rest [] (out ++ [valueL (k0 :: ks ++ [b])]) else decFrom rest (k0 :: ks ++ [b]) out

theorem decFrom_low {b : UInt8} {rest : List UInt8} {out : List Int} (h : b.toNat < 0x80) : decFrom (b :: rest) [] out = decFrom rest [] (out ++ [(b.toNat : Int)]) := by rw [decFrom, if_pos h]
theorem decFrom_lead {b : UInt8} {rest : List UInt8} {out : List Int} (h : ¬ b.toNat < 0x80) (h2 : 0 < limSize b.toNat) : decFrom (b :: rest) [] out = decFrom rest [b] out := by rw [decFrom, if_neg h, if_pos h2]
theorem decFrom_junk {b : UInt8} {rest : List UInt8} {out : List Int} (h : ¬ b.toNat < 0x80) (h2 : ¬ 0 < limSize b.toNat) : decFrom (b :: rest) [] out = decFrom rest [] (out ++ [0xFFFD]) := by rw [decFrom, if_neg h, if_neg h2]
theorem decFrom_bad {b k0 : UInt8} {ks rest : List UInt8} {out : List Int} (h : b.toNat < limLow (ks.length + 1) k0.toNat ∨ limHigh (ks.length + 1) k0.toNat < b.toNat) : decFrom (b :: rest) (k0 :: ks) out = decFrom (b :: rest) [] (out ++ [0xFFFD]) := by
  simp only [decFrom]; rw [if_pos h]
theorem decFrom_full {b k0 : UInt8} {ks rest : List UInt8} {out : List Int} (h : ¬ (b.toNat < limLow (ks.length + 1) k0.toNat ∨ limHigh (ks.length + 1) k0.toNat < b.toNat)) (h2 : ks.length + 2 = limSize k0.toNat) :
    decFrom (b :: rest) (k0 :: ks) out = decFrom rest [] (out ++ [valueL (k0 :: (ks ++ [b]))]) := by rw [decFrom, if_neg h, if_pos h2]; rfl
theorem decFrom_more {b k0 : UInt8} {ks rest : List UInt8} {out : List Int} (h : ¬ (b.toNat < limLow (ks.length + 1) k0.toNat ∨ limHigh (ks.length + 1) k0.toNat < b.toNat)) (h2 : ¬ ks.length + 2 = limSize k0.toNat) :
    decFrom (b :: rest) (k0 :: ks) out = decFrom rest (k0 :: (ks ++ [b])) out := by rw [decFrom, if_neg h, if_neg h2]; rfl

theorem limSize_le (b : Nat) : limSize b ≤ 4 := by unfold limSize; repeat' split
                                                   all_goals omega
theorem limLow_lt (n b : Nat) : limLow n b < 256 := by unfold limLow; repeat' split
                                                       all_goals omega
theorem limHigh_lt (n b : Nat) : limHigh n b < 256 := by unfold limHigh; repeat' split
                                                         all_goals omega
def KeptOK (kept : List UInt8) : Prop := ∀ k0 ks, kept = k0 :: ks → ks.length + 1 < limSize k0.toNat
theorem keptOK_one {b : UInt8} (h : 0 < limSize b.toNat) : KeptOK [b] := fun k0 ks e => by
  cases e
  revert h
  unfold limSize
  simp only [List.length_nil, Nat.zero_add]
  repeat' split
  all_goals omega
theorem drop_cons (l : List UInt8) (k : Nat) (hk : k < l.length) : l.drop k = l[k] :: l.drop (k + 1) := List.drop_eq_getElem_cons hk

theorem value01' (w : World) (A : Option Addr) (c n : Nat) (x : UInt8) (l : List UInt8) (hn : n = l.length + 1) (h : ByRow w w.heap.size A (x :: l)) (h2 : 1 ≤ l.length) (h4 : l.length ≤ 3) :
    Calls Tryz.prog 97 #[.slice A n c] w fun e w' => e = .returned (.int .i32 (valueL (x :: l))) ∧ w = w' := by
  subst hn; exact value01 w A c x l h h2 h4

def DecPost (s : List UInt8) (w : World) (e : Ending) (w' : World) : Prop :=
  ∃ A c, e = .returned (.tuple #[.slice A (decFrom s [] []).1.length c, .string ⟨(decFrom s [] []).2.toArray⟩]) ∧ RnRow w' w'.heap.size A (decFrom s [] []).1 ∧ Below w.heap.size w w'

theorem decPost_mk {s kept : List UInt8} {out : List Int} {w w' : World} {A : Option Addr} {c : Nat} (h : decFrom s [] [] = (out, kept)) (hs : RnRow w' w'.heap.size A out) (hb : Below w.heap.size w w') :
    DecPost s w (.returned (.tuple #[.slice A out.length c, .string ⟨kept.toArray⟩])) w' := ⟨A, c, by rw [h], by rw [h]; exact hs, hb⟩

set_option maxRecDepth 100000 in
set_option maxHeartbeats 1000000 in
theorem decode01 (w : World) (p q : ByteArray) (hl : p.size + q.size ≤ 8000000) :
    Calls Tryz.prog 65 #[.string p, .string q] w (DecPost (p ++ q).data.toList w) := by
  obtain ⟨s, hs⟩ : ∃ s, p ++ q = s := ⟨_, rfl⟩
  have hsz : s.size ≤ 8000000 := by rw [← hs]; simp; omega
  have HS := hide hs
  rw [hs]
  obtain ⟨l, hsl⟩ : ∃ l, s.data.toList = l := ⟨_, rfl⟩
  have hll : l.length = s.size := by rw [← hsl]; rfl
  obtain ⟨ANS, hANS⟩ : ∃ ANS, decFrom l [] [] = ANS := ⟨_, rfl⟩
  have HSL := hide hsl
  have HLL := hide hll
  have HA := hide hANS
  clear hsl hll hANS
  have mk0 : KeptOK [] := fun _ _ h => by cases h
  go_enter Tryz.func65, Tryz.ntmps65
  go_wp2
  clear hs
  go_loopw [7, 8, 9] (fun vo vk i wr => ∃ (k : Nat) (kept : List UInt8) (out : List Int), k ≤ s.size ∧ i = .int .i64 k ∧ wr.ownsRow w.heap.size 21 1 vo out.length (out.map (Value.int .i32)) ∧ wr.ownsRow w.heap.size 5 1 vk kept.length (kept.map byteV) ∧ Below w.heap.size w wr ∧ KeptOK kept ∧ decFrom (l.drop k) kept out = ANS ∧ out.length + kept.length ≤ k)
    (fun _ vk i _ => 2 * (s.size - (intOf i).toNat) + min 1 (lenOf vk))
  case atStart =>
    refine ⟨0, [], [], Nat.zero_le _, rfl, ?_, ?_, ((Below.refl _ _).alloc (Nat.le_refl _) _).alloc (by simp) _, mk0, HA.out, by simp⟩
    · exact (own_lit w w.heap.size 21 1 0 #[] (Nat.le_refl _) (by omega) rfl).alloc _
    · simpa using own_lit (w.alloc (.cells #[] 21)) w.heap.size 5 1 0 #[] (by simp) (by omega) rfl
  case round =>
    obtain ⟨k, kept, out, hk, rfl, hown, hownk, hbel, hkok, hdec, hlen⟩ := hrel
    have HD := hide hdec
    have HK := hide hkok
    have hbase := hbel.size
    have hout : out.length ≤ 8000000 := by omega
    have hkl : kept.length ≤ 8000000 := by omega
    clear hdec hkok
    by_cases hlt : k < s.size
    · have hlt' : k < l.length := by rw [HLL.out]; exact hlt
      have hb := s[k].toNat_lt
      have hsk : l[k] = s[k] := by simp only [← HSL.out]; rfl
      obtain ⟨b, hbb⟩ : ∃ b, s[k] = b := ⟨_, rfl⟩
      have HDD := drop_cons l k hlt'
      rw [hsk, hbb] at HDD
      have HDD := hide HDD
      have HBB := hide hbb
      cases kept with
      | nil =>
        clear hsk
        have hb' : b.toNat < 256 := b.toNat_lt
        simp only [hbb] at hb
        obtain ⟨Ak, ck, rfl, _, _⟩ := Sl.of_own1 hownk
        go_wp2_with (first
          | (go_at_call 96; refine (limits01 _ _ _ _ _ b.toNat (by omega) (by omega) (by omega) (cell_block (block_new _ _) 0)).mono ?_; rintro e w1 ⟨rfl, rfl⟩)
          | (at_builtin; refine wpList_app _ (.tmp 47) (.tmp 50) 83 rfl rfl el_rune w.heap.size _ _ _ rfl (hown.alloc _) (by simp; omega) _ 1 1 _ _ rfl (by first | rfl | simp) rfl (by simp [Value.oneCell']) (by omega) ?_; intro v1 w1 hown1 hg1)
          | (at_builtin; refine wpList_app _ (.tmp 55) (.tmp 57) 73 rfl rfl el_byte w.heap.size _ _ _ rfl (hownk.alloc _) (by simp; omega) _ 1 1 _ _ rfl (by first | rfl | simp) rfl (by simp [Value.oneCell']) (by omega) ?_; intro v1 w1 hown1 hg1)
          | (at_builtin; refine wpList_app _ (.tmp 41) (.tmp 42) 83 rfl rfl el_rune w.heap.size _ _ _ rfl (hown.alloc _) (by simp; omega) _ 1 1 _ _ rfl (by first | rfl | simp) rfl (by simp [Value.oneCell']) (by omega) ?_; intro v1 w1 hown1 hg1))
        · have h1 : b.toNat < 128 := by omega
          go_roundw
          case rel => exact ⟨k + 1, [], out ++ [(b.toNat : Int)], by omega, by go_num, own_eq hown1 (by simp) (by simp), own_other (hownk.alloc _) (hown.alloc _) (by decide) hg1, below_own (hbel.alloc hbase _) (hown.alloc _) hg1 (Nat.le_refl _) (by simp; omega), mk0, by rw [← decFrom_low h1, ← HDD.out]; exact HD.out, by simp at hlen ⊢; omega⟩
          case measure => simp [intOf, lenOf]; omega
        · have h1 : ¬ b.toNat < 128 := by omega
          have h2 : 0 < limSize b.toNat := by assumption
          go_roundw
          case rel => exact ⟨k + 1, [b], out, by omega, by go_num, own_other (hown.alloc _) (hownk.alloc _) (by decide) hg1, own_eq hown1 (by simp) (by simp [byteV]), below_own (hbel.alloc hbase _) (hownk.alloc _) hg1 (Nat.le_refl _) (by simp; omega), keptOK_one h2, by rw [← decFrom_lead h1 h2, ← HDD.out]; exact HD.out, by simp at hlen ⊢; omega⟩
          case measure => simp [intOf, lenOf]; omega
        · have h1 : ¬ b.toNat < 128 := by omega
          have h2 : ¬ 0 < limSize b.toNat := by omega
          go_roundw
          case rel => exact ⟨k + 1, [], out ++ [0xFFFD], by omega, by go_num, own_eq hown1 (by simp) (by simp), own_other (hownk.alloc _) (hown.alloc _) (by decide) hg1, below_own (hbel.alloc hbase _) (hown.alloc _) hg1 (Nat.le_refl _) (by simp; omega), mk0, by rw [← decFrom_junk h1 h2, ← HDD.out]; exact HD.out, by simp at hlen ⊢; omega⟩
          case measure => simp [intOf, lenOf]; omega
      | cons k0 ks =>
        clear hsk
        obtain ⟨Ak, ck, rfl, hck, hsk⟩ := Sl.of_own1 hownk
        obtain ⟨g, off, rfl, hg, hc0⟩ := hsk.get1 (k := 0) (by simp)
        simp only [One, byteV, Nat.add_zero, List.getElem_cons_zero] at hc0
        have hownk : wr.ownsRow w.heap.size 5 1 (.slice (some ⟨g, off, none⟩) (ks.length + 1) ck) (ks.length + 1) (byteV k0 :: ks.map byteV) := hownk
        simp only [List.length_cons] at hkl
        have hb' : b.toNat < 256 := b.toNat_lt
        have hk0 : k0.toNat < 256 := k0.toNat_lt
        simp only [hbb] at hb
        have hks : ks.length + 1 < limSize k0.toNat := HK.out k0 ks rfl
        have h4 := limSize_le k0.toNat
        by_cases hbad : b.toNat < limLow (ks.length + 1) k0.toNat ∨ limHigh (ks.length + 1) k0.toNat < b.toNat
        · have HE := hide (decFrom_bad (rest := l.drop (k + 1)) (out := out) hbad)
          rcases hbad with hbad | hbad
          all_goals
            go_wp2_with (first
              | (go_at_call 96; refine (limits01 _ g off (ks.length + 1) ck k0.toNat (by omega) (by omega) (by omega) hc0).mono ?_; rintro e w1 ⟨rfl, rfl⟩)
              | (at_builtin; refine wpList_app _ (.tmp 73) (.tmp 74) 83 rfl rfl el_rune w.heap.size _ _ _ rfl hown hbase _ 1 1 _ _ rfl (by first | rfl | simp) rfl (by simp [Value.oneCell']) (by omega) ?_; intro v1 w1 hown1 hg1))
            all_goals
              have hb1 := below_own hbel hown hg1 (Nat.le_refl _) hbase
              go_roundw
              case rel => exact ⟨k, [], out ++ [0xFFFD], by omega, rfl, (own_eq hown1 (by simp) (by simp)).alloc _, by simpa using own_lit w1 w.heap.size 5 1 0 #[] hb1.size (by omega) rfl, hb1.alloc hb1.size _, mk0, by rw [HDD.out, ← HE.out, ← HDD.out]; exact HD.out, by simp at hlen ⊢; omega⟩
              case measure => simp [intOf, lenOf]
        · have hg1 : limLow (ks.length + 1) k0.toNat ≤ b.toNat := by omega
          have hg2 : b.toNat ≤ limHigh (ks.length + 1) k0.toNat := by omega
          by_cases hfull : ks.length + 2 = limSize k0.toNat
          · have HE := hide (decFrom_full (rest := l.drop (k + 1)) (out := out) hbad hfull)
            clear hbad
            have HF := hide hfull
            have hq : ((ks.length : Int) + 1 + 1 == (limSize k0.toNat : Int)) = true := by simp; omega
            clear hfull
            go_wp2_with (first
              | (go_at_call 96; refine (limits01 _ g off (ks.length + 1) ck k0.toNat (by omega) (by omega) (by omega) hc0).mono ?_; rintro e w1 ⟨rfl, rfl⟩)
              | (at_builtin; refine wpList_app _ (.tmp 79) (.tmp 81) 73 rfl rfl el_byte w.heap.size _ _ _ rfl hownk hbase _ 1 1 _ _ rfl (by first | rfl | simp) rfl (by simp [Value.oneCell']) (by omega) ?_; intro v2 w2 hown2 hgr2; obtain ⟨A2, c2, rfl, hc2, hs2⟩ := Sl.of_own1 (f := byteV) (l := k0 :: (ks ++ [b])) (own_eq hown2 (by simp) (by simp [byteV])); have hb2 := below_own hbel hownk hgr2 (Nat.le_refl _) hbase; have hbase2 := hb2.size; have hownb := own_other hown hownk (by decide) hgr2)
              | (go_at_call 97; refine (value01' _ A2 c2 _ k0 (ks ++ [b]) (by simp) hs2 (by simp) (by simp; omega)).mono ?_; rintro e w3 ⟨rfl, rfl⟩)
              | (at_builtin; refine wpList_app _ (.tmp 87) (.tmp 90) 83 rfl rfl el_rune w.heap.size _ _ _ rfl hownb hbase2 _ 1 1 _ _ rfl (by first | rfl | simp) rfl (by simp [Value.oneCell']) (by omega) ?_; intro v4 w4 hown4 hgr4; have hb4 := below_own hb2 hownb hgr4 (Nat.le_refl _) hbase2))
            go_roundw
            case rel => exact ⟨k + 1, [], out ++ [valueL (k0 :: (ks ++ [b]))], by omega, by go_num, (own_eq hown4 (by simp) (by simp)).alloc _, by simpa using own_lit w4 w.heap.size 5 1 0 #[] hb4.size (by omega) rfl, hb4.alloc hb4.size _, mk0, by rw [← HE.out, ← HDD.out]; exact HD.out, by simp at hlen ⊢; omega⟩
            case measure => simp [intOf, lenOf]; omega
          · have HE := hide (decFrom_more (rest := l.drop (k + 1)) (out := out) hbad hfull)
            have HF : KeptOK (k0 :: (ks ++ [b])) := fun y ys h => by
              cases h
              simp; omega
            clear hbad
            have HF := hide HF
            have hq : ((ks.length : Int) + 1 + 1 == (limSize k0.toNat : Int)) = false := by simp; omega
            clear hfull
            go_wp2_with (first
              | (go_at_call 96; refine (limits01 _ g off (ks.length + 1) ck k0.toNat (by omega) (by omega) (by omega) hc0).mono ?_; rintro e w1 ⟨rfl, rfl⟩)
              | (at_builtin; refine wpList_app _ (.tmp 79) (.tmp 81) 73 rfl rfl el_byte w.heap.size _ _ _ rfl hownk hbase _ 1 1 _ _ rfl (by first | rfl | simp) rfl (by simp [Value.oneCell']) (by omega) ?_; intro v2 w2 hown2 hgr2; obtain ⟨A2, c2, rfl⟩ := own_form hown2; have hb2 := below_own hbel hownk hgr2 (Nat.le_refl _) hbase; have hbase2 := hb2.size; have hownb := own_other hown hownk (by decide) hgr2))
            go_roundw
            case rel => exact ⟨k + 1, k0 :: (ks ++ [b]), out, by omega, by go_num, hownb, own_eq hown2 (by simp) (by simp [byteV]), hb2, HF.out, by rw [← HE.out, ← HDD.out]; exact HD.out, by simp at hlen ⊢; omega⟩
            case measure => simp [intOf, lenOf]; omega
    · have hend : l.drop k = [] := List.drop_of_length_le (by rw [HLL.out]; omega)
      have HEND := hide hend
      clear hend
      obtain ⟨Ao, co, rfl, hco, hso⟩ := Sl.of_own1 hown
      have hstr := fun n => run_str (wr.drewN n) 73 9 5 Tryz.underlying73 Tryz.underlying5 Tryz.underlying9 hownk
      go_wp2
      go_quiet (fail)
      go_wp2
      go_ret2
      have hfin : decFrom s.data.toList [] [] = (out, kept) := by
        rw [HSL.out, HA.out, ← HD.out, HEND.out, decFrom]
      exact decPost_mk hfin hso ⟨hbel.os, hbel.tape, hbel.output, hbel.size, hbel.block⟩
end Go.Proofs.YtdkppdjonlldhaaGreatDoor
