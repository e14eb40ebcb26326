/- keyinput.named, a number; all of it. -/
import Derived.Test.YtpilpchijmappaaDoorH9
namespace Go.Proofs.YtpilpchijmappaaDoor
open Go.RowKit

theorem til_ne : ∀ p ∈ tildeTab, ∀ q ∈ letterTab, p.1 ≠ q.1 := by decide
theorem str_no10 {s : ByteArray} {l : List UInt8} (h : s.data.toList ≠ l) : (s.toList == l) = false := by rw [ByteArray.toList_eq]; simpa using h

set_option maxRecDepth 100000 in
set_option maxHeartbeats 4000000 in
theorem namedT (w : World) (k : Key) (m : Md) (hP : Pow w) (p : List UInt8 × List UInt8) (hp : p ∈ tildeTab) (hn : k.nm = p.1) :
    Calls Tryd.prog 20 #[k.val, m.val] w fun e w' => e = .returned (.string ⟨(encName m.app m.nl k.nm k.control k.alt k.shift).toArray⟩) ∧ Below w.heap.size w w' := by
  obtain ⟨W0, hW0, hbox, hs0, hk, hm⟩ := boxKM w k m
  have HK := hide (fun w1 (hb : Below W0.heap.size W0 w1) => And.intro (hk.below hb (by omega)).cells (hm.below hb (by omega)).cells)
  have HM := hide (fun w1 => modifierP w1 k)
  obtain ⟨N, hN⟩ : ∃ N, modNum k.control k.alt k.shift = N := ⟨_, rfl⟩
  have hbd := modNum_bd k.control k.alt k.shift
  have hsz := tab_size p hp
  have HE := encName_tilde (app := m.app) (nl := m.nl) (c := k.control) (a := k.alt) (s := k.shift) (til_look p hp).1 (til_look p hp).2
  have HL := hide (fun W b (h : ownMap W b tildeTab) => ownMap_look h k.name (by have h2 : k.name.size = p.1.length := by rw [← hn]; rfl
                                                                                 unfold maxLen; omega) p.2 (by rw [show k.name.data.toList = p.1 from hn]; exact til_at p hp))
  rw [← hn] at HE
  rw [hN] at HM hbd HE
  have HI := hide (fun w1 (hb : Below W0.heap.size W0 w1) => itoaP w1 N (by omega) (hP.below (hbox.trans (hb.mono (by omega)))))
  rw [itoa_dg N (by omega)] at HI
  have hdz := dg_size N
  obtain ⟨D, hD⟩ : ∃ D, dg N = D := ⟨_, rfl⟩
  rw [hD] at HI hdz
  have HD := hide hD.symm
  obtain ⟨⟨k0, k1, k2, k3, k4⟩, m0, m1, m2, m3, m4, m5, m6, m7, m8, m9, m10⟩ := HK.out W0 (Below.refl _ _)
  have Hbox := hide hbox
  have Hs0 := hide hs0
  obtain ⟨nm, r, c, a, s⟩ := k
  obtain ⟨ins, nl, app, org, wrp, vis, alt, con, s0, s1, sh⟩ := m
  clear hbox hk hm hP hs0 hD hN
  subst hW0
  unfold Key.val at HM ⊢
  unfold Md.val
  dsimp only [Key.nm] at *
  have t0 : (nm.toList == [85, 112]) = false := str_no10 (by rw [hn]; exact til_ne _ hp ([85, 112], 65, false) (by decide))
  have t1 : (nm.toList == [68, 111, 119, 110]) = false := str_no10 (by rw [hn]; exact til_ne _ hp ([68, 111, 119, 110], 66, false) (by decide))
  have t2 : (nm.toList == [82, 105, 103, 104, 116]) = false := str_no10 (by rw [hn]; exact til_ne _ hp ([82, 105, 103, 104, 116], 67, false) (by decide))
  have t3 : (nm.toList == [76, 101, 102, 116]) = false := str_no10 (by rw [hn]; exact til_ne _ hp ([76, 101, 102, 116], 68, false) (by decide))
  have t4 : (nm.toList == [69, 110, 100]) = false := str_no10 (by rw [hn]; exact til_ne _ hp ([69, 110, 100], 70, false) (by decide))
  have t5 : (nm.toList == [72, 111, 109, 101]) = false := str_no10 (by rw [hn]; exact til_ne _ hp ([72, 111, 109, 101], 72, false) (by decide))
  have t6 : (nm.toList == [70, 49]) = false := str_no10 (by rw [hn]; exact til_ne _ hp ([70, 49], 80, true) (by decide))
  have t7 : (nm.toList == [70, 50]) = false := str_no10 (by rw [hn]; exact til_ne _ hp ([70, 50], 81, true) (by decide))
  have t8 : (nm.toList == [70, 51]) = false := str_no10 (by rw [hn]; exact til_ne _ hp ([70, 51], 82, true) (by decide))
  have t9 : (nm.toList == [70, 52]) = false := str_no10 (by rw [hn]; exact til_ne _ hp ([70, 52], 83, true) (by decide))
  obtain ⟨pn, d⟩ := p
  dsimp only at hn HE HL hsz
  have hdd : (⟨d.toArray⟩ : ByteArray).size ≤ 2 := by simpa [ByteArray.size] using hsz.2
  have HEe := hide HE
  have hcat : (⟨#[59]⟩ : ByteArray).size + D.size ≤ 9223372036854775807 := by rw [hdz]; decide
  have hcat1 : 1 + D.size ≤ 9223372036854775807 := by omega
  have e2 : (⟨#[27, 91]⟩ : ByteArray).size = 2 := rfl
  have e1 : (⟨#[59]⟩ : ByteArray).size = 1 := rfl
  have hcat3 : (⟨#[27, 91]⟩ ++ ⟨d.toArray⟩ : ByteArray).size + (⟨#[59]⟩ ++ D : ByteArray).size ≤ 9223372036854775807 := by rw [ByteArray.size_append, ByteArray.size_append]; omega
  have hcat4 : (⟨#[27, 91]⟩ ++ ⟨d.toArray⟩ ++ (⟨#[59]⟩ ++ D) : ByteArray).size + 1 ≤ 9223372036854775807 := by rw [ByteArray.size_append, ByteArray.size_append, ByteArray.size_append]; omega
  clear HE e1 e2 hdd
  simp only [tildeTab, List.mem_cons, List.mem_nil_iff, or_false, Prod.mk.injEq] at hp
  rcases (show ((N : Int) == 1) = true ∧ N = 1 ∨ ((N : Int) == 1) = false ∧ N ≠ 1 by
    by_cases h : N = 1
    · exact .inl ⟨by simp [h], h⟩
    · exact .inr ⟨by rw [beq_eq_false_iff_ne]; omega, h⟩) with ⟨hN1, h1⟩ | ⟨hN1, h1⟩
  all_goals
    have H1 := hide h1
    clear h1
    rcases hp with ⟨rfl, rfl⟩ | ⟨rfl, rfl⟩ | ⟨rfl, rfl⟩ | ⟨rfl, rfl⟩ | ⟨rfl, rfl⟩ | ⟨rfl, rfl⟩ | ⟨rfl, rfl⟩ | ⟨rfl, rfl⟩ | ⟨rfl, rfl⟩ | ⟨rfl, rfl⟩ | ⟨rfl, rfl⟩ | ⟨rfl, rfl⟩
  all_goals
    clear hn hsz
    go_enter Tryd.func20, Tryd.ntmps20
    go_wp2_with (first
      | (go_at_call 39; refine (HM.out _).mono ?_; rintro e w1 ⟨rfl, hb1⟩)
      | (go_at_call 30; refine (HI.out w1 hb1).mono ?_; rintro e w2 ⟨rfl, hb2'⟩; have hb2 := hb1.trans (hb2'.mono hb1.size); obtain ⟨⟨x0, x1, x2, x3, x4⟩, y0, y1, y2, y3, y4, y5, y6, y7, y8, y9, y10⟩ := HK.out w2 hb2)
      | fail)
    have hbd := (Below.refl w2.heap.size w2).drew
    have HS := hide (fun W2 (hb : Below w2.heap.size w2 W2) => (HK.out W2 (hb2.trans (hb.mono hb2.size))).1.1)
    go_region_held3 (fun W2 => W2.cell? ⟨w.heap.size, 0, none⟩ = some (.string nm))
      (first | exact HS.out _ hb3 | exact HS.out _ hbd)
      (first
        | (go_at_call 41; refine (numbersP _).mono ?_; rintro e w3 ⟨b, rfl, hmp, hbF⟩; have hb3 := hbd.trans (hbF.mono hbd.size); have hl := HL.out w3 b hmp)
        | fail)
    all_goals
      go_wp2
      go_ret
      refine ⟨congrArg (fun x => Ending.returned (Value.string x)) ?_, Hbox.out.trans ((hb2.trans (hb3.mono hb2.size)).mono Hbox.out.size)⟩
      rw [HEe.out]
      have := H1.out
      exact ba_ext (by simp [HD.out, dg, this])

theorem lookL_some {α : Type} (n : List UInt8) (x : α) : ∀ t : List (List UInt8 × α), lookL n t = some x → (n, x) ∈ t
  | [], h => by cases h
  | y :: r, h => by
    rw [lookL] at h
    split at h
    · rename_i e
      cases h
      subst e
      exact List.mem_cons_self
    · exact List.mem_cons_of_mem _ (lookL_some n x r h)

/-- All keys whose encoding has a letter or a number. -/
theorem namedP (w : World) (k : Key) (m : Md) (hP : Pow w) (h : (lookL k.nm letterTab).isSome = true ∨ (lookL k.nm tildeTab).isSome = true) :
    Calls Tryd.prog 20 #[k.val, m.val] w fun e w' => e = .returned (.string ⟨(encName m.app m.nl k.nm k.control k.alt k.shift).toArray⟩) ∧ Below w.heap.size w w' := by
  rcases h with h | h
  · obtain ⟨p, hp⟩ := Option.isSome_iff_exists.1 h
    by_cases h1 : modNum k.control k.alt k.shift = 1
    · exact namedL1 w k m hP (k.nm, p) (lookL_some _ _ _ hp) rfl h1
    · exact namedL2 w k m hP (k.nm, p) (lookL_some _ _ _ hp) rfl h1
  · obtain ⟨p, hp⟩ := Option.isSome_iff_exists.1 h
    exact namedT w k m hP (k.nm, p) (lookL_some _ _ _ hp) rfl
end Go.Proofs.YtpilpchijmappaaDoor
