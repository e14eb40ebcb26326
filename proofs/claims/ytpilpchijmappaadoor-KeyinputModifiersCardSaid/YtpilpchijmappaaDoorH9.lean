/- keyinput.named, a letter with modifiers. -/
import Derived.Test.YtpilpchijmappaaDoorH8
namespace Go.Proofs.YtpilpchijmappaaDoor
open Go.RowKit

set_option maxRecDepth 100000 in
set_option maxHeartbeats 4000000 in
theorem namedL2 (w : World) (k : Key) (m : Md) (hP : Pow w) (p : List UInt8 × UInt8 × Bool) (hp : p ∈ letterTab) (hn : k.nm = p.1) (h1 : modNum k.control k.alt k.shift ≠ 1) :
    Calls Tryd.prog 20 #[k.val, m.val] w fun e w' => e = .returned (.string ⟨(encName m.app m.nl k.nm k.control k.alt k.shift).toArray⟩) ∧ Below w.heap.size w w' := by
  obtain ⟨W0, hW0, hbox, hs0, hk, hm⟩ := boxKM w k m
  have HK := hide (fun w1 (hb : Below W0.heap.size W0 w1) => And.intro (hk.below hb (by omega)).cells (hm.below hb (by omega)).cells)
  have HM := hide (fun w1 => modifierP w1 k)
  obtain ⟨N, hN⟩ : ∃ N, modNum k.control k.alt k.shift = N := ⟨_, rfl⟩
  have hbd := modNum_bd k.control k.alt k.shift
  have HE := encName_letter (app := m.app) (nl := m.nl) (c := k.control) (a := k.alt) (s := k.shift) (let_look p hp)
  have HL := hide (fun W b (h : ownMap W b letterS) => ownMap_look h k.name (by have h1 := let_size p hp; have h2 : k.name.size = p.1.length := by rw [← hn]; rfl
                                                                                unfold maxLen; omega) [p.2.1] (by rw [show k.name.data.toList = p.1 from hn]; exact let_at p hp))
  rw [if_neg h1, ← hn] at HE
  rw [hN] at HM hbd h1 HE
  have HI := hide (fun w1 (hb : Below W0.heap.size W0 w1) => itoaP w1 N (by omega) (hP.below (hbox.trans (hb.mono (by omega)))))
  rw [itoa_dg N (by omega)] at HI
  have hdz := dg_size N
  obtain ⟨D, hD⟩ : ∃ D, dg N = D := ⟨_, rfl⟩
  rw [hD] at HI hdz
  have HD := hide hD.symm
  obtain ⟨⟨k0, k1, k2, k3, k4⟩, m0, m1, m2, m3, m4, m5, m6, m7, m8, m9, m10⟩ := HK.out W0 (Below.refl _ _)
  have Hbox := hide hbox
  have hrf := Below.refl W0.heap.size W0
  have Hs0 := hide hs0
  obtain ⟨nm, r, c, a, s⟩ := k
  obtain ⟨ins, nl, app, org, wrp, vis, alt, con, s0, s1, sh⟩ := m
  clear hbox hk hm hP hs0 hD hN
  subst hW0
  unfold Key.val at HM ⊢
  unfold Md.val
  dsimp only [Key.nm] at *
  have hcat : (⟨#[59]⟩ : ByteArray).size + D.size ≤ 9223372036854775807 := by rw [hdz]; decide
  have hcat1 : 1 + D.size ≤ 9223372036854775807 := by omega
  have hN1 : ((N : Int) == 1) = false := by rw [beq_eq_false_iff_ne]; omega
  have hcat3 : (⟨#[27, 91, 49]⟩ : ByteArray).size + (⟨#[59]⟩ ++ D : ByteArray).size ≤ 9223372036854775807 := by rw [ByteArray.size_append, hdz]; decide
  have hcat4 : (⟨#[27, 91, 49]⟩ ++ (⟨#[59]⟩ ++ D) : ByteArray).size + 1 ≤ 9223372036854775807 := by rw [ByteArray.size_append, ByteArray.size_append, hdz]; decide
  obtain ⟨pn, L, f⟩ := p
  dsimp only at hn HE HL
  have HE := hide HE
  simp only [letterTab, List.mem_cons, List.mem_nil_iff, or_false, Prod.mk.injEq] at hp
  clear h1 hbd
  rcases hp with ⟨rfl, rfl, rfl⟩ | ⟨rfl, rfl, rfl⟩ | ⟨rfl, rfl, rfl⟩ | ⟨rfl, rfl, rfl⟩ | ⟨rfl, rfl, rfl⟩ | ⟨rfl, rfl, rfl⟩ | ⟨rfl, rfl, rfl⟩ | ⟨rfl, rfl, rfl⟩ | ⟨rfl, rfl, rfl⟩ | ⟨rfl, rfl, rfl⟩
  all_goals
    first | (have t0 : (nm.toList == [85, 112]) = true := by rw [ByteArray.toList_eq, hn]; rfl) | (have t0 : (nm.toList == [85, 112]) = false := by rw [ByteArray.toList_eq, hn]; rfl)
    first | (have t1 : (nm.toList == [68, 111, 119, 110]) = true := by rw [ByteArray.toList_eq, hn]; rfl) | (have t1 : (nm.toList == [68, 111, 119, 110]) = false := by rw [ByteArray.toList_eq, hn]; rfl)
    first | (have t2 : (nm.toList == [82, 105, 103, 104, 116]) = true := by rw [ByteArray.toList_eq, hn]; rfl) | (have t2 : (nm.toList == [82, 105, 103, 104, 116]) = false := by rw [ByteArray.toList_eq, hn]; rfl)
    first | (have t3 : (nm.toList == [76, 101, 102, 116]) = true := by rw [ByteArray.toList_eq, hn]; rfl) | (have t3 : (nm.toList == [76, 101, 102, 116]) = false := by rw [ByteArray.toList_eq, hn]; rfl)
    first | (have t4 : (nm.toList == [69, 110, 100]) = true := by rw [ByteArray.toList_eq, hn]; rfl) | (have t4 : (nm.toList == [69, 110, 100]) = false := by rw [ByteArray.toList_eq, hn]; rfl)
    first | (have t5 : (nm.toList == [72, 111, 109, 101]) = true := by rw [ByteArray.toList_eq, hn]; rfl) | (have t5 : (nm.toList == [72, 111, 109, 101]) = false := by rw [ByteArray.toList_eq, hn]; rfl)
    first | (have t6 : (nm.toList == [70, 49]) = true := by rw [ByteArray.toList_eq, hn]; rfl) | (have t6 : (nm.toList == [70, 49]) = false := by rw [ByteArray.toList_eq, hn]; rfl)
    first | (have t7 : (nm.toList == [70, 50]) = true := by rw [ByteArray.toList_eq, hn]; rfl) | (have t7 : (nm.toList == [70, 50]) = false := by rw [ByteArray.toList_eq, hn]; rfl)
    first | (have t8 : (nm.toList == [70, 51]) = true := by rw [ByteArray.toList_eq, hn]; rfl) | (have t8 : (nm.toList == [70, 51]) = false := by rw [ByteArray.toList_eq, hn]; rfl)
    first | (have t9 : (nm.toList == [70, 52]) = true := by rw [ByteArray.toList_eq, hn]; rfl) | (have t9 : (nm.toList == [70, 52]) = false := by rw [ByteArray.toList_eq, hn]; rfl)
    clear hn
    go_enter Tryd.func20, Tryd.ntmps20
    go_wp2_with (first
      | (go_at_call 39; refine (HM.out _).mono ?_; rintro e w1 ⟨rfl, hb1⟩)
      | (go_at_call 30; refine (HI.out w1 hb1).mono ?_; rintro e w2 ⟨rfl, hb2'⟩; have hb2 := hb1.trans (hb2'.mono hb1.size); obtain ⟨⟨x0, x1, x2, x3, x4⟩, y0, y1, y2, y3, y4, y5, y6, y7, y8, y9, y10⟩ := HK.out w2 hb2)
      | fail)
    have hbd := (Below.refl w2.heap.size w2).drew
    have HS := hide (fun W2 (hb : Below w2.heap.size w2 W2) => (HK.out W2 (hb2.trans (hb.mono hb2.size))).1.1)
    go_region_held3 (fun W2 => W2.cell? ⟨w.heap.size, 0, none⟩ = some (.string nm))
      (first | exact HS.out _ hb3 | exact HS.out _ hbd)
      (first
        | (go_at_call 40; refine (lettersP _).mono ?_; rintro e w3 ⟨b, rfl, hmp, hbF⟩; have hb3 := hbd.trans (hbF.mono hbd.size); have hl := HL.out w3 b hmp)
        | fail)
    all_goals
      go_wp2
      go_ret
      exact ⟨congrArg (fun x => Ending.returned (Value.string x)) (by rw [HE.out]; exact ba_ext (by simp [HD.out, dg])), Hbox.out.trans ((hb2.trans (hb3.mono hb2.size)).mono Hbox.out.size)⟩
end Go.Proofs.YtpilpchijmappaaDoor
