/- The reference's find. -/
import Derived.Test.YtonnjokjbknngaaDoorZ37
namespace Go.Proofs.YtonnjokjbknngaaDoor
open Go.RowKit Go.Maps Go.Lib Go.Shelf

def rowsOf (st : St) : Fld → List Value
  | .code => st.code.flatMap Ins.enc
  | .lines => st.lines.map (Value.int .i64)
  | .tgts => st.tgts.map strV
  | .names => st.labs.map fun p => strV p.1
  | .vals => st.labs.map fun p => Value.int .i64 (p.2 : Int)
def lensOf (st : St) : Fld → Nat
  | .code => st.code.length
  | .lines => st.lines.length
  | .tgts => st.tgts.length
  | .names => st.labs.length
  | .vals => st.labs.length
def box5 (v : Fld → Value) : Array Value := #[v .code, v .lines, v .tgts, v .names, v .vals]
/-- The reference's state: a box in block B. -/
structure RefAt (w : World) (B : Nat) (v : Fld → Value) (st : St) : Prop where
  r5 : R5 B w w v (box5 v) v (lensOf st) (rowsOf st)
  llen : st.lines.length = st.code.length
  tlen : st.tgts.length = st.code.length
  small : st.code.length ≤ 500
theorem own_last' {w : World} {base : Nat} {e : TypeId} {v : Value} {n m : Nat} {xs : List Value} {sz : Nat} (h : w.ownsRow base e sz v n xs) (hm : m < n) :
    ∃ g cap, v = .slice (some ⟨g, 0, none⟩) n cap ∧ base ≤ g ∧ g < w.heap.size := by
  rcases h.2 with ⟨rfl, h0⟩ | ⟨g, cap, cur, rfl, hg, hh, _⟩
  · omega
  · exact ⟨g, cap, rfl, hg, block_lt hh⟩
def findV (o : Option Nat) : Value := match o with | some k => .tuple #[.int .i64 (k : Int), .bool true] | none => .tuple #[.int .i64 0, .bool false]

set_option maxRecDepth 100000 in
set_option maxHeartbeats 1000000 in
theorem findR (w : World) (B : Nat) (v : Fld → Value) (st : St) (h : R5 B w w v (box5 v) v (lensOf st) (rowsOf st)) (name : ByteArray) (hz : st.labs.length ≤ 100000) :
    Calls Tryd.prog 36 #[.pointer (some ⟨B, 0, none⟩), .string name] w fun e w' => e = .returned (findV (findL name.data.toList st.labs)) ∧ w = w' := by
  have c3 : w.cell? ⟨B, 3, none⟩ = some (v .names) := cell_block h.box 3
  have c4 : w.cell? ⟨B, 4, none⟩ = some (v .vals) := cell_block h.box 4
  have o3 := h.own .names
  have o4 := h.own .vals
  obtain ⟨A3, p3, e3⟩ := own_form o3
  obtain ⟨A4, p4, e4⟩ := own_form o4
  rw [e3] at c3 o3
  rw [e4] at c4 o4
  obtain ⟨L, hL⟩ : ∃ l, st.labs = l := ⟨_, rfl⟩
  dsimp only [lensOf, rowsOf, ety, esz] at c3 c4 o3 o4
  rw [hL] at c3 c4 o3 o4 hz ⊢
  obtain ⟨n, hn⟩ : ∃ n, L.length = n := ⟨_, rfl⟩
  rw [hn] at c3 c4 o3 o4 hz
  have Hn := hide hn
  obtain ⟨R, hR⟩ : ∃ r, findL name.data.toList L = r := ⟨_, rfl⟩
  have HR := hide (show findL name.data.toList (L.drop 0) = R from hR)
  rw [hR]
  have O3 := hide o3
  have O4 := hide o4
  clear h o3 o4 e3 e4 hL hn hR
  go_enter Tryd.func36, Tryd.ntmps36
  go_wp2
  go_loop [6] (fun i => ∃ k : Nat, k ≤ n ∧ i = .int .i64 k ∧ findL name.data.toList (L.drop k) = R) (fun i => n - (intOf i).toNat)
  case atStart => exact ⟨0, Nat.zero_le _, rfl, HR.out⟩
  case round =>
    obtain ⟨k, hk, rfl, hf⟩ := hrel
    clear HR
    by_cases hlt : k < n
    · have hltI : (k : Int) < (n : Int) := by omega
      have hkl : k < L.length := by rw [Hn.out]; exact hlt
      rw [List.drop_eq_getElem_cons hkl, findL] at hf
      obtain ⟨g3, q3, e3, -, -⟩ := own_last' O3.out hlt
      obtain ⟨g4, q4, e4, -, -⟩ := own_last' O4.out hlt
      cases e3
      cases e4
      have d3 := O3.out.cellAt k (by omega)
      have d4 := O4.out.cellAt k (by omega)
      rw [List.getElem?_map, List.getElem?_eq_getElem hkl] at d3 d4
      obtain ⟨p, hp⟩ : ∃ p, L[k]'hkl = p := ⟨_, rfl⟩
      rw [hp] at d3 d4 hf
      obtain ⟨nm, kv⟩ := p
      simp only [Option.map_some] at d3 d4
      dsimp only at hf
      unfold strV at d3
      obtain ⟨NS, hNS⟩ : ∃ x : ByteArray, (⟨nm.toArray⟩ : ByteArray) = x := ⟨_, rfl⟩
      have hNl : NS.data.toList = nm := by rw [← hNS]
      rw [hNS] at d3
      have Hf := hide hf
      have hbeq : ∀ b, (nm == name.data.toList) = b → (NS.toList == name.toList) = b := fun b hb => by rw [ByteArray.toList_eq, ByteArray.toList_eq, hNl]; exact hb
      by_cases he : nm = name.data.toList
      · have hq := hbeq true (by rw [he]; exact beq_self_eq_true _)
        have hq2 : NS = name := by rw [← hNS, he]
        have HF := hide ((if_pos he).symm.trans Hf.out)
        clear hf hNS hNl hp he Hf hbeq
        subst hq2
        go_wp2
        go_ret2
        exact ⟨by rw [← HF.out]; rfl, rfl⟩
      · have hq := hbeq false (by rw [beq_eq_false_iff_ne]; exact he)
        have HF := hide ((if_neg he).symm.trans Hf.out)
        clear hf hNS hNl hp he Hf hbeq
        go_wp2
        go_round
        case rel => exact ⟨k + 1, by omega, by go_num, HF.out⟩
        case measure => simp [intOf]; omega
    · obtain rfl : k = n := by omega
      rw [List.drop_of_length_le (by rw [Hn.out]; exact Nat.le_refl _)] at hf
      have HF := hide (show R = none from hf.symm)
      clear hf
      go_wp2
      go_ret2
      exact ⟨by rw [HF.out]; rfl, rfl⟩
end Go.Proofs.YtonnjokjbknngaaDoor
