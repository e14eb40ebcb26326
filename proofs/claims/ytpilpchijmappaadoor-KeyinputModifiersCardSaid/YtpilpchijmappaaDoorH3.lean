/- keyinput.letters, keyinput.numbers: maps that the call makes. -/
import Derived.Test.YtpilpchijmappaaDoorH1
import Derived.Maps.Own
namespace Go.Proofs.YtpilpchijmappaaDoor
open Go.RowKit Go.Maps

/-- A map literal's entry, as 'wpList_mapUpdate_own'. -/
theorem wpList_insert_own {H : Type} {P : Program} (w : World) {ops : Array Oper} {rest : List Oper} {o : Oper} {a : Act} {Q : Exit → Act → World → Prop}
    (hg : o.guard = none) (m x v : Operand) (t : TypeId) (hop : o.op = Op.insert t m x v)
    (k e : TypeId) (K : Keyed P k) (ht : P.underlying t = some (.map k e)) (R : Value → Option (DataW H × List MemPlace)) (b n : Nat) (D : DataW H)
    (hm : a.eval m = .map (some b)) (hown : w.ownsMap P k R b n D) (hn : n < maxLen) (key val : Value) (kl : Lit) (hx : a.eval x = key) (hv : a.eval v = val) (hkey : keyOf P k key = some kl)
    (d : DataW H) (ps : List MemPlace) (hval : R val = some (d, ps))
    (hK : ∀ w', w'.ownsMap P k R b (n + 1) (D.put kl d) → w.grownBy w' (some b) → wpList P ops Q rest (a.put o.dst undef) w') :
    wpList P ops Q (o :: rest) a w := by
  refine wpList_plain hg fun K' hK' => ?_
  obtain ⟨w', hrun, r1, r2⟩ := hown.update K ht hn hkey hval
  unfold Oper.wp
  simp [execOp, hop, hm, hx, hv, hrun, Result.andThen]
  exact hK' _ _ (hK w' r1 r2)

def putAll (l : List (List UInt8 × List UInt8)) (D : DataW Unit) : DataW Unit := l.foldl (fun D p => D.put (.string p.1) (.lit (.string p.2))) D
def ownMap (w : World) (b : Nat) (l : List (List UInt8 × List UInt8)) : Prop := ∃ n, w.ownsMap Tryd.prog 9 (plainElem (H := Unit) Tryd.prog 9) b n (putAll l (.map []))
def letterS : List (List UInt8 × List UInt8) := letterTab.map fun p => (p.1, [p.2.1])

theorem plainElem_string_inv {v : Value} {d : List UInt8} {ps : List MemPlace} (h : plainElem (H := Unit) Tryd.prog 9 v = some (.lit (.string d), ps)) : v = .string ⟨d.toArray⟩ := by
  unfold plainElem at h
  rw [Tryd.underlying9] at h
  cases v <;> simp at h
  obtain ⟨-, h, -⟩ := h
  subst h
  rfl

/-- What the map gives for a name. -/
theorem ownMap_look {w : World} {b : Nat} {l : List (List UInt8 × List UInt8)} (h : ownMap w b l) (n : ByteArray) (hn : n.size ≤ maxLen) (d : List UInt8) (hat : (putAll l (.map [])).atKey (.string n.data.toList) (.lit (.string [])) = .lit (.string d)) :
    (Instr.lookup 61 (.map (some b)) (.string n) false).run Tryd.prog w = .ok (.string ⟨d.toArray⟩) w := by
  obtain ⟨m, hm⟩ := h
  obtain ⟨v, ps, hrun, hv⟩ := hm.lookup (string_keyed Tryd.underlying9) Tryd.underlying61 (z := .string ⟨#[]⟩) (by kernel_rfl) (zd := .lit (.string [])) (zp := []) (by rw [plainElem_string Tryd.underlying9 (by decide)]) (Go.WideMaps.keyOf_string_mk Tryd.underlying9 hn)
  rw [hat] at hv
  rw [hrun, plainElem_string_inv hv]

set_option maxRecDepth 100000 in
set_option maxHeartbeats 1000000 in
theorem lettersP (w : World) : Calls Tryd.prog 40 #[] w fun e w' => ∃ b, e = .returned (.map (some b)) ∧ ownMap w' b letterS ∧ Below w.heap.size w w' := by
  have hown := World.ownsMap_made (H := Unit) w Tryd.prog 9 (plainElem (H := Unit) Tryd.prog 9)
  have hbw := (Below.refl w.heap.size w).alloc (Nat.le_refl _) (.map #[] 0)
  have hmm := @run_makeMap Tryd.prog
  go_enter Tryd.func40, Tryd.ntmps40
  go_wp2_with (refine wpList_insert_own _ rfl _ _ _ 61 rfl 9 9 (string_keyed Tryd.underlying9) Tryd.underlying61 _ _ _ _ rfl hown (by unfold maxLen; omega) _ _ _ rfl rfl (Go.WideMaps.keyOf_string_mk Tryd.underlying9 (by decide)) _ _ (plainElem_string Tryd.underlying9 (by decide)) ?_; have hbw0 := hbw; clear hown hbw; intro w1 hown hg1; have hbw := hbw0.grown hg1 hbw0.size (fun k hk => by cases hk; exact Nat.le_refl _); clear hbw0 hg1)
  go_ret
  exact ⟨_, rfl, ⟨_, hown⟩, hbw⟩
set_option maxRecDepth 100000 in
set_option maxHeartbeats 1000000 in
theorem numbersP (w : World) : Calls Tryd.prog 41 #[] w fun e w' => ∃ b, e = .returned (.map (some b)) ∧ ownMap w' b tildeTab ∧ Below w.heap.size w w' := by
  have hown := World.ownsMap_made (H := Unit) w Tryd.prog 9 (plainElem (H := Unit) Tryd.prog 9)
  have hbw := (Below.refl w.heap.size w).alloc (Nat.le_refl _) (.map #[] 0)
  have hmm := @run_makeMap Tryd.prog
  go_enter Tryd.func41, Tryd.ntmps41
  go_wp2_with (refine wpList_insert_own _ rfl _ _ _ 61 rfl 9 9 (string_keyed Tryd.underlying9) Tryd.underlying61 _ _ _ _ rfl hown (by unfold maxLen; omega) _ _ _ rfl rfl (Go.WideMaps.keyOf_string_mk Tryd.underlying9 (by decide)) _ _ (plainElem_string Tryd.underlying9 (by decide)) ?_; have hbw0 := hbw; clear hown hbw; intro w1 hown hg1; have hbw := hbw0.grown hg1 hbw0.size (fun k hk => by cases hk; exact Nat.le_refl _); clear hbw0 hg1)
  go_ret
  exact ⟨_, rfl, ⟨_, hown⟩, hbw⟩
end Go.Proofs.YtpilpchijmappaaDoor
