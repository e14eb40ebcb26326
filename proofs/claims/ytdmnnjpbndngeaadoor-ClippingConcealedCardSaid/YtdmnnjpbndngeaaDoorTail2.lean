/- Three variables made in a region that draws its order: whatever the order, one walk goes on. -/
import Derived.Test.YtdmnnjpbndngeaaDoorTail
import Derived.Test.YtdmnnjpbndngeaaDoorMem
namespace Go.Proofs.YtdmnnjpbndngeaaDoor
open Go.RowKit

section
variable {P : Program} {ops : List Oper} {Q : Exit → Act → World → Prop} {S : World → Prop} {fuel : Nat} {listed : Array Bool} {a : Act} {w : World}
/-- A variable of type t is made: its cells are Z. -/
def MakesZ (P : Program) (t : TypeId) (Z : Array Value) : Prop := ∀ w : World, (Instr.alloc t true (.tuple #[])).run P w = .ok (.pointer (some ⟨w.heap.size, 0, none⟩)) (w.alloc (.cells Z t))
theorem td_alloc {i : Nat} {o : Oper} {r : List Oper} {rs : List Nat} {t : TypeId} {Z : Array Value} {d : Nat} (hi : ops.drop i = o :: r) (g : o.guard = none) (e : o.op = .alloc t) (hd : o.dst = some d) (m : MakesZ P t Z)
    (hS : S (w.alloc (.cells Z t))) (h : Td P ops Q S [] fuel (listed.setIfInBounds i true) (a.put (some d) (.pointer (some ⟨w.heap.size, 0, none⟩))) (w.alloc (.cells Z t)))
    (rest : Tds P ops Q S [] fuel listed a w rs) : Tds P ops Q S [] fuel listed a w (i :: rs) :=
  td_cons hi (fun K hK => by
    rw [if_pos (by simp [Region.wanted, g])]
    unfold Oper.wp execOp
    simp only [e, Sem.run_bind, m w, Sem.run_pure, Result.andThen_ok]
    simp only [Oper.upon]
    rw [hd]
    exact hK.out _ _ hS (fun _ => h)) rest
theorem put_comm {a : Act} {d d' : Nat} (hd : d ≠ d') (v v' : Value) : (a.put (some d) v).put (some d') v' = (a.put (some d') v').put (some d) v := by
  simp only [Act.put]
  rw [Array.setIfInBounds_comm _ _ hd]
theorem td_allocs3 {i j k di dj dk : Nat} {oi oj ok : Oper} {ri rj rk : List Oper} {ti tj tk : TypeId} {Zi Zj Zk : Array Value}
    (hi : ops.drop i = oi :: ri) (hj : ops.drop j = oj :: rj) (hk : ops.drop k = ok :: rk) (gi : oi.guard = none) (gj : oj.guard = none) (gk : ok.guard = none)
    (ei : oi.op = .alloc ti) (ej : oj.op = .alloc tj) (ek : ok.op = .alloc tk) (hdi : oi.dst = some di) (hdj : oj.dst = some dj) (hdk : ok.dst = some dk) (mi : MakesZ P ti Zi) (mj : MakesZ P tj Zj) (mk : MakesZ P tk Zk)
    (hS : ∀ w', Below w.heap.size w w' → S w') (nij : di ≠ dj) (nik : di ≠ dk) (njk : dj ≠ dk) (lij : i ≠ j) (lik : i ≠ k) (ljk : j ≠ k)
    (r0 : Region.ready .any ops.toArray listed = [i, j, k]) (r1 : Region.ready .any ops.toArray (listed.setIfInBounds i true) = [j, k]) (r2 : Region.ready .any ops.toArray (listed.setIfInBounds j true) = [i, k]) (r3 : Region.ready .any ops.toArray (listed.setIfInBounds k true) = [i, j])
    (r4 : Region.ready .any ops.toArray ((listed.setIfInBounds i true).setIfInBounds j true) = [k]) (r5 : Region.ready .any ops.toArray ((listed.setIfInBounds i true).setIfInBounds k true) = [j]) (r6 : Region.ready .any ops.toArray ((listed.setIfInBounds j true).setIfInBounds k true) = [i])
    (H : ∀ bi bj bk w', bi ≠ bj → bi ≠ bk → bj ≠ bk → w.heap.size ≤ bi → w.heap.size ≤ bj → w.heap.size ≤ bk → w'.heap[bi]? = some (.cells Zi ti (0, 0)) → w'.heap[bj]? = some (.cells Zj tj (0, 0)) → w'.heap[bk]? = some (.cells Zk tk (0, 0)) → Below w.heap.size w w' →
      Td P ops Q S [] fuel (((listed.setIfInBounds i true).setIfInBounds j true).setIfInBounds k true) (((a.put (some di) (.pointer (some ⟨bi, 0, none⟩))).put (some dj) (.pointer (some ⟨bj, 0, none⟩))).put (some dk) (.pointer (some ⟨bk, 0, none⟩))) w') :
    Td P ops Q S [] (fuel + 3) listed a w := by
  have hb0 := Below.refl w.heap.size w
  have hA : ∀ (w1 : World) (o : Obj), Below w.heap.size w w1 → Below w.heap.size w (w1.alloc o) := fun w1 o h => h.alloc h.size o
  have hz : ∀ (w1 : World) (o : Obj), (w1.alloc o).heap.size = w1.heap.size + 1 := fun w1 o => by simp
  have sA : ∀ (w1 : World) (o : Obj), Below w.heap.size w w1 → S (w1.alloc o) := fun w1 o h => hS _ (hA w1 o h)
  have lji := lij.symm
  have lki := lik.symm
  have lkj := ljk.symm
  have r4' : Region.ready .any ops.toArray ((listed.setIfInBounds j true).setIfInBounds i true) = [k] := by rw [Array.setIfInBounds_comm _ _ lji]; exact r4
  have r5' : Region.ready .any ops.toArray ((listed.setIfInBounds k true).setIfInBounds i true) = [j] := by rw [Array.setIfInBounds_comm _ _ lki]; exact r5
  have r6' : Region.ready .any ops.toArray ((listed.setIfInBounds k true).setIfInBounds j true) = [i] := by rw [Array.setIfInBounds_comm _ _ lkj]; exact r6
  have n : ∀ x : Nat, ([x] : List Nat).all (fun i => !([] : List Nat).contains i) = true := fun x => by simp
  have n2 : ∀ x y : Nat, ([x, y] : List Nat).all (fun i => !([] : List Nat).contains i) = true := fun x y => by simp
  have n3 : ∀ x y z : Nat, ([x, y, z] : List Nat).all (fun i => !([] : List Nat).contains i) = true := fun x y z => by simp
  have at3 : ∀ (o1 o2 o3 : Obj), (((w.alloc o1).alloc o2).alloc o3).heap[w.heap.size]? = some o1 ∧ (((w.alloc o1).alloc o2).alloc o3).heap[w.heap.size + 1]? = some o2 ∧ (((w.alloc o1).alloc o2).alloc o3).heap[w.heap.size + 1 + 1]? = some o3 := fun o1 o2 o3 => by
    have a1 := block_new w o1
    have a2 := block_new (w.alloc o1) o2
    have a3 := block_new ((w.alloc o1).alloc o2) o3
    rw [hz] at a2
    rw [hz, hz] at a3
    exact ⟨block_alloc (block_alloc a1 _) _, block_alloc a2 _, a3⟩
  refine td_ready r0 (n3 _ _ _) (by simp) ?_
  refine td_alloc hi gi ei hdi mi (sA _ _ hb0) ?_ (td_alloc hj gj ej hdj mj (sA _ _ hb0) ?_ (td_alloc hk gk ek hdk mk (sA _ _ hb0) ?_ td_nil))
  · refine td_ready r1 (n2 _ _) (by simp) ?_
    refine td_alloc hj gj ej hdj mj (sA _ _ (hA _ _ hb0)) ?_ (td_alloc hk gk ek hdk mk (sA _ _ (hA _ _ hb0)) ?_ td_nil)
    · refine td_ready r4 (n _) (by simp) ?_
      refine td_alloc hk gk ek hdk mk (sA _ _ (hA _ _ (hA _ _ hb0))) ?_ td_nil
      simp only [hz]
      obtain ⟨x1, x2, x3⟩ := at3 (.cells Zi ti) (.cells Zj tj) (.cells Zk tk)
      exact H _ _ _ _ (by omega) (by omega) (by omega) (by omega) (by omega) (by omega) x1 x2 x3 (hA _ _ (hA _ _ (hA _ _ hb0)))
    · refine td_ready r5 (n _) (by simp) ?_
      refine td_alloc hj gj ej hdj mj (sA _ _ (hA _ _ (hA _ _ hb0))) ?_ td_nil
      simp only [hz]
      obtain ⟨x1, x2, x3⟩ := at3 (.cells Zi ti) (.cells Zk tk) (.cells Zj tj)
      rw [put_comm njk.symm, Array.setIfInBounds_comm _ _ lkj]
      exact H _ _ _ _ (by omega) (by omega) (by omega) (by omega) (by omega) (by omega) x1 x3 x2 (hA _ _ (hA _ _ (hA _ _ hb0)))
  · refine td_ready r2 (n2 _ _) (by simp) ?_
    refine td_alloc hi gi ei hdi mi (sA _ _ (hA _ _ hb0)) ?_ (td_alloc hk gk ek hdk mk (sA _ _ (hA _ _ hb0)) ?_ td_nil)
    · refine td_ready r4' (n _) (by simp) ?_
      refine td_alloc hk gk ek hdk mk (sA _ _ (hA _ _ (hA _ _ hb0))) ?_ td_nil
      simp only [hz]
      obtain ⟨x1, x2, x3⟩ := at3 (.cells Zj tj) (.cells Zi ti) (.cells Zk tk)
      rw [put_comm nij.symm, Array.setIfInBounds_comm _ _ lji]
      exact H _ _ _ _ (by omega) (by omega) (by omega) (by omega) (by omega) (by omega) x2 x1 x3 (hA _ _ (hA _ _ (hA _ _ hb0)))
    · refine td_ready r6 (n _) (by simp) ?_
      refine td_alloc hi gi ei hdi mi (sA _ _ (hA _ _ (hA _ _ hb0))) ?_ td_nil
      simp only [hz]
      obtain ⟨x1, x2, x3⟩ := at3 (.cells Zj tj) (.cells Zk tk) (.cells Zi ti)
      rw [put_comm nik.symm, put_comm nij.symm, Array.setIfInBounds_comm _ _ lki, Array.setIfInBounds_comm _ _ lji]
      exact H _ _ _ _ (by omega) (by omega) (by omega) (by omega) (by omega) (by omega) x3 x1 x2 (hA _ _ (hA _ _ (hA _ _ hb0)))
  · refine td_ready r3 (n2 _ _) (by simp) ?_
    refine td_alloc hi gi ei hdi mi (sA _ _ (hA _ _ hb0)) ?_ (td_alloc hj gj ej hdj mj (sA _ _ (hA _ _ hb0)) ?_ td_nil)
    · refine td_ready r5' (n _) (by simp) ?_
      refine td_alloc hj gj ej hdj mj (sA _ _ (hA _ _ (hA _ _ hb0))) ?_ td_nil
      simp only [hz]
      obtain ⟨x1, x2, x3⟩ := at3 (.cells Zk tk) (.cells Zi ti) (.cells Zj tj)
      rw [put_comm nik.symm, put_comm njk.symm, Array.setIfInBounds_comm _ _ lki, Array.setIfInBounds_comm _ _ lkj]
      exact H _ _ _ _ (by omega) (by omega) (by omega) (by omega) (by omega) (by omega) x2 x3 x1 (hA _ _ (hA _ _ (hA _ _ hb0)))
    · refine td_ready r6' (n _) (by simp) ?_
      refine td_alloc hi gi ei hdi mi (sA _ _ (hA _ _ (hA _ _ hb0))) ?_ td_nil
      simp only [hz]
      obtain ⟨x1, x2, x3⟩ := at3 (.cells Zk tk) (.cells Zj tj) (.cells Zi ti)
      rw [put_comm njk.symm, put_comm nik.symm, put_comm nij.symm, Array.setIfInBounds_comm _ _ lkj, Array.setIfInBounds_comm _ _ lki, Array.setIfInBounds_comm _ _ lji]
      exact H _ _ _ _ (by omega) (by omega) (by omega) (by omega) (by omega) (by omega) x3 x2 x1 (hA _ _ (hA _ _ (hA _ _ hb0)))
end
end Go.Proofs.YtdmnnjpbndngeaaDoor
