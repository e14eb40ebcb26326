/- Laws at operations, in the words of this seat: append of new elements, conversions between strings, bytes and runes. -/
import Derived.Test.YtdkppdjonlldhaaGreatDoorMem
import Derived.Laws.BytesArg
import Derived.Laws.IdiomStrings
namespace Go.Proofs.YtdkppdjonlldhaaGreatDoor
open Go.RowKit

/-- 't' is a slice type of elements 'e' with zero value z, of so many cells and bytes. -/
structure ElemOf (P : Program) (t e : TypeId) (z : Value) (size bytes : Nat) : Prop where
  slice : P.underlying t = some (.slice e)
  info : (P.info? e).map (fun i => (i.zero, i.size, i.bytes)) = some (some z, size, bytes)
  cells : z.cells.size = size
  pos : 0 < size
  posb : 0 < bytes

theorem own_other {w w' : World} {b1 b2 : Nat} {e1 e2 : TypeId} {s1 s2 n1 n2 : Nat} {v1 v2 : Value} {xs1 xs2 : List Value} (h1 : w.ownsRow b1 e1 s1 v1 n1 xs1) (h2 : w.ownsRow b2 e2 s2 v2 n2 xs2) (hne : e1 ≠ e2)
    (hg : w.grownBy w' v2.ownBlock) : w'.ownsRow b1 e1 s1 v1 n1 xs1 := by
  refine h1.kept hg ?_
  rcases h1.2 with ⟨rfl, _⟩ | ⟨g1, c1, cur1, rfl, _, hh1, _⟩
  · left; rfl
  · right
    rcases h2.2 with ⟨rfl, _⟩ | ⟨g2, c2, cur2, rfl, _, hh2, _⟩
    · simp [Value.ownBlock]
    · simp only [Value.ownBlock, ne_eq, Option.some.injEq]
      intro hgg
      subst hgg
      rw [hh1] at hh2
      injection hh2 with hh2
      injection hh2 with _ ht
      exact hne ht

theorem below_own {B : Nat} {w0 w w' : World} {b : Nat} {e : TypeId} {s n : Nat} {v : Value} {xs : List Value} (hb : Below B w0 w) (h : w.ownsRow b e s v n xs) (hg : w.grownBy w' v.ownBlock) (hB : B ≤ b) (hs : B ≤ w.heap.size) : Below B w0 w' :=
  hb.grown hg hs fun k hk => Nat.le_trans hB (h.lt k hk).1

theorem own_below {w w' : World} {b B : Nat} {e : TypeId} {s n : Nat} {v : Value} {xs : List Value} (h : w.ownsRow b e s v n xs) (hb : Below B w w') (hB : w.heap.size ≤ B) : w'.ownsRow b e s v n xs :=
  h.kept (row := none) ⟨hb.os, hb.tape, hb.output, hb.size, fun k hk _ => hb.block k (by omega)⟩ (by rcases h.2 with ⟨rfl, _⟩ | ⟨g, c, cur, rfl, _⟩ <;> simp [Value.ownBlock])

theorem own_more {w : World} {b b' : Nat} {e : TypeId} {s n : Nat} {v : Value} {xs : List Value} (h : w.ownsRow b e s v n xs) (hb : b' ≤ b) : w.ownsRow b' e s v n xs := by
  refine ⟨h.1, ?_⟩
  rcases h.2 with h0 | ⟨g, c, cur, hv, hg, r⟩
  · exact Or.inl h0
  · exact Or.inr ⟨g, c, cur, hv, by omega, r⟩

/-- A literal '[]T{..}' just laid is the call's own. -/
theorem own_lit (w : World) (base : Nat) (e : TypeId) (size n : Nat) (cs : Array Value) (hb : base ≤ w.heap.size) (hn : n ≤ 1000) (hs : cs.size = n * size) : (w.alloc (.cells cs e)).ownsRow base e size (.slice (some ⟨w.heap.size, 0, none⟩) n n) n cs.toList :=
  ⟨by simpa using hs, .inr ⟨_, n, cs, rfl, hb, block_new _ _, Nat.le_refl _, by unfold maxLen; omega, hs, List.take_of_length_le (by simp [hs])⟩⟩

section
variable {P : Program} {ops : Array Oper} {rest : List Oper} {o : Oper} {a : Act} {Q : Exit → Act → World → Prop}

/-- 's = append(s, x, ..)': s the call's own, the new elements just laid in a block of their own. -/
theorem wpList_app (W : World) (s x : Operand) (t : TypeId) (hgd : o.guard = none)
    (ho : o.op = .call { callee := .builtin .append, args := #[s, x], argTypes := #[t, t] })
    {e : TypeId} {z : Value} {size bytes : Nat} (hE : ElemOf P t e z size bytes) (base : Nat) (v : Value) (n : Nat) (xs : List Value) (hs : a.eval s = v) (hown : W.ownsRow base e size v n xs) (hbase : base ≤ W.heap.size)
    (news : Array Value) (m c : Nat) (e' : TypeId) (g : Nat) (hx : a.eval x = .slice (some ⟨g, 0, none⟩) m c) (hg : g = W.heap.size) (hl : news.size = m * size) (h1 : ∀ u ∈ news.toList, u.oneCell' = true) (hbytes : (n + m) * bytes ≤ 140737488355328)
    (h : ∀ v' w', w'.ownsRow base e size v' (n + m) (xs ++ news.toList) → W.grownBy w' v.ownBlock → wpList P ops Q rest (a.put o.dst v') w') : wpList P ops Q (o :: rest) a (W.alloc (.cells news e')) := by
  subst hg
  obtain ⟨i, hi, hz, hsz, hby⟩ := info_parts hE.info
  have h63 : n + m ≤ maxLen := by
    unfold maxLen
    have := Nat.le_mul_of_pos_right (n + m) hE.posb
    omega
  refine wpList_append_own (W.alloc (.cells news e')) hgd s x t ho base e i z size bytes hE.slice hi hz hsz hby hE.cells hE.pos v n xs hs (hown.alloc _) ⟨W.heap.size, 0, none⟩ m c news.toList hx (by simpa using hl) ?_ h1 h63 hbytes (by simp; omega) ?_
  · intro j u hj
    have hplain : (⟨W.heap.size, 0, none⟩ : Addr).add j = ⟨W.heap.size, j, none⟩ := by unfold Addr.add; split <;> simp_all
    rw [hplain, cell_block (block_new _ _), ← Array.getElem?_toList]
    exact hj
  · intro v' w' hown' hg _
    refine h v' w' hown' ⟨hg.os, hg.tape, hg.output, Nat.le_trans (by simp) hg.size, fun k hk hne => ?_⟩
    exact (hg.block k (by simp; omega) hne).trans (Below.heap_alloc W _ k hk)

theorem run_str {P : Program} (W : World) (src dst e : TypeId) (hs : P.underlying src = some (.slice e)) (he : P.underlying e = some (.int .u8)) (hd : P.underlying dst = some .string)
    {base : Nat} {v : Value} {bs : List UInt8} (hown : W.ownsRow base e 1 v bs.length (bs.map fun b => Value.int .u8 b.toNat)) : (convert src dst v).run P W = .ok (.string ⟨bs.toArray⟩) W := by
  rcases hown.2 with ⟨rfl, h0⟩ | ⟨g, cap, cur, rfl, _, _, _⟩
  · have : bs = [] := List.eq_nil_of_length_eq_zero h0
    subst this
    exact run_convert_bytes_nil W src e hs he 0 0 dst hd
  · rw [run_convert_bytes_arg W src e hs he g 0 bs.length cap (bs.map fun b => (b.toNat : Int)) (by simp) (fun i hi => by
      rw [Nat.zero_add, hown.cellAt i (by omega)]
      simp [List.getElem?_eq_getElem hi, List.getD]) dst hd]
    simp [strOfNums, Function.comp_def]

/-- 'string(b)': b the call's own row of bytes. -/
theorem wpList_str (W : World) (x : Operand) (src dst e : TypeId) (hgd : o.guard = none) (ho : o.op = .convert src dst x)
    (hs : P.underlying src = some (.slice e)) (he : P.underlying e = some (.int .u8)) (hd : P.underlying dst = some .string)
    (base : Nat) (v : Value) (bs : List UInt8) (hx : a.eval x = v) (hown : W.ownsRow base e 1 v bs.length (bs.map fun b => Value.int .u8 b.toNat))
    (h : wpList P ops Q rest (a.put o.dst (.string ⟨bs.toArray⟩)) W) : wpList P ops Q (o :: rest) a W := by
  have hrun := run_str W src dst e hs he hd hown
  refine wpList_plain hgd fun K hK => ?_
  unfold Oper.wp execOp
  simp only [ho, hx, hrun, Sem.run_bind, Sem.run_pure, Result.andThen_ok]
  exact hK _ _ h
end
theorem Sl.of_own1 {α : Type} {f : α → Value} {w : World} {l : List α} {base : Nat} {e : TypeId} {v : Value} (h : w.ownsRow base e 1 v l.length (l.map f)) : ∃ A c, v = .slice A l.length c ∧ l.length ≤ c ∧ Sl (One f) 1 w w.heap.size A l :=
  Sl.of_own (One.lays f) (by rw [flat_one]; exact h)
theorem own_eq {w : World} {base : Nat} {e : TypeId} {sz n n' : Nat} {v : Value} {xs xs' : List Value} (h : w.ownsRow base e sz v n xs) (hn : n = n') (hx : xs = xs') : w.ownsRow base e sz v n' xs' := by rw [← hn, ← hx]; exact h
theorem own_form {w : World} {base : Nat} {e : TypeId} {sz n : Nat} {v : Value} {xs : List Value} (h : w.ownsRow base e sz v n xs) : ∃ A c, v = .slice A n c := by
  rcases h.2 with ⟨rfl, rfl⟩ | ⟨g, cap, cur, rfl, _⟩
  · exact ⟨_, _, rfl⟩
  · exact ⟨_, _, rfl⟩
def lenOf : Value → Nat | .slice _ n _ => n | _ => 0
end Go.Proofs.YtdkppdjonlldhaaGreatDoor
