/- Append, more: one element in a region that draws its order; the elements of another slice. -/
import Derived.Test.YtdkppdjonlldhaaGreatDoorMem2
import Derived.Deep.AppendLies
namespace Go.Proofs.YtdkppdjonlldhaaGreatDoor
open Go.RowKit

section
variable {P : Program}
/-- 's = append(s, x)' in a region that draws its order: s the call's own, x just laid. -/
theorem step_app {ops : Array Oper} {o : Oper} {a : Act} {K : Act → World → Prop} {Q : Exit → Act → World → Prop} {E : Prop} {t e : TypeId} {z : Value} {size bytes : Nat} (hE : ElemOf P t e z size bytes) (W : World) (s x : Operand) (hgd : o.guard = none)
    (ho : o.op = .call { callee := .builtin .append, args := #[s, x], argTypes := #[t, t] }) (base : Nat) (v : Value) (n : Nat) (xs : List Value) (hs : a.eval s = v)
    (hown : W.ownsRow base e size v n xs) (hbase : base ≤ W.heap.size) (hn : (n + 1) * bytes ≤ 140737488355328) (news : List Value) (hl : news.length = size) (h1 : ∀ u ∈ news, u.oneCell' = true) (hx : a.eval x = .slice (some ⟨W.heap.size, 0, none⟩) 1 1)
    (h : ∀ g cap w', w'.ownsRow base e size (.slice (some ⟨g, 0, none⟩) (n + 1) cap) (n + 1) (xs ++ news) → (W.alloc (.cells news.toArray e)).grownBy w' v.ownBlock → K (a.put o.dst (.slice (some ⟨g, 0, none⟩) (n + 1) cap)) w') :
    if Region.wanted o (yielded ops a.tmps) = true then Oper.wp P o a (W.alloc (.cells news.toArray e)) K Q else E := by
  obtain ⟨ti, hti, htz, htsz, htby⟩ := info_parts hE.info
  have h63 : n + 1 ≤ maxLen := by
    unfold maxLen
    have := Nat.le_mul_of_pos_right (n + 1) hE.posb
    omega
  refine step_append_lies _ hgd s x t ho base e ti z size bytes hE.slice hti htz htsz htby hE.cells hE.pos v n xs hs (hown.alloc _) _ 1 1 news hx (by omega)
    (World.news_of_block (block_new W _)) h1 (by omega) h63 hn (by simp; omega) _ rfl ?_
  intro g cap w' h1 h2 _ _
  exact h g cap w' h1 h2

variable {ops : Array Oper} {rest : List Oper} {o : Oper} {a : Act} {Q : Exit → Act → World → Prop}
/-- 's = append(s, t...)': s the call's own, t a slice that lies in memory. -/
theorem wpList_apps (W : World) (s x : Operand) (t : TypeId) (hgd : o.guard = none)
    (ho : o.op = .call { callee := .builtin .append, args := #[s, x], argTypes := #[t, t] })
    {e : TypeId} {z : Value} {size bytes : Nat} (hE : ElemOf P t e z size bytes) (base : Nat) (v : Value) (n : Nat) (xs : List Value) (hs : a.eval s = v) (hown : W.ownsRow base e size v n xs) (hbase : base ≤ W.heap.size)
    (b off m c : Nat) (news : List Value) (hx : a.eval x = .slice (some ⟨b, off, none⟩) m c) (hl : news.length = m * size) (hc : ∀ j u, news[j]? = some u → W.cell? ⟨b, off + j, none⟩ = some u) (h1 : ∀ u ∈ news, u.oneCell' = true) (hbytes : (n + m) * bytes ≤ 140737488355328)
    (h : ∀ v' w', w'.ownsRow base e size v' (n + m) (xs ++ news) → W.grownBy w' v.ownBlock → wpList P ops Q rest (a.put o.dst v') w') : wpList P ops Q (o :: rest) a W := by
  obtain ⟨i, hi, hz, hsz, hby⟩ := info_parts hE.info
  have h63 : n + m ≤ maxLen := by
    unfold maxLen
    have := Nat.le_mul_of_pos_right (n + m) hE.posb
    omega
  refine wpList_append_own W hgd s x t ho base e i z size bytes hE.slice hi hz hsz hby hE.cells hE.pos v n xs hs hown ⟨b, off, none⟩ m c news hx hl ?_ h1 h63 hbytes hbase ?_
  · intro j u hj
    have hplain : (⟨b, off, none⟩ : Addr).add j = ⟨b, off + j, none⟩ := by unfold Addr.add; split <;> simp_all
    rw [hplain]
    exact hc j u hj
  · intro v' w' hown' hg _
    exact h v' w' hown' hg
end

/-- The cells of a list of elements, one by one. -/
theorem flat_cells {α : Type} {enc : α → List Value} {sz : Nat} (hlen : ∀ x, (enc x).length = sz) : ∀ (l : List α) (P : Nat → Value → Prop), (∀ k x, l[k]? = some x → ∀ j u, (enc x)[j]? = some u → P (k * sz + j) u) → ∀ j u, (l.flatMap enc)[j]? = some u → P j u
  | [], _, _, j, u, h => by simp at h
  | x :: l, P, hP, j, u, h => by
    rw [List.flatMap_cons] at h
    by_cases hj : j < sz
    · rw [List.getElem?_append_left (by rw [hlen]; exact hj)] at h
      have := hP 0 x rfl j u h
      simpa using this
    · rw [List.getElem?_append_right (by rw [hlen]; omega), hlen] at h
      have := flat_cells hlen l (fun j u => P (sz + j) u) (fun k y hy i v hv => by
        have := hP (k + 1) y hy i v hv
        rwa [show (k + 1) * sz + i = sz + (k * sz + i) by rw [Nat.add_mul]; omega] at this) (j - sz) u h
      rwa [show sz + (j - sz) = j by omega] at this
theorem GlRow.cells {w : World} {B b off : Nat} {l : List Gl} (h : GlRow w B (some ⟨b, off, none⟩) l) : ∀ j u, (l.flatMap Gl.enc)[j]? = some u → w.cell? ⟨b, off + j, none⟩ = some u := by
  by_cases h0 : 0 < l.length
  · obtain ⟨b', off', hA, hb, hc⟩ := h h0
    cases hA
    refine flat_cells (sz := 3) (fun _ => rfl) l (fun j u => w.cell? ⟨b, off + j, none⟩ = some u) fun k x hx j u hj => ?_
    obtain ⟨c0, c1, c2⟩ := hc k x hx
    match j, hj with
    | 0, hj => cases hj; exact c0
    | 1, hj => cases hj; rw [← Nat.add_assoc]; exact c1
    | 2, hj => cases hj; rw [← Nat.add_assoc]; exact c2
    | j + 3, hj => simp [Gl.enc] at hj
  · intro j u hj
    have : l = [] := List.eq_nil_of_length_eq_zero (by omega)
    subst this
    simp at hj
theorem gl_one (l : List Gl) : ∀ u ∈ l.flatMap Gl.enc, u.oneCell' = true := by
  intro u hu
  rw [List.mem_flatMap] at hu
  obtain ⟨g, -, hg⟩ := hu
  simp only [Gl.enc, List.mem_cons, List.mem_nil_iff, or_false] at hg
  rcases hg with rfl | rfl | rfl <;> rfl
end Go.Proofs.YtdkppdjonlldhaaGreatDoor
