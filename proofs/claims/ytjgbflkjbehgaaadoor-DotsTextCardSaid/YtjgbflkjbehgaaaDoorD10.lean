/- Dots: '[]rune(s)' of the text of cells. -/
import Derived.Test.YtjgbflkjbehgaaaDoorD9
import Derived.Lib.DecodeN
namespace Go.Proofs.YtjgbflkjbehgaaaDoor
open Go.RowKit Go.Shelf

theorem brE_eq (b : UInt8) : brE b = [226, UInt8.ofNat (160 + b.toNat / 64), UInt8.ofNat (128 + b.toNat % 64)] := by
  have : ∀ n : Fin 256, Lib.encodeRune (10240 + ((n.val : Nat) : Int)) = [226, UInt8.ofNat (160 + n.val / 64), UInt8.ofNat (128 + n.val % 64)] := by decide +kernel
  exact this ⟨b.toNat, b.toNat_lt⟩
theorem get_bang (l : List UInt8) (k : Nat) (c : UInt8) (h : l[k]? = some c) : (⟨l.toArray⟩ : ByteArray).get! k = c := by
  obtain ⟨hk, rfl⟩ := List.getElem?_eq_some_iff.1 h
  show l.toArray[k]! = _
  simp [hk]
theorem decode_text (l : List UInt8) (j : Nat) (b : UInt8) (h : l[j]? = some b) : Utf8.decode ⟨(textL l).toArray⟩ (j * 3) = (10240 + b.toNat, 3) := by
  have hj := (List.getElem?_eq_some_iff.1 h).1
  have hb := b.toNat_lt
  have g := fun (t : Nat) (u : UInt8) (hu : (brE b)[t]? = some u) => get_bang (textL l) (j * 3 + t) u (flat_get8 l j b t u h hu)
  have g0 := g 0 226 (by rw [brE_eq]; rfl)
  have g1 := g 1 (UInt8.ofNat (160 + b.toNat / 64)) (by rw [brE_eq]; rfl)
  have g2 := g 2 (UInt8.ofNat (128 + b.toNat % 64)) (by rw [brE_eq]; rfl)
  have e1 : (UInt8.ofNat (160 + b.toNat / 64)).toNat = 160 + b.toNat / 64 := by rw [UInt8.toNat_ofNat']; omega
  have e2 : (UInt8.ofNat (128 + b.toNat % 64)).toNat = 128 + b.toNat % 64 := by rw [UInt8.toNat_ofNat']; omega
  have hs : (⟨(textL l).toArray⟩ : ByteArray).size = l.length * 3 := by rw [← textL_len]; rfl
  rw [Nat.add_zero] at g0
  rw [Lib.decode_at, g0, g1, g2, e1, e2, hs]
  generalize ((⟨(textL l).toArray⟩ : ByteArray).get! (j * 3 + 3)).toNat = b3
  have hn : l.length * 3 - j * 3 ≥ 3 := by omega
  generalize l.length * 3 - j * 3 = n at hn
  generalize b.toNat = m at hb
  unfold Lib.decodeN
  rw [if_neg (by decide), if_neg (by simp), if_pos (by refine ⟨by decide, ⟨by omega, by omega⟩, by omega, by omega⟩), if_pos (by have : (226 : UInt8).toNat = 226 := rfl; rw [this]; omega)]
  have : (226 : UInt8).toNat = 226 := rfl
  rw [this]
  congr 1
  omega
where
  flat_get8 (l : List UInt8) (j : Nat) (b : UInt8) (t : Nat) (u : UInt8) (h : l[j]? = some b) (hu : (brE b)[t]? = some u) : (textL l)[j * 3 + t]? = some u := by
    induction l generalizing j with
    | nil => simp at h
    | cons x l ih =>
      have ht : t < 3 := by have := (List.getElem?_eq_some_iff.1 hu).1; rw [brE_len] at this; exact this
      show (List.flatMap brE (x :: l))[j * 3 + t]? = _
      rw [List.flatMap_cons]
      cases j with
      | zero => simp at h; subst h; rw [List.getElem?_append_left (by rw [brE_len]; omega), Nat.zero_mul, Nat.zero_add]; exact hu
      | succ j => rw [List.getElem?_append_right (by rw [brE_len]; omega), brE_len, show (j + 1) * 3 + t - 3 = j * 3 + t by omega]; exact ih j (by simpa using h)

def runeV (b : UInt8) : Value := .int .i32 (10240 + (b.toNat : Int))
theorem runes_text (l : List UInt8) : ∀ (n j : Nat) (acc : Array Value), j ≤ l.length → l.length ≤ j + n → Conv.runesFrom ⟨(textL l).toArray⟩ n (j * 3) acc = acc ++ ((l.drop j).map runeV).toArray
  | 0, j, acc, h1, h2 => by
    rw [List.drop_of_length_le (by omega)]; simp [Conv.runesFrom]
  | n + 1, j, acc, h1, h2 => by
    have hs : (⟨(textL l).toArray⟩ : ByteArray).size = l.length * 3 := by rw [← textL_len]; rfl
    unfold Conv.runesFrom
    by_cases h : j < l.length
    · rw [if_pos (by rw [hs]; omega), decode_text l j l[j] (List.getElem?_eq_getElem h)]
      simp only
      rw [show j * 3 + 3 = (j + 1) * 3 by omega, runes_text l n (j + 1) _ (by omega) (by omega), List.drop_eq_getElem_cons h, List.map_cons]
      simp [runeV]
    · rw [if_neg (by rw [hs]; omega), List.drop_of_length_le (by omega)]
      simp

section
variable {P : Program} {ops : Array Oper} {rest : List Oper} {o : Oper} {a : Act} {Q : Exit → Act → World → Prop}
/-- '[]rune(s)' at the text of cells. -/
theorem wpList_runesT (W : World) (x : Operand) (src dst e : TypeId) (hgd : o.guard = none) (ho : o.op = .convert src dst x)
    (hs : P.underlying src = some .string) (hd : P.underlying dst = some (.slice e)) (he : P.underlying e = some (.int .i32)) (l : List UInt8) (hx : a.eval x = .string ⟨(textL l).toArray⟩) (hsz : l.length ≤ 200)
    (h : ∀ w' A c, Below W.heap.size W w' → Sl (One runeV) 1 w' w'.heap.size A l → l.length ≤ c → wpList P ops Q rest (a.put o.dst (.slice A l.length c)) w') : wpList P ops Q (o :: rest) a W := by
  have hall : Conv.runesFrom ⟨(textL l).toArray⟩ (⟨(textL l).toArray⟩ : ByteArray).size 0 #[] = (l.map runeV).toArray := by
    have hs : (⟨(textL l).toArray⟩ : ByteArray).size = l.length * 3 := by rw [← textL_len]; rfl
    have := runes_text l (l.length * 3) 0 #[] (Nat.zero_le _) (by omega)
    rw [hs]
    simpa using this
  have hlen : (Conv.runesFrom ⟨(textL l).toArray⟩ (⟨(textL l).toArray⟩ : ByteArray).size 0 #[]).size = l.length := by rw [hall]; simp
  have hrun := run_runes_of_string (P := P) W src dst e ⟨(textL l).toArray⟩ hs hd he (by rw [hlen]; omega)
  rw [hlen, hall] at hrun
  have hge := grownCap_ge W l.length 0 e
  refine wpList_plain hgd fun K hK => ?_
  unfold Oper.wp execOp
  simp only [ho, hx, hrun, Sem.run_bind, Sem.run_pure, Result.andThen_ok]
  refine hK _ _ (h _ _ _ ((Below.refl _ W).drew.alloc (Nat.le_refl _) _) ?_ hge)
  refine fun _ => ⟨W.heap.size, 0, rfl, by simp, fun k r hk => ?_⟩
  refine (cell_block (w := W.drew.alloc _) (b := W.heap.size) (block_new W.drew _) _).trans ?_
  have hkl : k < l.length := (List.getElem?_eq_some_iff.1 hk).1
  rw [Nat.zero_add, Nat.mul_one, Array.getElem?_append_left (by simpa using hkl)]
  simp [hk]
end
end Go.Proofs.YtjgbflkjbehgaaaDoor
