/- Joined: P7, P8, P9, OpSs, L10. -/
import Derived.Test.YtmgepckhdgoemaaDoorR0
import Derived.Test.YtmgepckhdgoemaaDoorR9
import Derived.Shelf.Strings.Repeat
import Derived.Shelf.Strings.Search3
import Derived.Shelf.Strings.SlTrimAscii
import Derived.Test.YtmgepckhdgoemaaDoorOpen
import Derived.Deep.OwnRows
import Derived.Deep.RegionHeld3
import Derived.Deep.DeepCutAuto
/- Tables, in plain words: a text laid out in columns, and its columns. -/
namespace Go.Proofs.YtmgepckhdgoemaaDoor

/-- A line of cells, each filled up to its column's width and G more. -/
def lineL (G : Nat) : List Nat → List (List UInt8) → List UInt8
  | w :: ws, c :: cs => c ++ List.replicate (w - c.length + G) 32 ++ lineL G ws cs
  | _, _ => []
def offL (G : Nat) : List Nat → Nat → Nat
  | _, 0 => 0
  | [], _ + 1 => 0
  | w :: ws, k + 1 => w + G + offL G ws k
theorem offL_succ (G : Nat) : ∀ (ws : List Nat) (k w : Nat), ws[k]? = some w → offL G ws (k + 1) = offL G ws k + w + G
  | [], k, w, h => by simp at h
  | x :: ws, 0, w, h => by
    simp at h
    subst h
    cases ws <;> simp [offL]
  | x :: ws, k + 1, w, h => by
    rw [List.getElem?_cons_succ] at h
    have := offL_succ G ws k w h
    show x + G + offL G ws (k + 1) = x + G + offL G ws k + w + G
    omega
theorem lineL_get (G : Nat) : ∀ (ws : List Nat) (cs : List (List UInt8)) (k w : Nat) (c : List UInt8) (d : Nat), (∀ (j : Nat) (c : List UInt8) (w : Nat), cs[j]? = some c → ws[j]? = some w → c.length ≤ w) → ws[k]? = some w → cs[k]? = some c → cs.length = ws.length → d < w + G →
    (lineL G ws cs)[offL G ws k + d]? = some (c.getD d 32)
  | [], _, k, w, c, d, _, h, _, _, _ => by simp at h
  | x :: ws, [], k, w, c, d, _, _, h, _, _ => by simp at h
  | x :: ws, y :: cs, 0, w, c, d, hle, h1, h2, h3, h4 => by
    simp only [List.getElem?_cons_zero, Option.some.injEq] at h1 h2
    subst h1 h2
    have hl := hle 0 y x rfl rfl
    show (y ++ List.replicate (x - y.length + G) 32 ++ lineL G ws cs)[0 + d]? = _
    rw [Nat.zero_add, List.getElem?_append_left (by rw [List.length_append, List.length_replicate]; omega)]
    by_cases hd : d < y.length
    · rw [List.getElem?_append_left hd, List.getD_eq_getElem?_getD, List.getElem?_eq_getElem hd]; rfl
    · rw [List.getElem?_append_right (by omega), List.getElem?_replicate, if_pos (by omega), List.getD_eq_getElem?_getD, List.getElem?_eq_none (by omega)]; rfl
  | x :: ws, y :: cs, k + 1, w, c, d, hle, h1, h2, h3, h4 => by
    rw [List.getElem?_cons_succ] at h1 h2
    have hl := hle 0 y x rfl rfl
    have ih := lineL_get G ws cs k w c d (fun j c w hc hw => hle (j + 1) c w (by rw [List.getElem?_cons_succ]; exact hc) (by rw [List.getElem?_cons_succ]; exact hw)) h1 h2 (by simpa using h3) h4
    show (y ++ List.replicate (x - y.length + G) 32 ++ lineL G ws cs)[x + G + offL G ws k + d]? = _
    rw [List.getElem?_append_right (by rw [List.length_append, List.length_replicate]; omega)]
    rw [show x + G + offL G ws k + d - (y ++ List.replicate (x - y.length + G) (32 : UInt8)).length = offL G ws k + d by rw [List.length_append, List.length_replicate]; omega]
    exact ih
theorem lineL_len (G : Nat) : ∀ (ws : List Nat) (cs : List (List UInt8)), (∀ (j : Nat) (c : List UInt8) (w : Nat), cs[j]? = some c → ws[j]? = some w → c.length ≤ w) → cs.length = ws.length → (lineL G ws cs).length = offL G ws ws.length
  | [], [], _, _ => rfl
  | [], _ :: _, _, h => by simp at h
  | _ :: _, [], _, h => by simp at h
  | x :: ws, y :: cs, hle, h => by
    have hl := hle 0 y x rfl rfl
    have ih := lineL_len G ws cs (fun j c w hc hw => hle (j + 1) c w (by rw [List.getElem?_cons_succ]; exact hc) (by rw [List.getElem?_cons_succ]; exact hw)) (by simpa using h)
    show (y ++ List.replicate (x - y.length + G) 32 ++ lineL G ws cs).length = x + G + offL G ws ws.length
    rw [List.length_append, List.length_append, List.length_replicate, ih]
    omega

/-- A column that has no two free cells side by side, and none at its ends, is one column. -/
theorem parts_block (f : Nat → Bool) (a w : Nat) (hw : 0 < w) (ps : List (Nat × Nat)) (hp : partsTo f a = ps) (hsep : ∀ qs x y, ps = qs ++ [(x, y)] → y + 2 ≤ a) (h0 : f a = false) (h2 : ∀ d, d + 1 < w → ¬ (f (a + d) = true ∧ f (a + d + 1) = true)) :
    ∀ d, d < w → partsTo f (a + d + 1) = ps ++ [(a, if f (a + d) = true then a + d else a + d + 1)]
  | 0, _ => by
    show partStep (partsTo f a) a (f a) = _
    rw [hp, h0, Nat.add_zero, h0, if_neg (by simp)]
    rcases snoc_cases ps with h | ⟨qs, ⟨x, y⟩, h⟩
    · rw [h, partStep_nil]; rfl
    · rw [h, partStep_far (by have := hsep qs x y h; omega)]
  | d + 1, hd => by
    have ih := parts_block f a w hw ps hp hsep h0 h2 d (by omega)
    show partStep (partsTo f (a + (d + 1))) (a + (d + 1)) (f (a + (d + 1))) = _
    rw [show a + (d + 1) = a + d + 1 by omega, ih]
    have hno := h2 d hd
    cases hf : f (a + d + 1) with
    | true =>
      have hf0 : f (a + d) = false := by
        cases h : f (a + d) with
        | false => rfl
        | true => exact absurd ⟨h, hf⟩ hno
      rw [partStep_free, hf0, if_neg (by simp), if_pos rfl]
    | false =>
      cases hf0 : f (a + d) with
      | true => rw [if_pos rfl, partStep_near (by omega), if_neg (by simp)]
      | false => rw [if_neg (by simp), partStep_near (by omega)]; simp
theorem parts_gap (f : Nat → Bool) (b : Nat) : ∀ d, (∀ c, b ≤ c → c < b + d → f c = true) → partsTo f (b + d) = partsTo f b
  | 0, _ => rfl
  | d + 1, h => by
    show partStep (partsTo f (b + d)) (b + d) (f (b + d)) = _
    rw [h (b + d) (by omega) (by omega), partStep_free]
    exact parts_gap f b d fun c h1 h2 => h c h1 (by omega)

/-- A text's cell as the statement wants it. -/
structure GoodC (c : List UInt8) : Prop where
  ne : c ≠ []
  small : c.length ≤ 12
  bare : bare c = true
  dbl : ∀ d : Nat, c[d]? = some 32 → c[d + 1]? = some 32 → False
  ok : ∀ b ∈ c, b = 32 ∨ (97 ≤ b.toNat ∧ b.toNat ≤ 122) ∨ (48 ≤ b.toNat ∧ b.toNat ≤ 57)
structure RecT (T : List (List (List UInt8))) (ws : List Nat) (G : Nat) : Prop where
  n2 : 2 ≤ T.length
  m2 : 2 ≤ ws.length
  G2 : 2 ≤ G
  m : ∀ cs ∈ T, cs.length = ws.length
  good : ∀ cs ∈ T, ∀ c ∈ cs, GoodC c
  le : ∀ cs ∈ T, ∀ (k : Nat) (c : List UInt8) (w : Nat), cs[k]? = some c → ws[k]? = some w → c.length ≤ w
  att : ∀ k w : Nat, ws[k]? = some w → ∃ cs ∈ T, ∃ c : List UInt8, cs[k]? = some c ∧ c.length = w
/-- Whether all lines have a space in a column. -/
def freeL (T : List (List (List UInt8))) (ws : List Nat) (G : Nat) (c : Nat) : Bool := T.all fun cs => (lineL G ws cs).getD c 32 == 32
def colsL (G : Nat) (ws : List Nat) (k : Nat) : List (Nat × Nat) := (List.range k).map fun j => (offL G ws j, offL G ws j + ws.getD j 0)
theorem RecT.at {T : List (List (List UInt8))} {ws : List Nat} {G : Nat} (h : RecT T ws G) {cs : List (List UInt8)} (hcs : cs ∈ T) {k w : Nat} {c : List UInt8} (hw : ws[k]? = some w) (hc : cs[k]? = some c) {d : Nat} (hd : d < w + G) :
    (lineL G ws cs).getD (offL G ws k + d) 32 = c.getD d 32 := by
  rw [List.getD_eq_getElem?_getD, lineL_get G ws cs k w c d (h.le cs hcs) hw hc (h.m cs hcs) hd]; rfl
theorem RecT.cell {T : List (List (List UInt8))} {ws : List Nat} {G : Nat} (h : RecT T ws G) {cs : List (List UInt8)} (hcs : cs ∈ T) {k w : Nat} (hw : ws[k]? = some w) : ∃ c, cs[k]? = some c ∧ GoodC c ∧ c.length ≤ w := by
  have hk : k < cs.length := by rw [h.m cs hcs]; exact (List.getElem?_eq_some_iff.1 hw).1
  exact ⟨cs[k], List.getElem?_eq_getElem hk, h.good cs hcs _ (List.getElem_mem hk), h.le cs hcs k _ w (List.getElem?_eq_getElem hk) hw⟩
theorem GoodC.first {c : List UInt8} (h : GoodC c) : c.getD 0 32 ≠ 32 := by
  have hb := h.bare
  unfold Go.Proofs.YtmgepckhdgoemaaDoor.bare at hb
  rw [Bool.and_eq_true, decide_eq_true_eq] at hb
  cases c with
  | nil => exact absurd rfl h.ne
  | cons x r => simpa using hb.1
theorem GoodC.last {c : List UInt8} (h : GoodC c) {w : Nat} (hw : c.length = w + 1) : c.getD w 32 ≠ 32 := by
  have hb := h.bare
  unfold Go.Proofs.YtmgepckhdgoemaaDoor.bare at hb
  rw [Bool.and_eq_true, decide_eq_true_eq, decide_eq_true_eq, List.getLast?_eq_getElem?, hw, Nat.add_sub_cancel] at hb
  rw [List.getD_eq_getElem?_getD, List.getElem?_eq_getElem (by omega)]
  intro h2
  apply hb.2
  rw [List.getElem?_eq_getElem (by omega)]
  exact congrArg some h2
theorem RecT.parts {T : List (List (List UInt8))} {ws : List Nat} {G : Nat} (h : RecT T ws G) : ∀ k, k ≤ ws.length → partsTo (freeL T ws G) (offL G ws k) = colsL G ws k
  | 0, _ => by cases ws <;> rfl
  | k + 1, hk => by
    have ih := h.parts k (by omega)
    have hwk : ws[k]? = some ws[k] := List.getElem?_eq_getElem (by omega)
    obtain ⟨w, hw⟩ : ∃ w, ws[k] = w := ⟨_, rfl⟩
    rw [hw] at hwk
    obtain ⟨ca, hca, c, hc, hcw⟩ := h.att k w hwk
    have hg := h.good ca hca c (List.mem_of_getElem? hc)
    have hG2 := h.G2
    have hw0 : 0 < w := by rw [← hcw]; exact List.length_pos_iff.2 hg.ne
    have hno : ∀ d, d < w + G → c.getD d 32 ≠ 32 → freeL T ws G (offL G ws k + d) = false := fun d hd hne => by
      unfold freeL
      rw [List.all_eq_false]
      exact ⟨ca, hca, by rw [h.at hca hwk hc hd]; simpa using hne⟩
    have hb := parts_block (freeL T ws G) (offL G ws k) w hw0 (colsL G ws k) ih (fun qs x y hq => by
      have hl := congrArg List.getLast? hq
      unfold colsL at hl
      rw [List.getLast?_concat, List.getLast?_map] at hl
      cases k with
      | zero => simp at hl
      | succ j =>
        rw [List.range_succ, List.getLast?_concat] at hl
        have hwj : ws[j]? = some ws[j] := List.getElem?_eq_getElem (by omega)
        have ho := offL_succ G ws j _ hwj
        have hgd : ws.getD j 0 = ws[j] := by rw [List.getD_eq_getElem?_getD, hwj]; rfl
        simp only [Option.map_some, Option.some.injEq, Prod.mk.injEq] at hl
        rw [hgd] at hl
        omega) (by have := hno 0 (by omega) hg.first; rwa [Nat.add_zero] at this) (fun d hd ⟨h1, h2⟩ => by
      have e1 : c.getD d 32 = 32 := by
        by_cases hne : c.getD d 32 = 32
        · exact hne
        · rw [hno d (by omega) hne] at h1; cases h1
      have e2 : c.getD (d + 1) 32 = 32 := by
        by_cases hne : c.getD (d + 1) 32 = 32
        · exact hne
        · rw [Nat.add_assoc, hno (d + 1) (by omega) hne] at h2; cases h2
      rw [List.getD_eq_getElem?_getD, List.getElem?_eq_getElem (by omega)] at e1 e2
      exact hg.dbl d (by rw [List.getElem?_eq_getElem (by omega)]; exact congrArg some e1) (by rw [List.getElem?_eq_getElem (by omega)]; exact congrArg some e2)) (w - 1) (by omega)
    have hlast := hno (w - 1) (by omega) (hg.last (by omega))
    rw [hlast, if_neg (by simp), show offL G ws k + (w - 1) + 1 = offL G ws k + w by omega] at hb
    have hgap := parts_gap (freeL T ws G) (offL G ws k + w) G (fun x h1 h2 => by
      obtain ⟨d, rfl⟩ : ∃ d, x = offL G ws k + d := ⟨x - offL G ws k, by omega⟩
      unfold freeL
      rw [List.all_eq_true]
      intro cs hcs
      obtain ⟨c', hc', -, hle⟩ := h.cell hcs hwk
      rw [h.at hcs hwk hc' (by omega), List.getD_eq_getElem?_getD, List.getElem?_eq_none (by omega)]; rfl)
    rw [offL_succ G ws k w hwk, hgap, hb]
    unfold colsL
    rw [List.range_succ, List.map_append]
    simp [List.getD_eq_getElem?_getD, hwk]
end Go.Proofs.YtmgepckhdgoemaaDoor

/- Tables, in plain words: the view of lines laid out in columns. -/
namespace Go.Proofs.YtmgepckhdgoemaaDoor

def okB (b : UInt8) : Prop := b = 32 ∨ (97 ≤ b.toNat ∧ b.toNat ≤ 122) ∨ (48 ≤ b.toNat ∧ b.toNat ≤ 57)
/-- The glyph of a byte. -/
def gB (b : UInt8) : Gl := ⟨⟨#[b]⟩, false, 0⟩
theorem textRow_eq (s : ByteArray) : textRow s = s.data.toList.map gB := by
  unfold textRow
  apply List.ext_getElem
  · simp
  · intro i h1 h2
    simp only [List.getElem_map, List.getElem_range, chG, gB]
    have hi : i < s.data.toList.length := by simpa using h2
    congr 1
    apply ByteArray.ext
    apply Array.ext'
    show (s.extract i (i + 1)).data.toList = [s.data.toList[i]]
    rw [Lib.extract_data, show i + 1 - i = 1 by omega, List.drop_eq_getElem_cons hi]
    rfl
theorem space_gB (b : UInt8) : spaceB (gB b) = (b == 32) := by
  unfold spaceB gB
  rw [ByteArray.toList_eq]
  show ([b] == [32]) = _
  cases h : b == 32 with
  | true => rw [beq_iff_eq] at h; subst h; rfl
  | false => rw [beq_eq_false_iff_ne] at h ⊢; intro h2; exact h (List.head_eq_of_cons_eq h2)
theorem blank_gB (b : UInt8) : isBlank (gB b) = (b == 32) := by
  have := space_gB b
  unfold spaceB at this
  unfold isBlank
  rw [this]
  show ((b == 32) && !false && ((0 : Int) == 0)) = _
  simp
theorem err_all : ∀ n, n < 256 → (n = 32 ∨ (97 ≤ n ∧ n ≤ 122) ∨ (48 ≤ n ∧ n ≤ 57)) → glErr (gB (UInt8.ofNat n)) = 0 := by decide +kernel
theorem err_gB {b : UInt8} (h : okB b) : glErr (gB b) = 0 := by
  have := err_all b.toNat (UInt8.toNat_lt b) (by
    rcases h with h | h | h
    · left; rw [h]; rfl
    · exact .inr (.inl h)
    · exact .inr (.inr h))
  rwa [UInt8.ofNat_toNat] at this
theorem wide_gB (l : List UInt8) : ∀ g ∈ l.map gB, glW g = 1 := by
  intro g hg
  obtain ⟨b, -, rfl⟩ := List.mem_map.1 hg
  rfl
theorem widthOf_narrow : ∀ l : List Gl, (∀ g ∈ l, glW g = 1) → widthOf l = l.length
  | [], _ => rfl
  | g :: l, hg => by
    have e1 : widthOf (g :: l) = glW g + widthOf l := by simp [widthOf]
    rw [e1, hg g (by simp), widthOf_narrow l fun x hx => hg x (by simp [hx]), List.length_cons, Nat.add_comm]
theorem trimR_split (l : List Gl) : ∃ t, l = trimR l ++ t ∧ ∀ g ∈ t, isBlank g = true := by
  unfold trimR
  refine ⟨(l.reverse.takeWhile isBlank).reverse, ?_, fun g hg => ?_⟩
  · rw [← List.reverse_append, List.takeWhile_append_dropWhile, List.reverse_reverse]
  · rw [List.mem_reverse] at hg
    exact List.all_eq_true.1 List.all_takeWhile _ hg
theorem trimR_last (l : List Gl) : lastBlank (trimR l) = false := by
  unfold lastBlank trimR
  rw [List.getLast?_reverse]
  have := List.head?_dropWhile_not (p := isBlank) l.reverse
  cases h : (l.reverse.dropWhile isBlank).head? with
  | none => rfl
  | some g => rw [h] at this; simpa using this
theorem blank_space {g : Gl} (h : isBlank g = true) : spaceB g = true := by
  unfold isBlank at h
  rw [Bool.and_eq_true, Bool.and_eq_true] at h
  exact h.1.1
/-- A line as the view holds it. -/
def rowL (l : List UInt8) : List Gl := trimR (l.map gB)
theorem rowL_sub (l : List UInt8) : ∃ q, rowL l = (l.take q).map gB ∧ q ≤ l.length ∧ ∀ c, q ≤ c → l.getD c 32 = 32 := by
  obtain ⟨t, ht, hb⟩ := trimR_split (l.map gB)
  have hpre : (l.map gB).take (rowL l).length = rowL l := by
    conv => lhs; rw [ht]
    exact List.take_left' rfl
  have hlen : (rowL l).length ≤ l.length := by
    have := congrArg List.length ht
    rw [List.length_map, List.length_append] at this
    unfold rowL
    omega
  refine ⟨(rowL l).length, by rw [← List.map_take] at hpre; exact hpre.symm, hlen, fun c hc => ?_⟩
  rw [List.getD_eq_getElem?_getD]
  by_cases hcl : c < l.length
  · rw [List.getElem?_eq_getElem hcl]
    have hm : gB l[c] ∈ t := by
      have h1 : (l.map gB)[c]? = some (gB l[c]) := by rw [List.getElem?_map, List.getElem?_eq_getElem hcl]; rfl
      rw [ht, List.getElem?_append_right (show (trimR (l.map gB)).length ≤ c from hc)] at h1
      exact List.mem_of_getElem? h1
    have := hb _ hm
    rw [blank_gB, beq_iff_eq] at this
    simpa using this
  · rw [List.getElem?_eq_none (by omega)]; rfl
theorem bk_rowL (l : List UInt8) (c : Nat) : bk (rowL l) c = (l.getD c 32 == 32) := by
  obtain ⟨q, hq, hql, hsp⟩ := rowL_sub l
  unfold bk
  rw [colsOf_narrow _ (by rw [hq]; exact wide_gB _), hq, List.map_map, List.getElem?_map]
  by_cases hc : c < q
  · rw [List.getElem?_take_of_lt hc, List.getElem?_eq_getElem (by omega), List.getD_eq_getElem?_getD, List.getElem?_eq_getElem (by omega)]
    exact space_gB _
  · rw [List.getElem?_eq_none (by rw [List.length_take]; omega), hsp c (by omega)]; rfl
theorem rowL_err {l : List UInt8} (h : ∀ b ∈ l, okB b) {W : Int} (hW : (l.length : Int) ≤ W) : rowErr W (rowL l) = 0 := by
  obtain ⟨q, hq, hql, -⟩ := rowL_sub l
  have hg : firstErr glErr (rowL l) = 0 := by
    have : ∀ (l : List Gl), (∀ g ∈ l, glErr g = 0) → firstErr glErr l = 0 := fun l => by
      induction l with
      | nil => intro _; rfl
      | cons g l ih =>
        intro hl
        unfold firstErr
        rw [if_neg (by simp [hl g (by simp)])]
        exact ih fun x hx => hl x (by simp [hx])
    refine this _ fun g hg => ?_
    rw [hq] at hg
    obtain ⟨b, hb, rfl⟩ := List.mem_map.1 hg
    exact err_gB (h b (List.mem_of_mem_take hb))
  have hw : widthOf (rowL l) ≤ l.length := by
    rw [widthOf_narrow _ (by rw [hq]; exact wide_gB _), hq, List.length_map, List.length_take]; omega
  unfold rowErr
  rw [if_neg (by simp [hg]), if_neg (by omega), if_neg (by rw [show lastBlank (rowL l) = false from trimR_last _]; simp)]

theorem lineL_ok (G : Nat) : ∀ (ws : List Nat) (cs : List (List UInt8)), (∀ c ∈ cs, ∀ b ∈ c, okB b) → ∀ b ∈ lineL G ws cs, okB b
  | [], _, _, b, h => by simp [lineL] at h
  | _ :: _, [], _, b, h => by simp [lineL] at h
  | w :: ws, c :: cs, hok, b, h => by
    have h' : b ∈ c ++ List.replicate (w - c.length + G) 32 ++ lineL G ws cs := h
    rw [List.mem_append, List.mem_append] at h'
    rcases h' with (h' | h') | h'
    · exact hok c (by simp) b h'
    · exact .inl (List.mem_replicate.1 h').2
    · exact lineL_ok G ws cs (fun c hc => hok c (by simp [hc])) b h'
theorem offL_bd (G : Nat) (hG : G ≤ 5) : ∀ (ws : List Nat), (∀ w ∈ ws, w ≤ 12) → ∀ k, k ≤ ws.length → offL G ws k ≤ 17 * k
  | _, _, 0, _ => by simp [offL]
  | [], _, k + 1, h => by simp at h
  | w :: ws, hw, k + 1, h => by
    have h1 := hw w (by simp)
    have h2 := offL_bd G hG ws (fun x hx => hw x (by simp [hx])) k (by simpa using h)
    show w + G + offL G ws k ≤ _
    omega
/-- The view of the lines. -/
def recV (T : List (List (List UInt8))) (ws : List Nat) (G : Nat) : Vw := ⟨offL G ws ws.length, T.length, T.map fun cs => rowL (lineL G ws cs), 0, 0, true⟩
structure RecB (T : List (List (List UInt8))) (ws : List Nat) (G : Nat) : Prop extends RecT T ws G where
  n6 : T.length ≤ 6
  m5 : ws.length ≤ 5
  G5 : G ≤ 5
theorem RecB.w12 {T : List (List (List UInt8))} {ws : List Nat} {G : Nat} (h : RecB T ws G) : ∀ w ∈ ws, w ≤ 12 := fun w hw => by
  obtain ⟨k, hk, rfl⟩ := List.getElem_of_mem hw
  obtain ⟨cs, hcs, c, hc, he⟩ := h.att k _ (List.getElem?_eq_getElem hk)
  rw [← he]
  exact (h.good cs hcs c (List.mem_of_getElem? hc)).small
theorem RecB.okL {T : List (List (List UInt8))} {ws : List Nat} {G : Nat} (h : RecB T ws G) {cs : List (List UInt8)} (hcs : cs ∈ T) : ∀ b ∈ lineL G ws cs, okB b :=
  lineL_ok G ws cs fun c hc b hb => (h.good cs hcs c hc).ok b hb
theorem RecB.len {T : List (List (List UInt8))} {ws : List Nat} {G : Nat} (h : RecB T ws G) {cs : List (List UInt8)} (hcs : cs ∈ T) : (lineL G ws cs).length = offL G ws ws.length := lineL_len G ws cs (h.le cs hcs) (h.m cs hcs)
theorem RecB.W {T : List (List (List UInt8))} {ws : List Nat} {G : Nat} (h : RecB T ws G) : 2 ≤ offL G ws ws.length ∧ offL G ws ws.length ≤ 85 := by
  have h1 := offL_bd G h.G5 ws h.w12 ws.length (Nat.le_refl _)
  have h5 := h.m5
  have h2 := h.m2
  have hG := h.G2
  obtain ⟨j, hj⟩ : ∃ j, ws.length = j + 1 := ⟨ws.length - 1, by omega⟩
  have h3 := offL_succ G ws j _ (List.getElem?_eq_getElem (show j < ws.length by omega))
  rw [hj] at h1 h2 h5 ⊢
  omega
theorem RecB.ok {T : List (List (List UInt8))} {ws : List Nat} {G : Nat} (h : RecB T ws G) : (recV T ws G).ok = true := by
  obtain ⟨w1, w2⟩ := h.W
  have n1 := h.n2
  have n2 := h.n6
  unfold Vw.ok Vw.err
  have e1 : sizedB (recV T ws G).width (recV T ws G).height = true := by
    show sizedB (offL G ws ws.length : Nat) (T.length : Nat) = true
    unfold sizedB; simp; omega
  have e2 : ((recV T ws G).rows.length : Int) = (recV T ws G).height := by unfold recV; simp
  have e3 : (recV T ws G).curB = false := by
    show (((decide ((0 : Int) < 0) || decide (((T.length : Nat) : Int) ≤ 0)) || decide ((0 : Int) < 0)) || decide (((offL G ws ws.length : Nat) : Int) ≤ 0)) = false
    have a1 : decide (((T.length : Nat) : Int) ≤ 0) = false := decide_eq_false (by omega)
    have a2 : decide (((offL G ws ws.length : Nat) : Int) ≤ 0) = false := decide_eq_false (by omega)
    rw [a1, a2]; rfl
  have e4 : firstErr (rowErr (recV T ws G).width) (recV T ws G).rows = 0 := by
    have : ∀ (l : List (List Gl)) (f : List Gl → Int), (∀ g ∈ l, f g = 0) → firstErr f l = 0 := fun l f => by
      induction l with
      | nil => intro _; rfl
      | cons g l ih =>
        intro hl
        unfold firstErr
        rw [if_neg (by simp [hl g (by simp)])]
        exact ih fun x hx => hl x (by simp [hx])
    refine this _ _ fun r hr => ?_
    obtain ⟨cs, hcs, rfl⟩ := List.mem_map.1 hr
    exact rowL_err (h.okL hcs) (by rw [h.len hcs]; exact Int.le_refl _)
  rw [if_neg (by simp [e1]), if_neg (by simp [e2]), if_neg (by simp [e3]), e4]
  rfl
theorem rec_gut (T : List (List (List UInt8))) (ws : List Nat) (G : Nat) : gut (recV T ws G).rows 0 T.length = freeL T ws G := by
  funext c
  unfold gut rowsIn allB freeL recV
  simp only [List.drop_zero, Nat.sub_zero]
  rw [List.take_of_length_le (by simp), List.all_map]
  congr 1
  funext cs
  exact bk_rowL _ c
theorem RecB.parts' {T : List (List (List UInt8))} {ws : List Nat} {G : Nat} (h : RecB T ws G) : partsTo (gut (recV T ws G).rows 0 T.length) (offL G ws ws.length) = colsL G ws ws.length := by
  rw [rec_gut]; exact h.toRecT.parts _ (Nat.le_refl _)
theorem RecB.full {T : List (List (List UInt8))} {ws : List Nat} {G : Nat} (h : RecB T ws G) {cs : List (List UInt8)} (hcs : cs ∈ T) : emptyB (rowL (lineL G ws cs)) = false := by
  have hm := h.m2
  have hw : ws[0]? = some ws[0] := List.getElem?_eq_getElem (by omega)
  obtain ⟨c, hc, hg, -⟩ := h.cell hcs hw
  have hG := h.G2
  have ha := h.at hcs hw hc (d := 0) (by omega)
  have h0 : offL G ws 0 = 0 := by cases ws <;> rfl
  rw [h0, Nat.add_zero] at ha
  have hb := bk_rowL (lineL G ws cs) 0
  rw [ha] at hb
  unfold emptyB
  rw [List.all_eq_false]
  unfold bk at hb
  obtain ⟨q, hq, -, -⟩ := rowL_sub (lineL G ws cs)
  rw [colsOf_narrow _ (by rw [hq]; exact wide_gB _), List.getElem?_map] at hb
  cases hr : (rowL (lineL G ws cs))[0]? with
  | none => rw [hr] at hb; exact absurd (beq_iff_eq.1 hb.symm) hg.first
  | some g =>
    rw [hr] at hb
    refine ⟨g, List.mem_of_getElem? hr, ?_⟩
    have hb' : spaceB g = (c.getD 0 32 == 32) := hb
    rw [hb']
    simpa using hg.first
theorem RecB.find {T : List (List (List UInt8))} {ws : List Nat} {G : Nat} (h : RecB T ws G) : findT (recV T ws G) = [tblR (recV T ws G).rows (offL G ws ws.length) 0 T.length] := by
  have hn := h.n2
  have hm := h.m2
  have hl : (recV T ws G).rows.length = T.length := by unfold recV; simp
  have htab : tabB (recV T ws G).rows (offL G ws ws.length) 0 T.length = true := by
    rw [tabB_full _ _ _ _ (by omega) (fun k _ _ l hl => by
      obtain ⟨cs, hcs, rfl⟩ := List.mem_map.1 (List.mem_of_getElem? hl)
      exact h.full hcs), h.parts']
    simp [colsL]; omega
  have hend : endTo (recV T ws G).rows (offL G ws ws.length) 0 T.length = T.length := by
    obtain ⟨j, hj⟩ : ∃ j, T.length = j + 1 := ⟨T.length - 1, by omega⟩
    rw [hj] at htab ⊢
    rw [endTo_step, htab, if_pos (by simp; omega)]
  unfold findT
  rw [if_pos h.ok, hl, show (recV T ws G).width.toNat = offL G ws ws.length from rfl]
  obtain ⟨j, hj⟩ : ∃ j, T.length = j + 1 := ⟨T.length - 1, by omega⟩
  have hs := findF_some (recV T ws G).rows (offL G ws ws.length) j 0 (by omega) (by rw [hl, hend]; omega)
  rw [hl, hend] at hs
  rw [← hj] at hs
  rw [hs, findF_end _ _ _ _ (by omega)]
theorem trimB_spaces (c : List Gl) : ∀ (s : List Gl), (∀ g ∈ s, spaceB g = true) → trimB (c ++ s) = trimB c := fun s => by
  generalize hn : s.length = n
  induction n generalizing s with
  | zero => intro _; rw [List.length_eq_zero_iff.1 hn, List.append_nil]
  | succ n ih =>
    intro hs
    rcases snoc_cases s with h0 | ⟨q, g, rfl⟩
    · subst h0; simp at hn
    · rw [← List.append_assoc, trimB_space (hs g (by simp)), ih q (by simpa using hn) fun x hx => hs x (by simp [hx])]
/-- A cell of the view. -/
theorem RecB.cellOf {T : List (List (List UInt8))} {ws : List Nat} {G : Nat} (h : RecB T ws G) {cs : List (List UInt8)} (hcs : cs ∈ T) {k w : Nat} {c : List UInt8} (hw : ws[k]? = some w) (hc : cs[k]? = some c) :
    (Go.Proofs.YtmgepckhdgoemaaDoor.cellOf (rowL (lineL G ws cs)) (offL G ws k) ((offL G ws k + w : Nat) : Int)).data.toList = c := by
  have hg := h.good cs hcs c (List.mem_of_getElem? hc)
  have hle := h.le cs hcs k c w hc hw
  have hat := fun d hd => h.at hcs hw hc (d := d) hd
  obtain ⟨L, hL⟩ : ∃ L, lineL G ws cs = L := ⟨_, rfl⟩
  obtain ⟨a, ha⟩ : ∃ a, offL G ws k = a := ⟨_, rfl⟩
  rw [hL, ha] at hat
  rw [hL, ha]
  obtain ⟨q, hq, hql, hsp⟩ := rowL_sub L
  have hpos : 0 < c.length := List.length_pos_iff.2 hg.ne
  obtain ⟨z, hz⟩ : ∃ z, c.length = z + 1 := ⟨c.length - 1, by omega⟩
  have hqz : a + z < q := by
    rcases Nat.lt_or_ge (a + z) q with h1 | h1
    · exact h1
    · have h2 := hsp (a + z) h1
      rw [hat z (by omega)] at h2
      exact absurd h2 (hg.last hz)
  have hne : ∀ g ∈ rowL L, g.text.toList ≠ [] := fun g hg => by
    rw [hq] at hg
    obtain ⟨b, -, rfl⟩ := List.mem_map.1 hg
    rw [ByteArray.toList_eq]
    exact List.cons_ne_nil _ _
  rw [cellOf_trim _ _ _ hne, pick_cut _ (by rw [hq]; exact wide_gB _), hq, ← List.map_take, ← List.map_drop]
  -- the bytes that lie in the cell
  have hbytes : ((L.take q).take (a + w)).drop a = c ++ (((L.take q).take (a + w)).drop (a + z + 1)) := by
    apply List.ext_getElem?
    intro i
    rw [List.getElem?_drop, List.getElem?_append]
    by_cases hi : i < c.length
    · rw [if_pos hi, List.getElem?_take_of_lt (by omega), List.getElem?_take_of_lt (by omega)]
      have h1 := hat i (by omega)
      rw [List.getD_eq_getElem?_getD, List.getD_eq_getElem?_getD, List.getElem?_eq_getElem (show a + i < L.length by omega), List.getElem?_eq_getElem hi] at h1
      rw [List.getElem?_eq_getElem (show a + i < L.length by omega), List.getElem?_eq_getElem hi]
      exact congrArg some h1
    · rw [if_neg hi, List.getElem?_drop, show a + z + 1 + (i - c.length) = a + i by omega]
  rw [hbytes, List.map_append]
  have hspc : ∀ g ∈ (((L.take q).take (a + w)).drop (a + z + 1)).map gB, spaceB g = true := fun g hg => by
    obtain ⟨b, hb, rfl⟩ := List.mem_map.1 hg
    obtain ⟨i, hi, rfl⟩ := List.getElem_of_mem hb
    rw [space_gB]
    simp only [List.length_drop, List.length_take] at hi
    rw [List.getElem_drop, List.getElem_take, List.getElem_take]
    have h1 := hat (z + 1 + i) (by omega)
    rw [List.getD_eq_getElem?_getD, List.getD_eq_getElem?_getD, List.getElem?_eq_getElem (show a + (z + 1 + i) < L.length by omega), List.getElem?_eq_none (show c.length ≤ z + 1 + i by omega)] at h1
    have h2 : L[a + z + 1 + i]'(by omega) = 32 := by
      have : a + (z + 1 + i) = a + z + 1 + i := by omega
      simp only [this] at h1
      simpa using h1
    rw [h2]; rfl
  obtain ⟨x, r, hxr⟩ : ∃ x r, c = x :: r := by cases c with | nil => exact absurd rfl hg.ne | cons x r => exact ⟨x, r, rfl⟩
  have hx : spaceB (gB x) = false := by
    have := hg.first
    rw [hxr] at this
    rw [space_gB]
    simpa using this
  have hF : trimF (c.map gB ++ (((L.take q).take (a + w)).drop (a + z + 1)).map gB) = c.map gB ++ (((L.take q).take (a + w)).drop (a + z + 1)).map gB := by
    rw [hxr, List.map_cons, List.cons_append, trimF_done hx]
  rw [hF, trimB_spaces _ _ hspc]
  have hB : trimB (c.map gB) = c.map gB := by
    rcases snoc_cases c with h0 | ⟨ini, y, hy⟩
    · exact absurd h0 hg.ne
    · have hlast := hg.last hz
      have hy2 : y ≠ 32 := by
        rw [hy] at hlast hz
        rw [List.length_append] at hz
        rw [List.getD_eq_getElem?_getD, List.getElem?_append_right (by simp at hz; omega)] at hlast
        have : z - ini.length = 0 := by simp at hz; omega
        rw [this] at hlast
        simpa using hlast
      rw [hy, List.map_append, List.map_cons, List.map_nil, trimB_done (by rw [space_gB]; simpa using hy2)]
  rw [hB, text_bytes _ (fun g hg => by obtain ⟨b, -, rfl⟩ := List.mem_map.1 hg; rfl), List.map_map]
  have : ((fun g : Gl => g.text.data.toList.headD 0) ∘ gB) = id := by funext b; rfl
  rw [this, List.map_id]
end Go.Proofs.YtmgepckhdgoemaaDoor

/- The strings of the law TablesRecognized: which cells it takes. -/
namespace Go.Proofs.YtmgepckhdgoemaaDoor
open Go.RowKit Go.Lib Go.Shelf

def laysRep_ren : Go.Shelf.Ren := ⟨fun | 99 => 33 | 105 => 14 | 165 => 34 | 166 => 35 | 169 => 37 | 170 => 36 | 206 => 60 | 212 => 32 | 240 => 61 | 241 => 62 | 263 => 58 | 264 => 59 | 276 => 78 | 277 => 79 | n => n, fun | 0 => 0 | 3 => 3 | 4 => 4 | 5 => 5 | 9 => 9 | 20 => 20 | 37 => 66 | 46 => 62 | 51 => 94 | 53 => 97 | 70 => 65 | 72 => 68 | 75 => 71 | 76 => 72 | 80 => 75 | 109 => 63 | 127 => 100 | 146 => 95 | 148 => 98 | 164 => 107 | n => n, fun | n => n⟩
theorem laysRep : Go.Proofs.Lays.n105 Tryd.prog laysRep_ren := { mixed := by kernel_rfl, f99 := Tryd.func33.trans (congrArg some (by kernel_rfl)), f105 := Tryd.func14.trans (congrArg some (by kernel_rfl)), f165 := Tryd.func34.trans (congrArg some (by kernel_rfl)), f166 := Tryd.func35.trans (congrArg some (by kernel_rfl)), f169 := Tryd.func37.trans (congrArg some (by kernel_rfl)), f170 := Tryd.func36.trans (congrArg some (by kernel_rfl)), f206 := Tryd.func60.trans (congrArg some (by kernel_rfl)), f212 := Tryd.func32.trans (congrArg some (by kernel_rfl)), f240 := Tryd.func61.trans (congrArg some (by kernel_rfl)), f241 := Tryd.func62.trans (congrArg some (by kernel_rfl)), f263 := Tryd.func58.trans (congrArg some (by kernel_rfl)), f264 := Tryd.func59.trans (congrArg some (by kernel_rfl)), f276 := Tryd.func78.trans (congrArg some (by kernel_rfl)), f277 := Tryd.func79.trans (congrArg some (by kernel_rfl)), t0 := Tryd.underlying0, a0 := Tryd.isAgg0, z0 := Tryd.sizeOf0, v0 := Tryd.zeroValue0, t3 := Tryd.underlying3, a3 := Tryd.isAgg3, z3 := Tryd.sizeOf3, v3 := Tryd.zeroValue3, t4 := Tryd.underlying4, a4 := Tryd.isAgg4, z4 := Tryd.sizeOf4, v4 := Tryd.zeroValue4, t5 := Tryd.underlying5, a5 := Tryd.isAgg5, z5 := Tryd.sizeOf5, v5 := Tryd.zeroValue5, t9 := Tryd.underlying9, a9 := Tryd.isAgg9, z9 := Tryd.sizeOf9, v9 := Tryd.zeroValue9, t20 := Tryd.underlying20, a20 := Tryd.isAgg20, z20 := Tryd.sizeOf20, v20 := Tryd.zeroValue20, t37 := Tryd.underlying66, a37 := Tryd.isAgg66, z37 := Tryd.sizeOf66, v37 := Tryd.zeroValue66, t46 := Tryd.underlying62, a46 := Tryd.isAgg62, z46 := Tryd.sizeOf62, v46 := Tryd.zeroValue62, t51 := Tryd.underlying94, a51 := Tryd.isAgg94, z51 := Tryd.sizeOf94, v51 := Tryd.zeroValue94, t53 := Tryd.underlying97, a53 := Tryd.isAgg97, z53 := Tryd.sizeOf97, v53 := Tryd.zeroValue97, t70 := Tryd.underlying65, a70 := Tryd.isAgg65, z70 := Tryd.sizeOf65, v70 := Tryd.zeroValue65, t72 := Tryd.underlying68, a72 := Tryd.isAgg68, z72 := Tryd.sizeOf68, v72 := Tryd.zeroValue68, t75 := Tryd.underlying71, a75 := Tryd.isAgg71, z75 := Tryd.sizeOf71, v75 := Tryd.zeroValue71, t76 := Tryd.underlying72, a76 := Tryd.isAgg72, z76 := Tryd.sizeOf72, v76 := Tryd.zeroValue72, t109 := Tryd.underlying63, a109 := Tryd.isAgg63, z109 := Tryd.sizeOf63, v109 := Tryd.zeroValue63, t127 := Tryd.underlying100, a127 := Tryd.isAgg100, z127 := Tryd.sizeOf100, v127 := Tryd.zeroValue100, t146 := Tryd.underlying95, a146 := Tryd.isAgg95, z146 := Tryd.sizeOf95, v146 := Tryd.zeroValue95, t148 := Tryd.underlying98, a148 := Tryd.isAgg98, z148 := Tryd.sizeOf98, v148 := Tryd.zeroValue98, t164 := Tryd.underlying107, a164 := Tryd.isAgg107, z164 := Tryd.sizeOf107, v164 := Tryd.zeroValue107 }
theorem repX : Builder.Extra Tryd.prog laysRep_ren := { sizeBuilder := by kernel_rfl, liesBuilder := by kernel_rfl, t5 := Tryd.underlying5, a5 := Tryd.isAgg5, z5 := Tryd.sizeOf5, v5 := Tryd.zeroValue5, infoByte := by kernel_rfl, cellsByte := by kernel_rfl, sizeByte := by kernel_rfl, neB5 := by decide }
def laysCont_ren : Go.Shelf.Ren := ⟨fun | 143 => 31 | 144 => 13 | 217 => 74 | 219 => 57 | 224 => 76 | 225 => 75 | 266 => 90 | 267 => 77 | 314 => 91 | n => n, fun | 3 => 3 | 4 => 4 | 5 => 5 | 9 => 9 | 46 => 62 | 51 => 94 | 146 => 95 | n => n, fun | 1 => 0 | n => n⟩
theorem laysCont : Go.Proofs.Lays.n144 Tryd.prog laysCont_ren := { mixed := by kernel_rfl, f143 := Tryd.func31.trans (congrArg some (by kernel_rfl)), f144 := Tryd.func13.trans (congrArg some (by kernel_rfl)), f217 := Tryd.func74.trans (congrArg some (by kernel_rfl)), f219 := Tryd.func57.trans (congrArg some (by kernel_rfl)), f224 := Tryd.func76.trans (congrArg some (by kernel_rfl)), f225 := Tryd.func75.trans (congrArg some (by kernel_rfl)), f266 := Tryd.func90.trans (congrArg some (by kernel_rfl)), f267 := Tryd.func77.trans (congrArg some (by kernel_rfl)), f314 := Tryd.func91.trans (congrArg some (by kernel_rfl)), t3 := Tryd.underlying3, a3 := Tryd.isAgg3, z3 := Tryd.sizeOf3, v3 := Tryd.zeroValue3, t4 := Tryd.underlying4, a4 := Tryd.isAgg4, z4 := Tryd.sizeOf4, v4 := Tryd.zeroValue4, t5 := Tryd.underlying5, a5 := Tryd.isAgg5, z5 := Tryd.sizeOf5, v5 := Tryd.zeroValue5, t9 := Tryd.underlying9, a9 := Tryd.isAgg9, z9 := Tryd.sizeOf9, v9 := Tryd.zeroValue9, t46 := Tryd.underlying62, a46 := Tryd.isAgg62, z46 := Tryd.sizeOf62, v46 := Tryd.zeroValue62, t51 := Tryd.underlying94, a51 := Tryd.isAgg94, z51 := Tryd.sizeOf94, v51 := Tryd.zeroValue94, t146 := Tryd.underlying95, a146 := Tryd.isAgg95, z146 := Tryd.sizeOf95, v146 := Tryd.zeroValue95, g1 := by kernel_rfl }

def cutB : ByteArray := ⟨#[97, 98, 99, 100, 101, 102, 103, 104, 105, 106, 107, 108, 109, 110, 111, 112, 113, 114, 115, 116, 117, 118, 119, 120, 121, 122, 48, 49, 50, 51, 52, 53, 54, 55, 56, 57, 32]⟩
theorem trim1P (w : World) (s : ByteArray) (hs : s.size ≤ 100000) : Calls Tryd.prog 10 #[.string s, .string ⟨#[32]⟩] w fun e w' => e = .returned (.string ⟨(Lib.trimB s.data.toList 32).toArray⟩) ∧ Below w.heap.size w w' := by
  refine (Any.strings_Trim_one laysTrim s 32 (by decide) w (by omega)).mono fun e w' h => ?_
  obtain ⟨rfl, h⟩ := h
  exact ⟨rfl, by rcases h with rfl | rfl; exact Below.refl _ _; exact (Below.refl _ _).drew⟩
theorem trimCutP (w : World) (s : ByteArray) (hs : s.size ≤ 100000) : Calls Tryd.prog 10 #[.string s, .string cutB] w fun e w' => e = .returned (.string ⟨(Lib.trimS s.data.toList cutB.data.toList).toArray⟩) ∧ Below w.heap.size w w' :=
  Any.strings_Trim_laid laysTrim (by kernel_rfl) s cutB w (by omega) (by decide) (ascii_of_all (by decide))
theorem contP (w : World) (hm : Mx w) (s sub : ByteArray) (hs : s.size ≤ 1000000) : Calls Tryd.prog 13 #[.string s, .string sub] w fun e w' => e = .returned (.bool (Lib.contains s.data.toList sub.data.toList)) ∧ w = w' := by
  obtain ⟨-, m, h⟩ := hm
  exact (Any.strings_Contains laysCont s sub m w (by omega) h).mono fun _ _ ⟨he, hw⟩ => ⟨he, hw.symm⟩
theorem repSp (n : Nat) : Lib.repeatL [32] n = List.replicate n 32 := by
  induction n with
  | zero => rfl
  | succ n ih => rw [List.replicate_succ, ← ih]; rfl
theorem repSpP (w : World) (n : Nat) (hn : n ≤ 1000) : Calls Tryd.prog 14 #[.string ⟨#[32]⟩, .int .i64 n] w fun e w' => e = .returned (.string ⟨(List.replicate n (32 : UInt8)).toArray⟩) ∧ Below w.heap.size w w' := by
  have h := Any.strings_Repeat laysRep repX ⟨#[32]⟩ n w (by omega) (by
    have : (⟨#[32]⟩ : ByteArray).size = 1 := rfl
    rw [this]; omega)
  rw [show (⟨#[32]⟩ : ByteArray).data.toList = [32] from rfl, repSp] at h
  exact h

theorem dbl_none : ∀ (l : List UInt8), Lib.contains l [32, 32] = false → ∀ d : Nat, l[d]? = some 32 → l[d + 1]? = some 32 → False
  | [], _, d, h, _ => by simp at h
  | b :: l, hc, d, h1, h2 => by
    unfold Lib.contains at hc
    rw [decide_eq_false_iff_not] at hc
    unfold Lib.index at hc
    cases hp : ([32, 32] : List UInt8).isPrefixOf (b :: l) with
    | true => rw [if_pos hp] at hc; exact hc (Int.le_refl _)
    | false =>
      rw [if_neg (by simp [hp])] at hc
      have hl : Lib.contains l [32, 32] = false := by
        unfold Lib.contains
        rw [decide_eq_false_iff_not]
        intro h0
        apply hc
        rw [if_neg (by rw [beq_iff_eq]; omega)]
        omega
      cases d with
      | succ d =>
        rw [List.getElem?_cons_succ] at h1 h2
        exact dbl_none l hl d h1 h2
      | zero =>
        simp only [List.getElem?_cons_zero, Option.some.injEq, Nat.zero_add, List.getElem?_cons_succ] at h1 h2
        subst h1
        cases l with
        | nil => simp at h2
        | cons x r =>
          simp only [List.getElem?_cons_zero, Option.some.injEq] at h2
          subst h2
          simp [List.isPrefixOf] at hp
theorem cut_all {l : List UInt8} (h : Lib.trimS l cutB.data.toList = []) : ∀ b ∈ l, cutB.data.toList.contains b = true := by
  have drop : ∀ (p : UInt8 → Bool) (l : List UInt8), l.dropWhile p = [] → ∀ b ∈ l, p b = true := fun p l => by
    induction l with
    | nil => intro _ b hb; cases hb
    | cons x r ih =>
      intro hd b hb
      rw [List.dropWhile_cons] at hd
      by_cases hx : p x = true
      · rw [if_pos hx] at hd
        rcases List.mem_cons.1 hb with rfl | hb
        · exact hx
        · exact ih hd b hb
      · rw [if_neg hx] at hd; cases hd
  unfold Lib.trimS Lib.trimLeftS Lib.trimRightS at h
  have h1 := drop _ _ h
  intro b hb
  -- what is left of the right trimming begins as the text does
  by_cases hn : (l.reverse.dropWhile (cutB.data.toList.contains ·)) = []
  · exact drop _ _ hn b (by simpa using hb)
  · have hlast : ∀ x, (l.reverse.dropWhile (cutB.data.toList.contains ·)).head? = some x → cutB.data.toList.contains x = false := fun x hx => by
      have := List.head?_dropWhile_not (p := fun b => cutB.data.toList.contains b) l.reverse
      rw [hx] at this
      simpa using this
    cases hd : (l.reverse.dropWhile (cutB.data.toList.contains ·)) with
    | nil => exact absurd hd hn
    | cons x r =>
      have h2 := hlast x (by rw [hd]; rfl)
      have h3 := h1 x (by rw [hd]; simp)
      rw [h2] at h3; cases h3
theorem cut_ok : ∀ n, n < 256 → cutB.data.toList.contains (UInt8.ofNat n) = true → (n = 32 ∨ (97 ≤ n ∧ n ≤ 122) ∨ (48 ≤ n ∧ n ≤ 57)) := by decide +kernel
theorem trim_bare {l : List UInt8} (h : Lib.trimB l 32 = l) (hne : l ≠ []) : bare l = true := by
  have h' : ((l.reverse.dropWhile (· == 32)).reverse).dropWhile (· == 32) = l := h
  have l1 : ((l.reverse.dropWhile (· == 32)).reverse).length ≤ l.length := by
    rw [List.length_reverse]
    have := (List.dropWhile_sublist (l := l.reverse) (· == (32 : UInt8))).length_le
    rwa [List.length_reverse] at this
  have l2 := (List.dropWhile_sublist (l := (l.reverse.dropWhile (· == (32 : UInt8))).reverse) (· == (32 : UInt8))).length_le
  rw [h'] at l2
  have e1 : (l.reverse.dropWhile (· == (32 : UInt8))) = l.reverse := by
    apply (List.dropWhile_sublist (l := l.reverse) (· == (32 : UInt8))).eq_of_length
    rw [List.length_reverse] at l1 l2 ⊢
    omega
  rw [e1, List.reverse_reverse] at h'
  have first : ∀ l : List UInt8, l.dropWhile (· == 32) = l → l ≠ [] → l.head? ≠ some 32 := fun l hl hne hh => by
    cases l with
    | nil => exact hne rfl
    | cons x r =>
      simp only [List.head?_cons, Option.some.injEq] at hh
      subst hh
      rw [List.dropWhile_cons, if_pos (by simp)] at hl
      have := (List.dropWhile_sublist (l := r) (· == (32 : UInt8))).length_le
      rw [hl, List.length_cons] at this
      omega
  unfold bare
  rw [Bool.and_eq_true, decide_eq_true_eq, decide_eq_true_eq]
  refine ⟨first l h' hne, ?_⟩
  have := first l.reverse e1 (by simpa using hne)
  rwa [List.head?_reverse] at this
theorem good_of {l : List UInt8} (h0 : l ≠ []) (h1 : l.length ≤ 12) (h2 : Lib.trimB l 32 = l) (h3 : Lib.contains l [32, 32] = false) (h4 : Lib.trimS l cutB.data.toList = []) : GoodC l :=
  ⟨h0, h1, trim_bare h2 h0, dbl_none l h3, fun b hb => by
    have := cut_ok b.toNat (UInt8.toNat_lt b) (by rw [UInt8.ofNat_toNat]; exact cut_all h4 b hb)
    rcases this with h | h | h
    · left; exact UInt8.toNat_inj.1 (by rw [h]; rfl)
    · exact .inr (.inl h)
    · exact .inr (.inr h)⟩
end Go.Proofs.YtmgepckhdgoemaaDoor

/- A row's argument that is a slice of slices of strings, opened to the words of the walks. -/
namespace Go.Proofs.YtmgepckhdgoemaaDoor
open Go.ChangeShapes Go.WideShapes Go.Deep Go.Joins Go.RowKit

/-- A row of strings in memory; rows of such rows. -/
abbrev StrRow (w : World) (B : Nat) (A : Option Addr) (l : List ByteArray) : Prop := Sl (One Value.string) 1 w B A l
def SRowAt (B : Nat) : World → Nat → Nat → List ByteArray → Prop := fun w b o r =>
  ∃ A c, w.cell? ⟨b, o, none⟩ = some (.slice A r.length c) ∧ r.length ≤ c ∧ StrRow w B A r
theorem SRowAt.stays (B : Nat) : Stays (SRowAt B) B := fun _ _ _ _ _ hk hb h => by
  obtain ⟨A, c, h1, h2, h3⟩ := h
  exact ⟨A, c, (hk _ hb).trans h1, h2, h3.keep (One.stays _ B) hk⟩
def SRows (w : World) (B : Nat) (A : Option Addr) (l : List (List ByteArray)) : Prop := Sl (SRowAt B) 1 w B A l

section
variable {H : Type} {enc : TypeId × Value → H} {w : World} {base : Nat} {spare : Nat → Bool} {held : Bool}
theorem open_srow {fuel : Nat} {cs : List Value} {x : DataW H × List MemPlace} (h : DataW.trod enc Tryd.prog w base spare held fuel 42 cs = some x) :
    ∃ A c l, cs = [.slice A l.length c] ∧ l.length ≤ c ∧ StrRow w w.heap.size A l := by
  rcases open_slice Tryd.underlying42 h with ⟨rfl, -⟩ | ⟨a, len, cap, m, n, D, Pl, rfl, hb, hl, hm, hmm, -, hi⟩
  · exact ⟨none, 0, [], rfl, Nat.le_refl _, Sl.nil rfl⟩
  · have hlm : len ≤ m := by rw [hmm]; split <;> omega
    have hC : Tryd.prog.cellsOf 9 = 1 := by kernel_rfl
    rw [hC] at hi
    by_cases h0 : 0 < len
    · have hfirst : ∃ v, w.cell? a = some v := by
        obtain ⟨cs', hc, ht⟩ := hi 0 (by omega)
        obtain ⟨-, hcl, hat⟩ := World.cells?_some hc
        have h1 := hat 0 (by omega)
        rw [Nat.zero_mul] at h1
        exact ⟨cs'[0]'(by omega), h1.trans (List.getElem?_eq_getElem (by omega))⟩
      obtain ⟨v0, hv0⟩ := hfirst
      have hspot := cell_spot hv0
      have hblk := World.block_lt_of_cell? w a hv0
      obtain ⟨rows, hll, hr⟩ := list_of len (R := fun i r => One Value.string w a.block (a.off + i * 1) r) fun i him => by
        obtain ⟨cs', hc, ht⟩ := hi i (by omega)
        obtain ⟨-, hcl, hat⟩ := World.cells?_some hc
        have h1 := hat 0 (by omega)
        obtain ⟨c0, rfl⟩ : ∃ c0, cs' = [c0] := List.length_eq_one_iff.1 hcl
        obtain ⟨s, hs, -⟩ := DataW.trod_string Tryd.underlying9 ht
        cases hs
        rw [add_plain hspot] at h1
        exact ⟨s, h1⟩
      subst hll
      obtain ⟨bl, of, sp⟩ := a
      dsimp only at hspot hblk hr
      subst hspot
      exact ⟨_, cap, rows, rfl, hl, fun _ => ⟨bl, of, rfl, hblk, hr⟩⟩
    · obtain rfl : len = 0 := by omega
      exact ⟨_, cap, [], rfl, Nat.zero_le _, Sl.nil rfl⟩
theorem open_srows0 {fuel : Nat} {cs : List Value} {x : DataW H × List MemPlace} (h : DataW.trod enc Tryd.prog w base spare held fuel 41 cs = some x) :
    ∃ A c rows, cs = [.slice A rows.length c] ∧ rows.length ≤ c ∧ SRows w w.heap.size A rows := by
  rcases open_slice Tryd.underlying41 h with ⟨rfl, -⟩ | ⟨a, len, cap, m, n, D, Pl, rfl, hb, hl, hm, hmm, -, hi⟩
  · exact ⟨none, 0, [], rfl, Nat.le_refl _, Sl.nil rfl⟩
  · have hlm : len ≤ m := by rw [hmm]; split <;> omega
    have hC : Tryd.prog.cellsOf 42 = 1 := by kernel_rfl
    rw [hC] at hi
    by_cases h0 : 0 < len
    · have hfirst : ∃ v, w.cell? a = some v := by
        obtain ⟨cs', hc, ht⟩ := hi 0 (by omega)
        obtain ⟨-, hcl, hat⟩ := World.cells?_some hc
        have h1 := hat 0 (by omega)
        rw [Nat.zero_mul] at h1
        exact ⟨cs'[0]'(by omega), h1.trans (List.getElem?_eq_getElem (by omega))⟩
      obtain ⟨v0, hv0⟩ := hfirst
      have hspot := cell_spot hv0
      have hblk := World.block_lt_of_cell? w a hv0
      obtain ⟨rows, hll, hr⟩ := list_of len (R := fun i r => SRowAt w.heap.size w a.block (a.off + i * 1) r) fun i him => by
        obtain ⟨cs', hc, ht⟩ := hi i (by omega)
        obtain ⟨-, hcl, hat⟩ := World.cells?_some hc
        obtain ⟨A, c, l, rfl, hlc, hgl⟩ := open_srow ht
        have h1 := hat 0 (by omega)
        rw [add_plain hspot] at h1
        exact ⟨l, A, c, h1, hlc, hgl⟩
      subst hll
      obtain ⟨bl, of, sp⟩ := a
      dsimp only at hspot hblk hr
      subst hspot
      exact ⟨_, cap, rows, rfl, hl, fun _ => ⟨bl, of, rfl, hblk, hr⟩⟩
    · obtain rfl : len = 0 := by omega
      exact ⟨_, cap, [], rfl, Nat.zero_le _, Sl.nil rfl⟩
set_option maxRecDepth 100000 in
theorem open_srows {r : Reach} {b0 : Nat} {v : Value} {d : DataW H} {p : List MemPlace} (hv : Value.okWide Tryd.prog w r b0 41 v) (h : DataW.Trod enc Tryd.prog w base spare held 41 v d p) :
    ∃ A c rows, v = .slice A rows.length c ∧ rows.length ≤ c ∧ SRows w w.heap.size A rows := by
  obtain ⟨a0, len0, cap0, rfl⟩ := okWide_slice Tryd.underlying41 hv
  obtain ⟨fuel, hf⟩ := h
  obtain ⟨A, c, rows, hcs, hc, hr⟩ := open_srows0 hf
  simp only [Value.cells, List.cons.injEq, and_true] at hcs
  exact ⟨A, c, rows, by simpa using hcs, hc, hr⟩
end
end Go.Proofs.YtmgepckhdgoemaaDoor

/- The walk of the law TablesRecognized. -/
namespace Go.Proofs.YtmgepckhdgoemaaDoor
open Go.RowKit

theorem rowI_below {w w' : World} {b B n : Nat} {t : TypeId} {f : Nat → Value} (h : w.rowIs b t n f) (hb : Below B w w') (hB : b < B) : w'.rowIs b t n f := h.of_block (hb.block b hB)
theorem infoI : (Tryd.prog.info? 3).map (fun i => (i.zero, i.size, i.bytes)) = some (some (.int .i64 0), 1, 8) := by kernel_rfl
/-- The greatest length of a column's cells in the first k rows. -/
def maxTo (T : List (List ByteArray)) : Nat → Nat → Nat
  | 0, _ => 0
  | k + 1, j => max (maxTo T k j) ((T.getD k []).getD j ⟨#[]⟩).size
/-- The bytes of a text's cells. -/
def byT (T : List (List ByteArray)) : List (List (List UInt8)) := T.map fun r => r.map fun s => s.data.toList
/-- The widths of the columns. -/
def wsT (T : List (List ByteArray)) (m : Nat) : List Nat := (List.range m).map (maxTo T T.length)
def RowGood (m : Nat) (r : List ByteArray) : Prop := r.length = m ∧ ∀ s ∈ r, GoodC s.data.toList
theorem maxTo_le (T : List (List ByteArray)) (k j : Nat) (h : ∀ r ∈ T, ∀ s ∈ r, s.size ≤ 12) : maxTo T k j ≤ 12 := by
  induction k with
  | zero => exact Nat.zero_le _
  | succ k ih =>
    show max _ _ ≤ 12
    have : ((T.getD k []).getD j ⟨#[]⟩).size ≤ 12 := by
      by_cases hk : k < T.length
      · have e : T.getD k [] = T[k] := by rw [List.getD_eq_getElem?_getD, List.getElem?_eq_getElem hk]; rfl
        rw [e]
        by_cases hj : j < (T[k]).length
        · have e2 : (T[k]).getD j ⟨#[]⟩ = (T[k])[j] := by rw [List.getD_eq_getElem?_getD, List.getElem?_eq_getElem hj]; rfl
          rw [e2]
          exact h _ (List.getElem_mem hk) _ (List.getElem_mem hj)
        · rw [List.getD_eq_getElem?_getD, List.getElem?_eq_none (by omega)]; exact Nat.zero_le _
      · rw [show T.getD k [] = [] by rw [List.getD_eq_getElem?_getD, List.getElem?_eq_none (by omega)]; rfl]
        exact Nat.zero_le _
    omega
theorem maxTo_ge (T : List (List ByteArray)) (j : Nat) : ∀ k i, i < k → ((T.getD i []).getD j ⟨#[]⟩).size ≤ maxTo T k j
  | 0, i, h => absurd h (Nat.not_lt_zero _)
  | k + 1, i, h => by
    show _ ≤ max _ _
    by_cases hi : i = k
    · subst hi; omega
    · have := maxTo_ge T j k i (by omega); omega
theorem maxTo_att (T : List (List ByteArray)) (j : Nat) : ∀ k, 0 < maxTo T k j → ∃ i, i < k ∧ ((T.getD i []).getD j ⟨#[]⟩).size = maxTo T k j
  | 0, h => absurd h (Nat.lt_irrefl _)
  | k + 1, h => by
    have h' : 0 < max (maxTo T k j) ((T.getD k []).getD j ⟨#[]⟩).size := h
    show ∃ i, _ ∧ _ = max _ _
    by_cases hle : maxTo T k j ≤ ((T.getD k []).getD j ⟨#[]⟩).size
    · exact ⟨k, by omega, by omega⟩
    · obtain ⟨i, hi, he⟩ := maxTo_att T j k (by omega)
      exact ⟨i, by omega, by omega⟩
/-- What the statement examines is laid out as the plain law wants it. -/
theorem rec_of {T : List (List ByteArray)} {m G : Nat} (h1 : 2 ≤ T.length) (h2 : T.length ≤ 6) (h3 : 2 ≤ m) (h4 : m ≤ 5) (h5 : 2 ≤ G) (h6 : G ≤ 5) (hg : ∀ r ∈ T, RowGood m r) : RecB (byT T) (wsT T m) G := by
  have hlen : (wsT T m).length = m := by unfold wsT; simp
  have hget : ∀ k w, (wsT T m)[k]? = some w → k < m ∧ w = maxTo T T.length k := fun k w hw => by
    have hk := (List.getElem?_eq_some_iff.1 hw).1
    rw [hlen] at hk
    unfold wsT at hw
    rw [List.getElem?_map, List.getElem?_range hk] at hw
    exact ⟨hk, by simpa using hw.symm⟩
  have hgd : ∀ i (hi : i < T.length) j (hj : j < (T[i]).length), (T.getD i []).getD j ⟨#[]⟩ = (T[i])[j] := fun i hi j hj => by
    have e : T.getD i [] = T[i] := by rw [List.getD_eq_getElem?_getD, List.getElem?_eq_getElem hi]; rfl
    rw [e, List.getD_eq_getElem?_getD, List.getElem?_eq_getElem hj]; rfl
  refine { n2 := by unfold byT; simpa using h1, m2 := by rw [hlen]; exact h3, G2 := h5, m := ?_, good := ?_, le := ?_, att := ?_, n6 := by unfold byT; simpa using h2, m5 := by rw [hlen]; exact h4, G5 := h6 }
  · intro cs hcs
    obtain ⟨r, hr, rfl⟩ := List.mem_map.1 hcs
    rw [List.length_map, hlen]
    exact (hg r hr).1
  · intro cs hcs c hc
    obtain ⟨r, hr, rfl⟩ := List.mem_map.1 hcs
    obtain ⟨s, hs, rfl⟩ := List.mem_map.1 hc
    exact (hg r hr).2 s hs
  · intro cs hcs k c w hc hw
    obtain ⟨i, hi, rfl⟩ := List.getElem_of_mem hcs
    have hiT : i < T.length := by unfold byT at hi; simpa using hi
    obtain ⟨hk, rfl⟩ := hget k w hw
    have hkr : k < (T[i]).length := by rw [(hg _ (List.getElem_mem hiT)).1]; exact hk
    have e : (byT T)[i] = (T[i]).map fun s => s.data.toList := List.getElem_map (fun r : List ByteArray => r.map fun s => s.data.toList)
    rw [e, List.getElem?_map, List.getElem?_eq_getElem hkr] at hc
    simp only [Option.map_some, Option.some.injEq] at hc
    rw [← hc]
    have := maxTo_ge T k T.length i hiT
    rw [hgd i hiT k hkr] at this
    exact this
  · intro k w hw
    obtain ⟨hk, rfl⟩ := hget k w hw
    have hpos : 0 < maxTo T T.length k := by
      have := maxTo_ge T k T.length 0 (by omega)
      have hr := hg _ (List.getElem_mem (show 0 < T.length by omega))
      have hk0 : k < (T[0]).length := by rw [hr.1]; exact hk
      rw [hgd 0 (by omega) k hk0] at this
      have hne := (hr.2 _ (List.getElem_mem hk0)).ne
      have : 0 < ((T[0])[k]).size := List.length_pos_iff.2 hne
      omega
    obtain ⟨i, hi, he⟩ := maxTo_att T k T.length hpos
    have hkr : k < (T[i]).length := by rw [(hg _ (List.getElem_mem hi)).1]; exact hk
    rw [hgd i hi k hkr] at he
    refine ⟨(T[i]).map fun s => s.data.toList, List.mem_map.2 ⟨_, List.getElem_mem hi, rfl⟩, ((T[i])[k]).data.toList, by rw [List.getElem?_map, List.getElem?_eq_getElem hkr]; rfl, he⟩
end Go.Proofs.YtmgepckhdgoemaaDoor
