/- Joined: SP18, SP19, SP20. -/
import Derived.Test.YtdkppdjonlldhaaGreatDoorJ5
/- utf8stream: begin, and the decoder in plain words. -/
namespace Go.Proofs.YtdkppdjonlldhaaGreatDoor
open Go.RowKit Go.Maps Go.Shelf Go.Lib

/-- A sequence that has begun. -/
structure DS where
  v : Int
  m : Int
  lo : Int
  hi : Int
def DS.cells (s : DS) : Array Value := #[.int .i32 s.v, .int .i64 s.m, .int .u8 s.lo, .int .u8 s.hi]
def beginD (b : Int) : DS := ⟨if 194 ≤ b ∧ b ≤ 223 then b - 192 else if 224 ≤ b ∧ b ≤ 239 then b - 224 else if 240 ≤ b ∧ b ≤ 244 then b - 240 else 0,
  if 194 ≤ b ∧ b ≤ 223 then 1 else if 224 ≤ b ∧ b ≤ 239 then 2 else if 240 ≤ b ∧ b ≤ 244 then 3 else 0,
  if b = 224 then 160 else if b = 240 then 144 else 128, if b = 237 then 159 else if b = 244 then 143 else 191⟩
def runD : List UInt8 → DS → List Int → Option (DS × List Int)
  | [], s, out => some (s, out)
  | b :: l, s, out => if 0 < s.m then (if s.lo ≤ (b.toNat : Int) ∧ (b.toNat : Int) ≤ s.hi ∧ 0 ≤ s.v ∧ s.v ≤ 17407 ∧ 128 ≤ s.lo ∧ s.hi ≤ 191 ∧ s.m ≤ 3 then
      runD l ⟨s.v * 64 + ((b.toNat : Int) - 128), s.m - 1, 128, 191⟩ (if s.m = 1 then out ++ [s.v * 64 + ((b.toNat : Int) - 128)] else out) else none)
    else if (b.toNat : Int) < 128 then runD l (beginD b.toNat) (out ++ [(b.toNat : Int)])
    else if (beginD b.toNat).m = 0 then none else runD l (beginD b.toNat) out
theorem runD_idle {b : UInt8} {l : List UInt8} {s : DS} {out : List Int} (hm : s.m = 0) (h : b.toNat < 128) : runD (b :: l) s out = runD l (beginD b.toNat) (out ++ [(b.toNat : Int)]) := by
  rw [runD, if_neg (by omega), if_pos (by omega)]
theorem runD_lead {b : UInt8} {l : List UInt8} {s : DS} {out : List Int} (hm : s.m = 0) (h : 128 ≤ b.toNat) (h2 : (beginD b.toNat).m ≠ 0) : runD (b :: l) s out = runD l (beginD b.toNat) out := by
  rw [runD, if_neg (by omega), if_neg (by omega), if_neg h2]
theorem runD_more {b : UInt8} {l : List UInt8} {v m lo hi : Int} {out : List Int} (hm : 1 < m) (hm3 : m ≤ 3) (h1 : lo ≤ (b.toNat : Int)) (h2 : (b.toNat : Int) ≤ hi) (h3 : 0 ≤ v) (h4 : v ≤ 17407) (h5 : 128 ≤ lo) (h6 : hi ≤ 191) :
    runD (b :: l) ⟨v, m, lo, hi⟩ out = runD l ⟨v * 64 + ((b.toNat : Int) - 128), m - 1, 128, 191⟩ out := by
  rw [runD]
  dsimp only
  rw [if_pos (by omega), if_pos ⟨h1, h2, h3, h4, h5, h6, hm3⟩, if_neg (by omega)]
theorem runD_last {b : UInt8} {l : List UInt8} {v lo hi : Int} {out : List Int} (h1 : lo ≤ (b.toNat : Int)) (h2 : (b.toNat : Int) ≤ hi) (h3 : 0 ≤ v) (h4 : v ≤ 17407) (h5 : 128 ≤ lo) (h6 : hi ≤ 191) :
    runD (b :: l) ⟨v, 1, lo, hi⟩ out = runD l ⟨v * 64 + ((b.toNat : Int) - 128), 0, 128, 191⟩ (out ++ [v * 64 + ((b.toNat : Int) - 128)]) := by
  rw [runD]
  dsimp only
  rw [if_pos (by omega), if_pos ⟨h1, h2, h3, h4, h5, h6, by omega⟩, if_pos rfl]; rfl
theorem runD_enc (r : Int) (hr : GoodR r) (rest : List UInt8) (s : DS) (out : List Int) (hm : s.m = 0) : ∃ s' : DS, s'.m = 0 ∧ runD (encodeRune r ++ rest) s out = runD rest s' (out ++ [r]) := by
  unfold GoodR at hr
  unfold encodeRune
  rcases (show (0 ≤ r ∧ r ≤ 127) ∨ (128 ≤ r ∧ r ≤ 2047) ∨ ((2048 ≤ r ∧ r < 55296) ∨ (57343 < r ∧ r ≤ 65535)) ∨ (65536 ≤ r ∧ r ≤ 1114111) by omega) with ⟨g1, g2⟩ | ⟨g1, g2⟩ | g | ⟨g1, g2⟩
  · rw [encodeRuneZ_one g1 g2]
    simp only [List.map_cons, List.map_nil, List.cons_append, List.nil_append]
    have e := u8_of g1 (by omega : r < 256)
    rw [runD_idle hm (by rw [e]; omega), e, show ((r.toNat : Nat) : Int) = r by omega]
    refine ⟨beginD r, ?_, rfl⟩
    unfold beginD
    dsimp only
    rw [if_neg (by omega), if_neg (by omega), if_neg (by omega)]
  · rw [encodeRuneZ_two g1 g2]
    simp only [List.map_cons, List.map_nil, List.cons_append, List.nil_append]
    have e0 := u8_of (x := 192 + r / 64) (by omega) (by omega)
    have e1 := u8_of (x := 128 + r % 64) (by omega) (by omega)
    obtain ⟨b0, hb0⟩ : ∃ b0, (192 + r / 64).toNat.toUInt8 = b0 := ⟨_, rfl⟩
    obtain ⟨b1, hb1⟩ : ∃ b1, (128 + r % 64).toNat.toUInt8 = b1 := ⟨_, rfl⟩
    rw [hb0] at e0 ⊢
    rw [hb1] at e1 ⊢
    have hbg : beginD (b0.toNat : Int) = ⟨r / 64, 1, 128, 191⟩ := by
      unfold beginD
      rw [if_pos (by omega), if_pos (by omega), if_neg (by omega), if_neg (by omega), if_neg (by omega), if_neg (by omega)]
      congr 1; omega
    rw [runD_lead hm (by omega) (by rw [hbg]; dsimp only; omega), hbg, runD_last (by omega) (by omega) (by omega) (by omega) (by omega) (by omega)]
    refine ⟨⟨_, 0, 128, 191⟩, rfl, congrArg (runD rest _) ?_⟩
    simp only [List.append_cancel_left_eq, List.cons.injEq, and_true]; omega
  · rw [encodeRuneZ_three g]
    simp only [List.map_cons, List.map_nil, List.cons_append, List.nil_append]
    have e0 := u8_of (x := 224 + r / 4096) (by omega) (by omega)
    have e1 := u8_of (x := 128 + r / 64 % 64) (by omega) (by omega)
    have e2 := u8_of (x := 128 + r % 64) (by omega) (by omega)
    obtain ⟨b0, hb0⟩ : ∃ b0, (224 + r / 4096).toNat.toUInt8 = b0 := ⟨_, rfl⟩
    obtain ⟨b1, hb1⟩ : ∃ b1, (128 + r / 64 % 64).toNat.toUInt8 = b1 := ⟨_, rfl⟩
    obtain ⟨b2, hb2⟩ : ∃ b2, (128 + r % 64).toNat.toUInt8 = b2 := ⟨_, rfl⟩
    rw [hb0] at e0 ⊢
    rw [hb1] at e1 ⊢
    rw [hb2] at e2 ⊢
    obtain ⟨lo, hi, hbg, hlo, hhi, h128, h191⟩ : ∃ lo hi, beginD (b0.toNat : Int) = ⟨r / 4096, 2, lo, hi⟩ ∧ lo ≤ (b1.toNat : Int) ∧ (b1.toNat : Int) ≤ hi ∧ 128 ≤ lo ∧ hi ≤ 191 := by
      refine ⟨if (b0.toNat : Int) = 224 then 160 else 128, if (b0.toNat : Int) = 237 then 159 else 191, ?_, ?_, ?_, ?_, ?_⟩
      · unfold beginD
        rw [if_neg (by omega), if_pos (by omega), if_neg (by omega), if_pos (by omega), show (if (b0.toNat : Int) = 240 then (144 : Int) else 128) = 128 by rw [if_neg (by omega)], show (if (b0.toNat : Int) = 244 then (143 : Int) else 191) = 191 by rw [if_neg (by omega)]]
        congr 1; omega
      all_goals split <;> omega
    rw [runD_lead hm (by omega) (by rw [hbg]; dsimp only; omega), hbg, runD_more (by omega) (by omega) hlo hhi (by omega) (by omega) h128 h191, show (2 : Int) - 1 = 1 from rfl, runD_last (by omega) (by omega) (by omega) (by omega) (by omega) (by omega)]
    refine ⟨⟨_, 0, 128, 191⟩, rfl, congrArg (runD rest _) ?_⟩
    simp only [List.append_cancel_left_eq, List.cons.injEq, and_true]; omega
  · rw [encodeRuneZ_four g1 g2]
    simp only [List.map_cons, List.map_nil, List.cons_append, List.nil_append]
    have e0 := u8_of (x := 240 + r / 262144) (by omega) (by omega)
    have e1 := u8_of (x := 128 + r / 4096 % 64) (by omega) (by omega)
    have e2 := u8_of (x := 128 + r / 64 % 64) (by omega) (by omega)
    have e3 := u8_of (x := 128 + r % 64) (by omega) (by omega)
    obtain ⟨b0, hb0⟩ : ∃ b0, (240 + r / 262144).toNat.toUInt8 = b0 := ⟨_, rfl⟩
    obtain ⟨b1, hb1⟩ : ∃ b1, (128 + r / 4096 % 64).toNat.toUInt8 = b1 := ⟨_, rfl⟩
    obtain ⟨b2, hb2⟩ : ∃ b2, (128 + r / 64 % 64).toNat.toUInt8 = b2 := ⟨_, rfl⟩
    obtain ⟨b3, hb3⟩ : ∃ b3, (128 + r % 64).toNat.toUInt8 = b3 := ⟨_, rfl⟩
    rw [hb0] at e0 ⊢
    rw [hb1] at e1 ⊢
    rw [hb2] at e2 ⊢
    rw [hb3] at e3 ⊢
    obtain ⟨lo, hi, hbg, hlo, hhi, h128, h191⟩ : ∃ lo hi, beginD (b0.toNat : Int) = ⟨r / 262144, 3, lo, hi⟩ ∧ lo ≤ (b1.toNat : Int) ∧ (b1.toNat : Int) ≤ hi ∧ 128 ≤ lo ∧ hi ≤ 191 := by
      refine ⟨if (b0.toNat : Int) = 240 then 144 else 128, if (b0.toNat : Int) = 244 then 143 else 191, ?_, ?_, ?_, ?_, ?_⟩
      · unfold beginD
        rw [if_neg (by omega), if_neg (by omega), if_pos (by omega), if_neg (by omega), if_neg (by omega), if_pos (by omega), show (if (b0.toNat : Int) = 224 then (160 : Int) else if (b0.toNat : Int) = 240 then 144 else 128) = (if (b0.toNat : Int) = 240 then 144 else 128) by rw [if_neg (by omega)], show (if (b0.toNat : Int) = 237 then (159 : Int) else if (b0.toNat : Int) = 244 then 143 else 191) = (if (b0.toNat : Int) = 244 then 143 else 191) by rw [if_neg (by omega)]]
        congr 1; omega
      all_goals split <;> omega
    rw [runD_lead hm (by omega) (by rw [hbg]; dsimp only; omega), hbg, runD_more (by omega) (by omega) hlo hhi (by omega) (by omega) h128 h191, runD_more (by omega) (by omega) (by omega) (by omega) (by omega) (by omega) (by omega) (by omega), show (3 : Int) - 1 - 1 = 1 from rfl, runD_last (by omega) (by omega) (by omega) (by omega) (by omega) (by omega)]
    refine ⟨⟨_, 0, 128, 191⟩, rfl, congrArg (runD rest _) ?_⟩
    simp only [List.append_cancel_left_eq, List.cons.injEq, and_true]; omega
theorem runD_encs : ∀ (rs : List Int), (∀ r ∈ rs, GoodR r) → ∀ (s : DS) (out : List Int), s.m = 0 → ∃ s' : DS, s'.m = 0 ∧ runD (encs rs) s out = some (s', out ++ rs)
  | [], _, s, out, hm => ⟨s, hm, by rw [List.append_nil]; rfl⟩
  | r :: rs, h, s, out, hm => by
    obtain ⟨s1, h1, e1⟩ := runD_enc r (h r List.mem_cons_self) (encs rs) s out hm
    obtain ⟨s2, h2, e2⟩ := runD_encs rs (fun x hx => h x (List.mem_cons_of_mem _ hx)) s1 (out ++ [r]) h1
    exact ⟨s2, h2, by rw [show encs (r :: rs) = encodeRune r ++ encs rs from rfl, e1, e2, List.append_assoc]; rfl⟩
theorem and31 : ∀ n : Fin 256, bits BinOp.and IntKind.u8 (n.val : Int) 31 = (n.val : Int) % 32 := by decide +kernel
theorem and15 : ∀ n : Fin 256, bits BinOp.and IntKind.u8 (n.val : Int) 15 = (n.val : Int) % 16 := by decide +kernel
theorem and7 : ∀ n : Fin 256, bits BinOp.and IntKind.u8 (n.val : Int) 7 = (n.val : Int) % 8 := by decide +kernel
theorem and63 : ∀ n : Fin 256, bits BinOp.and IntKind.u8 (n.val : Int) 63 = (n.val : Int) % 64 := by decide +kernel
set_option maxRecDepth 100000 in
set_option maxHeartbeats 4000000 in
theorem beginP (w : World) (n : Nat) (hn : n < 256) : Calls Tryz.prog 101 #[.int .u8 n] w fun e w' => e = .returned (.agg (beginD n).cells) ∧ Below w.heap.size w w' := by
  have a31 := and31 ⟨n, hn⟩
  have a15 := and15 ⟨n, hn⟩
  have a7 := and7 ⟨n, hn⟩
  dsimp only at a31 a15 a7
  have hb0 := Below.refl w.heap.size w
  have hways : (n < 194) ∨ (194 ≤ n ∧ n ≤ 223) ∨ (n = 224) ∨ (225 ≤ n ∧ n ≤ 236) ∨ (n = 237) ∨ (238 ≤ n ∧ n ≤ 239) ∨ (n = 240) ∨ (241 ≤ n ∧ n ≤ 243) ∨ (n = 244) ∨ (245 ≤ n) := by omega
  rcases hways with h | h | h | h | h | h | h | h | h | h
  · have HE := hide (show beginD (n : Int) = ⟨0, 0, 128, 191⟩ by unfold beginD; congr 1 <;> repeat' (first | rw [if_pos (by omega)] | rw [if_neg (by omega)]))
    have x0 : decide ((194 : Int) ≤ (n : Int)) = false := decide_eq_false (by omega)
    have y0 : decide ((n : Int) ≤ 223) = true := decide_eq_true (by omega)
    have x1 : decide ((224 : Int) ≤ (n : Int)) = false := decide_eq_false (by omega)
    have y1 : decide ((n : Int) ≤ 239) = true := decide_eq_true (by omega)
    have x2 : decide ((240 : Int) ≤ (n : Int)) = false := decide_eq_false (by omega)
    have y2 : decide ((n : Int) ≤ 244) = true := decide_eq_true (by omega)
    have z0 : ((n : Int) == 224) = false := beq_eq_false_iff_ne.2 (by omega)
    have z1 : ((n : Int) == 237) = false := beq_eq_false_iff_ne.2 (by omega)
    have z2 : ((n : Int) == 240) = false := beq_eq_false_iff_ne.2 (by omega)
    have z3 : ((n : Int) == 244) = false := beq_eq_false_iff_ne.2 (by omega)
    clear h
    go_enter Tryz.func101, Tryz.ntmps101
    go_wp2
    refine bodyPost_ret (results_cell_row rfl _ _ w.heap.size 136 _ (0, 0) _ (by rfl) (block_alloc (block_new _ _) _) Tryz.underlying136 rfl (by kernel_rfl)) rfl ?_
    exact ⟨by rw [HE.out]; rfl, (hb0.alloc (Nat.le_refl _) _).alloc (by simp) _⟩
  · have HE := hide (show beginD (n : Int) = ⟨(n : Int) - 192, 1, 128, 191⟩ by unfold beginD; congr 1 <;> repeat' (first | rw [if_pos (by omega)] | rw [if_neg (by omega)]))
    have x0 : decide ((194 : Int) ≤ (n : Int)) = true := decide_eq_true (by omega)
    have y0 : decide ((n : Int) ≤ 223) = true := decide_eq_true (by omega)
    have x1 : decide ((224 : Int) ≤ (n : Int)) = false := decide_eq_false (by omega)
    have y1 : decide ((n : Int) ≤ 239) = true := decide_eq_true (by omega)
    have x2 : decide ((240 : Int) ≤ (n : Int)) = false := decide_eq_false (by omega)
    have y2 : decide ((n : Int) ≤ 244) = true := decide_eq_true (by omega)
    have z0 : ((n : Int) == 224) = false := beq_eq_false_iff_ne.2 (by omega)
    have z1 : ((n : Int) == 237) = false := beq_eq_false_iff_ne.2 (by omega)
    have z2 : ((n : Int) == 240) = false := beq_eq_false_iff_ne.2 (by omega)
    have z3 : ((n : Int) == 244) = false := beq_eq_false_iff_ne.2 (by omega)
    have hv : (n : Int) % 32 = (n : Int) - 192 := by omega
    clear h
    go_enter Tryz.func101, Tryz.ntmps101
    go_wp2
    refine bodyPost_ret (results_cell_row rfl _ _ w.heap.size 136 _ (0, 0) _ (by rfl) (block_alloc (block_new _ _) _) Tryz.underlying136 rfl (by kernel_rfl)) rfl ?_
    exact ⟨by rw [HE.out]; rfl, (hb0.alloc (Nat.le_refl _) _).alloc (by simp) _⟩
  · have HE := hide (show beginD (n : Int) = ⟨(n : Int) - 224, 2, 160, 191⟩ by unfold beginD; congr 1 <;> repeat' (first | rw [if_pos (by omega)] | rw [if_neg (by omega)]))
    have x0 : decide ((194 : Int) ≤ (n : Int)) = true := decide_eq_true (by omega)
    have y0 : decide ((n : Int) ≤ 223) = false := decide_eq_false (by omega)
    have x1 : decide ((224 : Int) ≤ (n : Int)) = true := decide_eq_true (by omega)
    have y1 : decide ((n : Int) ≤ 239) = true := decide_eq_true (by omega)
    have x2 : decide ((240 : Int) ≤ (n : Int)) = false := decide_eq_false (by omega)
    have y2 : decide ((n : Int) ≤ 244) = true := decide_eq_true (by omega)
    have z0 : ((n : Int) == 224) = true := by rw [beq_iff_eq]; omega
    have z1 : ((n : Int) == 237) = false := beq_eq_false_iff_ne.2 (by omega)
    have z2 : ((n : Int) == 240) = false := beq_eq_false_iff_ne.2 (by omega)
    have z3 : ((n : Int) == 244) = false := beq_eq_false_iff_ne.2 (by omega)
    have hv : (n : Int) % 16 = (n : Int) - 224 := by omega
    clear h
    go_enter Tryz.func101, Tryz.ntmps101
    go_wp2
    refine bodyPost_ret (results_cell_row rfl _ _ w.heap.size 136 _ (0, 0) _ (by rfl) (block_alloc (block_new _ _) _) Tryz.underlying136 rfl (by kernel_rfl)) rfl ?_
    exact ⟨by rw [HE.out]; rfl, (hb0.alloc (Nat.le_refl _) _).alloc (by simp) _⟩
  · have HE := hide (show beginD (n : Int) = ⟨(n : Int) - 224, 2, 128, 191⟩ by unfold beginD; congr 1 <;> repeat' (first | rw [if_pos (by omega)] | rw [if_neg (by omega)]))
    have x0 : decide ((194 : Int) ≤ (n : Int)) = true := decide_eq_true (by omega)
    have y0 : decide ((n : Int) ≤ 223) = false := decide_eq_false (by omega)
    have x1 : decide ((224 : Int) ≤ (n : Int)) = true := decide_eq_true (by omega)
    have y1 : decide ((n : Int) ≤ 239) = true := decide_eq_true (by omega)
    have x2 : decide ((240 : Int) ≤ (n : Int)) = false := decide_eq_false (by omega)
    have y2 : decide ((n : Int) ≤ 244) = true := decide_eq_true (by omega)
    have z0 : ((n : Int) == 224) = false := beq_eq_false_iff_ne.2 (by omega)
    have z1 : ((n : Int) == 237) = false := beq_eq_false_iff_ne.2 (by omega)
    have z2 : ((n : Int) == 240) = false := beq_eq_false_iff_ne.2 (by omega)
    have z3 : ((n : Int) == 244) = false := beq_eq_false_iff_ne.2 (by omega)
    have hv : (n : Int) % 16 = (n : Int) - 224 := by omega
    clear h
    go_enter Tryz.func101, Tryz.ntmps101
    go_wp2
    refine bodyPost_ret (results_cell_row rfl _ _ w.heap.size 136 _ (0, 0) _ (by rfl) (block_alloc (block_new _ _) _) Tryz.underlying136 rfl (by kernel_rfl)) rfl ?_
    exact ⟨by rw [HE.out]; rfl, (hb0.alloc (Nat.le_refl _) _).alloc (by simp) _⟩
  · have HE := hide (show beginD (n : Int) = ⟨(n : Int) - 224, 2, 128, 159⟩ by unfold beginD; congr 1 <;> repeat' (first | rw [if_pos (by omega)] | rw [if_neg (by omega)]))
    have x0 : decide ((194 : Int) ≤ (n : Int)) = true := decide_eq_true (by omega)
    have y0 : decide ((n : Int) ≤ 223) = false := decide_eq_false (by omega)
    have x1 : decide ((224 : Int) ≤ (n : Int)) = true := decide_eq_true (by omega)
    have y1 : decide ((n : Int) ≤ 239) = true := decide_eq_true (by omega)
    have x2 : decide ((240 : Int) ≤ (n : Int)) = false := decide_eq_false (by omega)
    have y2 : decide ((n : Int) ≤ 244) = true := decide_eq_true (by omega)
    have z0 : ((n : Int) == 224) = false := beq_eq_false_iff_ne.2 (by omega)
    have z1 : ((n : Int) == 237) = true := by rw [beq_iff_eq]; omega
    have z2 : ((n : Int) == 240) = false := beq_eq_false_iff_ne.2 (by omega)
    have z3 : ((n : Int) == 244) = false := beq_eq_false_iff_ne.2 (by omega)
    have hv : (n : Int) % 16 = (n : Int) - 224 := by omega
    clear h
    go_enter Tryz.func101, Tryz.ntmps101
    go_wp2
    refine bodyPost_ret (results_cell_row rfl _ _ w.heap.size 136 _ (0, 0) _ (by rfl) (block_alloc (block_new _ _) _) Tryz.underlying136 rfl (by kernel_rfl)) rfl ?_
    exact ⟨by rw [HE.out]; rfl, (hb0.alloc (Nat.le_refl _) _).alloc (by simp) _⟩
  · have HE := hide (show beginD (n : Int) = ⟨(n : Int) - 224, 2, 128, 191⟩ by unfold beginD; congr 1 <;> repeat' (first | rw [if_pos (by omega)] | rw [if_neg (by omega)]))
    have x0 : decide ((194 : Int) ≤ (n : Int)) = true := decide_eq_true (by omega)
    have y0 : decide ((n : Int) ≤ 223) = false := decide_eq_false (by omega)
    have x1 : decide ((224 : Int) ≤ (n : Int)) = true := decide_eq_true (by omega)
    have y1 : decide ((n : Int) ≤ 239) = true := decide_eq_true (by omega)
    have x2 : decide ((240 : Int) ≤ (n : Int)) = false := decide_eq_false (by omega)
    have y2 : decide ((n : Int) ≤ 244) = true := decide_eq_true (by omega)
    have z0 : ((n : Int) == 224) = false := beq_eq_false_iff_ne.2 (by omega)
    have z1 : ((n : Int) == 237) = false := beq_eq_false_iff_ne.2 (by omega)
    have z2 : ((n : Int) == 240) = false := beq_eq_false_iff_ne.2 (by omega)
    have z3 : ((n : Int) == 244) = false := beq_eq_false_iff_ne.2 (by omega)
    have hv : (n : Int) % 16 = (n : Int) - 224 := by omega
    clear h
    go_enter Tryz.func101, Tryz.ntmps101
    go_wp2
    refine bodyPost_ret (results_cell_row rfl _ _ w.heap.size 136 _ (0, 0) _ (by rfl) (block_alloc (block_new _ _) _) Tryz.underlying136 rfl (by kernel_rfl)) rfl ?_
    exact ⟨by rw [HE.out]; rfl, (hb0.alloc (Nat.le_refl _) _).alloc (by simp) _⟩
  · have HE := hide (show beginD (n : Int) = ⟨(n : Int) - 240, 3, 144, 191⟩ by unfold beginD; congr 1 <;> repeat' (first | rw [if_pos (by omega)] | rw [if_neg (by omega)]))
    have x0 : decide ((194 : Int) ≤ (n : Int)) = true := decide_eq_true (by omega)
    have y0 : decide ((n : Int) ≤ 223) = false := decide_eq_false (by omega)
    have x1 : decide ((224 : Int) ≤ (n : Int)) = true := decide_eq_true (by omega)
    have y1 : decide ((n : Int) ≤ 239) = false := decide_eq_false (by omega)
    have x2 : decide ((240 : Int) ≤ (n : Int)) = true := decide_eq_true (by omega)
    have y2 : decide ((n : Int) ≤ 244) = true := decide_eq_true (by omega)
    have z0 : ((n : Int) == 224) = false := beq_eq_false_iff_ne.2 (by omega)
    have z1 : ((n : Int) == 237) = false := beq_eq_false_iff_ne.2 (by omega)
    have z2 : ((n : Int) == 240) = true := by rw [beq_iff_eq]; omega
    have z3 : ((n : Int) == 244) = false := beq_eq_false_iff_ne.2 (by omega)
    have hv : (n : Int) % 8 = (n : Int) - 240 := by omega
    clear h
    go_enter Tryz.func101, Tryz.ntmps101
    go_wp2
    refine bodyPost_ret (results_cell_row rfl _ _ w.heap.size 136 _ (0, 0) _ (by rfl) (block_alloc (block_new _ _) _) Tryz.underlying136 rfl (by kernel_rfl)) rfl ?_
    exact ⟨by rw [HE.out]; rfl, (hb0.alloc (Nat.le_refl _) _).alloc (by simp) _⟩
  · have HE := hide (show beginD (n : Int) = ⟨(n : Int) - 240, 3, 128, 191⟩ by unfold beginD; congr 1 <;> repeat' (first | rw [if_pos (by omega)] | rw [if_neg (by omega)]))
    have x0 : decide ((194 : Int) ≤ (n : Int)) = true := decide_eq_true (by omega)
    have y0 : decide ((n : Int) ≤ 223) = false := decide_eq_false (by omega)
    have x1 : decide ((224 : Int) ≤ (n : Int)) = true := decide_eq_true (by omega)
    have y1 : decide ((n : Int) ≤ 239) = false := decide_eq_false (by omega)
    have x2 : decide ((240 : Int) ≤ (n : Int)) = true := decide_eq_true (by omega)
    have y2 : decide ((n : Int) ≤ 244) = true := decide_eq_true (by omega)
    have z0 : ((n : Int) == 224) = false := beq_eq_false_iff_ne.2 (by omega)
    have z1 : ((n : Int) == 237) = false := beq_eq_false_iff_ne.2 (by omega)
    have z2 : ((n : Int) == 240) = false := beq_eq_false_iff_ne.2 (by omega)
    have z3 : ((n : Int) == 244) = false := beq_eq_false_iff_ne.2 (by omega)
    have hv : (n : Int) % 8 = (n : Int) - 240 := by omega
    clear h
    go_enter Tryz.func101, Tryz.ntmps101
    go_wp2
    refine bodyPost_ret (results_cell_row rfl _ _ w.heap.size 136 _ (0, 0) _ (by rfl) (block_alloc (block_new _ _) _) Tryz.underlying136 rfl (by kernel_rfl)) rfl ?_
    exact ⟨by rw [HE.out]; rfl, (hb0.alloc (Nat.le_refl _) _).alloc (by simp) _⟩
  · have HE := hide (show beginD (n : Int) = ⟨(n : Int) - 240, 3, 128, 143⟩ by unfold beginD; congr 1 <;> repeat' (first | rw [if_pos (by omega)] | rw [if_neg (by omega)]))
    have x0 : decide ((194 : Int) ≤ (n : Int)) = true := decide_eq_true (by omega)
    have y0 : decide ((n : Int) ≤ 223) = false := decide_eq_false (by omega)
    have x1 : decide ((224 : Int) ≤ (n : Int)) = true := decide_eq_true (by omega)
    have y1 : decide ((n : Int) ≤ 239) = false := decide_eq_false (by omega)
    have x2 : decide ((240 : Int) ≤ (n : Int)) = true := decide_eq_true (by omega)
    have y2 : decide ((n : Int) ≤ 244) = true := decide_eq_true (by omega)
    have z0 : ((n : Int) == 224) = false := beq_eq_false_iff_ne.2 (by omega)
    have z1 : ((n : Int) == 237) = false := beq_eq_false_iff_ne.2 (by omega)
    have z2 : ((n : Int) == 240) = false := beq_eq_false_iff_ne.2 (by omega)
    have z3 : ((n : Int) == 244) = true := by rw [beq_iff_eq]; omega
    have hv : (n : Int) % 8 = (n : Int) - 240 := by omega
    clear h
    go_enter Tryz.func101, Tryz.ntmps101
    go_wp2
    refine bodyPost_ret (results_cell_row rfl _ _ w.heap.size 136 _ (0, 0) _ (by rfl) (block_alloc (block_new _ _) _) Tryz.underlying136 rfl (by kernel_rfl)) rfl ?_
    exact ⟨by rw [HE.out]; rfl, (hb0.alloc (Nat.le_refl _) _).alloc (by simp) _⟩
  · have HE := hide (show beginD (n : Int) = ⟨0, 0, 128, 191⟩ by unfold beginD; congr 1 <;> repeat' (first | rw [if_pos (by omega)] | rw [if_neg (by omega)]))
    have x0 : decide ((194 : Int) ≤ (n : Int)) = true := decide_eq_true (by omega)
    have y0 : decide ((n : Int) ≤ 223) = false := decide_eq_false (by omega)
    have x1 : decide ((224 : Int) ≤ (n : Int)) = true := decide_eq_true (by omega)
    have y1 : decide ((n : Int) ≤ 239) = false := decide_eq_false (by omega)
    have x2 : decide ((240 : Int) ≤ (n : Int)) = true := decide_eq_true (by omega)
    have y2 : decide ((n : Int) ≤ 244) = false := decide_eq_false (by omega)
    have z0 : ((n : Int) == 224) = false := beq_eq_false_iff_ne.2 (by omega)
    have z1 : ((n : Int) == 237) = false := beq_eq_false_iff_ne.2 (by omega)
    have z2 : ((n : Int) == 240) = false := beq_eq_false_iff_ne.2 (by omega)
    have z3 : ((n : Int) == 244) = false := beq_eq_false_iff_ne.2 (by omega)
    clear h
    go_enter Tryz.func101, Tryz.ntmps101
    go_wp2
    refine bodyPost_ret (results_cell_row rfl _ _ w.heap.size 136 _ (0, 0) _ (by rfl) (block_alloc (block_new _ _) _) Tryz.underlying136 rfl (by kernel_rfl)) rfl ?_
    exact ⟨by rw [HE.out]; rfl, (hb0.alloc (Nat.le_refl _) _).alloc (by simp) _⟩
end Go.Proofs.YtdkppdjonlldhaaGreatDoor

/- utf8stream.Decode and Finish, spokentext.characters: of valid text. -/
namespace Go.Proofs.YtdkppdjonlldhaaGreatDoor
open Go.RowKit Go.Maps Go.Shelf Go.Lib

theorem store4 {W : World} {b : Nat} {s : DS} (h : W.heap[b]? = some (.cells s.cells 136 (0, 0))) (v m lo hi : Int) :
    ((((W.setCell ⟨b, 0, none⟩ (.int .i32 v)).setCell ⟨b, 1, none⟩ (.int .i64 m)).setCell ⟨b, 2, none⟩ (.int .u8 lo)).setCell ⟨b, 3, none⟩ (.int .u8 hi)).heap[b]? = some (.cells (⟨v, m, lo, hi⟩ : DS).cells 136 (0, 0)) :=
  blk_set (i := 3) (blk_set (i := 2) (blk_set (i := 1) (blk_set (i := 0) h _) _) _) _
theorem own4 {W : World} {b B : Nat} {e : TypeId} {sz n : Nat} {v : Value} {xs : List Value} (h : W.ownsRow B e sz v n xs) (hb : b < B) (u0 u1 u2 u3 : Value) :
    ((((W.setCell ⟨b, 0, none⟩ u0).setCell ⟨b, 1, none⟩ u1).setCell ⟨b, 2, none⟩ u2).setCell ⟨b, 3, none⟩ u3).ownsRow B e sz v n xs :=
  ownsRow_setCell_below (ownsRow_setCell_below (ownsRow_setCell_below (ownsRow_setCell_below h (a := ⟨b, 0, none⟩) hb _) (a := ⟨b, 1, none⟩) hb _) (a := ⟨b, 2, none⟩) hb _) (a := ⟨b, 3, none⟩) hb _
theorem below4 {W w : World} {b B : Nat} (h : Below B w W) (hb : B ≤ b) (u0 u1 u2 u3 : Value) :
    Below B w ((((W.setCell ⟨b, 0, none⟩ u0).setCell ⟨b, 1, none⟩ u1).setCell ⟨b, 2, none⟩ u2).setCell ⟨b, 3, none⟩ u3) :=
  (((h.setCell (p := ⟨b, 0, none⟩) hb _).setCell (p := ⟨b, 1, none⟩) hb _).setCell (p := ⟨b, 2, none⟩) hb _).setCell (p := ⟨b, 3, none⟩) hb _
/-- What Decode answers of valid text. -/
def RnRet (w : World) (l : List Int) (e : Ending) (w' : World) : Prop := ∃ v, e = .returned (.tuple #[v, .string ⟨#[]⟩]) ∧ w'.ownsRow w.heap.size 21 1 v l.length (l.map fun r => Value.int .i32 r) ∧ Below w.heap.size w w'
set_option maxRecDepth 100000 in
set_option maxHeartbeats 4000000 in
theorem decodeP (w : World) (S : ByteArray) (D : List UInt8) (hD : S.data.toList = D) (hs : S.size ≤ 1000000) (RS : List Int) (hrun : ∃ s, DS.m s = 0 ∧ runD D ⟨0, 0, 0, 0⟩ [] = some (s, RS)) :
    Calls Tryz.prog 74 #[.string ⟨#[]⟩, .string S] w (RnRet w RS) := by
  obtain ⟨sF, hsF, hrun⟩ := hrun
  have hcat : (⟨#[]⟩ : ByteArray) ++ S = S := by apply ByteArray.ext; simp
  have HRun := hide hrun
  have HD := hide hD
  have hDl : D.length = S.size := by rw [← hD]; rfl
  have HB := hide beginP
  clear hrun hD
  go_enter Tryz.func74, Tryz.ntmps74
  go_wp2
  have Hhb := hide ((Below.refl w.heap.size w).alloc (Nat.le_refl _) (.cells #[.int .i32 0, .int .i64 0, .int .u8 0, .int .u8 0] 136))
  have hbx : (w.alloc (.cells #[.int .i32 0, .int .i64 0, .int .u8 0, .int .u8 0] 136)).heap[w.heap.size]? = some (.cells (⟨0, 0, 0, 0⟩ : DS).cells 136 (0, 0)) := block_new w _
  have Hbx := hide hbx
  clear hbx
  go_loopw [7, 9, 17] (fun o st i wr => ∃ (k : Nat) (z : Int) (s : DS) (acc : List Int), k ≤ S.size ∧ i = .int .i64 k ∧ st = .int .i64 z ∧ wr.heap[w.heap.size]? = some (.cells s.cells 136 (0, 0)) ∧ wr.ownsRow (w.heap.size + 1) 21 1 o acc.length (acc.map fun r => Value.int .i32 r) ∧ acc.length ≤ k ∧ runD (D.drop k) s acc = some (sF, RS) ∧ Below w.heap.size w wr) (fun _ _ i _ => S.size - (RowKit.intOf i).toNat)
  case atStart => exact ⟨0, 0, ⟨0, 0, 0, 0⟩, [], Nat.zero_le _, rfl, rfl, Hbx.out, World.ownsRow_nil _ _ _ _, Nat.le_refl _, by rw [List.drop_zero]; exact HRun.out, Hhb.out⟩
  case round =>
    obtain ⟨k, z, s, acc, hk, rfl, rfl, hbox, hown, hacc, hr, hbr⟩ := hrel
    rename World => wo
    have HB0 := hide hbr
    have hszw := hbr.size
    obtain ⟨A1, c1, rfl⟩ := own_form hown
    have HO := hide hown
    have Hbox := hide hbox
    obtain ⟨v, m, lo, hi⟩ := s
    have x0 := cell_block hbox 0
    have x1 := cell_block hbox 1
    have x2 := cell_block hbox 2
    have x3 := cell_block hbox 3
    have f0 := frozen_block hbox 0
    have f1 := frozen_block hbox 1
    have f2 := frozen_block hbox 2
    have f3 := frozen_block hbox 3
    unfold DS.cells at x0 x1 x2 x3
    dsimp only at x0 x1 x2 x3
    clear hown hbox hbr HRun
    by_cases hlt : k < S.size
    · have hkI : (k : Int) < (S.size : Int) := by omega
      have hkl : k < D.length := by omega
      have hix : ∀ W : World, (Instr.index 9 (.string S) (.int .i64 k)).run Tryz.prog W = .ok (.int .u8 (D[k].toNat : Int)) W := fun W => by
        rw [run_index_string (P := Tryz.prog) (w := W) 9 S .i64 (k : Int) Tryz.underlying9, dif_pos ⟨by omega, by omega⟩]
        have : S[((k : Int)).toNat]'(by omega) = D[k] := by
          have h2 : S.data.toList[k]? = some D[k] := by rw [HD.out]; exact List.getElem?_eq_getElem hkl
          have h3 := (List.getElem?_eq_some_iff.1 h2).2
          rw [← h3]; rfl
        rw [this]
      have hdr := List.drop_eq_getElem_cons hkl
      rw [hdr] at hr
      obtain ⟨bb, hbb⟩ : ∃ bb, D[k] = bb := ⟨_, rfl⟩
      rw [hbb] at hr hix
      obtain ⟨n, hn⟩ : ∃ n, bb.toNat = n := ⟨_, rfl⟩
      have hn2 : n < 256 := by rw [← hn]; exact UInt8.toNat_lt bb
      clear hdr hbb
      rw [runD] at hr
      dsimp only at hr
      rw [hn] at hr hix
      have a63 := and63 ⟨n, hn2⟩
      dsimp only at a63
      by_cases hm : 0 < m
      · rw [if_pos hm] at hr
        by_cases hcond : lo ≤ (n : Int) ∧ (n : Int) ≤ hi ∧ 0 ≤ v ∧ v ≤ 17407 ∧ 128 ≤ lo ∧ hi ≤ 191 ∧ m ≤ 3
        · rw [if_pos hcond] at hr
          obtain ⟨c1', c2', c3', c4', c5', c6', c7'⟩ := hcond
          have d1 : decide ((0 : Int) < m) = true := decide_eq_true hm
          have d2 : decide (lo ≤ (n : Int)) = true := decide_eq_true c1'
          have d3 : decide ((n : Int) ≤ hi) = true := decide_eq_true c2'
          by_cases h1 : m = 1
          · subst h1
            rw [if_pos rfl] at hr
            have Hr := hide hr
            clear hr
            rw [show (n : Int) - 128 = (n : Int) % 64 by omega] at Hr
            have hlw := block_lt Hbox.out
            go_upto_region 11 with fail
            obtain ⟨W4, hW4⟩ : ∃ W4, (((wo.setCell ⟨w.heap.size, 0, none⟩ (.int .i32 (v * 64 + (n : Int) % 64))).setCell ⟨w.heap.size, 1, none⟩ (.int .i64 (0))).setCell ⟨w.heap.size, 2, none⟩ (.int .u8 128)).setCell ⟨w.heap.size, 3, none⟩ (.int .u8 191) = W4 := ⟨_, rfl⟩
            have bx4 := store4 Hbox.out (v * 64 + (n : Int) % 64) (0) 128 191
            have ow4 := own4 HO.out (show w.heap.size < w.heap.size + 1 by omega) (.int .i32 (v * 64 + (n : Int) % 64)) (.int .i64 (0)) (.int .u8 128) (.int .u8 191)
            have be4 := below4 HB0.out (Nat.le_refl _) (.int .i32 (v * 64 + (n : Int) % 64)) (.int .i64 (0)) (.int .u8 128) (.int .u8 191)
            rw [hW4] at bx4 ow4 be4 ⊢
            clear hW4 x0 x1 x2 x3 f0 f1 f2 f3
            have y0 := cell_block bx4 0
            have y1 := cell_block bx4 1
            unfold DS.cells at y0 y1
            dsimp only at y0 y1
            have Hb4 := hide (And.intro bx4 (And.intro ow4 be4))
            clear bx4 ow4 be4
            have hlw4 := block_lt Hb4.out.1
            go_wp2_with (first
              | (at_builtin; refine wpList_app _ (.tmp 52) (.tmp 55) 83 rfl (by rfl) el_rune (w.heap.size + 1) (.slice A1 acc.length c1) acc.length _ (by rfl) Hb4.out.2.1 (by have := Hb4.out.2.2.size; have := hlw4; omega) #[.int .i32 (v * 64 + (n : Int) % 64)] 1 1 21 _ (by rfl) rfl rfl (by simp [Value.oneCell']) (by omega) ?_; intro v6 w6 hown6 hg6; have hb6 := below_own Hb4.out.2.2 Hb4.out.2.1 hg6 (Nat.le_succ _) Hb4.out.2.2.size; have bx6 := (hg6.block w.heap.size (hlw4) (by have := Hb4.out.2.1.lt w.heap.size; intro e; have h := (this e.symm).1; omega)).trans Hb4.out.1)
              | fail)
            go_roundw
            case rel => exact ⟨k + 1, z, ⟨v * 64 + (n : Int) % 64, 0, 128, 191⟩, acc ++ [v * 64 + (n : Int) % 64], by omega, by go_num, rfl, bx6, own_eq hown6 (by simp) (by simp), by simp; omega, Hr.out, hb6⟩
            case measure => simp [RowKit.intOf]; omega
          · rw [if_neg h1] at hr
            have Hr := hide hr
            have d4 : ((m - 1) == 0) = false := beq_eq_false_iff_ne.2 (by omega)
            clear hr
            rw [show (n : Int) - 128 = (n : Int) % 64 by omega] at Hr
            have hlw := block_lt Hbox.out
            go_upto_region 11 with fail
            obtain ⟨W4, hW4⟩ : ∃ W4, (((wo.setCell ⟨w.heap.size, 0, none⟩ (.int .i32 (v * 64 + (n : Int) % 64))).setCell ⟨w.heap.size, 1, none⟩ (.int .i64 (m - 1))).setCell ⟨w.heap.size, 2, none⟩ (.int .u8 128)).setCell ⟨w.heap.size, 3, none⟩ (.int .u8 191) = W4 := ⟨_, rfl⟩
            have bx4 := store4 Hbox.out (v * 64 + (n : Int) % 64) (m - 1) 128 191
            have ow4 := own4 HO.out (show w.heap.size < w.heap.size + 1 by omega) (.int .i32 (v * 64 + (n : Int) % 64)) (.int .i64 (m - 1)) (.int .u8 128) (.int .u8 191)
            have be4 := below4 HB0.out (Nat.le_refl _) (.int .i32 (v * 64 + (n : Int) % 64)) (.int .i64 (m - 1)) (.int .u8 128) (.int .u8 191)
            rw [hW4] at bx4 ow4 be4 ⊢
            clear hW4 x0 x1 x2 x3 f0 f1 f2 f3
            have y0 := cell_block bx4 0
            have y1 := cell_block bx4 1
            unfold DS.cells at y0 y1
            dsimp only at y0 y1
            have Hb4 := hide (And.intro bx4 (And.intro ow4 be4))
            clear bx4 ow4 be4
            go_wp2
            go_roundw
            case rel => exact ⟨k + 1, z, ⟨v * 64 + (n : Int) % 64, m - 1, 128, 191⟩, acc, by omega, by go_num, rfl, Hb4.out.1, Hb4.out.2.1, by omega, Hr.out, Hb4.out.2.2⟩
            case measure => simp [RowKit.intOf]; omega
        · rw [if_neg hcond] at hr; cases hr
      · rw [if_neg hm] at hr
        have d1 : decide ((0 : Int) < m) = false := decide_eq_false hm
        have HBn := hide (HB.out wo n hn2)
        obtain ⟨bd, hbd⟩ : ∃ bd, beginD (n : Int) = bd := ⟨_, rfl⟩
        rw [hbd] at hr HBn
        have HBD := hide hbd
        obtain ⟨v', m', lo', hi'⟩ := bd
        unfold DS.cells at HBn
        dsimp only at hr HBn
        have hlw := block_lt Hbox.out
        clear hbd
        by_cases hlow : (n : Int) < 128
        · rw [if_pos hlow] at hr
          have d5 : decide ((n : Int) < 128) = true := decide_eq_true hlow
          have Hr := hide hr
          clear hr
          go_upto_region 16 with (first
            | (go_at_call 101; refine HBn.out.mono ?_; rintro e w5 ⟨rfl, hb5⟩; have bx5 := (hb5.block w.heap.size hlw).trans Hbox.out; have j0 := cell_block bx5 0; have j1 := cell_block bx5 1; have j2 := cell_block bx5 2; have j3 := cell_block bx5 3; have g0 := frozen_block bx5 0; have g1 := frozen_block bx5 1; have g2 := frozen_block bx5 2; have g3 := frozen_block bx5 3; unfold DS.cells at j0 j1 j2 j3; dsimp only at j0 j1 j2 j3; have HO5 := hide (own_keep HO.out hb5); have HB5 := hide (HB0.out.trans (hb5.mono hszw)); have Hbx5 := hide bx5; clear bx5)
            | fail)
          obtain ⟨W4, hW4⟩ : ∃ W4, (((w5.setCell ⟨w.heap.size, 0, none⟩ (.int .i32 v')).setCell ⟨w.heap.size, 1, none⟩ (.int .i64 m')).setCell ⟨w.heap.size, 2, none⟩ (.int .u8 lo')).setCell ⟨w.heap.size, 3, none⟩ (.int .u8 hi') = W4 := ⟨_, rfl⟩
          have bx4 := store4 Hbx5.out v' m' lo' hi'
          have ow4 := own4 HO5.out (show w.heap.size < w.heap.size + 1 by omega) (.int .i32 v') (.int .i64 m') (.int .u8 lo') (.int .u8 hi')
          have be4 := below4 HB5.out (Nat.le_refl _) (.int .i32 v') (.int .i64 m') (.int .u8 lo') (.int .u8 hi')
          rw [hW4] at bx4 ow4 be4 ⊢
          clear hW4 x0 x1 x2 x3 f0 f1 f2 f3 j0 j1 j2 j3 g0 g1 g2 g3
          have y0 := cell_block bx4 0
          have y1 := cell_block bx4 1
          unfold DS.cells at y0 y1
          dsimp only at y0 y1
          have Hb4 := hide (And.intro bx4 (And.intro ow4 be4))
          clear bx4 ow4 be4
          have hlw4 := block_lt Hb4.out.1
          go_wp2_with (first
            | (at_builtin; refine wpList_app _ (.tmp 69) (.tmp 72) 83 rfl (by rfl) el_rune (w.heap.size + 1) (.slice A1 acc.length c1) acc.length _ (by rfl) Hb4.out.2.1 (by omega) #[.int .i32 (n : Int)] 1 1 21 _ (by rfl) rfl rfl (by simp [Value.oneCell']) (by omega) ?_; intro v6 w6 hown6 hg6; have hb6 := below_own Hb4.out.2.2 Hb4.out.2.1 hg6 (Nat.le_succ _) Hb4.out.2.2.size; have bx6 := (hg6.block w.heap.size hlw4 (by have := Hb4.out.2.1.lt w.heap.size; intro e; have h := (this e.symm).1; omega)).trans Hb4.out.1)
            | fail)
          go_roundw
          case rel => exact ⟨k + 1, k, ⟨v', m', lo', hi'⟩, acc ++ [(n : Int)], by omega, by go_num, rfl, bx6, own_eq hown6 (by simp) (by simp), by simp; omega, Hr.out, hb6⟩
          case measure => simp [RowKit.intOf]; omega
        · rw [if_neg hlow] at hr
          have d5 : decide ((n : Int) < 128) = false := decide_eq_false hlow
          by_cases hm0 : m' = 0
          · rw [if_pos hm0] at hr; cases hr
          · rw [if_neg hm0] at hr
            have d6 : (m' == 0) = false := beq_eq_false_iff_ne.2 hm0
            have Hr := hide hr
            clear hr
            go_upto_region 16 with (first
              | (go_at_call 101; refine HBn.out.mono ?_; rintro e w5 ⟨rfl, hb5⟩; have bx5 := (hb5.block w.heap.size hlw).trans Hbox.out; have j0 := cell_block bx5 0; have j1 := cell_block bx5 1; have j2 := cell_block bx5 2; have j3 := cell_block bx5 3; have g0 := frozen_block bx5 0; have g1 := frozen_block bx5 1; have g2 := frozen_block bx5 2; have g3 := frozen_block bx5 3; unfold DS.cells at j0 j1 j2 j3; dsimp only at j0 j1 j2 j3; have HO5 := hide (own_keep HO.out hb5); have HB5 := hide (HB0.out.trans (hb5.mono hszw)); have Hbx5 := hide bx5; clear bx5)
              | fail)
            obtain ⟨W4, hW4⟩ : ∃ W4, (((w5.setCell ⟨w.heap.size, 0, none⟩ (.int .i32 v')).setCell ⟨w.heap.size, 1, none⟩ (.int .i64 m')).setCell ⟨w.heap.size, 2, none⟩ (.int .u8 lo')).setCell ⟨w.heap.size, 3, none⟩ (.int .u8 hi') = W4 := ⟨_, rfl⟩
            have bx4 := store4 Hbx5.out v' m' lo' hi'
            have ow4 := own4 HO5.out (show w.heap.size < w.heap.size + 1 by omega) (.int .i32 v') (.int .i64 m') (.int .u8 lo') (.int .u8 hi')
            have be4 := below4 HB5.out (Nat.le_refl _) (.int .i32 v') (.int .i64 m') (.int .u8 lo') (.int .u8 hi')
            rw [hW4] at bx4 ow4 be4 ⊢
            clear hW4 x0 x1 x2 x3 f0 f1 f2 f3 j0 j1 j2 j3 g0 g1 g2 g3
            have y0 := cell_block bx4 0
            have y1 := cell_block bx4 1
            unfold DS.cells at y0 y1
            dsimp only at y0 y1
            have Hb4 := hide (And.intro bx4 (And.intro ow4 be4))
            clear bx4 ow4 be4
            have hlw4 := block_lt Hb4.out.1
            go_wp2
            go_roundw
            case rel => exact ⟨k + 1, k, ⟨v', m', lo', hi'⟩, acc, by omega, by go_num, rfl, Hb4.out.1, Hb4.out.2.1, by omega, Hr.out, Hb4.out.2.2⟩
            case measure => simp [RowKit.intOf]; omega
    · obtain rfl : k = S.size := by omega
      rw [List.drop_of_length_le (by omega)] at hr
      have hr2 : (⟨v, m, lo, hi⟩ : DS) = sF ∧ acc = RS := by
        rw [runD] at hr
        have h := Option.some.inj hr
        exact ⟨congrArg Prod.fst h, congrArg Prod.snd h⟩
      have hm0 : m = 0 := by
        have h := hr2.1
        subst h
        exact hsF
      subst hm0
      have HRS := hide hr2.2
      clear hr hr2 hsF
      go_wp2
      go_ret2
      refine ⟨_, rfl, ?_, HB0.out⟩
      rw [← HRS.out]
      exact own_more HO.out (Nat.le_succ _)
theorem run_valid {l : List UInt8} (hv : validD l = true) : ∃ s, DS.m s = 0 ∧ runD l ⟨0, 0, 0, 0⟩ [] = some (s, runesD l) := by
  obtain ⟨s, h1, h2⟩ := runD_encs (runesD l) (runesD_good l) ⟨0, 0, 0, 0⟩ [] rfl
  rw [runesD_encs l hv, List.nil_append] at h2
  exact ⟨s, h1, h2⟩
set_option maxRecDepth 100000 in
theorem finishP (w : World) : Calls Tryz.prog 75 #[.string ⟨#[]⟩] w fun e w' => ∃ A c, e = .returned (.slice A 0 c) ∧ Below w.heap.size w w' := by
  have HD := hide (fun w => decodeP w ⟨#[]⟩ [] rfl (by show 0 ≤ 1000000; omega) [] ⟨⟨0, 0, 0, 0⟩, rfl, rfl⟩)
  have e0 : ((⟨#[]⟩ : ByteArray).toList != []) = false := by rw [ByteArray.toList_eq]; rfl
  have e1 : ((⟨#[]⟩ : ByteArray).toList == []) = true := by rw [ByteArray.toList_eq]; rfl
  go_enter Tryz.func75, Tryz.ntmps75
  go_wp2_with (first
    | (go_at_call 74; refine (HD.out _).mono ?_; rintro e w2 ⟨v, rfl, hown, hb2⟩; obtain ⟨A2, c2, rfl⟩ := own_form hown; clear hown)
    | fail)
  go_ret
  exact ⟨_, _, rfl, hb2⟩
/-- What characters answers. -/
def RunesRet (w : World) (l : List Int) (e : Ending) (w' : World) : Prop := ∃ v, e = .returned v ∧ w'.ownsRow w.heap.size 21 1 v l.length (l.map fun r => Value.int .i32 r) ∧ Below w.heap.size w w'
set_option maxRecDepth 100000 in
set_option maxHeartbeats 1000000 in
theorem charactersP (w : World) (S : ByteArray) (D : List UInt8) (hD : S.data.toList = D) (hs : S.size ≤ 1000000) (hv : validD D = true) : Calls Tryz.prog 53 #[.string S] w (RunesRet w (runesD D)) := by
  have HD := hide (decodeP w S D hD hs (runesD D) (run_valid hv))
  have HF := hide finishP
  obtain ⟨i, hi, hz, hsz, hby⟩ := info_parts el_rune.info
  go_enter Tryz.func53, Tryz.ntmps53
  go_wp2_with (first
    | (go_at_call 74; refine HD.out.mono ?_; rintro e w2 ⟨v, rfl, hown, hb2⟩; obtain ⟨A2, c2, rfl⟩ := own_form hown; have HO := hide hown; clear hown)
    | (go_at_call 75; refine (HF.out _).mono ?_; rintro e w3 ⟨A3, c3, rfl, hb3⟩; have HO3 := hide (own_keep HO.out hb3))
    | (at_builtin; refine wpList_append_zero rfl (.tmp 10) (.tmp 12) _ rfl w.heap.size 21 i 1 el_rune.slice hi _ _ _ (by rfl) HO3.out A3 c3 (by rfl) ?_)
    | fail)
  go_ret
  exact ⟨_, rfl, HO3.out, hb2.trans (hb3.mono hb2.size)⟩
end Go.Proofs.YtdkppdjonlldhaaGreatDoor

/- spokentext.piece. -/
namespace Go.Proofs.YtdkppdjonlldhaaGreatDoor
open Go.RowKit Go.Maps Go.Shelf

theorem eq_gl (W : World) (T1 T2 : ByteArray) (w1 w2 : Bool) (s1 s2 : Int) : (binOp .eql 42 (.agg #[.string T1, .bool w1, .int .i64 s1]) (.agg #[.string T2, .bool w2, .int .i64 s2])).run Tryz.prog W = .ok (.bool (glEq ⟨T1, w1, s1⟩ ⟨T2, w2, s2⟩)) W := by
  have h1 := Tryz.underlying42
  rw [run_eql_struct]
  unfold glEq
  dsimp only
  rw [← ByteArray.toList_eq, ← ByteArray.toList_eq]
  cases e1 : (T1.toList == T2.toList) <;> cases e2 : (w1 == w2) <;> cases e3 : (s1 == s2) <;> simp [go_sem, h1, e1, e2, e3, Tryz.underlying9, Tryz.underlying3, Tryz.underlying4]
theorem wrap_add1 {a : Nat} (h : a ≤ 1000000) : IntKind.i64.wrap (1 + (a : Int)) = ((1 + a : Nat) : Int) := by rw [IntWalk.i64_in _ (by omega)]; omega
def GoodText (g : Gl) : Prop := g.text.size ≤ 1000000 ∧ Lib.validD g.text.data.toList = true
theorem row_rest {w : World} {B b off : Nat} {g : Gl} {l : List Gl} (h : GlRow w B (some ⟨b, off, none⟩) (g :: l)) : GlRow w B (some ⟨b, off + 3, none⟩) l := by
  have := h.drop 1
  rw [List.drop_succ_cons, List.drop_zero, Nat.one_mul] at this
  exact this
set_option maxRecDepth 100000 in
set_option maxHeartbeats 4000000 in
theorem pieceP (w : World) (A : Option Addr) (n c : Nat) (g : Gl) (l : List Gl) (hl : l.length + 1 = n) (hn : n ≤ 1000000) (hnc : n ≤ c) (hrow : GlRow w w.heap.size A (g :: l)) (hG : ∀ x ∈ g :: l, GoodText x) (rep : Int) :
    Calls Tryz.prog 33 #[.slice A n c, .int .i64 rep] w fun e w' => e = .returned (.int .i64 (pieceF rep (g :: l) : Nat)) ∧ Below w.heap.size w w' := by
  obtain ⟨b, off, rfl, hbb, x0, x1, x2⟩ := hrow.get (k := 0) (by simp)
  have HC := hide (fun (W : World) (hb : Below w.heap.size w W) (k st : Int) => countP W (some ⟨b, off, none⟩) n c (g :: l) (by simpa using hl) hn ((hrow.below (GlAt.stays _) hb).more hb.size) (fun x hx => (hG x hx).1) k st)
  have HC2 := hide (fun (W : World) (hb : Below w.heap.size w W) (c' : Nat) (k st : Int) => countP W (some ⟨b, off + 3, none⟩) (n - 1) c' l (by omega) (by omega) (((row_rest hrow).below (GlAt.stays _) hb).more hb.size) (fun x hx => (hG x (List.mem_cons_of_mem _ hx)).1) k st)
  have HC3 := hide (fun (W : World) (A' : Option Addr) (c' : Nat) (k st : Int) => countP W A' 0 c' [] rfl (by omega) (Sl.nil rfl) (fun x hx => by cases hx) k st)
  have HK := hide (fun (W : World) => kindP W g (hG g List.mem_cons_self).1)
  have Hrow := hide hrow
  have HGd := hide hG
  obtain ⟨T, wd, sy⟩ := g
  have HCh := hide (fun (W : World) => charactersP W T _ rfl (hG _ List.mem_cons_self).1 (hG _ List.mem_cons_self).2)
  simp only [List.getElem_cons_zero, Nat.zero_mul, Nat.add_zero] at x0 x1 x2
  obtain ⟨R, hR⟩ : ∃ R, pieceF rep (⟨T, wd, sy⟩ :: l) = R := ⟨_, rfl⟩
  rw [hR]
  rw [pieceF] at hR
  dsimp only at hR
  obtain ⟨K, hK⟩ : ∃ K, kindG ⟨T, wd, sy⟩ = K := ⟨_, rfl⟩
  rw [hK] at hR
  have HKK := hide hK
  have hKc := kindG_cases ⟨T, wd, sy⟩
  rw [hK] at hKc
  have hbA := (Below.refl w.heap.size w).alloc (Nat.le_refl _) (.cells #[.string T, .bool wd, .int .i64 sy] 42)
  have hbx := block_new w (.cells #[.string T, .bool wd, .int .i64 sy] 42)
  have HbA := hide hbA
  have Hbx := hide hbx
  have Hl := hide hl
  have i1 : (0 : Int) < (n : Int) := by omega
  unfold Gl.val at HK
  dsimp only at HK
  clear hbA hbx hrow hG hK hl
  have ARM : True := trivial
  by_cases h13 : K = 1 ∨ K = 3
  · rw [if_pos h13] at hR
    have HR := hide hR
    have q : (K == 1 || K == 3) = true := by rcases h13 with h | h <;> rw [h] <;> rfl
    rcases h13 with h | h <;> subst h
    all_goals
      clear hR hKc
      go_enter Tryz.func33, Tryz.ntmps33
      go_wp2_with (first
        | (go_at_call 51; refine (HK.out _).mono ?_; rintro e w2 ⟨rfl, hb2⟩; rw [HKK.out]; have hs2 : w.heap.size < w2.heap.size := (by have := hb2.size; simp at this; omega); have bx2 := (hb2.block w.heap.size (by simp)).trans Hbx.out; have k0 := cell_block bx2 0; have k1 := cell_block bx2 1; have k2 := cell_block bx2 2; have hb2w := HbA.out.trans (hb2.mono (by simp)))
        | (go_at_call 52; refine (HC.out w2 hb2w _ _).mono ?_; rintro e w3 ⟨rfl, hb3⟩)
        | fail)
      go_ret
      exact ⟨by rw [← HR.out]; rfl, hb2w.trans (hb3.mono hb2w.size)⟩
  · rw [if_neg h13] at hR
    by_cases h2 : K = 2
    · subst h2
      rw [if_pos rfl] at hR
      obtain ⟨C, hC⟩ : ∃ C, countF (⟨T, wd, sy⟩ :: l) 2 sy = C := ⟨_, rfl⟩
      have HCC := hide hC
      have hCle : C ≤ n := by rw [← hC]; have := countF_le (⟨T, wd, sy⟩ :: l) 2 sy; simp at this; rw [Hl.out] at this; exact this
      rw [hC] at hR
      clear hC hKc h13
      by_cases hc1 : 1 < C
      · rw [if_pos hc1] at hR
        have HR := hide hR
        have q1 : (1 : Int) < (C : Int) := by omega
        clear hR
        go_enter Tryz.func33, Tryz.ntmps33
        go_wp2_with (first
          | (go_at_call 51; refine (HK.out _).mono ?_; rintro e w2 ⟨rfl, hb2⟩; rw [HKK.out]; have hs2 : w.heap.size < w2.heap.size := (by have := hb2.size; simp at this; omega); have bx2 := (hb2.block w.heap.size (by simp)).trans Hbx.out; have k0 := cell_block bx2 0; have k1 := cell_block bx2 1; have k2 := cell_block bx2 2; have hb2w := HbA.out.trans (hb2.mono (by simp)))
          | (go_at_call 52; refine (HC.out w2 hb2w _ _).mono ?_; rintro e w3 ⟨rfl, hb3⟩; rw [HCC.out])
          | fail)
        go_ret
        exact ⟨by rw [← HR.out]; rfl, hb2w.trans (hb3.mono hb2w.size)⟩
      · rw [if_neg hc1] at hR
        have q1 : ¬ (1 : Int) < (C : Int) := by omega
        have hcl := countF_le l 1 sy
        obtain ⟨C2, hC2⟩ : ∃ C2, countF l 1 sy = C2 := ⟨_, rfl⟩
        rw [hC2] at hR hcl
        have HC22 := hide hC2
        have HR := hide hR
        have hcl2 : C2 ≤ 1000000 := by have := Hl.out; omega
        clear hR hC2 hcl
        by_cases hn1 : n = 1
        · obtain rfl : l = [] := List.eq_nil_of_length_eq_zero (by have := Hl.out; omega)
          subst hn1
          by_cases hc2 : c = 1
          · subst hc2
            go_enter Tryz.func33, Tryz.ntmps33
            go_upto_region 11 with (first
              | (go_at_call 51; refine (HK.out _).mono ?_; rintro e w2 ⟨rfl, hb2⟩; rw [HKK.out]; have hs2 : w.heap.size < w2.heap.size := (by have := hb2.size; simp at this; omega); have bx2 := (hb2.block w.heap.size (by simp)).trans Hbx.out; have k0 := cell_block bx2 0; have k1 := cell_block bx2 1; have k2 := cell_block bx2 2; have hb2w := HbA.out.trans (hb2.mono (by simp)))
              | (go_at_call 52; refine (HC.out w2 hb2w _ _).mono ?_; rintro e w3 ⟨rfl, hb3⟩; rw [HCC.out]; have hb3w := hb2w.trans (hb3.mono hb2w.size); have m2 := (hb3.cell (p := ⟨w.heap.size, 2, none⟩) hs2).trans k2)
              | fail)
            have hdr := (Below.refl w3.heap.size w3).drew
            have HS := hide (fun (W2 : World) (hb : Below w3.heap.size w3 W2) => show W2.cell? ⟨w.heap.size, 2, none⟩ = some (.int .i64 sy) from (hb.cell (p := ⟨w.heap.size, 2, none⟩) (Nat.lt_of_lt_of_le hs2 hb3.size)).trans m2)
            refine td_begin (by kernel_rfl) ?_
            (refine tda_take 0 (v := ?_) rfl (by kernel_rfl) (by decide +kernel) (by decide +kernel) (fun _ _ _ h => h) (by rfl) ?_ ?_; rotate_left; (· (intro w; (go_simp <;> with_reducible rfl))); (try simp only [Act.put, List.setIfInBounds_toArray, List.set_cons_zero, List.set_cons_succ]))
            (refine tda_take 1 (v := ?_) rfl (by kernel_rfl) (by decide +kernel) (by decide +kernel) (fun _ _ _ h => h) (by rfl) ?_ ?_; rotate_left; (· (intro w; (go_simp <;> with_reducible rfl))); (try simp only [Act.put, List.setIfInBounds_toArray, List.set_cons_zero, List.set_cons_succ]))
            (refine tda_take 2 (v := ?_) rfl (by kernel_rfl) (by decide +kernel) (by decide +kernel) (fun _ _ _ h => h) (by rfl) ?_ ?_; rotate_left; (· (intro w; (go_simp <;> with_reducible rfl))); (try simp only [Act.put, List.setIfInBounds_toArray, List.set_cons_zero, List.set_cons_succ]))
            refine td_hold (fun W2 => W2.cell? ⟨w.heap.size, 2, none⟩ = some (.int .i64 sy)) [] (by decide +kernel) ?_ (fun hHeld => ?_)
            · (first | exact HS.out _ hb34 | exact HS.out _ hdr)
            (refine td_take 3 (v := ?_) rfl (by decide) (by kernel_rfl) (by decide +kernel) (by decide +kernel) (fun _ _ _ h => h) (by assumption) (by rfl) ?_ ?_; rotate_left; (· (intro w hSw; (try dsimp only at hSw); (go_simp <;> with_reducible rfl))); (try simp only [Act.put, List.setIfInBounds_toArray, List.set_cons_zero, List.set_cons_succ]))
            repeat' (first
              | (refine td_ready (rs := [4]) (by decide +kernel) (by decide) (by simp) ?_; refine td_cons rfl (fun K hK => ?_) (td_nil); (focus (go_simp; go_at_call 52; refine (HC3.out _ _ _ _ _).mono ?_; rintro e w4 ⟨rfl, hb4⟩; rw [HC22.out]; have hb34 := hdr.trans (hb4.mono hdr.size); (first | refine hK.out _ _ ?_ ?_ | (go_wp2_with fail; refine hK.out _ _ ?_ ?_)); (· (first | exact HS.out _ hb34 | exact HS.out _ hdr)); clear hK K hHeld; intro hHeld; (try simp only [Act.put, List.setIfInBounds_toArray, List.set_cons_zero, List.set_cons_succ]))); rotate_left)
              | (refine td_ready (rs := [5]) (by decide +kernel) (by decide) (by simp) ?_; refine td_cons rfl (fun K hK => ?_) (td_nil); (focus (go_simp; (first | refine hK.out _ _ ?_ ?_ | (go_wp2_with fail; refine hK.out _ _ ?_ ?_)); (· (first | exact HS.out _ hb34 | exact HS.out _ hdr)); clear hK K hHeld; intro hHeld; (try simp only [Act.put, List.setIfInBounds_toArray, List.set_cons_zero, List.set_cons_succ]))); rotate_left)
              | (refine td_ready (rs := [6]) (by decide +kernel) (by decide) (by simp) ?_; refine td_cons rfl (fun K hK => ?_) (td_nil); (focus (go_simp; (first | refine hK.out _ _ ?_ ?_ | (go_wp2_with fail; refine hK.out _ _ ?_ ?_)); (· (first | exact HS.out _ hb34 | exact HS.out _ hdr)); clear hK K hHeld; intro hHeld; (try simp only [Act.put, List.setIfInBounds_toArray, List.set_cons_zero, List.set_cons_succ]))); rotate_left)
              | fail)
            all_goals refine And.intro (by decide +kernel) ?_
            go_wp2
            go_ret
            exact ⟨by rw [← HR.out, ← wrap_add1 hcl2]; rfl, hb3w.trans (hb34.mono hb3w.size)⟩
          · have i4 : c - 1 ≠ 0 := by omega
            have i6 : c ≠ 1 := by omega
            have i5 : 0 < c - 1 := by omega
            go_enter Tryz.func33, Tryz.ntmps33
            go_upto_region 11 with (first
              | (go_at_call 51; refine (HK.out _).mono ?_; rintro e w2 ⟨rfl, hb2⟩; rw [HKK.out]; have hs2 : w.heap.size < w2.heap.size := (by have := hb2.size; simp at this; omega); have bx2 := (hb2.block w.heap.size (by simp)).trans Hbx.out; have k0 := cell_block bx2 0; have k1 := cell_block bx2 1; have k2 := cell_block bx2 2; have hb2w := HbA.out.trans (hb2.mono (by simp)))
              | (go_at_call 52; refine (HC.out w2 hb2w _ _).mono ?_; rintro e w3 ⟨rfl, hb3⟩; rw [HCC.out]; have hb3w := hb2w.trans (hb3.mono hb2w.size); have m2 := (hb3.cell (p := ⟨w.heap.size, 2, none⟩) hs2).trans k2)
              | fail)
            have hdr := (Below.refl w3.heap.size w3).drew
            have HS := hide (fun (W2 : World) (hb : Below w3.heap.size w3 W2) => show W2.cell? ⟨w.heap.size, 2, none⟩ = some (.int .i64 sy) from (hb.cell (p := ⟨w.heap.size, 2, none⟩) (Nat.lt_of_lt_of_le hs2 hb3.size)).trans m2)
            refine td_begin (by kernel_rfl) ?_
            (refine tda_take 0 (v := ?_) rfl (by kernel_rfl) (by decide +kernel) (by decide +kernel) (fun _ _ _ h => h) (by rfl) ?_ ?_; rotate_left; (· (intro w; (go_simp <;> with_reducible rfl))); (try simp only [Act.put, List.setIfInBounds_toArray, List.set_cons_zero, List.set_cons_succ]))
            (refine tda_take 1 (v := ?_) rfl (by kernel_rfl) (by decide +kernel) (by decide +kernel) (fun _ _ _ h => h) (by rfl) ?_ ?_; rotate_left; (· (intro w; (go_simp <;> with_reducible rfl))); (try simp only [Act.put, List.setIfInBounds_toArray, List.set_cons_zero, List.set_cons_succ]))
            (refine tda_take 2 (v := ?_) rfl (by kernel_rfl) (by decide +kernel) (by decide +kernel) (fun _ _ _ h => h) (by rfl) ?_ ?_; rotate_left; (· (intro w; (go_simp <;> with_reducible rfl))); (try simp only [Act.put, List.setIfInBounds_toArray, List.set_cons_zero, List.set_cons_succ]))
            refine td_hold (fun W2 => W2.cell? ⟨w.heap.size, 2, none⟩ = some (.int .i64 sy)) [] (by decide +kernel) ?_ (fun hHeld => ?_)
            · (first | exact HS.out _ hb34 | exact HS.out _ hdr)
            (refine td_take 3 (v := ?_) rfl (by decide) (by kernel_rfl) (by decide +kernel) (by decide +kernel) (fun _ _ _ h => h) (by assumption) (by rfl) ?_ ?_; rotate_left; (· (intro w hSw; (try dsimp only at hSw); (go_simp <;> with_reducible rfl))); (try simp only [Act.put, List.setIfInBounds_toArray, List.set_cons_zero, List.set_cons_succ]))
            repeat' (first
              | (refine td_ready (rs := [4]) (by decide +kernel) (by decide) (by simp) ?_; refine td_cons rfl (fun K hK => ?_) (td_nil); (focus (go_simp; go_at_call 52; refine (HC3.out _ _ _ _ _).mono ?_; rintro e w4 ⟨rfl, hb4⟩; rw [HC22.out]; have hb34 := hdr.trans (hb4.mono hdr.size); (first | refine hK.out _ _ ?_ ?_ | (go_wp2_with fail; refine hK.out _ _ ?_ ?_)); (· (first | exact HS.out _ hb34 | exact HS.out _ hdr)); clear hK K hHeld; intro hHeld; (try simp only [Act.put, List.setIfInBounds_toArray, List.set_cons_zero, List.set_cons_succ]))); rotate_left)
              | (refine td_ready (rs := [5]) (by decide +kernel) (by decide) (by simp) ?_; refine td_cons rfl (fun K hK => ?_) (td_nil); (focus (go_simp; (first | refine hK.out _ _ ?_ ?_ | (go_wp2_with fail; refine hK.out _ _ ?_ ?_)); (· (first | exact HS.out _ hb34 | exact HS.out _ hdr)); clear hK K hHeld; intro hHeld; (try simp only [Act.put, List.setIfInBounds_toArray, List.set_cons_zero, List.set_cons_succ]))); rotate_left)
              | (refine td_ready (rs := [6]) (by decide +kernel) (by decide) (by simp) ?_; refine td_cons rfl (fun K hK => ?_) (td_nil); (focus (go_simp; (first | refine hK.out _ _ ?_ ?_ | (go_wp2_with fail; refine hK.out _ _ ?_ ?_)); (· (first | exact HS.out _ hb34 | exact HS.out _ hdr)); clear hK K hHeld; intro hHeld; (try simp only [Act.put, List.setIfInBounds_toArray, List.set_cons_zero, List.set_cons_succ]))); rotate_left)
              | fail)
            all_goals refine And.intro (by decide +kernel) ?_
            go_wp2
            go_ret
            exact ⟨by rw [← HR.out, ← wrap_add1 hcl2]; rfl, hb3w.trans (hb34.mono hb3w.size)⟩
        · have i2 : (1 : Int) ≤ (n : Int) := by omega
          have i3 : (n : Int) ≤ (c : Int) := by omega
          have i4 : c - 1 ≠ 0 := by omega
          have i6 : c ≠ 1 := by omega
          have i5 : 0 < c - 1 := by omega
          go_enter Tryz.func33, Tryz.ntmps33
          go_upto_region 11 with (first
            | (go_at_call 51; refine (HK.out _).mono ?_; rintro e w2 ⟨rfl, hb2⟩; rw [HKK.out]; have hs2 : w.heap.size < w2.heap.size := (by have := hb2.size; simp at this; omega); have bx2 := (hb2.block w.heap.size (by simp)).trans Hbx.out; have k0 := cell_block bx2 0; have k1 := cell_block bx2 1; have k2 := cell_block bx2 2; have hb2w := HbA.out.trans (hb2.mono (by simp)))
            | (go_at_call 52; refine (HC.out w2 hb2w _ _).mono ?_; rintro e w3 ⟨rfl, hb3⟩; rw [HCC.out]; have hb3w := hb2w.trans (hb3.mono hb2w.size); have m2 := (hb3.cell (p := ⟨w.heap.size, 2, none⟩) hs2).trans k2)
            | fail)
          have hdr := (Below.refl w3.heap.size w3).drew
          have HS := hide (fun (W2 : World) (hb : Below w3.heap.size w3 W2) => show W2.cell? ⟨w.heap.size, 2, none⟩ = some (.int .i64 sy) from (hb.cell (p := ⟨w.heap.size, 2, none⟩) (Nat.lt_of_lt_of_le hs2 hb3.size)).trans m2)
          refine td_begin (by kernel_rfl) ?_
          (refine tda_take 0 (v := ?_) rfl (by kernel_rfl) (by decide +kernel) (by decide +kernel) (fun _ _ _ h => h) (by rfl) ?_ ?_; rotate_left; (· (intro w; (go_simp <;> with_reducible rfl))); (try simp only [Act.put, List.setIfInBounds_toArray, List.set_cons_zero, List.set_cons_succ]))
          (refine tda_take 1 (v := ?_) rfl (by kernel_rfl) (by decide +kernel) (by decide +kernel) (fun _ _ _ h => h) (by rfl) ?_ ?_; rotate_left; (· (intro w; (go_simp <;> with_reducible rfl))); (try simp only [Act.put, List.setIfInBounds_toArray, List.set_cons_zero, List.set_cons_succ]))
          (refine tda_take 2 (v := ?_) rfl (by kernel_rfl) (by decide +kernel) (by decide +kernel) (fun _ _ _ h => h) (by rfl) ?_ ?_; rotate_left; (· (intro w; (go_simp <;> with_reducible rfl))); (try simp only [Act.put, List.setIfInBounds_toArray, List.set_cons_zero, List.set_cons_succ]))
          refine td_hold (fun W2 => W2.cell? ⟨w.heap.size, 2, none⟩ = some (.int .i64 sy)) [] (by decide +kernel) ?_ (fun hHeld => ?_)
          · (first | exact HS.out _ hb34 | exact HS.out _ hdr)
          (refine td_take 3 (v := ?_) rfl (by decide) (by kernel_rfl) (by decide +kernel) (by decide +kernel) (fun _ _ _ h => h) (by assumption) (by rfl) ?_ ?_; rotate_left; (· (intro w hSw; (try dsimp only at hSw); (go_simp <;> with_reducible rfl))); (try simp only [Act.put, List.setIfInBounds_toArray, List.set_cons_zero, List.set_cons_succ]))
          repeat' (first
            | (refine td_ready (rs := [4]) (by decide +kernel) (by decide) (by simp) ?_; refine td_cons rfl (fun K hK => ?_) (td_nil); (focus (go_simp; go_at_call 52; refine (HC2.out _ (hb3w.trans (hdr.mono hb3w.size)) _ _ _).mono ?_; rintro e w4 ⟨rfl, hb4⟩; rw [HC22.out]; have hb34 := hdr.trans (hb4.mono hdr.size); (first | refine hK.out _ _ ?_ ?_ | (go_wp2_with fail; refine hK.out _ _ ?_ ?_)); (· (first | exact HS.out _ hb34 | exact HS.out _ hdr)); clear hK K hHeld; intro hHeld; (try simp only [Act.put, List.setIfInBounds_toArray, List.set_cons_zero, List.set_cons_succ]))); rotate_left)
            | (refine td_ready (rs := [5]) (by decide +kernel) (by decide) (by simp) ?_; refine td_cons rfl (fun K hK => ?_) (td_nil); (focus (go_simp; (first | refine hK.out _ _ ?_ ?_ | (go_wp2_with fail; refine hK.out _ _ ?_ ?_)); (· (first | exact HS.out _ hb34 | exact HS.out _ hdr)); clear hK K hHeld; intro hHeld; (try simp only [Act.put, List.setIfInBounds_toArray, List.set_cons_zero, List.set_cons_succ]))); rotate_left)
            | (refine td_ready (rs := [6]) (by decide +kernel) (by decide) (by simp) ?_; refine td_cons rfl (fun K hK => ?_) (td_nil); (focus (go_simp; (first | refine hK.out _ _ ?_ ?_ | (go_wp2_with fail; refine hK.out _ _ ?_ ?_)); (· (first | exact HS.out _ hb34 | exact HS.out _ hdr)); clear hK K hHeld; intro hHeld; (try simp only [Act.put, List.setIfInBounds_toArray, List.set_cons_zero, List.set_cons_succ]))); rotate_left)
            | fail)
          all_goals refine And.intro (by decide +kernel) ?_
          go_wp2
          go_ret
          exact ⟨by rw [← HR.out, ← wrap_add1 hcl2]; rfl, hb3w.trans (hb34.mono hb3w.size)⟩
    · rw [if_neg h2] at hR
      obtain rfl : K = 0 := by omega
      obtain ⟨N, hN⟩ : ∃ N, sameF ⟨T, wd, sy⟩ l = N := ⟨_, rfl⟩
      rw [hN] at hR
      have HR := hide hR
      have HN := hide (show min 132 (1 + ((l.drop (1 - 1)).takeWhile fun x => glEq x ⟨T, wd, sy⟩).length) = N by rw [← hN]; rfl)
      clear hR hN hKc h13 h2
      go_enter Tryz.func33, Tryz.ntmps33
      go_upto_region 12 with (first
        | (go_at_call 51; refine (HK.out _).mono ?_; rintro e w2 ⟨rfl, hb2⟩; rw [HKK.out]; have hs2 : w.heap.size < w2.heap.size := (by have := hb2.size; simp at this; omega); have bx2 := (hb2.block w.heap.size (by simp)).trans Hbx.out; have k0 := cell_block bx2 0; have k1 := cell_block bx2 1; have k2 := cell_block bx2 2; have hb2w := HbA.out.trans (hb2.mono (by simp)))
        | fail)
      have hb2s := hb2w.size
      have HB2 := hide (And.intro bx2 hb2w)
      clear k0 k1 k2 bx2 hb2 hb2w
      go_wp2
      go_loopw [8] (fun i wr => ∃ j : Nat, 1 ≤ j ∧ j ≤ n ∧ j ≤ 132 ∧ i = .int .i64 j ∧ min 132 (j + ((l.drop (j - 1)).takeWhile fun x => glEq x ⟨T, wd, sy⟩).length) = N ∧ Below w2.heap.size w2 wr) (fun i _ => n - (intOf i).toNat)
      case atStart => exact ⟨1, Nat.le_refl _, by omega, by omega, rfl, HN.out, Below.refl _ _⟩
      case round =>
        obtain ⟨j, hj1, hjn, hj132, rfl, hN, hbr⟩ := hrel
        rename World => wo
        have HNj := hide hN
        have HB := hide (HB2.out.2.trans (hbr.mono hb2s))
        have hsz := HB.out.size
        have bxo := (hbr.block w.heap.size hs2).trans HB2.out.1
        have k0 := cell_block bxo 0
        have k1 := cell_block bxo 1
        have k2 := cell_block bxo 2
        have hbr' := hide hbr
        clear hN HN hbr bxo
        by_cases hlt : j < n
        · have hjI : (j : Int) < (n : Int) := by omega
          have hjl : j < (⟨T, wd, sy⟩ :: l : List Gl).length := by rw [List.length_cons, Hl.out]; exact hlt
          obtain ⟨b', off', he, -, z0, z1, z2⟩ := Hrow.out.get hjl
          cases he
          have hjl2 : j - 1 < l.length := by have := Hl.out; omega
          have hxe : (⟨T, wd, sy⟩ :: l : List Gl)[j] = l[j - 1] := by
            obtain ⟨j', rfl⟩ : ∃ j', j = j' + 1 := ⟨j - 1, by omega⟩
            rfl
          rw [hxe] at z0 z1 z2
          have hdr := List.drop_eq_getElem_cons hjl2
          have hNN := HNj.out
          rw [hdr, List.takeWhile_cons] at hNN
          obtain ⟨X, hX⟩ : ∃ X, l[j - 1] = X := ⟨_, rfl⟩
          rw [hX] at z0 z1 z2 hNN
          obtain ⟨T2, wd2, sy2⟩ := X
          dsimp only at z0 z1 z2
          have y0 := (HB.out.cell (p := ⟨b, off + j * 3, none⟩) hbb).trans z0
          have y1 := (HB.out.cell (p := ⟨b, off + j * 3 + 1, none⟩) hbb).trans z1
          have y2 := (HB.out.cell (p := ⟨b, off + j * 3 + 2, none⟩) hbb).trans z2
          have heq := fun W => eq_gl W T2 T wd2 wd sy2 sy
          clear hX hdr hxe z0 z1 z2
          by_cases h132 : j < 132
          · have d132 : decide ((j : Int) < 132) = true := decide_eq_true (by omega)
            cases hq : glEq ⟨T2, wd2, sy2⟩ ⟨T, wd, sy⟩ with
            | true =>
              rw [hq] at heq hNN
              have H3 := hide (show min 132 (j + 1 + ((l.drop (j + 1 - 1)).takeWhile fun x => glEq x ⟨T, wd, sy⟩).length) = N by
                rw [if_pos rfl, List.length_cons, show j - 1 + 1 = j + 1 - 1 by omega] at hNN
                omega)
              clear hNN hq
              go_wp2
              go_quiet (fail)
              go_wp2
              go_roundw
              case rel => exact ⟨j + 1, by omega, by omega, by omega, by go_num, H3.out, below_drewN hbr'.out _⟩
              case measure => simp [intOf]; omega
            | false =>
              rw [hq] at heq hNN
              have HNe := hide (show j = N by
                rw [if_neg (by simp)] at hNN
                simp at hNN
                omega)
              clear hNN hq
              obtain ⟨RL, hRL⟩ : ∃ RL, (runesD T.data.toList).length = RL := ⟨_, rfl⟩
              have HR2 := HR.out
              rw [hRL, ← HNe.out] at HR2
              have HRL := hide hRL
              have hRLs : RL ≤ 1000000 := by rw [← hRL]; exact Nat.le_trans (runesD_len _) (HGd.out _ List.mem_cons_self).1
              clear hRL
              by_cases r1 : 0 < rep
              · have e1 : decide ((0 : Int) < rep) = true := decide_eq_true r1
                by_cases r2 : rep ≤ (j : Int)
                · have e2 : decide (rep ≤ (j : Int)) = true := decide_eq_true r2
                  by_cases r3 : RL = 1
                  · rw [if_pos ⟨r1, r2, r3⟩] at HR2
                    have HR3 := hide HR2
                    have q3 : ((RL : Int) == 1) = true := by rw [r3]; rfl
                    clear HR2 r3
                    go_wp2
                    go_quiet (fail)
                    go_wp2_with (first | (go_at_call 53; refine (HCh.out _).mono ?_; rintro e w5 ⟨v, rfl, hown, hb5⟩; obtain ⟨A5, c5, rfl⟩ := own_form hown; clear hown; rw [HRL.out]) | fail)
                    go_ret
                    exact ⟨by rw [← HR3.out]; rfl, (below_drewN HB.out _).trans (hb5.mono hsz)⟩
                  · rw [if_neg (fun h => r3 h.2.2)] at HR2
                    have HR3 := hide HR2
                    have q3 : ((RL : Int) == 1) = false := beq_eq_false_iff_ne.2 (by omega)
                    clear HR2 r3
                    go_wp2
                    go_quiet (fail)
                    go_wp2_with (first | (go_at_call 53; refine (HCh.out _).mono ?_; rintro e w5 ⟨v, rfl, hown, hb5⟩; obtain ⟨A5, c5, rfl⟩ := own_form hown; clear hown; rw [HRL.out]) | fail)
                    go_ret
                    exact ⟨by rw [← HR3.out]; rfl, (below_drewN HB.out _).trans (hb5.mono hsz)⟩
                · rw [if_neg (fun h => r2 h.2.1)] at HR2
                  have e2 : decide (rep ≤ (j : Int)) = false := decide_eq_false r2
                  have HR3 := hide HR2
                  clear HR2
                  go_wp2
                  go_quiet (fail)
                  go_wp2
                  go_ret
                  exact ⟨by rw [← HR3.out]; rfl, below_drewN HB.out _⟩
              · rw [if_neg (fun h => r1 h.1)] at HR2
                have e1 : decide ((0 : Int) < rep) = false := decide_eq_false r1
                have HR3 := hide HR2
                clear HR2
                go_wp2
                go_quiet (fail)
                go_wp2
                go_ret
                exact ⟨by rw [← HR3.out]; rfl, below_drewN HB.out _⟩
          · have d132 : decide ((j : Int) < 132) = false := decide_eq_false (by omega)
            have HNe := hide (show j = N by omega)
            clear hNN heq
            obtain ⟨RL, hRL⟩ : ∃ RL, (runesD T.data.toList).length = RL := ⟨_, rfl⟩
            have HR2 := HR.out
            rw [hRL, ← HNe.out] at HR2
            have HRL := hide hRL
            have hRLs : RL ≤ 1000000 := by rw [← hRL]; exact Nat.le_trans (runesD_len _) (HGd.out _ List.mem_cons_self).1
            clear hRL
            by_cases r1 : 0 < rep
            · have e1 : decide ((0 : Int) < rep) = true := decide_eq_true r1
              by_cases r2 : rep ≤ (j : Int)
              · have e2 : decide (rep ≤ (j : Int)) = true := decide_eq_true r2
                by_cases r3 : RL = 1
                · rw [if_pos ⟨r1, r2, r3⟩] at HR2
                  have HR3 := hide HR2
                  have q3 : ((RL : Int) == 1) = true := by rw [r3]; rfl
                  clear HR2 r3
                  go_wp2
                  go_quiet (fail)
                  go_wp2_with (first | (go_at_call 53; refine (HCh.out _).mono ?_; rintro e w5 ⟨v, rfl, hown, hb5⟩; obtain ⟨A5, c5, rfl⟩ := own_form hown; clear hown; rw [HRL.out]) | fail)
                  go_ret
                  exact ⟨by rw [← HR3.out]; rfl, (below_drewN HB.out _).trans (hb5.mono hsz)⟩
                · rw [if_neg (fun h => r3 h.2.2)] at HR2
                  have HR3 := hide HR2
                  have q3 : ((RL : Int) == 1) = false := beq_eq_false_iff_ne.2 (by omega)
                  clear HR2 r3
                  go_wp2
                  go_quiet (fail)
                  go_wp2_with (first | (go_at_call 53; refine (HCh.out _).mono ?_; rintro e w5 ⟨v, rfl, hown, hb5⟩; obtain ⟨A5, c5, rfl⟩ := own_form hown; clear hown; rw [HRL.out]) | fail)
                  go_ret
                  exact ⟨by rw [← HR3.out]; rfl, (below_drewN HB.out _).trans (hb5.mono hsz)⟩
              · rw [if_neg (fun h => r2 h.2.1)] at HR2
                have e2 : decide (rep ≤ (j : Int)) = false := decide_eq_false r2
                have HR3 := hide HR2
                clear HR2
                go_wp2
                go_quiet (fail)
                go_wp2
                go_ret
                exact ⟨by rw [← HR3.out]; rfl, below_drewN HB.out _⟩
            · rw [if_neg (fun h => r1 h.1)] at HR2
              have e1 : decide ((0 : Int) < rep) = false := decide_eq_false r1
              have HR3 := hide HR2
              clear HR2
              go_wp2
              go_quiet (fail)
              go_wp2
              go_ret
              exact ⟨by rw [← HR3.out]; rfl, below_drewN HB.out _⟩
        · have hjI : ¬ (j : Int) < (n : Int) := by omega
          have HNe := hide (show j = N by
            have h := HNj.out
            rw [List.drop_of_length_le (by have := Hl.out; omega)] at h
            simp at h
            omega)
          obtain ⟨RL, hRL⟩ : ∃ RL, (runesD T.data.toList).length = RL := ⟨_, rfl⟩
          have HR2 := HR.out
          rw [hRL, ← HNe.out] at HR2
          have HRL := hide hRL
          have hRLs : RL ≤ 1000000 := by rw [← hRL]; exact Nat.le_trans (runesD_len _) (HGd.out _ List.mem_cons_self).1
          clear hRL
          by_cases r1 : 0 < rep
          · have e1 : decide ((0 : Int) < rep) = true := decide_eq_true r1
            by_cases r2 : rep ≤ (j : Int)
            · have e2 : decide (rep ≤ (j : Int)) = true := decide_eq_true r2
              by_cases r3 : RL = 1
              · rw [if_pos ⟨r1, r2, r3⟩] at HR2
                have HR3 := hide HR2
                have q3 : ((RL : Int) == 1) = true := by rw [r3]; rfl
                clear HR2 r3
                go_wp2
                go_quiet (fail)
                go_wp2_with (first | (go_at_call 53; refine (HCh.out _).mono ?_; rintro e w5 ⟨v, rfl, hown, hb5⟩; obtain ⟨A5, c5, rfl⟩ := own_form hown; clear hown; rw [HRL.out]) | fail)
                go_ret
                exact ⟨by rw [← HR3.out]; rfl, (below_drewN HB.out _).trans (hb5.mono hsz)⟩
              · rw [if_neg (fun h => r3 h.2.2)] at HR2
                have HR3 := hide HR2
                have q3 : ((RL : Int) == 1) = false := beq_eq_false_iff_ne.2 (by omega)
                clear HR2 r3
                go_wp2
                go_quiet (fail)
                go_wp2_with (first | (go_at_call 53; refine (HCh.out _).mono ?_; rintro e w5 ⟨v, rfl, hown, hb5⟩; obtain ⟨A5, c5, rfl⟩ := own_form hown; clear hown; rw [HRL.out]) | fail)
                go_ret
                exact ⟨by rw [← HR3.out]; rfl, (below_drewN HB.out _).trans (hb5.mono hsz)⟩
            · rw [if_neg (fun h => r2 h.2.1)] at HR2
              have e2 : decide (rep ≤ (j : Int)) = false := decide_eq_false r2
              have HR3 := hide HR2
              clear HR2
              go_wp2
              go_quiet (fail)
              go_wp2
              go_ret
              exact ⟨by rw [← HR3.out]; rfl, below_drewN HB.out _⟩
          · rw [if_neg (fun h => r1 h.1)] at HR2
            have e1 : decide ((0 : Int) < rep) = false := decide_eq_false r1
            have HR3 := hide HR2
            clear HR2
            go_wp2
            go_quiet (fail)
            go_wp2
            go_ret
            exact ⟨by rw [← HR3.out]; rfl, below_drewN HB.out _⟩
end Go.Proofs.YtdkppdjonlldhaaGreatDoor
