/- Chapter 45: clipping.collect, whatever function is handed to it. -/
import Derived.Test.YtdkppdjonlldhaaGreatDoorK5
namespace Go.Proofs.YtdkppdjonlldhaaGreatDoor
open Go.RowKit Go.Shelf

theorem linesFrom_map_succ (f : Nat → ByteArray) (a k : Nat) : (linesFrom f a (k + 1)).map Value.string = (linesFrom f a k).map Value.string ++ [.string (f (a + k))] := by
  rw [linesFrom_succ, List.map_append]; rfl
theorem joinN_len (xs : List ByteArray) : (Lib.join (xs.map (·.data.toList)) [10]).length = (joinN xs).size := by unfold joinN; simp [ByteArray.size]

set_option maxRecDepth 100000 in
set_option maxHeartbeats 4000000 in
theorem collectP (w : World) (a n : Nat) (b : Int) (hb : b = ((a + n : Nat) : Int)) (g : Nat) (lb : Array Value) (eg : Enters Tryz.prog g) (f : Nat → ByteArray) (hn : a + n ≤ 1000) (hM : ∀ k, k < n → (f (a + k)).size ≤ 1000000)
    (hL : ∀ (k : Nat) (W : World), k < n → Below w.heap.size w W → Calls Tryz.prog g (#[.int .i64 ((a : Int) + k)] ++ lb) W fun e w' => e = .returned (.string (f (a + k))) ∧ Below W.heap.size W w') :
    Calls Tryz.prog 22 #[.int .i64 a, .int .i64 b, .func (.func g) #[] lb] w fun e w' => e = .returned (.string (joinN (linesFrom f a n))) ∧ Below w.heap.size w w' := by
  unfold Enters at eg
  have HL := hide hL
  have HM := hide hM
  have Hb := hide hb
  have hjs := joinN_size f 1000000 n a hM
  have hb1 : b ≤ 1000 := by omega
  have hb2 : (a : Int) ≤ b := by omega
  clear hL hM hb
  go_enter Tryz.func22, Tryz.ntmps22
  go_wp2
  go_loopw [7, 8] (fun v i wr => ∃ k : Nat, k ≤ n ∧ i = .int .i64 ((a : Int) + k) ∧ wr.ownsRow w.heap.size 9 1 v k ((linesFrom f a k).map Value.string) ∧ Below w.heap.size w wr) (fun _ i _ => (b - intOf i).toNat)
  case atStart => exact ⟨0, Nat.zero_le _, int_eq (by omega), World.ownsRow_nil _ _ _ _, Below.refl _ _⟩
  case round =>
    rename World => wo
    obtain ⟨k, hk, rfl, hown, hbw⟩ := hrel
    have hs := hbw.size
    by_cases hlt : k < n
    · have hlt2 : (a : Int) + (k : Int) < b := by have := Hb.out; omega
      have cS := hide (HL.out k wo hlt hbw)
      have Hmap := hide (linesFrom_map_succ f a k)
      have Hown := hide hown
      obtain ⟨A1, c1, rfl⟩ := own_form hown
      obtain ⟨T, hT⟩ : ∃ T, f (a + k) = T := ⟨_, rfl⟩
      rw [hT] at cS Hmap
      clear hT hown
      go_wp2_with (first
        | (go_at_fn g; refine cS.out.mono ?_; rintro e w2 ⟨rfl, hb2⟩; have hown2 := own_below Hown.out hb2 (Nat.le_refl _); have hbw2 := hbw.trans (hb2.mono hs); have hs2 := hbw2.size)
        | (at_builtin; refine wpList_app _ (.tmp 15) (.tmp 19) 51 rfl rfl el_string w.heap.size _ k _ (by rfl) hown2 hs2 _ 1 1 _ _ (by rfl) (by first | rfl | simp) rfl (by simp [Value.oneCell']) (by omega) ?_; intro v6 w6 hown6 hg6; have hb6 := below_own hbw2 hown2 hg6 (Nat.le_refl _) hs2)
        | fail)
      go_roundw
      case rel => exact ⟨k + 1, by omega, int_eq (by omega), own_eq hown6 rfl (by rw [Hmap.out]), hb6⟩
      case measure => simp [intOf]; omega
    · obtain rfl : k = n := by omega
      have hge : ¬ (a : Int) + (k : Int) < b := by have := Hb.out; omega
      rcases Nat.eq_zero_or_pos k with h0 | h0
      · have HR := hide (show joinN (linesFrom f a k) = ⟨#[]⟩ by rw [h0]; exact joinN_nil)
        obtain ⟨A1, c1, rfl⟩ := own_form hown
        have HJ := hide (Any.strings_Join_none laysJoin joinX A1 c1 ⟨#[10]⟩ wo)
        rw [← h0] at HJ
        clear h0 hown
        go_wp2_with (go_at_call 40; refine HJ.out.mono ?_; rintro e w2 ⟨rfl, rfl⟩)
        go_ret
        exact ⟨congrArg (fun x => Ending.returned (Value.string x)) HR.out.symm, hbw⟩
      · obtain ⟨g1, c1, rfl, hg0, hg1⟩ := own_form1 hown h0
        have hcap : k ≤ c1 := by
          rcases hown.2 with ⟨h, _⟩ | ⟨g, cap, cur, h, _, _, hnc, _⟩
          · cases h
          · cases h; exact hnc
        have hl : (linesFrom f a k).length = k := linesFrom_len f a k
        have hcells : ∀ (j : Nat) x, (linesFrom f a k)[j]? = some x → wo.cell? ⟨g1, 0 + j, none⟩ = some (.string x) := fun j x hx => by
          have hj := (List.getElem?_eq_some_iff.1 hx).1
          rw [Nat.zero_add, hown.cellAt j (by omega), List.getElem?_map, hx]
          rfl
        have HJ := hide (Any.strings_Join laysJoin joinX g1 0 c1 (linesFrom f a k) ⟨#[10]⟩ wo hcells hg1 (by omega) (by omega) (by rw [show (⟨#[10]⟩ : ByteArray).data.toList = [10] from rfl, joinN_len]; omega))
        rw [hl] at HJ
        clear hl hcells hjs
        go_wp2_with (go_at_call 40; refine HJ.out.mono ?_; rintro e w2 ⟨rfl, hb2⟩)
        go_ret
        exact ⟨rfl, hbw.trans (hb2.mono hs)⟩
end Go.Proofs.YtdkppdjonlldhaaGreatDoor
