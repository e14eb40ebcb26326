/- Joined: SP37, SP38. -/
import Derived.Test.YtdkppdjonlldhaaGreatDoorJ12
import Derived.Test.YtdkppdjonlldhaaGreatDoorV6
import Derived.Test.YtdkppdjonlldhaaGreatDoorJ8
import Derived.Shelf.Utf8.AppendRunePlain
/- utf8stream.Encode of one character; cluster.Attach. -/
namespace Go.Proofs.YtdkppdjonlldhaaGreatDoor
open Go.RowKit Go.Maps Go.Shelf

def laysAppR_ren : Go.Shelf.Ren := ⟨fun | 242 => 134 | 278 => 141 | n => n, fun | 4 => 4 | 5 => 5 | 21 => 21 | 37 => 73 | 46 => 134 | 51 => 145 | n => n, fun | n => n⟩
theorem laysAppR : Go.Proofs.Lays.n242 Tryz.prog laysAppR_ren := { mixed := by kernel_rfl, f242 := Tryz.func134.trans (congrArg some (by kernel_rfl)), f278 := Tryz.func141.trans (congrArg some (by kernel_rfl)), t4 := Tryz.underlying4, a4 := Tryz.isAgg4, z4 := Tryz.sizeOf4, v4 := Tryz.zeroValue4, t5 := Tryz.underlying5, a5 := Tryz.isAgg5, z5 := Tryz.sizeOf5, v5 := Tryz.zeroValue5, t21 := Tryz.underlying21, a21 := Tryz.isAgg21, z21 := Tryz.sizeOf21, v21 := Tryz.zeroValue21, t37 := Tryz.underlying73, a37 := Tryz.isAgg73, z37 := Tryz.sizeOf73, v37 := Tryz.zeroValue73, t46 := Tryz.underlying134, a46 := Tryz.isAgg134, z46 := Tryz.sizeOf134, v46 := Tryz.zeroValue134, t51 := Tryz.underlying145, a51 := Tryz.isAgg145, z51 := Tryz.sizeOf145, v51 := Tryz.zeroValue145 }

theorem rune_cells (r : Int) : Lib.runeCells r = (Lib.encodeRune r).map fun b => Value.int .u8 b.toNat := by
  unfold Lib.runeCells Lib.encodeRune
  rw [List.map_map]
  refine List.map_congr_left fun x hx => ?_
  have h := Lib.encodeRuneZ_byte r x hx
  show Value.int .u8 x = Value.int .u8 ((x.toNat.toUInt8).toNat : Int)
  have : x.toNat.toUInt8.toNat = x.toNat := by
    show x.toNat % 256 = _
    omega
  rw [this]
  congr 1
  omega
theorem appRuneP (w : World) (B : Nat) (v : Value) (l : List UInt8) (r : Int) (hr0 : -2147483648 ≤ r) (hr1 : r ≤ 2147483647) (hown : w.ownsRow B 5 1 v l.length (l.map fun b => Value.int .u8 b.toNat)) (hl : l.length ≤ 1000000) (hB : B ≤ w.heap.size) :
    Calls Tryz.prog 134 #[v, .int .i32 r] w fun e w' => ∃ v', e = .returned v' ∧ w'.ownsRow B 5 1 v' (l ++ Lib.encodeRune r).length ((l ++ Lib.encodeRune r).map fun b => Value.int .u8 b.toNat) ∧ Below B w w' := by
  refine (Any.utf8_AppendRune_plain laysAppR (by kernel_rfl) B v l.length _ r hr0 hr1 w hown (by omega) hB).mono ?_
  rintro e w' ⟨v', rfl, h1, o, h2⟩
  refine ⟨v', rfl, own_eq h1 (by rw [rune_cells, List.length_map, List.length_append]) (by rw [rune_cells, List.map_append]), ?_⟩
  exact below_own ((Below.refl B w).alloc hB o) (hown.alloc o) h2 (Nat.le_refl _) (by rw [World.size_alloc]; omega)
set_option maxRecDepth 100000 in
set_option maxHeartbeats 1000000 in
theorem encodeOneP (w : World) (r : Int) (hr0 : -2147483648 ≤ r) (hr1 : r ≤ 2147483647) (b c : Nat) (hbl : b < w.heap.size) (hc : w.cell? ⟨b, 0, none⟩ = some (.int .i32 r)) :
    Calls Tryz.prog 116 #[.slice (some ⟨b, 0, none⟩) 1 c] w fun e w' => e = .returned (.string ⟨(Lib.encodeRune r).toArray⟩) ∧ Below w.heap.size w w' := by
  have hb := Below.refl w.heap.size w
  have HC := hide (fun (W : World) (hW : Below w.heap.size w W) => (hW.cell (p := ⟨b, 0, none⟩) hbl).trans hc)
  have hnil := World.ownsRow_nil w w.heap.size 5 1
  have HA := hide (fun (W : World) (hW : Below w.heap.size w W) (v : Value) (l : List UInt8) (h : W.ownsRow w.heap.size 5 1 v l.length (l.map fun b => Value.int .u8 b.toNat)) (hl : l.length ≤ 100) => appRuneP W w.heap.size v l r hr0 hr1 h (by omega) hW.size)
  clear hc
  go_enter Tryz.func116, Tryz.ntmps116
  go_wp2
  go_loopw [3, 8] (fun vo i wr => ∃ k : Nat, k ≤ 1 ∧ i = .int .i64 k ∧ wr.ownsRow w.heap.size 5 1 vo (if k = 0 then [] else Lib.encodeRune r : List UInt8).length ((if k = 0 then [] else Lib.encodeRune r : List UInt8).map fun b => Value.int .u8 b.toNat) ∧ Below w.heap.size w wr) (fun _ i _ => 1 - (intOf i).toNat)
  case atStart => exact ⟨0, Nat.zero_le _, rfl, hnil, hb⟩
  case round =>
    obtain ⟨k, hk, rfl, hown, hbr⟩ := hrel
    rename World => wo
    obtain rfl | rfl : k = 0 ∨ k = 1 := by omega
    · have hcc := HC.out wo hbr
      have Hown := hide hown
      have HB := hide hbr
      clear hown hbr
      go_wp2_with (first
        | (go_at_call 134; refine (HA.out _ HB.out _ [] Hown.out (by simp)).mono ?_; rintro e w5 ⟨v5, rfl, hown5, hb5⟩)
        | fail)
      go_roundw
      case rel => exact ⟨1, Nat.le_refl _, rfl, hown5, HB.out.trans hb5⟩
      case measure => simp [intOf]
    · obtain ⟨A, c', rfl⟩ := own_form hown
      have Hown := hide hown
      have HB := hide hbr
      clear hown hbr
      go_wp2_with (refine wpList_str _ (.tmp 16) 73 9 5 rfl rfl Tryz.underlying73 Tryz.underlying5 Tryz.underlying9 w.heap.size _ (Lib.encodeRune r) rfl Hown.out ?_)
      go_ret
      exact ⟨rfl, HB.out⟩
set_option maxRecDepth 100000 in
set_option maxHeartbeats 1000000 in
theorem clMarksP (w : World) (htb : Tabs w) (T : ByteArray) (hs : T.size ≤ 500) (h0 : clErr T.data.toList = 0) :
    Calls Tryz.prog 133 #[.string T] w fun e w' => ∃ A n c, e = .returned (.slice A n c) ∧ n = (runesD T.data.toList).length - 1 ∧ Below w.heap.size w w' := by
  have HR := hide (runesP w T (by omega) htb)
  rw [if_pos h0] at HR
  have hle := runesD_len T.data.toList
  rw [← Lib.size_eq] at hle
  obtain ⟨RS, hRS⟩ : ∃ RS, runesD T.data.toList = RS := ⟨_, rfl⟩
  rw [hRS] at HR hle ⊢
  obtain ⟨N, hN⟩ : ∃ N, RS.length = N := ⟨_, rfl⟩
  rw [hN] at HR hle ⊢
  clear hRS
  by_cases hN0 : N = 0
  · subst hN0
    go_enter Tryz.func133, Tryz.ntmps133
    go_wp2_with (first
      | (go_at_call 49; refine HR.out.mono ?_; rintro e w2 ⟨A, c, rfl, -, hb2⟩)
      | fail)
    go_ret
    exact ⟨_, _, _, rfl, rfl, hb2⟩
  · have g1 : (0 : Int) < (N : Int) := by omega
    have g2 : (1 : Int) ≤ (N : Int) := by omega
    go_enter Tryz.func133, Tryz.ntmps133
    go_wp2_with (first
      | (go_at_call 49; refine HR.out.mono ?_; rintro e w2 ⟨A, c, rfl, hrow, hb2⟩; obtain ⟨b, off, rfl, -, -⟩ := hrow (by omega))
      | fail)
    all_goals
      go_ret
      exact ⟨_, _, ⟨_, rfl⟩, rfl, hb2⟩
set_option maxRecDepth 100000 in
set_option maxHeartbeats 1000000 in
theorem attachP (w : World) (htb : Tabs w) (T : ByteArray) (hs : T.size ≤ 500) (r : Int) (hr0 : -2147483648 ≤ r) (hr1 : r ≤ 2147483647) (h0 : clErr T.data.toList = 0) (hm : isMark r = true) (h3 : (runesD T.data.toList).length - 1 < 3) :
    Calls Tryz.prog 115 #[.string T, .int .i32 r] w fun e w' => e = .returned (.tuple #[.string (T ++ ⟨(Lib.encodeRune r).toArray⟩), .int .i64 0]) ∧ Below w.heap.size w w' := by
  have HC := hide (checkCl w T (by omega) htb)
  rw [h0] at HC
  have HMk := hide (fun (W : World) => markP W r)
  rw [hm] at HMk
  have HMs := hide (fun (W : World) (hb : Below w.heap.size w W) => clMarksP W (htb.below hb) T hs h0)
  obtain ⟨L, hL⟩ : ∃ L, (runesD T.data.toList).length - 1 = L := ⟨_, rfl⟩
  rw [hL] at HMs h3
  have g1 : ¬ (3 : Int) ≤ (L : Int) := by omega
  have g2 : (L : Int) < 3 := by omega
  obtain ⟨U, hU⟩ : ∃ U : ByteArray, (⟨(Lib.encodeRune r).toArray⟩ : ByteArray) = U := ⟨_, rfl⟩
  have hUs : U.size ≤ 4 := by rw [← hU]; show (Lib.encodeRune r).toArray.size ≤ 4; simpa using enc_four r
  have HE := hide (fun (W : World) (b c : Nat) (hb : b < W.heap.size) (hc : W.cell? ⟨b, 0, none⟩ = some (.int .i32 r)) => encodeOneP W r hr0 hr1 b c hb hc)
  rw [hU] at HE ⊢
  have hcat : T.size + U.size ≤ 9223372036854775807 := by omega
  clear hL hU h0 hm
  go_enter Tryz.func115, Tryz.ntmps115
  go_wp2_with (first
    | (go_at_call 116; refine (HE.out _ _ _ (by simp) (cell_block (block_new _ _) 0)).mono ?_; rintro e w6 ⟨rfl, hb6⟩; have HB6 := hide (HB5.out.trans (((Below.refl w5.heap.size w5).alloc (Nat.le_refl _) (.cells #[.int .i32 r] 21)).mono HB5.out.size |>.trans (hb6.mono (by rw [World.size_alloc]; exact Nat.le_succ_of_le HB5.out.size)))); clear hb6)
    | (go_at_call 133; refine (HMs.out _ HB4.out).mono ?_; rintro e w5 ⟨A5, n5, c5, rfl, rfl, hb5⟩; have HB5 := hide (HB4.out.trans (hb5.mono HB4.out.size)); clear hb5)
    | (go_at_call 71; refine (HMk.out _).mono ?_; rintro e w4 ⟨rfl, hb4⟩; have HB4 := hide (HB3.out.trans (hb4.mono HB3.out.size)); clear hb4)
    | (go_at_call 30; refine HC.out.mono ?_; rintro e w3 ⟨rfl, hb3⟩; have HB3 := hide hb3; clear hb3)
    | fail)
  go_ret2
  exact ⟨rfl, HB6.out⟩
end Go.Proofs.YtdkppdjonlldhaaGreatDoor

/- The parser adds a character. -/
namespace Go.Proofs.YtdkppdjonlldhaaGreatDoor
open Go.RowKit Go.Maps Go.Shelf

theorem text_len {T : ByteArray} (h : clErr T.data.toList = 0) : T.size ≤ 16 := good_len (g := ⟨T, clW T.data.toList == 2, 0⟩) ⟨h, rfl, Int.le_refl 0, (by decide : (0 : Int) ≤ 3)⟩
theorem enc_len3 : ∀ (l : List Gl), (l.flatMap Gl.enc).length = l.length * 3
  | [] => rfl
  | g :: l => by rw [List.flatMap_cons, List.length_append, enc_len3 l, List.length_cons]; simp [Gl.enc]; omega
theorem last_text (init : List Gl) (g : Gl) : ((init ++ [g]).flatMap Gl.enc)[init.length * 3]? = some (.string g.text) := by
  rw [List.flatMap_append, List.getElem?_append_right (by rw [enc_len3]; exact Nat.le_refl _), enc_len3, Nat.sub_self]; rfl
theorem set_text (init : List Gl) (g : Gl) (T : ByteArray) : ((init ++ [g]).flatMap Gl.enc).set (init.length * 3) (.string T) = (init ++ [{ g with text := T }]).flatMap Gl.enc := by
  rw [List.flatMap_append, List.flatMap_append, List.set_append_right _ _ (by rw [enc_len3]; exact Nat.le_refl _), enc_len3, Nat.sub_self]; rfl
set_option maxRecDepth 100000 in
set_option maxHeartbeats 2000000 in
theorem addMark (w0 w : World) (htb : Tabs w0) (hw : Below w0.heap.size w0 w) (B bR : Nat) (ws : List Wd) (init : List Gl) (g : Gl) (st : Int) (jo : Bool) (hI : PB B w w bR ⟨ws, init ++ [g], st, jo⟩) (hB0 : w0.heap.size ≤ B) (hlen : init.length ≤ 1000000)
    (r : Int) (hr0 : -2147483648 ≤ r) (hr1 : r ≤ 2147483647) (hcw : cw r = 0) (h0 : clErr g.text.data.toList = 0) (hm : isMark r = true) (h3 : (runesD g.text.data.toList).length - 1 < 3) :
    Calls Tryz.prog 92 #[.pointer (some ⟨B, 0, none⟩), .int .i32 r, .int .i64 1] w fun e w' => e = .returned (.bool true) ∧ PB B w w' bR ⟨ws, init ++ [{ g with text := g.text ++ ⟨(Lib.encodeRune r).toArray⟩ }], st, false⟩ := by
  have hBl := hI.lt
  obtain ⟨Aw, nw, cw0, ov, hB, hnw, hcw0, hr⟩ := hI
  dsimp only at hnw hr hB
  obtain ⟨N, hN⟩ : ∃ N, (init ++ [g]).length = N := ⟨_, rfl⟩
  have hNm : N = init.length + 1 := by rw [← hN]; simp
  rw [hN] at hB
  obtain ⟨gO, cO, rfl, hgO, hgO'⟩ := own_formP hB.own (by omega)
  obtain ⟨m, hm'⟩ : ∃ m, init.length = m := ⟨_, rfl⟩
  have hst := set_text init g (g.text ++ ⟨(Lib.encodeRune r).toArray⟩)
  have hlt := last_text init g
  rw [hm'] at hst hlt hNm hlen
  subst hNm
  have k4 := cell_block hB.box 4
  have f4 := frozen_block hB.box 4
  have hB1 : BoxO B w (w.setCell ⟨B, 4, none⟩ (.bool false)) 71 #[.map (some bR), .slice Aw nw cw0, .slice (some ⟨gO, 0, none⟩) (m + 1) cO, .int .i64 st, .bool false] 42 3 (.slice (some ⟨gO, 0, none⟩) (m + 1) cO) (m + 1) ((init ++ [g]).flatMap Gl.enc) := hB.set 4 _
  have HB1 := hide hB1
  have HW := hide (fun (W : World) => widthP W r)
  rw [hcw] at HW
  have hs16 := text_len h0
  have HA := hide (fun (W : World) (hb : Below B w W) => attachP W (htb.below (hw.trans (hb.mono hB0))) g.text (by omega) r hr0 hr1 h0 hm h3)
  have Hr := hide (fun (W : World) (hb : Below B w W) => (hr.below (StrAt.stays _) hb : StrRow W B Aw ws))
  have Hnw := hide (And.intro hnw hcw0)
  have Hst := hide hst
  have Hlt := hide hlt
  have HN := hide hN
  obtain ⟨T2, hT2⟩ : ∃ T2, g.text ++ ⟨(Lib.encodeRune r).toArray⟩ = T2 := ⟨_, rfl⟩
  rw [hT2] at HA Hst ⊢
  obtain ⟨T, wd, sg⟩ := g
  dsimp only at HA Hlt Hst hB1 ⊢
  have g1 : (0 : Int) ≤ (m : Int) := by omega
  have g2 : (m : Int) < (m : Int) + 1 := by omega
  have hwm : IntKind.i64.wrap (m : Int) = (m : Int) := IntWalk.i64_in _ (by omega)
  have hneg : ¬ (m : Int) < 0 := by omega
  have hlt1 : B < (w.setCell ⟨B, 4, none⟩ (.bool false)).heap.size := hB1.lt
  clear hB hr hst hlt hT2 hnw hcw0 hB1 h0 hm h3 hs16 hN
  go_enter Tryz.func92, Tryz.ntmps92
  go_wp2_with (first
    | (go_at_call 115; refine (HA.out _ HB2.out.bl).mono ?_; rintro e w4 ⟨rfl, hb4⟩; have hB4 := HB2.out.below hb4; have k42 := cell_block hB4.box 2; have c4 := (hB4.own.cellAt (m * 3) (by omega)).trans Hlt.out; have f42 := hB4.own.frozenAt (m * 3); have HB4 := hide hB4; clear hB4 hb4)
    | (go_at_call 47; refine (HW.out _).mono ?_; rintro e w3 ⟨rfl, hb3⟩; have hB2 := HB1.out.below hb3; have k2 := cell_block hB2.box 2; have c2 := (hB2.own.cellAt (m * 3) (by omega)).trans Hlt.out; have HB2 := hide hB2; clear hB2 hb3)
    | fail)
  go_ret
  obtain ⟨s1, s2⟩ := HB4.out.own.stored (m * 3) (.string T2)
  have h := HB4.out.app s1 s2
  rw [Hst.out] at h
  refine ⟨rfl, Aw, nw, cw0, .slice (some ⟨gO, 0, none⟩) (m + 1) cO, BoxO.eq h ?_ rfl, Hnw.out.1, Hnw.out.2, Hr.out _ h.bl⟩
  have := HN.out
  simp only [List.length_append, List.length_singleton] at this ⊢
  omega
theorem replicate_snoc (k : Nat) (X : Gl) : List.replicate (k + 1) X = List.replicate k X ++ [X] := List.replicate_succ'
set_option maxRecDepth 100000 in
set_option maxHeartbeats 2000000 in
theorem addGlyphs (w : World) (B bR : Nat) (ws : List Wd) (out : List Gl) (st : Int) (jo : Bool) (hI : PB B w w bR ⟨ws, out, st, jo⟩) (n : Nat) (hlen : out.length + n ≤ 1000000)
    (r : Int) (hr0 : -2147483648 ≤ r) (hr1 : r ≤ 2147483647) (hcw : 0 < cw r) :
    Calls Tryz.prog 92 #[.pointer (some ⟨B, 0, none⟩), .int .i32 r, .int .i64 n] w fun e w' => e = .returned (.bool true) ∧ PB B w w' bR ⟨ws, out ++ List.replicate n ⟨⟨(Lib.encodeRune r).toArray⟩, cw r == 2, st⟩, st, false⟩ := by
  obtain ⟨Aw, nw, cw0, ov, hB, hnw, hcw0, hr⟩ := hI
  dsimp only at hnw hr hB
  obtain ⟨A0, c0, rfl⟩ := own_form hB.own
  have k4 := cell_block hB.box 4
  have f4 := frozen_block hB.box 4
  have hB1 : BoxO B w (w.setCell ⟨B, 4, none⟩ (.bool false)) 71 #[.map (some bR), .slice Aw nw cw0, .slice A0 out.length c0, .int .i64 st, .bool false] 42 3 (.slice A0 out.length c0) out.length (out.flatMap Gl.enc) := hB.set 4 _
  have HB1 := hide hB1
  obtain ⟨C, hC⟩ : ∃ C, cw r = C := ⟨_, rfl⟩
  have HW := hide (fun (W : World) => widthP W r)
  rw [hC] at HW hcw ⊢
  obtain ⟨wd, hwd⟩ : ∃ wd, (C == 2) = wd := ⟨_, rfl⟩
  rw [hwd]
  have Hr := hide (fun (W : World) (hb : Below B w W) => (hr.below (StrAt.stays _) hb : StrRow W B Aw ws))
  have Hnw := hide (And.intro hnw hcw0)
  obtain ⟨U, hU⟩ : ∃ U : ByteArray, (⟨(Lib.encodeRune r).toArray⟩ : ByteArray) = U := ⟨_, rfl⟩
  have HE := hide (fun (W : World) (b c : Nat) (hb : b < W.heap.size) (hc : W.cell? ⟨b, 0, none⟩ = some (.int .i32 r)) => encodeOneP W r hr0 hr1 b c hb hc)
  rw [hU] at HE ⊢
  have q1 : ¬ C < 0 := by omega
  have q2 : (C == 0) = false := beq_eq_false_iff_ne.2 (by omega)
  have HRp := hide (fun k => replicate_snoc k (⟨U, wd, st⟩ : Gl))
  have hlt1 : B < (w.setCell ⟨B, 4, none⟩ (.bool false)).heap.size := hB1.lt
  clear hB hr hnw hcw0 hB1 hC hU
  go_enter Tryz.func92, Tryz.ntmps92
  go_wp2_with (first
    | (go_at_call 47; refine (HW.out _).mono ?_; rintro e w3 ⟨rfl, hb3⟩; have HB2 := hide (HB1.out.below hb3); clear hb3)
    | fail)
  go_loopw [56] (fun i wr => ∃ (k : Nat) (A : Option Addr) (c : Nat), k ≤ n ∧ i = .int .i64 k ∧ BoxO B w wr 71 #[.map (some bR), .slice Aw nw cw0, .slice A (out.length + k) c, .int .i64 st, .bool false] 42 3 (.slice A (out.length + k) c) (out.length + k) ((out ++ List.replicate k (⟨U, wd, st⟩ : Gl)).flatMap Gl.enc)) (fun i _ => n - (intOf i).toNat)
  case atStart => exact ⟨0, A0, c0, Nat.zero_le _, rfl, by rw [List.replicate_zero, List.append_nil]; exact HB2.out⟩
  case round =>
    rename World => wo
    obtain ⟨k, A, c, hk, rfl, hI⟩ := hrel
    have HI0 := hide hI
    have HI := hide hI.again
    clear hI
    by_cases hlt : k < n
    · have hkI : (k : Int) < (n : Int) := by omega
      obtain ⟨M, hM⟩ : ∃ M, out.length + k = M := ⟨_, rfl⟩
      rw [hM] at HI
      have hMl : M ≤ 1000000 := by omega
      have HM := hide hM
      clear hM
      go_upto_region 14 with fail
      have HS := hide (fun (W : World) (hb : Below wo.heap.size wo W) => (show W.cell? ⟨B, 2, none⟩ = some (.slice A M c) ∧ W.cell? ⟨B, 3, none⟩ = some (.int .i64 st) from ⟨cell_block (HI.out.below hb).box 2, cell_block (HI.out.below hb).box 3⟩))
      have hbd := (Below.refl wo.heap.size wo).drew
      refine td_begin (by kernel_rfl) ?_
      (refine tda_take 0 (v := ?_) rfl (by kernel_rfl) (by decide +kernel) (by decide +kernel) (fun _ _ _ h => h) (by rfl) ?_ ?_; rotate_left; (· (intro w; (go_simp <;> with_reducible rfl))); (try simp only [Act.put, List.setIfInBounds_toArray, List.set_cons_zero, List.set_cons_succ]))
      (refine tda_take 1 (v := ?_) rfl (by kernel_rfl) (by decide +kernel) (by decide +kernel) (fun _ _ _ h => h) (by rfl) ?_ ?_; rotate_left; (· (intro w; (go_simp <;> with_reducible rfl))); (try simp only [Act.put, List.setIfInBounds_toArray, List.set_cons_zero, List.set_cons_succ]))
      (refine tda_take 2 (v := ?_) rfl (by kernel_rfl) (by decide +kernel) (by decide +kernel) (fun _ _ _ h => h) (by rfl) ?_ ?_; rotate_left; (· (intro w; (go_simp <;> with_reducible rfl))); (try simp only [Act.put, List.setIfInBounds_toArray, List.set_cons_zero, List.set_cons_succ]))
      (refine tda_take 3 (v := ?_) rfl (by kernel_rfl) (by decide +kernel) (by decide +kernel) (fun _ _ _ h => h) (by rfl) ?_ ?_; rotate_left; (· (intro w; (go_simp <;> with_reducible rfl))); (try simp only [Act.put, List.setIfInBounds_toArray, List.set_cons_zero, List.set_cons_succ]))
      (refine tda_take 5 (v := ?_) rfl (by kernel_rfl) (by decide +kernel) (by decide +kernel) (fun _ _ _ h => h) (by rfl) ?_ ?_; rotate_left; (· (intro w; (go_simp <;> with_reducible rfl))); (try simp only [Act.put, List.setIfInBounds_toArray, List.set_cons_zero, List.set_cons_succ]))
      (refine tda_take 8 (v := ?_) rfl (by kernel_rfl) (by decide +kernel) (by decide +kernel) (fun _ _ _ h => h) (by rfl) ?_ ?_; rotate_left; (· (intro w; (go_simp <;> with_reducible rfl))); (try simp only [Act.put, List.setIfInBounds_toArray, List.set_cons_zero, List.set_cons_succ]))
      (refine tda_take 9 (v := ?_) rfl (by kernel_rfl) (by decide +kernel) (by decide +kernel) (fun _ _ _ h => h) (by rfl) ?_ ?_; rotate_left; (· (intro w; (go_simp <;> with_reducible rfl))); (try simp only [Act.put, List.setIfInBounds_toArray, List.set_cons_zero, List.set_cons_succ]))
      (refine tda_take 10 (v := ?_) rfl (by kernel_rfl) (by decide +kernel) (by decide +kernel) (fun _ _ _ h => h) (by rfl) ?_ ?_; rotate_left; (· (intro w; (go_simp <;> with_reducible rfl))); (try simp only [Act.put, List.setIfInBounds_toArray, List.set_cons_zero, List.set_cons_succ]))
      (refine tda_take 11 (v := ?_) rfl (by kernel_rfl) (by decide +kernel) (by decide +kernel) (fun _ _ _ h => h) (by rfl) ?_ ?_; rotate_left; (· (intro w; (go_simp <;> with_reducible rfl))); (try simp only [Act.put, List.setIfInBounds_toArray, List.set_cons_zero, List.set_cons_succ]))
      (refine tda_take 12 (v := ?_) rfl (by kernel_rfl) (by decide +kernel) (by decide +kernel) (fun _ _ _ h => h) (by rfl) ?_ ?_; rotate_left; (· (intro w; (go_simp <;> with_reducible rfl))); (try simp only [Act.put, List.setIfInBounds_toArray, List.set_cons_zero, List.set_cons_succ]))
      refine td_hold (fun W2 => W2.cell? ⟨B, 2, none⟩ = some (.slice A M c) ∧ W2.cell? ⟨B, 3, none⟩ = some (.int .i64 st)) [17, 18, 19] (by decide +kernel) ?_ (fun hHeld => ?_)
      · (first | exact HS7.out | exact HS.out _ hbd)
      (refine td_take 4 (v := ?_) rfl (by decide) (by kernel_rfl) (by decide +kernel) (by decide +kernel) (fun _ _ _ h => h) (by assumption) (by rfl) ?_ ?_; rotate_left; (· (intro w hSw; (try dsimp only at hSw); (go_simp <;> with_reducible rfl))); (try simp only [Act.put, List.setIfInBounds_toArray, List.set_cons_zero, List.set_cons_succ]))
      (refine td_take 13 (v := ?_) rfl (by decide) (by kernel_rfl) (by decide +kernel) (by decide +kernel) (fun _ _ _ h => h) (by assumption) (by rfl) ?_ ?_; rotate_left; (· (intro w hSw; (try dsimp only at hSw); (go_simp <;> with_reducible rfl))); (try simp only [Act.put, List.setIfInBounds_toArray, List.set_cons_zero, List.set_cons_succ]))
      repeat' (first
        | (refine td_ready (rs := [6]) (by decide +kernel) (by decide) (by simp) ?_; refine td_cons rfl (fun K hK => ?_) (td_nil); (focus (go_simp; obtain ⟨w9, hw9, hst9, hlit9⟩ := lit_step hbd #[.int .i32 r] 21; (first | rw [hw9] | rw [show (wo.alloc (.cells #[.int .i32 r] 21)).drew = w9 from hw9]); clear hw9; have hb9 : wo.heap.size < w9.heap.size := block_lt hlit9; have hc9 := cell_block hlit9 0; have hbd := hbd.trans (hst9.mono hbd.size); clear hst9 hlit9; (first | refine hK.out _ _ ?_ ?_ | (go_wp2_with fail; refine hK.out _ _ ?_ ?_)); (· (first | exact HS7.out | exact HS.out _ hbd)); clear hK K hHeld; intro hHeld; (try simp only [Act.put, List.setIfInBounds_toArray, List.set_cons_zero, List.set_cons_succ]))); rotate_left)
        | (refine td_ready (rs := [7]) (by decide +kernel) (by decide) (by simp) ?_; refine td_cons rfl (fun K hK => ?_) (td_nil); (focus (go_simp; go_at_call 116; refine (HE.out _ _ _ hb9 hc9).mono ?_; rintro e w10 ⟨rfl, hb10⟩; have hbd := hbd.trans (hb10.mono hbd.size); clear hb10; (first | refine hK.out _ _ ?_ ?_ | (go_wp2_with fail; refine hK.out _ _ ?_ ?_)); (· (first | exact HS7.out | exact HS.out _ hbd)); clear hK K hHeld; intro hHeld; (try simp only [Act.put, List.setIfInBounds_toArray, List.set_cons_zero, List.set_cons_succ]))); rotate_left)
        | (refine td_ready (rs := [14]) (by decide +kernel) (by decide) (by simp) ?_; refine td_cons rfl (fun K hK => ?_) (td_nil); (focus (go_simp; (first | refine hK.out _ _ ?_ ?_ | (go_wp2_with fail; refine hK.out _ _ ?_ ?_)); (· (first | exact HS7.out | exact HS.out _ hbd)); clear hK K hHeld; intro hHeld; (try simp only [Act.put, List.setIfInBounds_toArray, List.set_cons_zero, List.set_cons_succ]))); rotate_left)
        | (refine td_ready (rs := [15]) (by decide +kernel) (by decide) (by simp) ?_; refine td_cons rfl (fun K hK => ?_) (td_nil); (focus (go_simp; obtain ⟨w11, hw11, hst11, hlit11⟩ := lit_step hbd #[.string U, .bool wd, .int .i64 st] 42; rw [hw11]; clear hw11; have hbd := hbd.trans (hst11.mono hbd.size); clear hst11; (first | refine hK.out _ _ ?_ ?_ | (go_wp2_with fail; refine hK.out _ _ ?_ ?_)); (· (first | exact HS7.out | exact HS.out _ hbd)); clear hK K hHeld; intro hHeld; (try simp only [Act.put, List.setIfInBounds_toArray, List.set_cons_zero, List.set_cons_succ]))); rotate_left)
        | (refine td_ready (rs := [16]) (by decide +kernel) (by decide) (by simp) ?_; refine td_cons rfl (fun K hK => ?_) (td_nil); (focus (refine step_gl (HI.out.below hbd) (.tmp 62) (.tmp 73) (by rfl) (by rfl) (by omega) (by rfl) ⟨U, wd, st⟩ _ _ (by rfl) hlit11 ?_; intro g6 cap6 w6 hI6; have f6 := frozen_block hI6.box 2; have k6 : w6.cell? ⟨B, 2, none⟩ = some (.slice A M c) := cell_block hI6.box 2; have HI6 := hide hI6; have HS7 := hide (show w6.cell? ⟨B, 2, none⟩ = some (.slice A M c) ∧ w6.cell? ⟨B, 3, none⟩ = some (.int .i64 st) from ⟨k6, cell_block hI6.box 3⟩); (first | refine hK.out _ _ ?_ ?_ | (go_wp2_with fail; refine hK.out _ _ ?_ ?_)); (· (first | exact HS7.out | exact HS.out _ hbd)); clear hK K hHeld; intro hHeld; (try simp only [Act.put, List.setIfInBounds_toArray, List.set_cons_zero, List.set_cons_succ]))); rotate_left)
        | fail)
      all_goals (refine td_last (rs := [17]) (by decide +kernel) (by decide) ?_)
      all_goals clear hHeld
      repeat' (first
        | (refine tda_ready (rs := [17]) (by decide +kernel) (by simp) ?_; refine tda_cons rfl (fun K hK => ?_) (tda_nil); (focus (go_simp; refine hK.out _ _ ?_; clear hK K; (try simp only [Act.put, List.setIfInBounds_toArray, List.set_cons_zero, List.set_cons_succ]))); rotate_left)
        | (refine tda_ready (rs := [18]) (by decide +kernel) (by simp) ?_; refine tda_cons rfl (fun K hK => ?_) (tda_nil); (focus (go_simp; refine hK.out _ _ ?_; clear hK K; (try simp only [Act.put, List.setIfInBounds_toArray, List.set_cons_zero, List.set_cons_succ]))); rotate_left)
        | (refine tda_ready (rs := [19]) (by decide +kernel) (by simp) ?_; refine tda_cons rfl (fun K hK => ?_) (tda_nil); (focus (go_simp; refine hK.out _ _ ?_; clear hK K; (try simp only [Act.put, List.setIfInBounds_toArray, List.set_cons_zero, List.set_cons_succ]))); rotate_left)
        | fail)
      all_goals refine tda_done (by decide +kernel) ?_
      go_wp2
      go_roundw
      case rel =>
        refine ⟨k + 1, some ⟨g6, 0, none⟩, cap6, hlt, by go_num, ?_⟩
        rw [show out.length + (k + 1) = M + 1 by have := HM.out; omega, HRp.out, ← List.append_assoc]
        exact ⟨(HI6.out.set 2 _).box, (HI6.out.set 2 _).own, HI0.out.bl.trans (HI6.out.set 2 _).bl⟩
      case measure => simp [intOf]; omega
    · obtain rfl : k = n := by omega
      go_wp2
      go_ret
      refine ⟨rfl, Aw, nw, cw0, _, BoxO.eq HI0.out ?_ rfl, Hnw.out.1, Hnw.out.2, Hr.out _ HI0.out.bl⟩
      simp
/-- A character that is taken. -/
theorem addP (w0 w : World) (htb : Tabs w0) (hw : Below w0.heap.size w0 w) (B bR : Nat) (p : PS) (hI : PB B w w bR p) (hB0 : w0.heap.size ≤ B) (r : Int) (hr0 : -2147483648 ≤ r) (hr1 : r ≤ 2147483647) (n : Nat) (hn : 1 ≤ n) (q : PS) (hq : p.add r n = some q) (hl : q.out.length ≤ 1000000) :
    Calls Tryz.prog 92 #[.pointer (some ⟨B, 0, none⟩), .int .i32 r, .int .i64 n] w fun e w' => e = .returned (.bool true) ∧ PB B w w' bR q := by
  obtain ⟨ws, out, st, jo⟩ := p
  unfold PS.add at hq
  dsimp only at hq
  by_cases h1 : cw r < 0
  · rw [if_pos h1] at hq; cases hq
  · rw [if_neg h1] at hq
    by_cases h2 : cw r = 0
    · rw [if_pos h2] at hq
      by_cases h3 : 1 < n
      · rw [if_pos h3] at hq; cases hq
      · rw [if_neg h3] at hq
        obtain rfl : n = 1 := by omega
        cases hg : out.getLast? with
        | none => rw [hg] at hq; cases hq
        | some g =>
          rw [hg] at hq
          dsimp only at hq
          obtain ⟨init, rfl⟩ : ∃ init, out = init ++ [g] := by
            rw [List.getLast?_eq_some_iff] at hg
            exact hg
          unfold attachF at hq
          split at hq
          · rename_i hc
            rw [Option.map_some, Option.some.injEq] at hq
            subst hq
            have := addMark w0 w htb hw B bR ws init g st jo hI hB0 (by simp at hl; omega) r hr0 hr1 h2 hc.1 hc.2.1 hc.2.2
            rw [List.dropLast_concat]
            rw [show (⟨(g.text.data.toList ++ Lib.encodeRune r).toArray⟩ : ByteArray) = g.text ++ ⟨(Lib.encodeRune r).toArray⟩ from bytes_ext (by simp)]
            exact this
          · cases hq
    · rw [if_neg h2, Option.some.injEq] at hq
      subst hq
      exact addGlyphs w B bR ws out st jo hI n (by simpa using hl) r hr0 hr1 (by omega)
end Go.Proofs.YtdkppdjonlldhaaGreatDoor
