/- The law TopCopiedSecrets: it returns true whatever it is given, and leaves its arguments as they were. -/
import Derived.Test.YtdkppdjonlldhaaGreatDoorJ18
import Derived.Test.YtdkppdjonlldhaaGreatDoorLaw
namespace Go.Proofs.YtdkppdjonlldhaaGreatDoor.topCopiedSecrets
open Go.ChangeShapes Go.WideShapes Go.ChangeAt Go.RowKit

set_option maxRecDepth 100000 in
theorem contract (H : Type) (enc : TypeId × Value → H) (W : World) (base : Nat) (args : Array Value) (ds gs : List (DataW H)) (before : List MemPlace)
    (hval : ∀ (j : Nat) t v, Tryz.f4.params[j]? = some t → args[j]? = some v → Value.okWide Tryz.prog W .any base t v)
    (hk : Rows.uptoSmall H (ds ++ gs) = true)
    (hW : DataW.Whole enc Tryz.prog Tryz.f4.params.toList Rows.topCopiedSecretsSpec.vars false W args.toList ds gs before) (hL : laidMetH Tryz.prog Rows.topCopiedSecretsUptoRow.laid W) (_hsh : W.ShapedOpen Tryz.prog) :
    Calls Tryz.prog 4 args W fun e W' => ∃ v, e = .returned v ∧ Rows.topCopiedSecretsSpec.post enc Tryz.prog Tryz.f4 false true false false W args v W' := by
  have hW' := hW
  obtain ⟨p, q, hA0, hV, rfl, hfz, hnd⟩ := hW
  have hA : DataW.TrodAll enc Tryz.prog W 0 (fun _ => true) true Tryz.f4.params.toList args.toList ds p := hA0
  rw [Tryz.params4] at hA hval
  obtain ⟨v0, vs0, d0, ds0, p0, q0, hargs, rfl, rfl, h0, r0⟩ := trodAll_cons hA
  obtain ⟨v1, vs1, d1, ds1, p1, q1, rfl, rfl, rfl, h1, r1⟩ := trodAll_cons r0
  obtain ⟨v2, vs2, d2, ds2, p2, q2, rfl, rfl, rfl, h2, r2⟩ := trodAll_cons r1
  obtain ⟨v3, vs3, d3, ds3, p3, q3, rfl, rfl, rfl, h3, r3⟩ := trodAll_cons r2
  obtain ⟨rfl, rfl, rfl⟩ := trodAll_nil r3
  obtain rfl : args = #[v0, v1, v2, v3] := by cases args; simp_all
  obtain ⟨rfl, rfl⟩ := trodVars_none hV
  clear hA0 hA
  obtain ⟨A0, cp0, l0, rfl, hcap0, hrow0, hbk0⟩ := open_gls (hval 0 _ v0 rfl rfl) h0
  obtain ⟨A1, cp1, l1, rfl, hcap1, hrow1, hbk1⟩ := open_gls (hval 1 _ v1 rfl rfl) h1
  obtain ⟨n2, rfl, rfl, rfl, hw2⟩ := open_int Tryz.underlying5 (hval 2 _ v2 rfl rfl) h2
  obtain ⟨c2, rfl, hc2⟩ := u8_wf hw2
  obtain ⟨st3, rfl⟩ := open_settings (hval 3 _ v3 rfl rfl) h3
  have htab : Tabs W := tabs_of_reads (Lib.laidMet.reads hL (.tail _ (.tail _ (.tail _ (.tail _ (.tail _ (.head _))))))) (Lib.laidMet.reads hL (.head _))
  have hspc : Spc W := spc_of_reads (Lib.laidMet.reads hL (.tail _ (.tail _ (.head _))))
  have hsty : StyT W := sty_of_reads (Lib.laidMet.reads hL (.tail _ (.tail _ (.tail _ (.head _)))))
  have hbulk := of_decide_eq_true hk
  simp only [Rows.uptoBulkAll, List.cons_append, List.nil_append] at hbulk
  refine (secretsLawP W hspc hsty htab A0 cp0 l0 hrow0 (fun g hg => by have := hbk0 g hg; omega) A1 cp1 l1 hrow1 (fun g hg => by have := hbk1 g hg; omega) st3 c2 (Nat.le_of_lt_succ hc2)).mono fun e W' ⟨he, hb⟩ => ?_
  subst he
  refine ⟨_, rfl, law_post (tb := 4) rfl laidOut ?_ (by kernel_rfl) Tryz.underlying4 hW' rfl hb⟩
  intro t ht
  rw [Tryz.params4] at ht
  simp only [List.mem_cons, List.mem_nil_iff, or_false] at ht
  rcases ht with rfl | rfl | rfl | rfl
  all_goals exact ⟨by kernel_rfl, of_decide_eq_true (by kernel_rfl)⟩

/-- A world for the witness: the listed variables hold what is laid. -/
noncomputable def laidWorld (os : Os) : World := World.laidAll Tryz.prog os Rows.topCopiedSecretsUptoRow.laid
theorem laid_met (os : Os) : laidMet Tryz.prog Rows.topCopiedSecretsUptoRow.laid ((laidWorld os).forCall (fun _ _ => 0) ⟨#[], #[.slice none 0 0, .slice none 0 0, .int .u8 0, .agg #[.int .i64 0, .bool false, .bool false, .int .i64 0, .bool false, .int .i64 0]], []⟩).memory :=
  laidMet_laidAll _ (by kernel_rfl) (by kernel_rfl)
theorem reads (os : Os) {H : Type} (enc : TypeId × Value → H) : ∃ places, DataW.whole enc Tryz.prog ((laidWorld os).forCall (fun _ _ => 0) ⟨#[], #[.slice none 0 0, .slice none 0 0, .int .u8 0, .agg #[.int .i64 0, .bool false, .bool false, .int .i64 0, .bool false, .int .i64 0]], []⟩).memory Tryz.f4.params.toList Rows.topCopiedSecretsSpec.vars false (#[.slice none 0 0, .slice none 0 0, .int .u8 0, .agg #[.int .i64 0, .bool false, .bool false, .int .i64 0, .bool false, .int .i64 0]] : Array Value).toList 8 = some ([.nil, .nil, .lit (.int .u8 0), .agg [.lit (.int .i64 0), .lit (.bool false), .lit (.bool false), .lit (.int .i64 0), .lit (.bool false), .lit (.int .i64 0)]], [], places) :=
  ⟨[], by kernel_rfl⟩

set_option maxRecDepth 100000 in
theorem lifted (os : Os) (started : os.Started) (H : Type) (enc : TypeId × Value → H) (F : Stop.Interp) :
    ReturnsInHanded {} Tryz.checked os 4 .any ((Rows.OpenSpec.upto Rows.topCopiedSecretsSpec).preRow enc Tryz.prog Tryz.f4 Rows.topCopiedSecretsUptoRow.domain false Rows.topCopiedSecretsUptoRow.laid) (((Rows.OpenSpec.upto Rows.topCopiedSecretsSpec).at F).post enc Tryz.prog Tryz.f4 false true false false) := by
  obtain ⟨places, hx⟩ := reads os enc
  refine returnsInHanded_of_row (C := Tryz.checked) (s := Rows.OpenSpec.upto Rows.topCopiedSecretsSpec) own started (by kernel_rfl) Tryz.func4
    (witness_row_zip (enc := enc) (C := Tryz.checked) false (laidWorld os) #[.slice none 0 0, .slice none 0 0, .int .u8 0, .agg #[.int .i64 0, .bool false, .bool false, .int .i64 0, .bool false, .int .i64 0]] (World.laidAll_os _ _ _) (by kernel_rfl) (by kernel_rfl) (by kernel_rfl)
      (OpenSpec.preRow_of_cond 8 hx (by kernel_rfl) (fun k hk => by cases hk; kernel_rfl) (by kernel_rfl) (laid_met os))) ?_
  intro W base args ds gs before hval hW _ hcond _ hL hsh _
  exact contract H enc W base args ds gs before hval (hcond _ rfl) hW hL hsh

theorem said : Rows.TopCopiedSecretsUptoSaid :=
  OpenClaim.holds_of_cond 4 Tryz.f4 rfl rfl rfl rfl rfl rfl rfl ⟨rfl, rfl, rfl, rfl, rfl⟩ rfl rfl rfl rfl rfl (by kernel_rfl) Tryz.func4 (by kernel_rfl)
    (of_decide_eq_true (by kernel_rfl)) (by unfold Func.isWrapper; first | (rw [if_pos (by decide +kernel)]; kernel_rfl) | (rw [if_neg (by decide +kernel)]; exact ⟨rfl, rfl⟩))
    (fun os started H enc _ F => by rw [OpenClaim.pre_eq_preRow]; exact lifted os started H enc F)

theorem plain (f : FuncId) (fn : Func) (hf : Tryz.pinned.checked.prog.funcNamed "narrator/narratortop.TopCopiedSecrets" = some f) (hfn : Tryz.pinned.checked.prog.funcs[f]? = some fn) :
    false = Tryz.pinned.checked.prog.looks [] ∧ ∀ (j : Nat) t, fn.params[j]? = some t → Tryz.pinned.checked.prog.wantsStandIn t = false := by
  obtain rfl : f = 4 := Option.some.inj ((show Tryz.prog.funcNamed "narrator/narratortop.TopCopiedSecrets" = some 4 by kernel_rfl).symm.trans hf) |>.symm
  obtain rfl : fn = Tryz.f4 := (Option.some.inj (Tryz.func4.symm.trans hfn)).symm
  refine ⟨by kernel_rfl, fun j t ht => ?_⟩
  rw [Tryz.params4] at ht
  have hm := Array.mem_of_getElem? ht
  simp only [List.mem_toArray, List.mem_cons, List.mem_nil_iff, or_false] at hm
  rcases hm with rfl | rfl | rfl | rfl
  all_goals exact (show Tryz.prog.wantsStandIn _ = false by kernel_rfl)

/-- The card. -/
theorem card : Rows.TopCopiedSecretsUptoCardSaid :=
  Claim7.holds_tied_plain_at .later [] _ _ _ _ said (fun _ h => by cases h) (by kernel_rfl) (fun _ h => by cases h) topCopiedSecretsUpto_row_tie rfl ⟨rfl, rfl⟩ (by kernel_rfl) rfl plain (by kernel_rfl)
end Go.Proofs.YtdkppdjonlldhaaGreatDoor.topCopiedSecrets
