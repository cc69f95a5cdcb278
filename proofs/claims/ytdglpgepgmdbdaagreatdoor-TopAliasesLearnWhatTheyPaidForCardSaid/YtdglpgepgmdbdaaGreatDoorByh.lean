/- Lemmas of our own, no statement of the seat; the last one of the claim's texts proves the law. -/
import Derived.Test.YtdglpgepgmdbdaaGreatDoorByg
open Nat renaming reduceEqDiff → nQ1, reduceAdd → nQ2, reduceMul → nQ3, reduceLeDiff → nQ4, reduceLT → nQ5, reduceBNe → nQ6
open Int renaming reduceLE → iQ1, reduceLT → iQ2, reduceToNat → iQ3, cast_ofNat_Int → iQ4, reduceEq → iQ5, reduceNe → iQ6
namespace Go.Proofs.YtdglpgepgmdbdaaGreatDoor
set_option linter.unusedSimpArgs false
set_option linter.unusedVariables false
open Go.ChangeShapes Go.WideShapes Go.ChangeAt Go.RowKit Go.Joins Go.Proofs.YtdglpgepgmdbdaaGreatDoor.Vc
set_option maxRecDepth 100000
theorem topaliases_met (os : Os) : laidMet Tryz.prog laidL ((laidWorld os).forCall (fun _ _ => 0) ⟨#[], #[.agg #[.slice none 0 0, .slice none 0 0], .slice none 0 0, .agg #[.bool false, .int .i64 0, .int .i64 0, .int .i64 0, .int .i64 0, .int .i64 0, .int .i64 0]], []⟩).memory :=
 laidMet_of_run' 8 (by kernel_rfl) (by kernel_rfl)
theorem topaliases_reads (os : Os) {H : Type} (enc : TypeId × Value → H) : ∃ places, DataW.whole enc Tryz.prog ((laidWorld os).forCall (fun _ _ => 0) ⟨#[], #[.agg #[.slice none 0 0, .slice none 0 0], .slice none 0 0, .agg #[.bool false, .int .i64 0, .int .i64 0, .int .i64 0, .int .i64 0, .int .i64 0, .int .i64 0]], []⟩).memory Tryz.f3.params.toList Rows.topAliasesLearnWhatTheyPaidForSpec.vars false (#[.agg #[.slice none 0 0, .slice none 0 0], .slice none 0 0, .agg #[.bool false, .int .i64 0, .int .i64 0, .int .i64 0, .int .i64 0, .int .i64 0, .int .i64 0]] : Array Value).toList 8 = some ([.agg [.nil, .nil], .nil, .agg [.lit (.bool false), .lit (.int .i64 0), .lit (.int .i64 0), .lit (.int .i64 0), .lit (.int .i64 0), .lit (.int .i64 0), .lit (.int .i64 0)]], [], places) :=
 ⟨[], by kernel_rfl⟩
theorem topaliases_lifted (os : Os) (started : os.Started) (H : Type) (enc : TypeId × Value → H) (F : Stop.Interp) :
  ReturnsInHanded {} Tryz.checked os 3 .any ((OpenSpec.ofChange Rows.topAliasesLearnWhatTheyPaidForSpec).preRow enc Tryz.prog Tryz.f3 Rows.topAliasesLearnWhatTheyPaidForRow.domain false Rows.topAliasesLearnWhatTheyPaidForRow.laid) (((OpenSpec.ofChange Rows.topAliasesLearnWhatTheyPaidForSpec).at F).post enc Tryz.prog Tryz.f3 false true false false) := by
 obtain ⟨places, hx⟩ := topaliases_reads os enc
 refine lawLiftedL started (by kernel_rfl) Tryz.func3 rfl (tb := 4) (by kernel_rfl) (by kernel_rfl) (by rw [Tryz.params3]; decide +kernel) (fun ds h => ?_)
  (witness_row_at (enc := enc) (C := Tryz.checked) false (laidWorld os) #[.agg #[.slice none 0 0, .slice none 0 0], .slice none 0 0, .agg #[.bool false, .int .i64 0, .int .i64 0, .int .i64 0, .int .i64 0, .int .i64 0, .int .i64 0]] rfl (by kernel_rfl) (by kernel_rfl) (by kernel_rfl)
   (OpenSpec.preRow_of_cond 8 hx (by kernel_rfl) (fun k hk => by cases hk) (by kernel_rfl) (topaliases_met os))) ?_
 ·rw [Tryz.params3] at h
  match ds, h with
  | [d0, d1, d2], _ => rfl
 ·intro W base args ds ps hval hA hwt hz hr
  rw [Tryz.params3] at hA hval hwt
  obtain ⟨v0, v1, v2, d0, d1, d2, p0, p1, p2, rfl, rfl, rfl, h0, h1, h2⟩ := trodAll_three hA
  obtain ⟨u, w, us, ws, rfl, hu, hw, ku, kw⟩ := pair_in (hval 0 23 v0 rfl rfl) h0
  obtain ⟨x1, hx1⟩ := deeds_in (hval 1 24 v1 rfl rfl) h1 (each_weight hwt (j := 1) rfl rfl)
  obtain ⟨x2, rfl⟩ := deed_in (hval 2 26 v2 rfl rfl)
  exact lAliases (factsOf W) (tSanity27 _ hr) (fun xs x k w R' h1 h2 h3 h4 h5 h6 => cView xs x k w R' h1 h2 h3 h4 h5 h6) us ws u w hz hu hw ku kw x1 _ hx1 x2
theorem topaliases_said : Rows.TopAliasesLearnWhatTheyPaidForSaid :=
 OpenClaim.holds_of_cond 3 Tryz.f3 rfl rfl rfl rfl rfl rfl rfl ⟨rfl, rfl, rfl, rfl, rfl⟩ rfl rfl rfl rfl rfl (by kernel_rfl) Tryz.func3 (by kernel_rfl)
  (of_decide_eq_true (by kernel_rfl)) (by unfold Func.isWrapper; first | (rw [if_pos (by decide +kernel)]; kernel_rfl) | (rw [if_neg (by decide +kernel)]; exact ⟨rfl, rfl⟩))
  (fun os started H enc _ F => by rw [OpenClaim.pre_eq_preRow]; exact topaliases_lifted os started H enc F)
theorem topaliases_plain (f : FuncId) (fn : Func) (hf : Tryz.pinned.checked.prog.funcNamed "kalends/kalendstop.TopAliasesLearnWhatTheyPaidFor" = some f) (hfn : Tryz.pinned.checked.prog.funcs[f]? = some fn) :
  false = Tryz.pinned.checked.prog.looks [] ∧ ∀ (j : Nat) t, fn.params[j]? = some t → Tryz.pinned.checked.prog.wantsStandIn t = false := by
 obtain rfl : f = 3 := Option.some.inj ((show Tryz.prog.funcNamed "kalends/kalendstop.TopAliasesLearnWhatTheyPaidFor" = some 3 by kernel_rfl).symm.trans hf) |>.symm
 obtain rfl : fn = Tryz.f3 := (Option.some.inj (Tryz.func3.symm.trans hfn)).symm
 refine ⟨by kernel_rfl, fun j t ht => ?_⟩
 rw [Tryz.params3] at ht
 have hall : ∀ t ∈ [23, 24, 26], Tryz.prog.wantsStandIn t = false := by decide +kernel
 exact hall t (by simpa using Array.mem_of_getElem? ht)
theorem topaliases_holds : Rows.TopAliasesLearnWhatTheyPaidForCardSaid :=
 Claim7.holds_tied_plain_at .later [] _ _ _ _ topaliases_said (fun _ h => by cases h) (by kernel_rfl) (fun _ h => by cases h) topAliasesLearnWhatTheyPaidFor_row_tie rfl ⟨rfl, rfl⟩ (by kernel_rfl) rfl topaliases_plain (by kernel_rfl)
#print axioms topaliases_holds
end Go.Proofs.YtdglpgepgmdbdaaGreatDoor
