/- Lemmas of our own, no statement of the seat; the last one of the claim's texts proves the law. -/
import Derived.Test.YtclkibjonbhldaaGreatDoorBtg
open Nat renaming reduceEqDiff → nQ1, reduceAdd → nQ2, reduceMul → nQ3, reduceLeDiff → nQ4, reduceLT → nQ5, reduceBNe → nQ6
open Int renaming reduceLE → iQ1, reduceLT → iQ2, reduceToNat → iQ3, cast_ofNat_Int → iQ4, reduceEq → iQ5, reduceNe → iQ6
namespace Go.Proofs.YtclkibjonbhldaaGreatDoor
set_option linter.unusedSimpArgs false
set_option linter.unusedVariables false
open Go.ChangeShapes Go.WideShapes Go.ChangeAt Go.RowKit Go.Joins Go.Proofs.YtclkibjonbhldaaGreatDoor.Vc
set_option maxRecDepth 100000
theorem bmatches_met (os : Os) : laidMet Tryz.prog laidL ((laidWorld os).forCall (fun _ _ => 0) ⟨#[], #[.agg #[.int .i64 0, .slice none 0 0, .slice none 0 0], .agg #[.int .i64 0, .int .i64 0, .int .i64 0, .int .i64 0], .int .i64 0], []⟩).memory :=
 laidMet_of_run' 8 (by kernel_rfl) (by kernel_rfl)
theorem bmatches_reads (os : Os) {H : Type} (enc : TypeId × Value → H) : ∃ places, DataW.whole enc Tryz.prog ((laidWorld os).forCall (fun _ _ => 0) ⟨#[], #[.agg #[.int .i64 0, .slice none 0 0, .slice none 0 0], .agg #[.int .i64 0, .int .i64 0, .int .i64 0, .int .i64 0], .int .i64 0], []⟩).memory Tryz.f6.params.toList Rows.budgetMatchesReferenceSpec.vars false (#[.agg #[.int .i64 0, .slice none 0 0, .slice none 0 0], .agg #[.int .i64 0, .int .i64 0, .int .i64 0, .int .i64 0], .int .i64 0] : Array Value).toList 8 = some ([.agg [.lit (.int .i64 0), .nil, .nil], .agg [.lit (.int .i64 0), .lit (.int .i64 0), .agg [.lit (.int .i64 0), .lit (.int .i64 0)]], .lit (.int .i64 0)], [], places) :=
 ⟨[], by kernel_rfl⟩
theorem bmatches_lifted (os : Os) (started : os.Started) (H : Type) (enc : TypeId × Value → H) (F : Stop.Interp) :
  ReturnsInHanded {} Tryz.checked os 6 .any ((OpenSpec.ofChange Rows.budgetMatchesReferenceSpec).preRow enc Tryz.prog Tryz.f6 Rows.budgetMatchesReferenceRow.domain false Rows.budgetMatchesReferenceRow.laid) (((OpenSpec.ofChange Rows.budgetMatchesReferenceSpec).at F).post enc Tryz.prog Tryz.f6 false true false false) := by
 obtain ⟨places, hx⟩ := bmatches_reads os enc
 refine lawLiftedL started (by kernel_rfl) Tryz.func6 rfl (tb := 4) (by kernel_rfl) (by kernel_rfl) (by rw [Tryz.params6]; decide +kernel) (fun ds h => ?_)
  (witness_row_at (enc := enc) (C := Tryz.checked) false (laidWorld os) #[.agg #[.int .i64 0, .slice none 0 0, .slice none 0 0], .agg #[.int .i64 0, .int .i64 0, .int .i64 0, .int .i64 0], .int .i64 0] rfl (by kernel_rfl) (by kernel_rfl) (by kernel_rfl)
   (OpenSpec.preRow_of_cond 8 hx (by kernel_rfl) (fun k hk => by cases hk) (by kernel_rfl) (bmatches_met os))) ?_
 ·rw [Tryz.params6] at h
  match ds, h with
  | [d0, d1, d2], _ => rfl
 ·intro W base args ds ps hval hA hwt hz
  rw [Tryz.params6] at hA hval hwt
  obtain ⟨v0, v1, v2, d0, d1, d2, p0, p1, p2, rfl, rfl, rfl, h0, h1, h2⟩ := trodAll_three hA
  have hx0 := bu_in (hval 0 28 v0 rfl rfl) h0
  obtain ⟨x1, rfl⟩ := qn_in (hval 1 34 v1 rfl rfl)
  obtain ⟨x2, rfl⟩ := int_in (hval 2 3 v2 rfl rfl)
  exact lMatchesB _ x1 x2 (factsOf W) hz hx0
theorem bmatches_said : Rows.BudgetMatchesReferenceSaid :=
 OpenClaim.holds_of_cond 6 Tryz.f6 rfl rfl rfl rfl rfl rfl rfl ⟨rfl, rfl, rfl, rfl, rfl⟩ rfl rfl rfl rfl rfl (by kernel_rfl) Tryz.func6 (by kernel_rfl)
  (of_decide_eq_true (by kernel_rfl)) (by unfold Func.isWrapper; first | (rw [if_pos (by decide +kernel)]; kernel_rfl) | (rw [if_neg (by decide +kernel)]; exact ⟨rfl, rfl⟩))
  (fun os started H enc _ F => by rw [OpenClaim.pre_eq_preRow]; exact bmatches_lifted os started H enc F)
theorem bmatches_plain (f : FuncId) (fn : Func) (hf : Tryz.pinned.checked.prog.funcNamed "kalends/kalendslaw27.BudgetMatchesReference" = some f) (hfn : Tryz.pinned.checked.prog.funcs[f]? = some fn) :
  false = Tryz.pinned.checked.prog.looks [] ∧ ∀ (j : Nat) t, fn.params[j]? = some t → Tryz.pinned.checked.prog.wantsStandIn t = false := by
 obtain rfl : f = 6 := Option.some.inj ((show Tryz.prog.funcNamed "kalends/kalendslaw27.BudgetMatchesReference" = some 6 by kernel_rfl).symm.trans hf) |>.symm
 obtain rfl : fn = Tryz.f6 := (Option.some.inj (Tryz.func6.symm.trans hfn)).symm
 refine ⟨by kernel_rfl, fun j t ht => ?_⟩
 rw [Tryz.params6] at ht
 have hall : ∀ t ∈ [28, 34, 3], Tryz.prog.wantsStandIn t = false := by decide +kernel
 exact hall t (by simpa using Array.mem_of_getElem? ht)
theorem bmatches_holds : Rows.BudgetMatchesReferenceCardSaid :=
 Claim7.holds_tied_plain_at .later [] _ _ _ _ bmatches_said (fun _ h => by cases h) (by kernel_rfl) (fun _ h => by cases h) budgetMatchesReference_row_tie rfl ⟨rfl, rfl⟩ (by kernel_rfl) rfl bmatches_plain (by kernel_rfl)
#print axioms bmatches_holds
end Go.Proofs.YtclkibjonbhldaaGreatDoor
