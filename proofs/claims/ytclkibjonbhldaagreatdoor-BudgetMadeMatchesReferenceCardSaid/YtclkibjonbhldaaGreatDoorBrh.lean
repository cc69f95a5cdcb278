/- Lemmas of our own, no statement of the seat; the last one of the claim's texts proves the law. -/
import Derived.Test.YtclkibjonbhldaaGreatDoorBrg
open Nat renaming reduceEqDiff → nQ1, reduceAdd → nQ2, reduceMul → nQ3, reduceLeDiff → nQ4, reduceLT → nQ5, reduceBNe → nQ6
open Int renaming reduceLE → iQ1, reduceLT → iQ2, reduceToNat → iQ3, cast_ofNat_Int → iQ4, reduceEq → iQ5, reduceNe → iQ6
namespace Go.Proofs.YtclkibjonbhldaaGreatDoor
set_option linter.unusedSimpArgs false
set_option linter.unusedVariables false
open Go.ChangeShapes Go.WideShapes Go.ChangeAt Go.RowKit Go.Joins Go.Proofs.YtclkibjonbhldaaGreatDoor.Vc
set_option maxRecDepth 100000
theorem bmade_met (os : Os) : laidMet Tryz.prog laidL ((laidWorld os).forCall (fun _ _ => 0) ⟨#[], #[.int .i64 0, .slice none 0 0], []⟩).memory :=
 laidMet_of_run' 8 (by kernel_rfl) (by kernel_rfl)
theorem bmade_reads (os : Os) {H : Type} (enc : TypeId × Value → H) : ∃ places, DataW.whole enc Tryz.prog ((laidWorld os).forCall (fun _ _ => 0) ⟨#[], #[.int .i64 0, .slice none 0 0], []⟩).memory Tryz.f3.params.toList Rows.budgetMadeMatchesReferenceSpec.vars false (#[.int .i64 0, .slice none 0 0] : Array Value).toList 8 = some ([.lit (.int .i64 0), .nil], [], places) :=
 ⟨[], by kernel_rfl⟩
theorem bmade_lifted (os : Os) (started : os.Started) (H : Type) (enc : TypeId × Value → H) (F : Stop.Interp) :
  ReturnsInHanded {} Tryz.checked os 3 .any ((OpenSpec.ofChange Rows.budgetMadeMatchesReferenceSpec).preRow enc Tryz.prog Tryz.f3 Rows.budgetMadeMatchesReferenceRow.domain false Rows.budgetMadeMatchesReferenceRow.laid) (((OpenSpec.ofChange Rows.budgetMadeMatchesReferenceSpec).at F).post enc Tryz.prog Tryz.f3 false true false false) := by
 obtain ⟨places, hx⟩ := bmade_reads os enc
 refine lawLiftedL started (by kernel_rfl) Tryz.func3 rfl (tb := 4) (by kernel_rfl) (by kernel_rfl) (by rw [Tryz.params3]; decide +kernel) (fun ds h => ?_)
  (witness_row_at (enc := enc) (C := Tryz.checked) false (laidWorld os) #[.int .i64 0, .slice none 0 0] rfl (by kernel_rfl) (by kernel_rfl) (by kernel_rfl)
   (OpenSpec.preRow_of_cond 8 hx (by kernel_rfl) (fun k hk => by cases hk) (by kernel_rfl) (bmade_met os))) ?_
 ·rw [Tryz.params3] at h
  match ds, h with
  | [d0, d1], _ => rfl
 ·intro W base args ds ps hval hA hwt hz
  rw [Tryz.params3] at hA hval hwt
  obtain ⟨v0, v1, d0, d1, p0, p1, rfl, rfl, rfl, h0, h1⟩ := trodAll_two hA
  obtain ⟨x0, rfl⟩ := int_in (hval 0 3 v0 rfl rfl)
  obtain ⟨x1, hx1⟩ := deeds_in (hval 1 22 v1 rfl rfl) h1 (each_weight hwt (j := 1) rfl rfl)
  exact lMadeRef x0 x1 _ (factsOf W) hz hx1
theorem bmade_said : Rows.BudgetMadeMatchesReferenceSaid :=
 OpenClaim.holds_of_cond 3 Tryz.f3 rfl rfl rfl rfl rfl rfl rfl ⟨rfl, rfl, rfl, rfl, rfl⟩ rfl rfl rfl rfl rfl (by kernel_rfl) Tryz.func3 (by kernel_rfl)
  (of_decide_eq_true (by kernel_rfl)) (by unfold Func.isWrapper; first | (rw [if_pos (by decide +kernel)]; kernel_rfl) | (rw [if_neg (by decide +kernel)]; exact ⟨rfl, rfl⟩))
  (fun os started H enc _ F => by rw [OpenClaim.pre_eq_preRow]; exact bmade_lifted os started H enc F)
theorem bmade_plain (f : FuncId) (fn : Func) (hf : Tryz.pinned.checked.prog.funcNamed "kalends/kalendslaw27.BudgetMadeMatchesReference" = some f) (hfn : Tryz.pinned.checked.prog.funcs[f]? = some fn) :
  false = Tryz.pinned.checked.prog.looks [] ∧ ∀ (j : Nat) t, fn.params[j]? = some t → Tryz.pinned.checked.prog.wantsStandIn t = false := by
 obtain rfl : f = 3 := Option.some.inj ((show Tryz.prog.funcNamed "kalends/kalendslaw27.BudgetMadeMatchesReference" = some 3 by kernel_rfl).symm.trans hf) |>.symm
 obtain rfl : fn = Tryz.f3 := (Option.some.inj (Tryz.func3.symm.trans hfn)).symm
 refine ⟨by kernel_rfl, fun j t ht => ?_⟩
 rw [Tryz.params3] at ht
 have hall : ∀ t ∈ [3, 22], Tryz.prog.wantsStandIn t = false := by decide +kernel
 exact hall t (by simpa using Array.mem_of_getElem? ht)
theorem bmade_holds : Rows.BudgetMadeMatchesReferenceCardSaid :=
 Claim7.holds_tied_plain_at .later [] _ _ _ _ bmade_said (fun _ h => by cases h) (by kernel_rfl) (fun _ h => by cases h) budgetMadeMatchesReference_row_tie rfl ⟨rfl, rfl⟩ (by kernel_rfl) rfl bmade_plain (by kernel_rfl)
#print axioms bmade_holds
end Go.Proofs.YtclkibjonbhldaaGreatDoor
