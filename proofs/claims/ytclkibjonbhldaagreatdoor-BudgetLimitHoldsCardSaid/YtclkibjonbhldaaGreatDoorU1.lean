/- the law BudgetLimitHolds: the join -/
import Derived.Test.YtclkibjonbhldaaGreatDoorGn
import Derived.Test.YtclkibjonbhldaaGreatDoorJp
namespace Go.Proofs.YtclkibjonbhldaaGreatDoor
set_option linter.unusedSimpArgs false
set_option linter.unusedVariables false
open Go.ChangeShapes Go.WideShapes Go.ChangeAt Go.RowKit Go.Joins Go.Proofs.YtclkibjonbhldaaGreatDoor.Vc
set_option maxRecDepth 100000
theorem blimit_met (os : Os) : laidMet Tryz.prog laidL ((laidWorld os).forCall (fun _ _ => 0) ⟨#[], #[.int .i64 0, .agg #[.int .u8 0, .int .u8 0, .int .u8 0], .slice none 0 0], []⟩).memory :=
  laidMet_of_run' 8 (by kernel_rfl) (by kernel_rfl)
theorem blimit_reads (os : Os) {H : Type} (enc : TypeId × Value → H) : ∃ places, DataW.whole enc Tryz.prog ((laidWorld os).forCall (fun _ _ => 0) ⟨#[], #[.int .i64 0, .agg #[.int .u8 0, .int .u8 0, .int .u8 0], .slice none 0 0], []⟩).memory Tryz.f4.params.toList Rows.budgetLimitHoldsSpec.vars false (#[.int .i64 0, .agg #[.int .u8 0, .int .u8 0, .int .u8 0], .slice none 0 0] : Array Value).toList 8 = some ([.lit (.int .i64 0), .agg [.lit (.int .u8 0), .lit (.int .u8 0), .lit (.int .u8 0)], .nil], [], places) :=
  ⟨[], by kernel_rfl⟩
theorem blimit_lifted (os : Os) (started : os.Started) (H : Type) (enc : TypeId × Value → H) (F : Stop.Interp) :
    ReturnsInHanded {} Tryz.checked os 4 .any ((OpenSpec.ofChange Rows.budgetLimitHoldsSpec).preRow enc Tryz.prog Tryz.f4 Rows.budgetLimitHoldsRow.domain false Rows.budgetLimitHoldsRow.laid) (((OpenSpec.ofChange Rows.budgetLimitHoldsSpec).at F).post enc Tryz.prog Tryz.f4 false true false false) := by
  obtain ⟨places, hx⟩ := blimit_reads os enc
  refine lawLiftedL started (by kernel_rfl) Tryz.func4 rfl (tb := 4) (by kernel_rfl) (by kernel_rfl) (by rw [Tryz.params4]; decide +kernel) (fun ds h => ?_)
    (witness_row_at (enc := enc) (C := Tryz.checked) false (laidWorld os) #[.int .i64 0, .agg #[.int .u8 0, .int .u8 0, .int .u8 0], .slice none 0 0] rfl (by kernel_rfl) (by kernel_rfl) (by kernel_rfl)
      (OpenSpec.preRow_of_cond 8 hx (by kernel_rfl) (fun k hk => by cases hk) (by kernel_rfl) (blimit_met os))) ?_
  · rw [Tryz.params4] at h
    match ds, h with
    | [d0, d1, d2], _ => rfl
  · intro W base args ds ps hval hA hwt hz
    rw [Tryz.params4] at hA hval hwt
    obtain ⟨v0, v1, v2, d0, d1, d2, p0, p1, p2, rfl, rfl, rfl, h0, h1, h2⟩ := trodAll_three hA
    obtain ⟨x0, rfl⟩ := int_in (hval 0 3 v0 rfl rfl)
    obtain ⟨xs, hl, rfl, hxs⟩ := arr_in Tryz.underlying47 Tryz.underlying5 (lo := 0) (hi := 255) (by decide) (by decide) (by kernel_rfl) (by kernel_rfl) (hval 1 47 v1 rfl rfl) h1
    obtain ⟨x2, hx2⟩ := deeds_in (hval 2 22 v2 rfl rfl) h2 (each_weight hwt (j := 2) rfl rfl)
    match xs, hl with
    | [z0, z1, z2], _ => exact lLimit x0 z0 z1 z2 (fun x hx => by have := hxs x hx; omega) x2 _ (factsOf W) hz hx2
theorem blimit_said : Rows.BudgetLimitHoldsSaid :=
  OpenClaim.holds_of_cond 4 Tryz.f4 rfl rfl rfl rfl rfl rfl rfl ⟨rfl, rfl, rfl, rfl, rfl⟩ rfl rfl rfl rfl rfl (by kernel_rfl) Tryz.func4 (by kernel_rfl)
    (of_decide_eq_true (by kernel_rfl)) (by unfold Func.isWrapper; first | (rw [if_pos (by decide +kernel)]; kernel_rfl) | (rw [if_neg (by decide +kernel)]; exact ⟨rfl, rfl⟩))
    (fun os started H enc _ F => by rw [OpenClaim.pre_eq_preRow]; exact blimit_lifted os started H enc F)
theorem blimit_plain (f : FuncId) (fn : Func) (hf : Tryz.pinned.checked.prog.funcNamed "kalends/kalendslaw27.BudgetLimitHolds" = some f) (hfn : Tryz.pinned.checked.prog.funcs[f]? = some fn) :
    false = Tryz.pinned.checked.prog.looks [] ∧ ∀ (j : Nat) t, fn.params[j]? = some t → Tryz.pinned.checked.prog.wantsStandIn t = false := by
  obtain rfl : f = 4 := Option.some.inj ((show Tryz.prog.funcNamed "kalends/kalendslaw27.BudgetLimitHolds" = some 4 by kernel_rfl).symm.trans hf) |>.symm
  obtain rfl : fn = Tryz.f4 := (Option.some.inj (Tryz.func4.symm.trans hfn)).symm
  refine ⟨by kernel_rfl, fun j t ht => ?_⟩
  rw [Tryz.params4] at ht
  have hall : ∀ t ∈ [3, 47, 22], Tryz.prog.wantsStandIn t = false := by decide +kernel
  exact hall t (by simpa using Array.mem_of_getElem? ht)
theorem blimit_holds : Rows.BudgetLimitHoldsCardSaid :=
  Claim7.holds_tied_plain_at .later [] _ _ _ _ blimit_said (fun _ h => by cases h) (by kernel_rfl) (fun _ h => by cases h) budgetLimitHolds_row_tie rfl ⟨rfl, rfl⟩ (by kernel_rfl) rfl blimit_plain (by kernel_rfl)
#print axioms blimit_holds
end Go.Proofs.YtclkibjonbhldaaGreatDoor
