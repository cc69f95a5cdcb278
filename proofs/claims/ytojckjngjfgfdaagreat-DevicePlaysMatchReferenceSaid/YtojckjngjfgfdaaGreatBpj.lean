/- Lemmas of our own, no statement of the seat; the last one of the claim's texts proves the law. -/
import Derived.Test.YtojckjngjfgfdaaGreatBpi
import Derived.Test.YtojckjngjfgfdaaGreatBph
import Derived.Test.YtojckjngjfgfdaaGreatQj8
open Nat renaming reduceEqDiff → nQ1, reduceAdd → nQ2, reduceMul → nQ3, reduceLeDiff → nQ4, reduceLT → nQ5, reduceBNe → nQ6
open Int renaming reduceLE → iQ1, reduceLT → iQ2, reduceToNat → iQ3, cast_ofNat_Int → iQ4, reduceEq → iQ5, reduceNe → iQ6
namespace Go.Proofs.YtojckjngjfgfdaaGreat
set_option linter.unusedSimpArgs false
set_option linter.unusedVariables false
open Go.ChangeShapes Go.WideShapes Go.ChangeAt Go.RowKit Go.Joins Go.Proofs.YtojckjngjfgfdaaGreat.Vc
set_option maxRecDepth 100000
theorem dplays_lifted (os : Os) (started : os.Started) (H : Type) (enc : TypeId × Value → H) :
  ReturnsInHanded {} Tryz.checked os 4 .any (Rows.devicePlaysMatchReferenceSpec.pre6 enc Tryz.prog Tryz.f4 Rows.devicePlaysMatchReferenceRow.domain false) (Rows.devicePlaysMatchReferenceSpec.post enc Tryz.prog Tryz.f4 false true false false) := by
 refine lawLifted started (by kernel_rfl) Tryz.func4 rfl (tb := 4) (by kernel_rfl) (by kernel_rfl) (by rw [Tryz.params4]; decide +kernel) (fun ds h => ?_)
  (ChangeSpec.witness6 (enc := enc) (C := Tryz.checked) false ⟨#[], #[.slice none 0 0, .int .i64 0, .slice none 0 0], []⟩ 8 (by kernel_rfl) (by kernel_rfl) (by kernel_rfl) (by kernel_rfl)) ?_
 ·rw [Tryz.params4] at h
  match ds, h with
  | [d0, d1, d2], _ => rfl
 ·intro W base args ds ps hval hA hwt
  rw [Tryz.params4] at hA hval hwt
  obtain ⟨v0, v1, v2, d0, d1, d2, p0, p1, p2, rfl, rfl, rfl, h0, h1, h2⟩ := trodAll_three hA
  obtain ⟨os0, ho0⟩ := ops_in (hval 0 44 v0 rfl rfl) h0 (each_weight hwt (j := 0) rfl rfl)
  obtain ⟨x1, rfl⟩ := int_in (hval 1 3 v1 rfl rfl)
  obtain ⟨es2, he2, hl2⟩ := eds_in (hval 2 22 v2 rfl rfl) h2 (each_weight hwt (j := 2) rfl rfl)
  exact lPlays (factsOf W) os0 _ ho0 x1 es2 _ he2 hl2
theorem dplays_holds : Rows.DevicePlaysMatchReferenceSaid :=
 OpenClaim.holds_of_wide 4 Tryz.f4 rfl rfl rfl rfl rfl rfl rfl ⟨rfl, rfl, rfl, rfl, rfl⟩ rfl rfl rfl rfl rfl (by kernel_rfl) Tryz.func4 dplays_joined
  (of_decide_eq_true (by kernel_rfl)) (by unfold Func.isWrapper; first | (rw [if_pos (by decide +kernel)]; kernel_rfl) | (rw [if_neg (by decide +kernel)]; exact ⟨rfl, rfl⟩))
  (fun os started H enc _ => dplays_lifted os started H enc)
#print axioms dplays_holds
end Go.Proofs.YtojckjngjfgfdaaGreat
