/- Lemmas of our own, no statement of the seat; the last one of the claim's texts proves the law. -/
import Derived.Test.YtcjdbfnnbejmeaaGreatBye
import Derived.Test.YtcjdbfnnbejmeaaGreatXjb
open Nat renaming reduceEqDiff → nQ1, reduceAdd → nQ2, reduceMul → nQ3, reduceLeDiff → nQ4, reduceLT → nQ5, reduceBNe → nQ6
open Int renaming reduceLE → iQ1, reduceLT → iQ2, reduceToNat → iQ3, cast_ofNat_Int → iQ4, reduceEq → iQ5, reduceNe → iQ6
namespace Go.Proofs.YtcjdbfnnbejmeaaGreat
set_option linter.unusedSimpArgs false
set_option linter.unusedVariables false
open Go.ChangeShapes Go.WideShapes Go.ChangeAt Go.RowKit Go.Joins Go.Proofs.YtcjdbfnnbejmeaaGreat.Vc
set_option maxRecDepth 100000
theorem dmatchw_lifted (os : Os) (started : os.Started) (H : Type) (enc : TypeId × Value → H) :
  ReturnsInHanded {} Tryz.checked os 3 .any (Rows.deviceMatchesReferenceSpec.pre6 enc Tryz.prog Tryz.f3 Rows.deviceMatchesReferenceRow.domain false) (Rows.deviceMatchesReferenceSpec.post enc Tryz.prog Tryz.f3 false true false false) := by
 refine lawLifted started (by kernel_rfl) Tryz.func3 rfl (tb := 4) (by kernel_rfl) (by kernel_rfl) (by rw [Tryz.params3]; decide +kernel) (fun ds h => ?_)
  (ChangeSpec.witness6 (enc := enc) (C := Tryz.checked) false ⟨#[], #[.agg #[.int .i64 0, .int .i64 0, .int .i64 0, .slice none 0 0, .int .i64 0, .int .i64 0, .int .i64 0, .slice none 0 0], .agg #[.int .i64 0, .int .i64 0, .int .i64 0, .int .i64 0, .int .i64 0, .bool false, .int .i64 0, .int .i64 0, .int .i64 0, .int .i64 0, .int .i64 0, .slice none 0 0, .string ⟨#[]⟩], .int .i64 0], []⟩ 8 (by kernel_rfl) (by kernel_rfl) (by kernel_rfl) (by kernel_rfl)) ?_
 ·rw [Tryz.params3] at h
  match ds, h with
  | [d0, d1, d2], _ => rfl
 ·intro W base args ds ps hval hA hwt
  rw [Tryz.params3] at hA hval hwt
  obtain ⟨v0, v1, v2, d0, d1, d2, p0, p1, p2, rfl, rfl, rfl, ⟨f0, h0⟩, ⟨f1, h1⟩, h2⟩ := trodAll_three hA
  obtain ⟨x2, rfl⟩ := int_in (hval 2 3 v2 rfl rfl)
  obtain ⟨a, b, u, v, e0, g0, g1⟩ := trod_devices h0 (each_weight hwt (j := 0) rfl rfl)
  obtain ⟨x, ra, rn, rc, e1, hx⟩ := trod_editD h1 (each_weight hwt (j := 1) rfl rfl)
  have k0 := agg_of e0 (by simp [dvCells])
  have hc : v1.cells.toList = (x.ed ra rn rc).cells := by
   have := congrArg Array.toList (Value.agg.inj e1)
   exact this
  have k1 := agg_of hc (by simp [Ed.cells])
  subst k0
  rw [k1]
  exact lMatchesW (factsOf W) a b u v g0 g1 x ra rn rc hx x2
theorem dmatchw_holds : Rows.DeviceMatchesReferenceSaid :=
 OpenClaim.holds_of_wide 3 Tryz.f3 rfl rfl rfl rfl rfl rfl rfl ⟨rfl, rfl, rfl, rfl, rfl⟩ rfl rfl rfl rfl rfl (by kernel_rfl) Tryz.func3 dmatchw_joined
  (of_decide_eq_true (by kernel_rfl)) (by unfold Func.isWrapper; first | (rw [if_pos (by decide +kernel)]; kernel_rfl) | (rw [if_neg (by decide +kernel)]; exact ⟨rfl, rfl⟩))
  (fun os started H enc _ => dmatchw_lifted os started H enc)
#print axioms dmatchw_holds
end Go.Proofs.YtcjdbfnnbejmeaaGreat
