/- NumberSolveIsExact returns true for all numbers; there are no conditions. -/
import Derived.Test.YtlakekoekilbaaaDx
import Derived.Test.YtlakekoekilbaaaJn
namespace Go.Proofs.Ytlakekoekilbaaa
set_option linter.unusedSimpArgs false
set_option linter.unusedVariables false
open Go.ChangeShapes Go.WideShapes Go.ChangeAt Go.RowKit Go.Joins Go.Proofs.Ytlakekoekilbaaa.Vc

theorem nexact_lifted (os : Os) (started : os.Started) (H : Type) (enc : TypeId × Value → H) :
    ReturnsInHanded {} Try.checked os 8 .any (Rows.numberSolveIsExactSpec.pre6 enc Try.prog Try.f8 Rows.numberSolveIsExactRow.domain false) (Rows.numberSolveIsExactSpec.post enc Try.prog Try.f8 false true false false) := by
  refine lawLifted started (by kernel_rfl) Try.func8 rfl (tb := 4) (by kernel_rfl) (by kernel_rfl) (by rw [Try.params8]; decide +kernel) (fun ds h => ?_)
    (ChangeSpec.witness6 (enc := enc) (C := Try.checked) false ⟨#[], #[.agg #[.int .i64 0, .int .i64 0], .int .i64 0, .int .i64 0], []⟩ 8 (by kernel_rfl) (by kernel_rfl) (by kernel_rfl) (by kernel_rfl)) ?_
  · rw [Try.params8] at h
    match ds, h with
    | [d0, d1, d2], _ => rfl
  · intro W base args ds ps hval hA hwt
    rw [Try.params8] at hA hval hwt
    obtain ⟨v0, v1, v2, d0, d1, d2, p0, p1, p2, rfl, rfl, rfl, h0, h1, h2⟩ := trodAll_three hA
    obtain ⟨xs0, hl0, rfl, hx0⟩ := arr_in (K := .i64) (lo := -9223372036854775808) (hi := 9223372036854775807) Try.underlying31 Try.underlying3 (by decide) (by decide) (by kernel_rfl) (by kernel_rfl) (hval 0 31 v0 rfl rfl) h0
    obtain ⟨x1, rfl, hx1⟩ := int_in (K := .i64) (lo := -9223372036854775808) (hi := 9223372036854775807) Try.underlying3 (by decide) (by decide) (hval 1 3 v1 rfl rfl) h1
    obtain ⟨x2, rfl, hx2⟩ := int_in (K := .i64) (lo := -9223372036854775808) (hi := 9223372036854775807) Try.underlying3 (by decide) (by decide) (hval 2 3 v2 rfl rfl) h2
    match xs0, hl0 with
    | [z0_0, z0_1], _ => exact lExact z0_0 z0_1 x1 x2 (hx0 _ (by simp)) (hx0 _ (by simp)) hx1 hx2 _ 
theorem nexact_holds : Rows.NumberSolveIsExactSaid :=
  OpenClaim.holds_of_wide 8 Try.f8 rfl rfl rfl rfl rfl rfl rfl ⟨rfl, rfl, rfl, rfl, rfl⟩ rfl rfl rfl rfl rfl (by kernel_rfl) Try.func8 (by kernel_rfl)
    (of_decide_eq_true (by kernel_rfl)) (by unfold Func.isWrapper; first | (rw [if_pos (by decide +kernel)]; kernel_rfl) | (rw [if_neg (by decide +kernel)]; exact ⟨rfl, rfl⟩))
    (fun os started H enc _ => nexact_lifted os started H enc)
#print axioms nexact_holds
end Go.Proofs.Ytlakekoekilbaaa
