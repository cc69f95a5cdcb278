/- NumberLcmIsLeast returns true for all numbers; there are no conditions. -/
import Derived.Test.YtlakekoekilbaaaLn1
import Derived.Test.YtlakekoekilbaaaJn
namespace Go.Proofs.Ytlakekoekilbaaa
set_option linter.unusedSimpArgs false
set_option linter.unusedVariables false
open Go.ChangeShapes Go.WideShapes Go.ChangeAt Go.RowKit Go.Joins Go.Proofs.Ytlakekoekilbaaa.Vc

theorem nlcm_lifted (os : Os) (started : os.Started) (H : Type) (enc : TypeId × Value → H) :
    ReturnsInHanded {} Try.checked os 7 .any (Rows.numberLcmIsLeastSpec.pre6 enc Try.prog Try.f7 Rows.numberLcmIsLeastRow.domain false) (Rows.numberLcmIsLeastSpec.post enc Try.prog Try.f7 false true false false) := by
  refine lawLifted started (by kernel_rfl) Try.func7 rfl (tb := 4) (by kernel_rfl) (by kernel_rfl) (by rw [Try.params7]; decide +kernel) (fun ds h => ?_)
    (ChangeSpec.witness6 (enc := enc) (C := Try.checked) false ⟨#[], #[.int .i64 0, .int .i64 0], []⟩ 8 (by kernel_rfl) (by kernel_rfl) (by kernel_rfl) (by kernel_rfl)) ?_
  · rw [Try.params7] at h
    match ds, h with
    | [d0, d1], _ => rfl
  · intro W base args ds ps hval hA hwt
    rw [Try.params7] at hA hval hwt
    obtain ⟨v0, v1, d0, d1, p0, p1, rfl, rfl, rfl, h0, h1⟩ := trodAll_two hA
    obtain ⟨x0, rfl, hx0⟩ := int_in (K := .i64) (lo := -9223372036854775808) (hi := 9223372036854775807) Try.underlying3 (by decide) (by decide) (hval 0 3 v0 rfl rfl) h0
    obtain ⟨x1, rfl, hx1⟩ := int_in (K := .i64) (lo := -9223372036854775808) (hi := 9223372036854775807) Try.underlying3 (by decide) (by decide) (hval 1 3 v1 rfl rfl) h1
    exact lLcmIsLeast x0 x1 hx0 hx1 _ 
theorem nlcm_holds : Rows.NumberLcmIsLeastSaid :=
  OpenClaim.holds_of_wide 7 Try.f7 rfl rfl rfl rfl rfl rfl rfl ⟨rfl, rfl, rfl, rfl, rfl⟩ rfl rfl rfl rfl rfl (by kernel_rfl) Try.func7 (by kernel_rfl)
    (of_decide_eq_true (by kernel_rfl)) (by unfold Func.isWrapper; first | (rw [if_pos (by decide +kernel)]; kernel_rfl) | (rw [if_neg (by decide +kernel)]; exact ⟨rfl, rfl⟩))
    (fun os started H enc _ => nlcm_lifted os started H enc)
#print axioms nlcm_holds
end Go.Proofs.Ytlakekoekilbaaa
