/- NumberSolveFindsMembers returns true for all numbers; there are no conditions. -/
import Derived.Test.YtlakekoekilbaaaLn3
import Derived.Test.YtlakekoekilbaaaJn
namespace Go.Proofs.Ytlakekoekilbaaa
set_option linter.unusedSimpArgs false
set_option linter.unusedVariables false
open Go.ChangeShapes Go.WideShapes Go.ChangeAt Go.RowKit Go.Joins Go.Proofs.Ytlakekoekilbaaa.Vc

theorem nfinds_lifted (os : Os) (started : os.Started) (H : Type) (enc : TypeId × Value → H) :
    ReturnsInHanded {} Try.checked os 10 .any (Rows.numberSolveFindsMembersSpec.pre6 enc Try.prog Try.f10 Rows.numberSolveFindsMembersRow.domain false) (Rows.numberSolveFindsMembersSpec.post enc Try.prog Try.f10 false true false false) := by
  refine lawLifted started (by kernel_rfl) Try.func10 rfl (tb := 4) (by kernel_rfl) (by kernel_rfl) (by rw [Try.params10]; decide +kernel) (fun ds h => ?_)
    (ChangeSpec.witness6 (enc := enc) (C := Try.checked) false ⟨#[], #[.int .i64 0, .int .u32 0, .int .u32 0], []⟩ 8 (by kernel_rfl) (by kernel_rfl) (by kernel_rfl) (by kernel_rfl)) ?_
  · rw [Try.params10] at h
    match ds, h with
    | [d0, d1, d2], _ => rfl
  · intro W base args ds ps hval hA hwt
    rw [Try.params10] at hA hval hwt
    obtain ⟨v0, v1, v2, d0, d1, d2, p0, p1, p2, rfl, rfl, rfl, h0, h1, h2⟩ := trodAll_three hA
    obtain ⟨x0, rfl, hx0⟩ := int_in (K := .i64) (lo := -9223372036854775808) (hi := 9223372036854775807) Try.underlying3 (by decide) (by decide) (hval 0 3 v0 rfl rfl) h0
    obtain ⟨x1, rfl, hx1⟩ := int_in (K := .u32) (lo := 0) (hi := 4294967295) Try.underlying43 (by decide) (by decide) (hval 1 43 v1 rfl rfl) h1
    obtain ⟨x2, rfl, hx2⟩ := int_in (K := .u32) (lo := 0) (hi := 4294967295) Try.underlying43 (by decide) (by decide) (hval 2 43 v2 rfl rfl) h2
    exact lFinds x0 x1 x2 hx0 hx1 hx2 _ 
theorem nfinds_holds : Rows.NumberSolveFindsMembersSaid :=
  OpenClaim.holds_of_wide 10 Try.f10 rfl rfl rfl rfl rfl rfl rfl ⟨rfl, rfl, rfl, rfl, rfl⟩ rfl rfl rfl rfl rfl (by kernel_rfl) Try.func10 (by kernel_rfl)
    (of_decide_eq_true (by kernel_rfl)) (by unfold Func.isWrapper; first | (rw [if_pos (by decide +kernel)]; kernel_rfl) | (rw [if_neg (by decide +kernel)]; exact ⟨rfl, rfl⟩))
    (fun os started H enc _ => nfinds_lifted os started H enc)
#print axioms nfinds_holds
end Go.Proofs.Ytlakekoekilbaaa
