/- NumberSolveThree returns true for all numbers; there are no conditions. -/
import Derived.Test.YtlakekoekilbaaaLn3
import Derived.Test.YtlakekoekilbaaaJn
namespace Go.Proofs.Ytlakekoekilbaaa
set_option linter.unusedSimpArgs false
set_option linter.unusedVariables false
open Go.ChangeShapes Go.WideShapes Go.ChangeAt Go.RowKit Go.Joins Go.Proofs.Ytlakekoekilbaaa.Vc

theorem nthree_lifted (os : Os) (started : os.Started) (H : Type) (enc : TypeId × Value → H) :
    ReturnsInHanded {} Try.checked os 9 .any (Rows.numberSolveThreeSpec.pre6 enc Try.prog Try.f9 Rows.numberSolveThreeRow.domain false) (Rows.numberSolveThreeSpec.post enc Try.prog Try.f9 false true false false) := by
  refine lawLifted started (by kernel_rfl) Try.func9 rfl (tb := 4) (by kernel_rfl) (by kernel_rfl) (by rw [Try.params9]; decide +kernel) (fun ds h => ?_)
    (ChangeSpec.witness6 (enc := enc) (C := Try.checked) false ⟨#[], #[.agg #[.int .i64 0, .int .i64 0, .int .i64 0], .agg #[.int .u8 0, .int .u8 0, .int .u8 0]], []⟩ 8 (by kernel_rfl) (by kernel_rfl) (by kernel_rfl) (by kernel_rfl)) ?_
  · rw [Try.params9] at h
    match ds, h with
    | [d0, d1], _ => rfl
  · intro W base args ds ps hval hA hwt
    rw [Try.params9] at hA hval hwt
    obtain ⟨v0, v1, d0, d1, p0, p1, rfl, rfl, rfl, h0, h1⟩ := trodAll_two hA
    obtain ⟨xs0, hl0, rfl, hx0⟩ := arr_in (K := .i64) (lo := -9223372036854775808) (hi := 9223372036854775807) Try.underlying40 Try.underlying3 (by decide) (by decide) (by kernel_rfl) (by kernel_rfl) (hval 0 40 v0 rfl rfl) h0
    obtain ⟨xs1, hl1, rfl, hx1⟩ := arr_in (K := .u8) (lo := 0) (hi := 255) Try.underlying41 Try.underlying5 (by decide) (by decide) (by kernel_rfl) (by kernel_rfl) (hval 1 41 v1 rfl rfl) h1
    match xs0, hl0, xs1, hl1 with
    | [z0_0, z0_1, z0_2], _, [z1_0, z1_1, z1_2], _ => exact lThree z0_0 z0_1 z0_2 z1_0 z1_1 z1_2 (hx0 _ (by simp)) (hx0 _ (by simp)) (hx0 _ (by simp)) (hx1 _ (by simp)) (hx1 _ (by simp)) (hx1 _ (by simp)) _ 
theorem nthree_holds : Rows.NumberSolveThreeSaid :=
  OpenClaim.holds_of_wide 9 Try.f9 rfl rfl rfl rfl rfl rfl rfl ⟨rfl, rfl, rfl, rfl, rfl⟩ rfl rfl rfl rfl rfl (by kernel_rfl) Try.func9 (by kernel_rfl)
    (of_decide_eq_true (by kernel_rfl)) (by unfold Func.isWrapper; first | (rw [if_pos (by decide +kernel)]; kernel_rfl) | (rw [if_neg (by decide +kernel)]; exact ⟨rfl, rfl⟩))
    (fun os started H enc _ => nthree_lifted os started H enc)
#print axioms nthree_holds
end Go.Proofs.Ytlakekoekilbaaa
