/- CivilMatchesReference returns true for every calendar and all numbers, and leaves its arguments as they were; there are no conditions. -/
import Derived.Test.YtpbnjoopgignoaaLa
import Derived.Test.YtpbnjoopgignoaaJc
namespace Go.Proofs.Ytpbnjoopgignoaa
set_option linter.unusedSimpArgs false
set_option linter.unusedVariables false
open Go.ChangeShapes Go.WideShapes Go.ChangeAt Go.RowKit Go.Joins Go.Proofs.Ytpbnjoopgignoaa.Vc

theorem matches_lifted (os : Os) (started : os.Started) (H : Type) (enc : TypeId × Value → H) :
    ReturnsInHanded {} Try.checked os 3 .any (Rows.civilMatchesReferenceSpec.pre6 enc Try.prog Try.f3 Rows.civilMatchesReferenceRow.domain false) (Rows.civilMatchesReferenceSpec.post enc Try.prog Try.f3 false true false false) := by
  refine lawLifted started (by kernel_rfl) Try.func3 rfl (tb := 4) (by kernel_rfl) (by kernel_rfl) (by rw [Try.params3]; decide +kernel) (fun ds h => ?_)
    (ChangeSpec.witness6 (enc := enc) (C := Try.checked) false ⟨#[], #[.agg #[.int .i64 0, .slice none 0 0, .int .i64 0, .slice none 0 0], .agg #[.int .i64 0, .int .i64 0, .int .i64 0, .int .i64 0]], []⟩ 8 (by kernel_rfl) (by kernel_rfl) (by kernel_rfl) (by kernel_rfl)) ?_
  · rw [Try.params3] at h
    match ds, h with
    | [d1, d2], _ => rfl
  · intro W base args ds ps hval hA hwt
    rw [Try.params3] at hA hval hwt
    obtain ⟨v0, v1, d0, d1, p0, p1, rfl, rfl, rfl, h0, h1⟩ := trodAll_two hA
    obtain ⟨c, sm, sr, rfl, hc⟩ := cal_in (hval 0 25 v0 rfl rfl) h0 (each_weight hwt (j := 0) rfl rfl)
    obtain ⟨xs, hl, rfl, hx⟩ := arr_in Try.underlying26 (by kernel_rfl) (hval 1 26 v1 rfl rfl) h1
    match xs, hl with
    | [x0, x1, x2, x3], _ => exact lMatches c sm sr _ hc x0 x1 x2 x3 (hx x0 (by simp)) (hx x1 (by simp)) (hx x2 (by simp)) (hx x3 (by simp))
theorem matches_holds : Rows.CivilMatchesReferenceSaid :=
  OpenClaim.holds_of_wide 3 Try.f3 rfl rfl rfl rfl rfl rfl rfl ⟨rfl, rfl, rfl, rfl, rfl⟩ rfl rfl rfl rfl rfl (by kernel_rfl) Try.func3 (by kernel_rfl)
    (of_decide_eq_true (by kernel_rfl)) (by unfold Func.isWrapper; first | (rw [if_pos (by decide +kernel)]; kernel_rfl) | (rw [if_neg (by decide +kernel)]; exact ⟨rfl, rfl⟩))
    (fun os started H enc _ => matches_lifted os started H enc)
#print axioms matches_holds
end Go.Proofs.Ytpbnjoopgignoaa
