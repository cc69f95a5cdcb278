/- CivilWeeks returns true for every calendar and number, and leaves its arguments as they were; there are no conditions. -/
import Derived.Test.YtpbnjoopgignoaaLh
import Derived.Test.YtpbnjoopgignoaaJc
namespace Go.Proofs.Ytpbnjoopgignoaa
set_option linter.unusedSimpArgs false
set_option linter.unusedVariables false
open Go.ChangeShapes Go.WideShapes Go.ChangeAt Go.RowKit Go.Joins Go.Proofs.Ytpbnjoopgignoaa.Vc

theorem weeks_lifted (os : Os) (started : os.Started) (H : Type) (enc : TypeId × Value → H) :
    ReturnsInHanded {} Try.checked os 9 .any (Rows.civilWeeksSpec.pre6 enc Try.prog Try.f9 Rows.civilWeeksRow.domain false) (Rows.civilWeeksSpec.post enc Try.prog Try.f9 false true false false) := by
  refine lawLifted started (by kernel_rfl) Try.func9 rfl (tb := 4) (by kernel_rfl) (by kernel_rfl) (by rw [Try.params9]; decide +kernel) (fun ds h => ?_)
    (ChangeSpec.witness6 (enc := enc) (C := Try.checked) false ⟨#[], #[.agg #[.int .i64 0, .slice none 0 0, .int .i64 0, .slice none 0 0], .int .i64 0], []⟩ 8 (by kernel_rfl) (by kernel_rfl) (by kernel_rfl) (by kernel_rfl)) ?_
  · rw [Try.params9] at h
    match ds, h with
    | [d0, d1], _ => rfl
  · intro W base args ds ps hval hA hwt
    rw [Try.params9] at hA hval hwt
    obtain ⟨v0, v1, d0, d1, p0, p1, rfl, rfl, rfl, h0, h1⟩ := trodAll_two hA
    obtain ⟨c, sm, sr, rfl, hc⟩ := cal_in (hval 0 25 v0 rfl rfl) h0 (each_weight hwt (j := 0) rfl rfl)
    obtain ⟨x1, rfl, hx1⟩ := int_in (hval 1 3 v1 rfl rfl) h1
    exact lWeeks c sm sr _ hc x1 hx1
theorem weeks_holds : Rows.CivilWeeksSaid :=
  OpenClaim.holds_of_wide 9 Try.f9 rfl rfl rfl rfl rfl rfl rfl ⟨rfl, rfl, rfl, rfl, rfl⟩ rfl rfl rfl rfl rfl (by kernel_rfl) Try.func9 (by kernel_rfl)
    (of_decide_eq_true (by kernel_rfl)) (by unfold Func.isWrapper; first | (rw [if_pos (by decide +kernel)]; kernel_rfl) | (rw [if_neg (by decide +kernel)]; exact ⟨rfl, rfl⟩))
    (fun os started H enc _ => weeks_lifted os started H enc)
#print axioms weeks_holds
end Go.Proofs.Ytpbnjoopgignoaa
