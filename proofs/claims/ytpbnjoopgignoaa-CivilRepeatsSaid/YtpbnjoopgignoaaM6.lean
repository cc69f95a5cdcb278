/- CivilRepeats returns true for every calendar, date and number, and leaves its arguments as they were; there are no conditions. -/
import Derived.Test.YtpbnjoopgignoaaLg
import Derived.Test.YtpbnjoopgignoaaJc
namespace Go.Proofs.Ytpbnjoopgignoaa
set_option linter.unusedSimpArgs false
set_option linter.unusedVariables false
open Go.ChangeShapes Go.WideShapes Go.ChangeAt Go.RowKit Go.Joins Go.Proofs.Ytpbnjoopgignoaa.Vc

theorem repeats_lifted (os : Os) (started : os.Started) (H : Type) (enc : TypeId × Value → H) :
    ReturnsInHanded {} Try.checked os 8 .any (Rows.civilRepeatsSpec.pre6 enc Try.prog Try.f8 Rows.civilRepeatsRow.domain false) (Rows.civilRepeatsSpec.post enc Try.prog Try.f8 false true false false) := by
  refine lawLifted started (by kernel_rfl) Try.func8 rfl (tb := 4) (by kernel_rfl) (by kernel_rfl) (by rw [Try.params8]; decide +kernel) (fun ds h => ?_)
    (ChangeSpec.witness6 (enc := enc) (C := Try.checked) false ⟨#[], #[.agg #[.int .i64 0, .slice none 0 0, .int .i64 0, .slice none 0 0], .agg #[.int .i64 0, .int .i64 0, .int .i64 0], .int .i64 0], []⟩ 8 (by kernel_rfl) (by kernel_rfl) (by kernel_rfl) (by kernel_rfl)) ?_
  · rw [Try.params8] at h
    match ds, h with
    | [d0, d1, d2], _ => rfl
  · intro W base args ds ps hval hA hwt
    rw [Try.params8] at hA hval hwt
    obtain ⟨v0, v1, v2, d0, d1, d2, p0, p1, p2, rfl, rfl, rfl, h0, h1, h2⟩ := trodAll_three hA
    obtain ⟨c, sm, sr, rfl, hc⟩ := cal_in (hval 0 25 v0 rfl rfl) h0 (each_weight hwt (j := 0) rfl rfl)
    obtain ⟨y1, m1, e1, rfl, hy1, hm1, he1⟩ := date_in (hval 1 37 v1 rfl rfl) h1
    obtain ⟨x2, rfl, hx2⟩ := int_in (hval 2 3 v2 rfl rfl) h2
    exact lRepeats c sm sr _ hc y1 m1 e1 hy1 hm1 he1 x2 hx2
theorem repeats_holds : Rows.CivilRepeatsSaid :=
  OpenClaim.holds_of_wide 8 Try.f8 rfl rfl rfl rfl rfl rfl rfl ⟨rfl, rfl, rfl, rfl, rfl⟩ rfl rfl rfl rfl rfl (by kernel_rfl) Try.func8 (by kernel_rfl)
    (of_decide_eq_true (by kernel_rfl)) (by unfold Func.isWrapper; first | (rw [if_pos (by decide +kernel)]; kernel_rfl) | (rw [if_neg (by decide +kernel)]; exact ⟨rfl, rfl⟩))
    (fun os started H enc _ => repeats_lifted os started H enc)
#print axioms repeats_holds
end Go.Proofs.Ytpbnjoopgignoaa
