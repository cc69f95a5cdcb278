/- CivilJulian returns true for every number, and leaves its argument as it was; there are no conditions. -/
import Derived.Test.YtpbnjoopgignoaaLi
import Derived.Test.YtpbnjoopgignoaaJc
namespace Go.Proofs.Ytpbnjoopgignoaa
set_option linter.unusedSimpArgs false
set_option linter.unusedVariables false
open Go.ChangeShapes Go.WideShapes Go.ChangeAt Go.RowKit Go.Joins Go.Proofs.Ytpbnjoopgignoaa.Vc

theorem julian_lifted (os : Os) (started : os.Started) (H : Type) (enc : TypeId × Value → H) :
    ReturnsInHanded {} Try.checked os 11 .any (Rows.civilJulianSpec.pre6 enc Try.prog Try.f11 Rows.civilJulianRow.domain false) (Rows.civilJulianSpec.post enc Try.prog Try.f11 false true false false) := by
  refine lawLifted started (by kernel_rfl) Try.func11 rfl (tb := 4) (by kernel_rfl) (by kernel_rfl) (by rw [Try.params11]; decide +kernel) (fun ds h => ?_)
    (ChangeSpec.witness6 (enc := enc) (C := Try.checked) false ⟨#[], #[.int .i64 0], []⟩ 8 (by kernel_rfl) (by kernel_rfl) (by kernel_rfl) (by kernel_rfl)) ?_
  · rw [Try.params11] at h
    match ds, h with
    | [d0], _ => rfl
  · intro W base args ds ps hval hA hwt
    rw [Try.params11] at hA hval hwt
    obtain ⟨v0, d0, rfl, rfl, h0⟩ := trodAll_one hA
    obtain ⟨x0, rfl, hx0⟩ := int_in (hval 0 3 v0 rfl rfl) h0
    exact lJulian x0 hx0 _
theorem julian_holds : Rows.CivilJulianSaid :=
  OpenClaim.holds_of_wide 11 Try.f11 rfl rfl rfl rfl rfl rfl rfl ⟨rfl, rfl, rfl, rfl, rfl⟩ rfl rfl rfl rfl rfl (by kernel_rfl) Try.func11 (by kernel_rfl)
    (of_decide_eq_true (by kernel_rfl)) (by unfold Func.isWrapper; first | (rw [if_pos (by decide +kernel)]; kernel_rfl) | (rw [if_neg (by decide +kernel)]; exact ⟨rfl, rfl⟩))
    (fun os started H enc _ => julian_lifted os started H enc)
#print axioms julian_holds
end Go.Proofs.Ytpbnjoopgignoaa
