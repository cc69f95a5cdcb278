/- CivilResidues returns true for all numbers, and leaves its argument as it was; there are no conditions. -/
import Derived.Test.YtpbnjoopgignoaaLm
import Derived.Test.YtpbnjoopgignoaaJc
namespace Go.Proofs.Ytpbnjoopgignoaa
set_option linter.unusedSimpArgs false
set_option linter.unusedVariables false
open Go.ChangeShapes Go.WideShapes Go.ChangeAt Go.RowKit Go.Joins Go.Proofs.Ytpbnjoopgignoaa.Vc

theorem residues_lifted (os : Os) (started : os.Started) (H : Type) (enc : TypeId × Value → H) :
    ReturnsInHanded {} Try.checked os 12 .any (Rows.civilResiduesSpec.pre6 enc Try.prog Try.f12 Rows.civilResiduesRow.domain false) (Rows.civilResiduesSpec.post enc Try.prog Try.f12 false true false false) := by
  refine lawLifted started (by kernel_rfl) Try.func12 rfl (tb := 4) (by kernel_rfl) (by kernel_rfl) (by rw [Try.params12]; decide +kernel) (fun ds h => ?_)
    (ChangeSpec.witness6 (enc := enc) (C := Try.checked) false ⟨#[], #[.agg #[.int .i64 0, .int .i64 0, .int .i64 0, .int .i64 0]], []⟩ 8 (by kernel_rfl) (by kernel_rfl) (by kernel_rfl) (by kernel_rfl)) ?_
  · rw [Try.params12] at h
    match ds, h with
    | [d0], _ => rfl
  · intro W base args ds ps hval hA hwt
    rw [Try.params12] at hA hval hwt
    obtain ⟨v0, d0, rfl, rfl, h0⟩ := trodAll_one hA
    obtain ⟨xs, hl, rfl, hx⟩ := arr_in Try.underlying26 (by kernel_rfl) (hval 0 26 v0 rfl rfl) h0
    match xs, hl with
    | [z0, z1, z2, z3], _ => exact lResidues z0 z1 z2 z3 (hx z0 (by simp)) (hx z1 (by simp)) (hx z2 (by simp)) (hx z3 (by simp)) _
theorem residues_holds : Rows.CivilResiduesSaid :=
  OpenClaim.holds_of_wide 12 Try.f12 rfl rfl rfl rfl rfl rfl rfl ⟨rfl, rfl, rfl, rfl, rfl⟩ rfl rfl rfl rfl rfl (by kernel_rfl) Try.func12 (by kernel_rfl)
    (of_decide_eq_true (by kernel_rfl)) (by unfold Func.isWrapper; first | (rw [if_pos (by decide +kernel)]; kernel_rfl) | (rw [if_neg (by decide +kernel)]; exact ⟨rfl, rfl⟩))
    (fun os started H enc _ => residues_lifted os started H enc)
#print axioms residues_holds
end Go.Proofs.Ytpbnjoopgignoaa
