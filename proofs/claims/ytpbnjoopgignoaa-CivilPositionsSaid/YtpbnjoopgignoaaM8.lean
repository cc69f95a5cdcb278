/- CivilPositions returns true for every calendar, date and number, and leaves its arguments as they were; there are no conditions. -/
import Derived.Test.YtpbnjoopgignoaaLk
import Derived.Test.YtpbnjoopgignoaaJc
namespace Go.Proofs.Ytpbnjoopgignoaa
set_option linter.unusedSimpArgs false
set_option linter.unusedVariables false
open Go.ChangeShapes Go.WideShapes Go.ChangeAt Go.RowKit Go.Joins Go.Proofs.Ytpbnjoopgignoaa.Vc

theorem positions_lifted (os : Os) (started : os.Started) (H : Type) (enc : TypeId × Value → H) :
    ReturnsInHanded {} Try.checked os 10 .any (Rows.civilPositionsSpec.pre6 enc Try.prog Try.f10 Rows.civilPositionsRow.domain false) (Rows.civilPositionsSpec.post enc Try.prog Try.f10 false true false false) := by
  refine lawLifted started (by kernel_rfl) Try.func10 rfl (tb := 4) (by kernel_rfl) (by kernel_rfl) (by rw [Try.params10]; decide +kernel) (fun ds h => ?_)
    (ChangeSpec.witness6 (enc := enc) (C := Try.checked) false ⟨#[], #[.agg #[.int .i64 0, .slice none 0 0, .int .i64 0, .slice none 0 0], .agg #[.int .i64 0, .int .i64 0, .int .i64 0], .int .i64 0], []⟩ 8 (by kernel_rfl) (by kernel_rfl) (by kernel_rfl) (by kernel_rfl)) ?_
  · rw [Try.params10] at h
    match ds, h with
    | [d0, d1, d2], _ => rfl
  · intro W base args ds ps hval hA hwt
    rw [Try.params10] at hA hval hwt
    obtain ⟨v0, v1, v2, d0, d1, d2, p0, p1, p2, rfl, rfl, rfl, h0, h1, h2⟩ := trodAll_three hA
    obtain ⟨c, sm, sr, rfl, hc⟩ := cal_in (hval 0 25 v0 rfl rfl) h0 (each_weight hwt (j := 0) rfl rfl)
    obtain ⟨y1, m1, e1, rfl, hy1, hm1, he1⟩ := date_in (hval 1 37 v1 rfl rfl) h1
    obtain ⟨x2, rfl, hx2⟩ := int_in (hval 2 3 v2 rfl rfl) h2
    exact lPositions c sm sr _ hc y1 m1 e1 hy1 hm1 he1 x2 hx2
theorem positions_holds : Rows.CivilPositionsSaid :=
  OpenClaim.holds_of_wide 10 Try.f10 rfl rfl rfl rfl rfl rfl rfl ⟨rfl, rfl, rfl, rfl, rfl⟩ rfl rfl rfl rfl rfl (by kernel_rfl) Try.func10 (by kernel_rfl)
    (of_decide_eq_true (by kernel_rfl)) (by unfold Func.isWrapper; first | (rw [if_pos (by decide +kernel)]; kernel_rfl) | (rw [if_neg (by decide +kernel)]; exact ⟨rfl, rfl⟩))
    (fun os started H enc _ => positions_lifted os started H enc)
#print axioms positions_holds
end Go.Proofs.Ytpbnjoopgignoaa
