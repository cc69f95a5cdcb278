/- NumberPurity returns true for all lists and numbers, and leaves its argument as it was; there are no conditions. -/
import Derived.Test.YtlakekoekilbaaaNw
import Derived.Test.YtlakekoekilbaaaJn
namespace Go.Proofs.Ytlakekoekilbaaa
set_option linter.unusedSimpArgs false
set_option linter.unusedVariables false
open Go.ChangeShapes Go.WideShapes Go.ChangeAt Go.RowKit Go.Joins Go.Proofs.Ytlakekoekilbaaa.Vc

theorem npurity_lifted (os : Os) (started : os.Started) (H : Type) (enc : TypeId × Value → H) :
    ReturnsInHanded {} Try.checked os 12 .any (Rows.numberPuritySpec.pre6 enc Try.prog Try.f12 Rows.numberPurityRow.domain false) (Rows.numberPuritySpec.post enc Try.prog Try.f12 false true false false) := by
  refine lawLifted started (by kernel_rfl) Try.func12 rfl (tb := 4) (by kernel_rfl) (by kernel_rfl) (by rw [Try.params12]; decide +kernel) (fun ds h => ?_)
    (ChangeSpec.witness6 (enc := enc) (C := Try.checked) false ⟨#[], #[.slice none 0 0, .int .i64 0], []⟩ 8 (by kernel_rfl) (by kernel_rfl) (by kernel_rfl) (by kernel_rfl)) ?_
  · rw [Try.params12] at h
    match ds, h with
    | [d0, d1], _ => rfl
  · intro W base args ds ps hval hA hwt
    rw [Try.params12] at hA hval hwt
    obtain ⟨v0, v1, d0, d1, p0, p1, rfl, rfl, rfl, h0, h1⟩ := trodAll_two hA
    obtain ⟨xs0, hx0, hb0, hl0⟩ := ints_in Try.underlying22 (hval 0 22 v0 rfl rfl) h0 (each_weight hwt (j := 0) rfl rfl)
    obtain ⟨x1, rfl, hx1⟩ := int_in (K := .i64) (lo := -9223372036854775808) (hi := 9223372036854775807) Try.underlying3 (by decide) (by decide) (hval 1 3 v1 rfl rfl) h1
    exact lPurityN xs0 v0 x1 _ hx0
theorem npurity_holds : Rows.NumberPuritySaid :=
  OpenClaim.holds_of_wide 12 Try.f12 rfl rfl rfl rfl rfl rfl rfl ⟨rfl, rfl, rfl, rfl, rfl⟩ rfl rfl rfl rfl rfl (by kernel_rfl) Try.func12 (by kernel_rfl)
    (of_decide_eq_true (by kernel_rfl)) (by unfold Func.isWrapper; first | (rw [if_pos (by decide +kernel)]; kernel_rfl) | (rw [if_neg (by decide +kernel)]; exact ⟨rfl, rfl⟩))
    (fun os started H enc _ => npurity_lifted os started H enc)
#print axioms npurity_holds
end Go.Proofs.Ytlakekoekilbaaa
