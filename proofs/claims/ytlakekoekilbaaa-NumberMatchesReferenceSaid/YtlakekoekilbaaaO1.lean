/- NumberMatchesReference returns true for all numbers and lists, and leaves its arguments as they were; there are no conditions. -/
import Derived.Test.YtlakekoekilbaaaLn2
import Derived.Test.YtlakekoekilbaaaJn
namespace Go.Proofs.Ytlakekoekilbaaa
set_option linter.unusedSimpArgs false
set_option linter.unusedVariables false
open Go.ChangeShapes Go.WideShapes Go.ChangeAt Go.RowKit Go.Joins Go.Proofs.Ytlakekoekilbaaa.Vc

theorem nmatches_lifted (os : Os) (started : os.Started) (H : Type) (enc : TypeId × Value → H) :
    ReturnsInHanded {} Try.checked os 3 .any (Rows.numberMatchesReferenceSpec.pre6 enc Try.prog Try.f3 Rows.numberMatchesReferenceRow.domain false) (Rows.numberMatchesReferenceSpec.post enc Try.prog Try.f3 false true false false) := by
  refine lawLifted started (by kernel_rfl) Try.func3 rfl (tb := 4) (by kernel_rfl) (by kernel_rfl) (by rw [Try.params3]; decide +kernel) (fun ds h => ?_)
    (ChangeSpec.witness6 (enc := enc) (C := Try.checked) false ⟨#[], #[.int .i64 0, .int .i64 0, .slice none 0 0], []⟩ 8 (by kernel_rfl) (by kernel_rfl) (by kernel_rfl) (by kernel_rfl)) ?_
  · rw [Try.params3] at h
    match ds, h with
    | [d0, d1, d2], _ => rfl
  · intro W base args ds ps hval hA hwt
    rw [Try.params3] at hA hval hwt
    obtain ⟨v0, v1, v2, d0, d1, d2, p0, p1, p2, rfl, rfl, rfl, h0, h1, h2⟩ := trodAll_three hA
    obtain ⟨x0, rfl, hx0⟩ := int_in (K := .i64) (lo := -9223372036854775808) (hi := 9223372036854775807) Try.underlying3 (by decide) (by decide) (hval 0 3 v0 rfl rfl) h0
    obtain ⟨x1, rfl, hx1⟩ := int_in (K := .i64) (lo := -9223372036854775808) (hi := 9223372036854775807) Try.underlying3 (by decide) (by decide) (hval 1 3 v1 rfl rfl) h1
    obtain ⟨xs2, hx2, hb2, hl2⟩ := ints_in Try.underlying22 (hval 2 22 v2 rfl rfl) h2 (each_weight hwt (j := 2) rfl rfl)
    exact lMatches x0 x1 xs2 v2 hx0 hx1 _ hx2
theorem nmatches_holds : Rows.NumberMatchesReferenceSaid :=
  OpenClaim.holds_of_wide 3 Try.f3 rfl rfl rfl rfl rfl rfl rfl ⟨rfl, rfl, rfl, rfl, rfl⟩ rfl rfl rfl rfl rfl (by kernel_rfl) Try.func3 (by kernel_rfl)
    (of_decide_eq_true (by kernel_rfl)) (by unfold Func.isWrapper; first | (rw [if_pos (by decide +kernel)]; kernel_rfl) | (rw [if_neg (by decide +kernel)]; exact ⟨rfl, rfl⟩))
    (fun os started H enc _ => nmatches_lifted os started H enc)
#print axioms nmatches_holds
end Go.Proofs.Ytlakekoekilbaaa
