/- EditNothingIsLost returns true for all lists of edits, and leaves its argument as it was; there are no conditions. -/
import Derived.Test.YtpnhiknfcpkfbaaFl
import Derived.Test.YtpnhiknfcpkfbaaJe
namespace Go.Proofs.Ytpnhiknfcpkfbaa
set_option linter.unusedSimpArgs false
set_option linter.unusedVariables false
open Go.ChangeShapes Go.WideShapes Go.ChangeAt Go.RowKit Go.Joins Go.Proofs.Ytpnhiknfcpkfbaa.Vc
set_option maxRecDepth 100000

theorem enothing_lifted (os : Os) (started : os.Started) (H : Type) (enc : TypeId × Value → H) :
    ReturnsInHanded {} Try.checked os 5 .any (Rows.editNothingIsLostSpec.pre6 enc Try.prog Try.f5 Rows.editNothingIsLostRow.domain false) (Rows.editNothingIsLostSpec.post enc Try.prog Try.f5 false true false false) := by
  refine lawLifted started (by kernel_rfl) Try.func5 rfl (tb := 4) (by kernel_rfl) (by kernel_rfl) (by rw [Try.params5]; decide +kernel) (fun ds h => ?_)
    (ChangeSpec.witness6 (enc := enc) (C := Try.checked) false ⟨#[], #[.slice none 0 0], []⟩ 8 (by kernel_rfl) (by kernel_rfl) (by kernel_rfl) (by kernel_rfl)) ?_
  · rw [Try.params5] at h
    match ds, h with
    | [d0], _ => rfl
  · intro W base args ds ps hval hA hwt
    rw [Try.params5] at hA hval hwt
    obtain ⟨v0, d0, rfl, rfl, h0⟩ := trodAll_one hA
    obtain ⟨es0, he0, hl0⟩ := eds_in (hval 0 32 v0 rfl rfl) h0 (each_weight hwt (j := 0) rfl rfl)
    exact lNothing (factsOf W) es0 _ he0 hl0
theorem enothing_holds : Rows.EditNothingIsLostSaid :=
  OpenClaim.holds_of_wide 5 Try.f5 rfl rfl rfl rfl rfl rfl rfl ⟨rfl, rfl, rfl, rfl, rfl⟩ rfl rfl rfl rfl rfl (by kernel_rfl) Try.func5 (by kernel_rfl)
    (of_decide_eq_true (by kernel_rfl)) (by unfold Func.isWrapper; first | (rw [if_pos (by decide +kernel)]; kernel_rfl) | (rw [if_neg (by decide +kernel)]; exact ⟨rfl, rfl⟩))
    (fun os started H enc _ => enothing_lifted os started H enc)
#print axioms enothing_holds
end Go.Proofs.Ytpnhiknfcpkfbaa
