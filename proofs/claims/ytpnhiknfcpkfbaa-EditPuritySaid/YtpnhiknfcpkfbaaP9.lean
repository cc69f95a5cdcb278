/- EditPurity returns true for all lists of edits and all edits, and leaves its arguments as they were; there are no conditions. -/
import Derived.Test.YtpnhiknfcpkfbaaKd
import Derived.Test.YtpnhiknfcpkfbaaPj9
import Derived.Test.YtpnhiknfcpkfbaaJe
namespace Go.Proofs.Ytpnhiknfcpkfbaa
set_option linter.unusedSimpArgs false
set_option linter.unusedVariables false
open Go.ChangeShapes Go.WideShapes Go.ChangeAt Go.RowKit Go.Joins Go.Proofs.Ytpnhiknfcpkfbaa.Vc
set_option maxRecDepth 100000

theorem epurity_lifted (os : Os) (started : os.Started) (H : Type) (enc : TypeId × Value → H) :
    ReturnsInHanded {} Try.checked os 10 .any (Rows.editPuritySpec.pre6 enc Try.prog Try.f10 Rows.editPurityRow.domain false) (Rows.editPuritySpec.post enc Try.prog Try.f10 false true false false) := by
  refine lawLifted started (by kernel_rfl) Try.func10 rfl (tb := 4) (by kernel_rfl) (by kernel_rfl) (by rw [Try.params10]; decide +kernel) (fun ds h => ?_)
    (ChangeSpec.witness6 (enc := enc) (C := Try.checked) false ⟨#[], #[.slice none 0 0, .agg #[.int .i64 0, .int .i64 0, .int .i64 0, .int .i64 0, .int .i64 0, .bool false, .int .i64 0, .int .i64 0, .int .i64 0, .int .i64 0, .int .i64 0, .slice none 0 0, .string ⟨#[]⟩]], []⟩ 8 (by kernel_rfl) (by kernel_rfl) (by kernel_rfl) (by kernel_rfl)) ?_
  · rw [Try.params10] at h
    match ds, h with
    | [d0, d1], _ => rfl
  · intro W base args ds ps hval hA hwt
    rw [Try.params10] at hA hval hwt
    obtain ⟨v0, v1, d0, d1, p0, p1, rfl, rfl, rfl, h0, h1⟩ := trodAll_two hA
    obtain ⟨es0, he0, hl0⟩ := eds_in (hval 0 32 v0 rfl rfl) h0 (each_weight hwt (j := 0) rfl rfl)
    obtain ⟨e1, rfl⟩ := ed_in (hval 1 27 v1 rfl rfl)
    exact lPurityE (factsOf W) es0 _ he0 hl0 e1
theorem epurity_holds : Rows.EditPuritySaid :=
  OpenClaim.holds_of_wide 10 Try.f10 rfl rfl rfl rfl rfl rfl rfl ⟨rfl, rfl, rfl, rfl, rfl⟩ rfl rfl rfl rfl rfl (by kernel_rfl) Try.func10 epurity_joined
    (of_decide_eq_true (by kernel_rfl)) (by unfold Func.isWrapper; first | (rw [if_pos (by decide +kernel)]; kernel_rfl) | (rw [if_neg (by decide +kernel)]; exact ⟨rfl, rfl⟩))
    (fun os started H enc _ => epurity_lifted os started H enc)
#print axioms epurity_holds
end Go.Proofs.Ytpnhiknfcpkfbaa
