/- EditOrder returns true for all edits, and leaves its arguments as they were; there are no conditions. -/
import Derived.Test.YtpnhiknfcpkfbaaFc
import Derived.Test.YtpnhiknfcpkfbaaJe
namespace Go.Proofs.Ytpnhiknfcpkfbaa
set_option linter.unusedSimpArgs false
set_option linter.unusedVariables false
open Go.ChangeShapes Go.WideShapes Go.ChangeAt Go.RowKit Go.Joins Go.Proofs.Ytpnhiknfcpkfbaa.Vc
set_option maxRecDepth 100000

theorem eorder_lifted (os : Os) (started : os.Started) (H : Type) (enc : TypeId × Value → H) :
    ReturnsInHanded {} Try.checked os 3 .any (Rows.editOrderSpec.pre6 enc Try.prog Try.f3 Rows.editOrderRow.domain false) (Rows.editOrderSpec.post enc Try.prog Try.f3 false true false false) := by
  refine lawLifted started (by kernel_rfl) Try.func3 rfl (tb := 4) (by kernel_rfl) (by kernel_rfl) (by rw [Try.params3]; decide +kernel) (fun ds h => ?_)
    (ChangeSpec.witness6 (enc := enc) (C := Try.checked) false ⟨#[], #[.agg #[.int .i64 0, .int .i64 0, .int .i64 0, .int .i64 0, .int .i64 0, .bool false, .int .i64 0, .int .i64 0, .int .i64 0, .int .i64 0, .int .i64 0, .slice none 0 0, .string ⟨#[]⟩], .agg #[.int .i64 0, .int .i64 0, .int .i64 0, .int .i64 0, .int .i64 0, .bool false, .int .i64 0, .int .i64 0, .int .i64 0, .int .i64 0, .int .i64 0, .slice none 0 0, .string ⟨#[]⟩], .agg #[.int .i64 0, .int .i64 0, .int .i64 0, .int .i64 0, .int .i64 0, .bool false, .int .i64 0, .int .i64 0, .int .i64 0, .int .i64 0, .int .i64 0, .slice none 0 0, .string ⟨#[]⟩]], []⟩ 8 (by kernel_rfl) (by kernel_rfl) (by kernel_rfl) (by kernel_rfl)) ?_
  · rw [Try.params3] at h
    match ds, h with
    | [d0, d1, d2], _ => rfl
  · intro W base args ds ps hval hA hwt
    rw [Try.params3] at hA hval hwt
    obtain ⟨v0, v1, v2, d0, d1, d2, p0, p1, p2, rfl, rfl, rfl, h0, h1, h2⟩ := trodAll_three hA
    obtain ⟨e0, rfl⟩ := ed_in (hval 0 27 v0 rfl rfl)
    obtain ⟨e1, rfl⟩ := ed_in (hval 1 27 v1 rfl rfl)
    obtain ⟨e2, rfl⟩ := ed_in (hval 2 27 v2 rfl rfl)
    exact lOrder (factsOf W) e0 e1 e2
theorem eorder_holds : Rows.EditOrderSaid :=
  OpenClaim.holds_of_wide 3 Try.f3 rfl rfl rfl rfl rfl rfl rfl ⟨rfl, rfl, rfl, rfl, rfl⟩ rfl rfl rfl rfl rfl (by kernel_rfl) Try.func3 (by kernel_rfl)
    (of_decide_eq_true (by kernel_rfl)) (by unfold Func.isWrapper; first | (rw [if_pos (by decide +kernel)]; kernel_rfl) | (rw [if_neg (by decide +kernel)]; exact ⟨rfl, rfl⟩))
    (fun os started H enc _ => eorder_lifted os started H enc)
#print axioms eorder_holds
end Go.Proofs.Ytpnhiknfcpkfbaa
