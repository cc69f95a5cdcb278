/- the law EditPartsHoldDays: the join -/
import Derived.Test.YtpnhiknfcpkfbaaFq
import Derived.Test.YtpnhiknfcpkfbaaJe
namespace Go.Proofs.Ytpnhiknfcpkfbaa
set_option linter.unusedSimpArgs false
set_option linter.unusedVariables false
open Go.ChangeShapes Go.WideShapes Go.ChangeAt Go.RowKit Go.Joins Go.Proofs.Ytpnhiknfcpkfbaa.Vc
set_option maxRecDepth 100000

theorem eparts_law_lifted (os : Os) (started : os.Started) (H : Type) (enc : TypeId × Value → H) :
    ReturnsInHanded {} Try.checked os 7 .any (Rows.editPartsHoldDaysSpec.pre6 enc Try.prog Try.f7 Rows.editPartsHoldDaysRow.domain false) (Rows.editPartsHoldDaysSpec.post enc Try.prog Try.f7 false true false false) := by
  refine lawLifted started (by kernel_rfl) Try.func7 rfl (tb := 4) (by kernel_rfl) (by kernel_rfl) (by rw [Try.params7]; decide +kernel) (fun ds h => ?_)
    (ChangeSpec.witness6 (enc := enc) (C := Try.checked) false ⟨#[], #[.slice none 0 0, .agg #[.int .i64 0, .int .i64 0, .int .i64 0, .int .i64 0, .int .i64 0, .bool false, .int .i64 0, .int .i64 0, .int .i64 0, .int .i64 0, .int .i64 0, .slice none 0 0, .string ⟨#[]⟩], .int .u8 0], []⟩ 8 (by kernel_rfl) (by kernel_rfl) (by kernel_rfl) (by kernel_rfl)) ?_
  · rw [Try.params7] at h
    match ds, h with
    | [d0, d1, d2], _ => rfl
  · intro W base args ds ps hval hA hwt
    rw [Try.params7] at hA hval hwt
    obtain ⟨v0, v1, v2, d0, d1, d2, p0, p1, p2, rfl, rfl, rfl, h0, h1, h2⟩ := trodAll_three hA
    obtain ⟨es0, he0, hl0⟩ := eds_in (hval 0 32 v0 rfl rfl) h0 (each_weight hwt (j := 0) rfl rfl)
    obtain ⟨e1, rfl⟩ := ed_in (hval 1 27 v1 rfl rfl)
    obtain ⟨x2, rfl, hx2⟩ := u8_in (hval 2 5 v2 rfl rfl)
    exact lPartsHold (factsOf W) es0 _ he0 hl0 e1 x2 hx2
theorem eparts_law_holds : Rows.EditPartsHoldDaysSaid :=
  OpenClaim.holds_of_wide 7 Try.f7 rfl rfl rfl rfl rfl rfl rfl ⟨rfl, rfl, rfl, rfl, rfl⟩ rfl rfl rfl rfl rfl (by kernel_rfl) Try.func7 (by kernel_rfl)
    (of_decide_eq_true (by kernel_rfl)) (by unfold Func.isWrapper; first | (rw [if_pos (by decide +kernel)]; kernel_rfl) | (rw [if_neg (by decide +kernel)]; exact ⟨rfl, rfl⟩))
    (fun os started H enc _ => eparts_law_lifted os started H enc)
#print axioms eparts_law_holds
end Go.Proofs.Ytpnhiknfcpkfbaa
