/- the law EditMadeMatchesReference: the join -/
import Derived.Test.YtpnhiknfcpkfbaaGreatZj
import Derived.Test.YtpnhiknfcpkfbaaGreatJe
namespace Go.Proofs.YtpnhiknfcpkfbaaGreat
set_option linter.unusedSimpArgs false
set_option linter.unusedVariables false
open Go.ChangeShapes Go.WideShapes Go.ChangeAt Go.RowKit Go.Joins Go.Proofs.YtpnhiknfcpkfbaaGreat.Vc
set_option maxRecDepth 100000

theorem emade_lifted (os : Os) (started : os.Started) (H : Type) (enc : TypeId × Value → H) :
    ReturnsInHanded {} Tryz.checked os 3 .any (Rows.editMadeMatchesReferenceSpec.pre6 enc Tryz.prog Tryz.f3 Rows.editMadeMatchesReferenceRow.domain false) (Rows.editMadeMatchesReferenceSpec.post enc Tryz.prog Tryz.f3 false true false false) := by
  refine lawLifted started (by kernel_rfl) Tryz.func3 rfl (tb := 4) (by kernel_rfl) (by kernel_rfl) (by rw [Tryz.params3]; decide +kernel) (fun ds h => ?_)
    (ChangeSpec.witness6 (enc := enc) (C := Tryz.checked) false ⟨#[], #[.slice none 0 0, .agg #[.int .i64 0, .int .i64 0, .int .i64 0, .int .i64 0, .int .i64 0, .bool false, .int .i64 0, .int .i64 0, .int .i64 0, .int .i64 0, .int .i64 0, .slice none 0 0, .string ⟨#[]⟩], .int .i64 0], []⟩ 8 (by kernel_rfl) (by kernel_rfl) (by kernel_rfl) (by kernel_rfl)) ?_
  · rw [Tryz.params3] at h
    match ds, h with
    | [d0, d1, d2], _ => rfl
  · intro W base args ds ps hval hA hwt
    rw [Tryz.params3] at hA hval hwt
    obtain ⟨v0, v1, v2, d0, d1, d2, p0, p1, p2, rfl, rfl, rfl, h0, h1, h2⟩ := trodAll_three hA
    obtain ⟨es0, he0, hl0⟩ := eds_in (hval 0 22 v0 rfl rfl) h0 (each_weight hwt (j := 0) rfl rfl)
    obtain ⟨e1, rfl⟩ := ed_in (hval 1 28 v1 rfl rfl)
    obtain ⟨x2, rfl⟩ := int_in (hval 2 3 v2 rfl rfl)
    exact lMadeRef (factsOf W) es0 _ he0 hl0 e1 x2
theorem emade_holds : Rows.EditMadeMatchesReferenceSaid :=
  OpenClaim.holds_of_wide 3 Tryz.f3 rfl rfl rfl rfl rfl rfl rfl ⟨rfl, rfl, rfl, rfl, rfl⟩ rfl rfl rfl rfl rfl (by kernel_rfl) Tryz.func3 (by kernel_rfl)
    (of_decide_eq_true (by kernel_rfl)) (by unfold Func.isWrapper; first | (rw [if_pos (by decide +kernel)]; kernel_rfl) | (rw [if_neg (by decide +kernel)]; exact ⟨rfl, rfl⟩))
    (fun os started H enc _ => emade_lifted os started H enc)
#print axioms emade_holds
end Go.Proofs.YtpnhiknfcpkfbaaGreat
