/- Lemmas of our own, no statement of the seat; the last one of the claim's texts proves the law. -/
import Derived.Test.YtdgndfabdmecmaaGreatBzh
import Derived.Test.YtdgndfabdmecmaaGreatXj2
open Nat renaming reduceEqDiff → Qa, reduceAdd → Qb, reduceMul → Qc, reduceLeDiff → Qd, reduceLT → Qe, reduceBNe → Qf
open Int renaming reduceLE → Ja, reduceLT → Jb, reduceToNat → Jc, cast_ofNat_Int → Jd, reduceEq → Je, reduceNe → Jf
set_option linter.unusedSimpArgs false
set_option linter.unusedVariables false
namespace Go.Proofs.YtdgndfabdmecmaaGreat
open Go.ChangeShapes Go.WideShapes Go.ChangeAt Go.RowKit Go.Joins Go.Proofs.YtdgndfabdmecmaaGreat.Vc
set_option maxRecDepth 100000
theorem topmerged_lifted (os : Os) (started : os.Started) (H : Type) (enc : TypeId × Value → H) :
  ReturnsInHanded {} Tryz.checked os 4 .any (Rows.topMergedDaysSpec.pre6 enc Tryz.prog Tryz.f4 Rows.topMergedDaysRow.domain false) (Rows.topMergedDaysSpec.post enc Tryz.prog Tryz.f4 false true false false) := by
 refine lawLifted started (by kernel_rfl) Tryz.func4 rfl (tb := 4) (by kernel_rfl) (by kernel_rfl) (by rw [Tryz.params4]; decide +kernel) (fun ds h => ?_)
  (ChangeSpec.witness6 (enc := enc) (C := Tryz.checked) false ⟨#[], #[.slice none 0 0, .agg #[.int .i64 0, .int .i64 0, .int .i64 0, .int .i64 0, .int .i64 0, .bool false, .int .i64 0, .int .i64 0, .int .i64 0, .int .i64 0, .int .i64 0, .slice none 0 0, .string ⟨#[]⟩], .agg #[.int .u8 0, .slice none 0 0, .slice none 0 0, .int .u8 0, .int .u8 0, .int .u8 0, .int .u8 0, .int .u8 0, .int .u8 0, .int .u8 0, .int .u8 0, .int .u8 0, .int .u8 0, .bool false]], []⟩ 8 (by kernel_rfl) (by kernel_rfl) (by kernel_rfl) (by kernel_rfl)) ?_
 ·rw [Tryz.params4] at h
  match ds, h with
  | [d0, d1, d2], _ => rfl
 ·intro W base args ds ps hval hA hwt
  rw [Tryz.params4] at hA hval hwt
  obtain ⟨v0, v1, v2, d0, d1, d2, p0, p1, p2, rfl, rfl, rfl, h0, h1, h2⟩ := trodAll_three hA
  obtain ⟨es0, he0, hl0⟩ := eds_in (hval 0 22 v0 rfl rfl) h0 (each_weight hwt (j := 0) rfl rfl)
  obtain ⟨e1, rfl⟩ := ed_in (hval 1 52 v1 rfl rfl)
  obtain ⟨w2, g2, o2, rfl, hw2, hg2, hq2⟩ := raw_in (hval 2 27 v2 rfl rfl) h2
  exact lMergedDays (factsOf W) es0 _ he0 hl0 e1 w2 hw2 g2 o2 hg2 hq2
theorem topmerged_holds : Rows.TopMergedDaysSaid :=
 OpenClaim.holds_of_wide 4 Tryz.f4 rfl rfl rfl rfl rfl rfl rfl ⟨rfl, rfl, rfl, rfl, rfl⟩ rfl rfl rfl rfl rfl (by kernel_rfl) Tryz.func4 topmerged_joined
  (of_decide_eq_true (by kernel_rfl)) (by unfold Func.isWrapper; first | (rw [if_pos (by decide +kernel)]; kernel_rfl) | (rw [if_neg (by decide +kernel)]; exact ⟨rfl, rfl⟩))
  (fun os started H enc _ => topmerged_lifted os started H enc)
#print axioms topmerged_holds
end Go.Proofs.YtdgndfabdmecmaaGreat
