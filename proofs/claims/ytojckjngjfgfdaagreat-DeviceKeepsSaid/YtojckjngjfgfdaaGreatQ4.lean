/- the law DeviceKeeps: the join -/
import Derived.Test.YtojckjngjfgfdaaGreatDz
import Derived.Test.YtojckjngjfgfdaaGreatQj4
import Derived.Test.YtojckjngjfgfdaaGreatJd
namespace Go.Proofs.YtojckjngjfgfdaaGreat
set_option linter.unusedSimpArgs false
set_option linter.unusedVariables false
open Go.ChangeShapes Go.WideShapes Go.ChangeAt Go.RowKit Go.Joins Go.Proofs.YtojckjngjfgfdaaGreat.Vc
set_option maxRecDepth 100000

theorem dkeeps_lifted (os : Os) (started : os.Started) (H : Type) (enc : TypeId × Value → H) :
    ReturnsInHanded {} Tryz.checked os 7 .any (Rows.deviceKeepsSpec.pre6 enc Tryz.prog Tryz.f7 Rows.deviceKeepsRow.domain false) (Rows.deviceKeepsSpec.post enc Tryz.prog Tryz.f7 false true false false) := by
  refine lawLifted started (by kernel_rfl) Tryz.func7 rfl (tb := 4) (by kernel_rfl) (by kernel_rfl) (by rw [Tryz.params7]; decide +kernel) (fun ds h => ?_)
    (ChangeSpec.witness6 (enc := enc) (C := Tryz.checked) false ⟨#[], #[.slice none 0 0, .agg #[.int .u8 0, .int .u8 0, .int .u8 0, .int .i64 0, .int .i64 0, .int .i64 0, .int .i64 0, .int .i64 0, .bool false, .int .i64 0, .int .i64 0, .int .i64 0, .int .i64 0, .int .i64 0, .slice none 0 0, .string ⟨#[]⟩]], []⟩ 8 (by kernel_rfl) (by kernel_rfl) (by kernel_rfl) (by kernel_rfl)) ?_
  · rw [Tryz.params7] at h
    match ds, h with
    | [d0, d1], _ => rfl
  · intro W base args ds ps hval hA hwt
    rw [Tryz.params7] at hA hval hwt
    obtain ⟨v0, v1, d0, d1, p0, p1, rfl, rfl, rfl, h0, h1⟩ := trodAll_two hA
    obtain ⟨os0, ho0⟩ := ops_in (hval 0 44 v0 rfl rfl) h0 (each_weight hwt (j := 0) rfl rfl)
    obtain ⟨o1, rfl, ho1⟩ := op_in (hval 1 68 v1 rfl rfl)
    exact lKeeps (factsOf W) os0 _ ho0 o1 ho1
theorem dkeeps_holds : Rows.DeviceKeepsSaid :=
  OpenClaim.holds_of_wide 7 Tryz.f7 rfl rfl rfl rfl rfl rfl rfl ⟨rfl, rfl, rfl, rfl, rfl⟩ rfl rfl rfl rfl rfl (by kernel_rfl) Tryz.func7 dkeeps_joined
    (of_decide_eq_true (by kernel_rfl)) (by unfold Func.isWrapper; first | (rw [if_pos (by decide +kernel)]; kernel_rfl) | (rw [if_neg (by decide +kernel)]; exact ⟨rfl, rfl⟩))
    (fun os started H enc _ => dkeeps_lifted os started H enc)
#print axioms dkeeps_holds
end Go.Proofs.YtojckjngjfgfdaaGreat
