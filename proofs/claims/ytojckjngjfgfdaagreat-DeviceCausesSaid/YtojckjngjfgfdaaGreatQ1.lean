/- the law DeviceCauses: the join -/
import Derived.Test.YtojckjngjfgfdaaGreatDr
import Derived.Test.YtojckjngjfgfdaaGreatJd
namespace Go.Proofs.YtojckjngjfgfdaaGreat
set_option linter.unusedSimpArgs false
set_option linter.unusedVariables false
open Go.ChangeShapes Go.WideShapes Go.ChangeAt Go.RowKit Go.Joins Go.Proofs.YtojckjngjfgfdaaGreat.Vc
set_option maxRecDepth 100000

theorem dcauses_lifted (os : Os) (started : os.Started) (H : Type) (enc : TypeId × Value → H) :
    ReturnsInHanded {} Tryz.checked os 10 .any (Rows.deviceCausesSpec.pre6 enc Tryz.prog Tryz.f10 Rows.deviceCausesRow.domain false) (Rows.deviceCausesSpec.post enc Tryz.prog Tryz.f10 false true false false) := by
  refine lawLifted started (by kernel_rfl) Tryz.func10 rfl (tb := 4) (by kernel_rfl) (by kernel_rfl) (by rw [Tryz.params10]; decide +kernel) (fun ds h => ?_)
    (ChangeSpec.witness6 (enc := enc) (C := Tryz.checked) false ⟨#[], #[.slice none 0 0, .agg #[.int .i64 0, .int .i64 0, .int .i64 0, .int .i64 0, .int .i64 0, .bool false, .int .i64 0, .int .i64 0, .int .i64 0, .int .i64 0, .int .i64 0, .slice none 0 0, .string ⟨#[]⟩], .int .u8 0], []⟩ 8 (by kernel_rfl) (by kernel_rfl) (by kernel_rfl) (by kernel_rfl)) ?_
  · rw [Tryz.params10] at h
    match ds, h with
    | [d0, d1, d2], _ => rfl
  · intro W base args ds ps hval hA hwt
    rw [Tryz.params10] at hA hval hwt
    obtain ⟨v0, v1, v2, d0, d1, d2, p0, p1, p2, rfl, rfl, rfl, h0, h1, h2⟩ := trodAll_three hA
    obtain ⟨os0, ho0⟩ := ops_in (hval 0 44 v0 rfl rfl) h0 (each_weight hwt (j := 0) rfl rfl)
    obtain ⟨e1, rfl⟩ := ed_in (hval 1 31 v1 rfl rfl)
    obtain ⟨x2, rfl, hx2⟩ := u8_in (hval 2 5 v2 rfl rfl)
    exact lCauses (factsOf W) os0 _ ho0 e1 x2 hx2
theorem dcauses_holds : Rows.DeviceCausesSaid :=
  OpenClaim.holds_of_wide 10 Tryz.f10 rfl rfl rfl rfl rfl rfl rfl ⟨rfl, rfl, rfl, rfl, rfl⟩ rfl rfl rfl rfl rfl (by kernel_rfl) Tryz.func10 (by kernel_rfl)
    (of_decide_eq_true (by kernel_rfl)) (by unfold Func.isWrapper; first | (rw [if_pos (by decide +kernel)]; kernel_rfl) | (rw [if_neg (by decide +kernel)]; exact ⟨rfl, rfl⟩))
    (fun os started H enc _ => dcauses_lifted os started H enc)
#print axioms dcauses_holds
end Go.Proofs.YtojckjngjfgfdaaGreat
