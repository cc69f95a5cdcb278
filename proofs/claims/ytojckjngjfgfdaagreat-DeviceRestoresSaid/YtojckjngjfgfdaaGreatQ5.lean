/- the law DeviceRestores: the join -/
import Derived.Test.YtojckjngjfgfdaaGreatDw
import Derived.Test.YtojckjngjfgfdaaGreatQj5
import Derived.Test.YtojckjngjfgfdaaGreatJd
namespace Go.Proofs.YtojckjngjfgfdaaGreat
set_option linter.unusedSimpArgs false
set_option linter.unusedVariables false
open Go.ChangeShapes Go.WideShapes Go.ChangeAt Go.RowKit Go.Joins Go.Proofs.YtojckjngjfgfdaaGreat.Vc
set_option maxRecDepth 100000

theorem drest_lifted (os : Os) (started : os.Started) (H : Type) (enc : TypeId × Value → H) :
    ReturnsInHanded {} Tryz.checked os 9 .any (Rows.deviceRestoresSpec.pre6 enc Tryz.prog Tryz.f9 Rows.deviceRestoresRow.domain false) (Rows.deviceRestoresSpec.post enc Tryz.prog Tryz.f9 false true false false) := by
  refine lawLifted started (by kernel_rfl) Tryz.func9 rfl (tb := 4) (by kernel_rfl) (by kernel_rfl) (by rw [Tryz.params9]; decide +kernel) (fun ds h => ?_)
    (ChangeSpec.witness6 (enc := enc) (C := Tryz.checked) false ⟨#[], #[.slice none 0 0, .slice none 0 0, .agg #[.int .i64 0, .int .i64 0, .int .i64 0, .int .i64 0, .int .i64 0, .bool false, .int .i64 0, .int .i64 0, .int .i64 0, .int .i64 0, .int .i64 0, .slice none 0 0, .string ⟨#[]⟩]], []⟩ 8 (by kernel_rfl) (by kernel_rfl) (by kernel_rfl) (by kernel_rfl)) ?_
  · rw [Tryz.params9] at h
    match ds, h with
    | [d0, d1, d2], _ => rfl
  · intro W base args ds ps hval hA hwt
    rw [Tryz.params9] at hA hval hwt
    obtain ⟨v0, v1, v2, d0, d1, d2, p0, p1, p2, rfl, rfl, rfl, h0, h1, h2⟩ := trodAll_three hA
    obtain ⟨os0, ho0⟩ := ops_in (hval 0 44 v0 rfl rfl) h0 (each_weight hwt (j := 0) rfl rfl)
    obtain ⟨es1, he1, hl1⟩ := eds_in (hval 1 22 v1 rfl rfl) h1 (each_weight hwt (j := 1) rfl rfl)
    obtain ⟨e2, rfl⟩ := ed_in (hval 2 31 v2 rfl rfl)
    exact lRestores (factsOf W) os0 _ ho0 es1 _ he1 hl1 e2
theorem drest_holds : Rows.DeviceRestoresSaid :=
  OpenClaim.holds_of_wide 9 Tryz.f9 rfl rfl rfl rfl rfl rfl rfl ⟨rfl, rfl, rfl, rfl, rfl⟩ rfl rfl rfl rfl rfl (by kernel_rfl) Tryz.func9 drest_joined
    (of_decide_eq_true (by kernel_rfl)) (by unfold Func.isWrapper; first | (rw [if_pos (by decide +kernel)]; kernel_rfl) | (rw [if_neg (by decide +kernel)]; exact ⟨rfl, rfl⟩))
    (fun os started H enc _ => drest_lifted os started H enc)
#print axioms drest_holds
end Go.Proofs.YtojckjngjfgfdaaGreat
