/- the law DeviceConverges: the join -/
import Derived.Test.YtojckjngjfgfdaaGreatDy
import Derived.Test.YtojckjngjfgfdaaGreatQj3
import Derived.Test.YtojckjngjfgfdaaGreatJd
namespace Go.Proofs.YtojckjngjfgfdaaGreat
set_option linter.unusedSimpArgs false
set_option linter.unusedVariables false
open Go.ChangeShapes Go.WideShapes Go.ChangeAt Go.RowKit Go.Joins Go.Proofs.YtojckjngjfgfdaaGreat.Vc
set_option maxRecDepth 100000

theorem dconv_lifted (os : Os) (started : os.Started) (H : Type) (enc : TypeId × Value → H) :
    ReturnsInHanded {} Tryz.checked os 6 .any (Rows.deviceConvergesSpec.pre6 enc Tryz.prog Tryz.f6 Rows.deviceConvergesRow.domain false) (Rows.deviceConvergesSpec.post enc Tryz.prog Tryz.f6 false true false false) := by
  refine lawLifted started (by kernel_rfl) Tryz.func6 rfl (tb := 4) (by kernel_rfl) (by kernel_rfl) (by rw [Tryz.params6]; decide +kernel) (fun ds h => ?_)
    (ChangeSpec.witness6 (enc := enc) (C := Tryz.checked) false ⟨#[], #[.slice none 0 0, .int .i64 0, .slice none 0 0], []⟩ 8 (by kernel_rfl) (by kernel_rfl) (by kernel_rfl) (by kernel_rfl)) ?_
  · rw [Tryz.params6] at h
    match ds, h with
    | [d0, d1, d2], _ => rfl
  · intro W base args ds ps hval hA hwt
    rw [Tryz.params6] at hA hval hwt
    obtain ⟨v0, v1, v2, d0, d1, d2, p0, p1, p2, rfl, rfl, rfl, h0, h1, h2⟩ := trodAll_three hA
    obtain ⟨os0, ho0⟩ := ops_in (hval 0 44 v0 rfl rfl) h0 (each_weight hwt (j := 0) rfl rfl)
    obtain ⟨x1, rfl⟩ := int_in (hval 1 3 v1 rfl rfl)
    obtain ⟨es2, he2, hl2⟩ := eds_in (hval 2 22 v2 rfl rfl) h2 (each_weight hwt (j := 2) rfl rfl)
    exact lConverges (factsOf W) os0 _ ho0 x1 es2 _ he2 hl2
theorem dconv_holds : Rows.DeviceConvergesSaid :=
  OpenClaim.holds_of_wide 6 Tryz.f6 rfl rfl rfl rfl rfl rfl rfl ⟨rfl, rfl, rfl, rfl, rfl⟩ rfl rfl rfl rfl rfl (by kernel_rfl) Tryz.func6 dconv_joined
    (of_decide_eq_true (by kernel_rfl)) (by unfold Func.isWrapper; first | (rw [if_pos (by decide +kernel)]; kernel_rfl) | (rw [if_neg (by decide +kernel)]; exact ⟨rfl, rfl⟩))
    (fun os started H enc _ => dconv_lifted os started H enc)
#print axioms dconv_holds
end Go.Proofs.YtojckjngjfgfdaaGreat
