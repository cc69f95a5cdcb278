/- the law DeviceParts: the join -/
import Derived.Test.YtojckjngjfgfdaaGreatDt
import Derived.Test.YtojckjngjfgfdaaGreatJd
namespace Go.Proofs.YtojckjngjfgfdaaGreat
set_option linter.unusedSimpArgs false
set_option linter.unusedVariables false
open Go.ChangeShapes Go.WideShapes Go.ChangeAt Go.RowKit Go.Joins Go.Proofs.YtojckjngjfgfdaaGreat.Vc
set_option maxRecDepth 100000

theorem dparts_lifted (os : Os) (started : os.Started) (H : Type) (enc : TypeId × Value → H) :
    ReturnsInHanded {} Tryz.checked os 11 .any (Rows.devicePartsSpec.pre6 enc Tryz.prog Tryz.f11 Rows.devicePartsRow.domain false) (Rows.devicePartsSpec.post enc Tryz.prog Tryz.f11 false true false false) := by
  refine lawLifted started (by kernel_rfl) Tryz.func11 rfl (tb := 4) (by kernel_rfl) (by kernel_rfl) (by rw [Tryz.params11]; decide +kernel) (fun ds h => ?_)
    (ChangeSpec.witness6 (enc := enc) (C := Tryz.checked) false ⟨#[], #[.slice none 0 0, .int .u8 0, .int .i64 0], []⟩ 8 (by kernel_rfl) (by kernel_rfl) (by kernel_rfl) (by kernel_rfl)) ?_
  · rw [Tryz.params11] at h
    match ds, h with
    | [d0, d1, d2], _ => rfl
  · intro W base args ds ps hval hA hwt
    rw [Tryz.params11] at hA hval hwt
    obtain ⟨v0, v1, v2, d0, d1, d2, p0, p1, p2, rfl, rfl, rfl, h0, h1, h2⟩ := trodAll_three hA
    obtain ⟨os0, ho0⟩ := ops_in (hval 0 44 v0 rfl rfl) h0 (each_weight hwt (j := 0) rfl rfl)
    obtain ⟨x1, rfl, hx1⟩ := u8_in (hval 1 5 v1 rfl rfl)
    obtain ⟨x2, rfl⟩ := int_in (hval 2 3 v2 rfl rfl)
    exact lParts (factsOf W) os0 _ ho0 x1 hx1 x2
theorem dparts_holds : Rows.DevicePartsSaid :=
  OpenClaim.holds_of_wide 11 Tryz.f11 rfl rfl rfl rfl rfl rfl rfl ⟨rfl, rfl, rfl, rfl, rfl⟩ rfl rfl rfl rfl rfl (by kernel_rfl) Tryz.func11 (by kernel_rfl)
    (of_decide_eq_true (by kernel_rfl)) (by unfold Func.isWrapper; first | (rw [if_pos (by decide +kernel)]; kernel_rfl) | (rw [if_neg (by decide +kernel)]; exact ⟨rfl, rfl⟩))
    (fun os started H enc _ => dparts_lifted os started H enc)
#print axioms dparts_holds
end Go.Proofs.YtojckjngjfgfdaaGreat
