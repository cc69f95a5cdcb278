/- the law DeviceNumbers: the join -/
import Derived.Test.YtojckjngjfgfdaaGreatDm
import Derived.Test.YtojckjngjfgfdaaGreatQj6
import Derived.Test.YtojckjngjfgfdaaGreatJd
namespace Go.Proofs.YtojckjngjfgfdaaGreat
set_option linter.unusedSimpArgs false
set_option linter.unusedVariables false
open Go.ChangeShapes Go.WideShapes Go.ChangeAt Go.RowKit Go.Joins Go.Proofs.YtojckjngjfgfdaaGreat.Vc
set_option maxRecDepth 100000

theorem dnum_lifted (os : Os) (started : os.Started) (H : Type) (enc : TypeId × Value → H) :
    ReturnsInHanded {} Tryz.checked os 5 .any (Rows.deviceNumbersSpec.pre6 enc Tryz.prog Tryz.f5 Rows.deviceNumbersRow.domain false) (Rows.deviceNumbersSpec.post enc Tryz.prog Tryz.f5 false true false false) := by
  refine lawLifted started (by kernel_rfl) Tryz.func5 rfl (tb := 4) (by kernel_rfl) (by kernel_rfl) (by rw [Tryz.params5]; decide +kernel) (fun ds h => ?_)
    (ChangeSpec.witness6 (enc := enc) (C := Tryz.checked) false ⟨#[], #[.slice none 0 0], []⟩ 8 (by kernel_rfl) (by kernel_rfl) (by kernel_rfl) (by kernel_rfl)) ?_
  · rw [Tryz.params5] at h
    match ds, h with
    | [d0], _ => rfl
  · intro W base args ds ps hval hA hwt
    rw [Tryz.params5] at hA hval hwt
    obtain ⟨v0, d0, rfl, rfl, h0⟩ := trodAll_one hA
    obtain ⟨os0, ho0⟩ := ops_in (hval 0 44 v0 rfl rfl) h0 (each_weight hwt (j := 0) rfl rfl)
    exact lNumbers (factsOf W) os0 _ ho0
theorem dnum_holds : Rows.DeviceNumbersSaid :=
  OpenClaim.holds_of_wide 5 Tryz.f5 rfl rfl rfl rfl rfl rfl rfl ⟨rfl, rfl, rfl, rfl, rfl⟩ rfl rfl rfl rfl rfl (by kernel_rfl) Tryz.func5 dnum_joined
    (of_decide_eq_true (by kernel_rfl)) (by unfold Func.isWrapper; first | (rw [if_pos (by decide +kernel)]; kernel_rfl) | (rw [if_neg (by decide +kernel)]; exact ⟨rfl, rfl⟩))
    (fun os started H enc _ => dnum_lifted os started H enc)
#print axioms dnum_holds
end Go.Proofs.YtojckjngjfgfdaaGreat
