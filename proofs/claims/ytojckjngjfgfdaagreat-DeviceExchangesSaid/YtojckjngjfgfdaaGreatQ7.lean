/- the law DeviceExchanges: the join -/
import Derived.Test.YtojckjngjfgfdaaGreatDp
import Derived.Test.YtojckjngjfgfdaaGreatQj7
import Derived.Test.YtojckjngjfgfdaaGreatJd
namespace Go.Proofs.YtojckjngjfgfdaaGreat
set_option linter.unusedSimpArgs false
set_option linter.unusedVariables false
open Go.ChangeShapes Go.WideShapes Go.ChangeAt Go.RowKit Go.Joins Go.Proofs.YtojckjngjfgfdaaGreat.Vc
set_option maxRecDepth 100000

theorem dexch_lifted (os : Os) (started : os.Started) (H : Type) (enc : TypeId × Value → H) :
    ReturnsInHanded {} Tryz.checked os 8 .any (Rows.deviceExchangesSpec.pre6 enc Tryz.prog Tryz.f8 Rows.deviceExchangesRow.domain false) (Rows.deviceExchangesSpec.post enc Tryz.prog Tryz.f8 false true false false) := by
  refine lawLifted started (by kernel_rfl) Tryz.func8 rfl (tb := 4) (by kernel_rfl) (by kernel_rfl) (by rw [Tryz.params8]; decide +kernel) (fun ds h => ?_)
    (ChangeSpec.witness6 (enc := enc) (C := Tryz.checked) false ⟨#[], #[.slice none 0 0], []⟩ 8 (by kernel_rfl) (by kernel_rfl) (by kernel_rfl) (by kernel_rfl)) ?_
  · rw [Tryz.params8] at h
    match ds, h with
    | [d0], _ => rfl
  · intro W base args ds ps hval hA hwt
    rw [Tryz.params8] at hA hval hwt
    obtain ⟨v0, d0, rfl, rfl, h0⟩ := trodAll_one hA
    obtain ⟨os0, ho0⟩ := ops_in (hval 0 44 v0 rfl rfl) h0 (each_weight hwt (j := 0) rfl rfl)
    exact lExchanges (factsOf W) os0 _ ho0
theorem dexch_holds : Rows.DeviceExchangesSaid :=
  OpenClaim.holds_of_wide 8 Tryz.f8 rfl rfl rfl rfl rfl rfl rfl ⟨rfl, rfl, rfl, rfl, rfl⟩ rfl rfl rfl rfl rfl (by kernel_rfl) Tryz.func8 dexch_joined
    (of_decide_eq_true (by kernel_rfl)) (by unfold Func.isWrapper; first | (rw [if_pos (by decide +kernel)]; kernel_rfl) | (rw [if_neg (by decide +kernel)]; exact ⟨rfl, rfl⟩))
    (fun os started H enc _ => dexch_lifted os started H enc)
#print axioms dexch_holds
end Go.Proofs.YtojckjngjfgfdaaGreat
