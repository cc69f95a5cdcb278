/- NumberRanksRestore returns true for all lists, and leaves its argument as it was; there are no conditions. -/
import Derived.Test.YtlakekoekilbaaaLn2
import Derived.Test.YtlakekoekilbaaaJn
namespace Go.Proofs.Ytlakekoekilbaaa
set_option linter.unusedSimpArgs false
set_option linter.unusedVariables false
open Go.ChangeShapes Go.WideShapes Go.ChangeAt Go.RowKit Go.Joins Go.Proofs.Ytlakekoekilbaaa.Vc

theorem nrestore_lifted (os : Os) (started : os.Started) (H : Type) (enc : TypeId × Value → H) :
    ReturnsInHanded {} Try.checked os 11 .any (Rows.numberRanksRestoreSpec.pre6 enc Try.prog Try.f11 Rows.numberRanksRestoreRow.domain false) (Rows.numberRanksRestoreSpec.post enc Try.prog Try.f11 false true false false) := by
  refine lawLifted started (by kernel_rfl) Try.func11 rfl (tb := 4) (by kernel_rfl) (by kernel_rfl) (by rw [Try.params11]; decide +kernel) (fun ds h => ?_)
    (ChangeSpec.witness6 (enc := enc) (C := Try.checked) false ⟨#[], #[.slice none 0 0], []⟩ 8 (by kernel_rfl) (by kernel_rfl) (by kernel_rfl) (by kernel_rfl)) ?_
  · rw [Try.params11] at h
    match ds, h with
    | [d0], _ => rfl
  · intro W base args ds ps hval hA hwt
    rw [Try.params11] at hA hval hwt
    obtain ⟨v0, d0, rfl, rfl, h0⟩ := trodAll_one hA
    obtain ⟨xs0, hx0, hb0, hl0⟩ := ints_in Try.underlying22 (hval 0 22 v0 rfl rfl) h0 (each_weight hwt (j := 0) rfl rfl)
    exact lRestore xs0 v0  _ hx0
theorem nrestore_holds : Rows.NumberRanksRestoreSaid :=
  OpenClaim.holds_of_wide 11 Try.f11 rfl rfl rfl rfl rfl rfl rfl ⟨rfl, rfl, rfl, rfl, rfl⟩ rfl rfl rfl rfl rfl (by kernel_rfl) Try.func11 (by kernel_rfl)
    (of_decide_eq_true (by kernel_rfl)) (by unfold Func.isWrapper; first | (rw [if_pos (by decide +kernel)]; kernel_rfl) | (rw [if_neg (by decide +kernel)]; exact ⟨rfl, rfl⟩))
    (fun os started H enc _ => nrestore_lifted os started H enc)
#print axioms nrestore_holds
end Go.Proofs.Ytlakekoekilbaaa
