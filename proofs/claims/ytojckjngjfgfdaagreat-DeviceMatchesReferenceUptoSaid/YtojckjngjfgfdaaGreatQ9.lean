/- the law DeviceMatchesReference in its second form (arguments of small bulk): the join -/
import Derived.Test.YtojckjngjfgfdaaGreatYf
import Derived.Test.YtojckjngjfgfdaaGreatQj9
import Derived.Test.YtojckjngjfgfdaaGreatJf
namespace Go.Proofs.YtojckjngjfgfdaaGreat
set_option linter.unusedSimpArgs false
set_option linter.unusedVariables false
open Go.ChangeShapes Go.WideShapes Go.ChangeAt Go.RowKit Go.Joins Go.Proofs.YtojckjngjfgfdaaGreat.Vc
set_option maxRecDepth 100000

theorem dmatch_lifted (os : Os) (started : os.Started) (H : Type) (enc : TypeId × Value → H) (G : Stop.Interp) :
    ReturnsInHanded {} Tryz.checked os 3 .any ((Rows.OpenSpec.upto Rows.deviceMatchesReferenceSpec).pre6 enc Tryz.prog Tryz.f3 Rows.deviceMatchesReferenceUptoRow.domain false) (((Rows.OpenSpec.upto Rows.deviceMatchesReferenceSpec).at G).post enc Tryz.prog Tryz.f3 false true false false) := by
  refine lawLiftedU started G (by kernel_rfl) Tryz.func3 rfl (tb := 4) (by kernel_rfl) (by kernel_rfl) (by rw [Tryz.params3]; decide +kernel) (fun ds h => ?_)
    (OpenSpec.witness (enc := enc) (C := Tryz.checked) (s := Rows.OpenSpec.upto Rows.deviceMatchesReferenceSpec) (k := Rows.uptoSmall) rfl false ⟨#[], #[.agg #[.int .i64 0, .int .i64 0, .int .i64 0, .slice none 0 0, .int .i64 0, .int .i64 0, .int .i64 0, .slice none 0 0], .agg #[.int .i64 0, .int .i64 0, .int .i64 0, .int .i64 0, .int .i64 0, .bool false, .int .i64 0, .int .i64 0, .int .i64 0, .int .i64 0, .int .i64 0, .slice none 0 0, .string ⟨#[]⟩], .int .i64 0], []⟩ 8 (by kernel_rfl) (by kernel_rfl) (by kernel_rfl)
      (x := ([.agg [.agg [.lit (.int .i64 0), .lit (.int .i64 0), .lit (.int .i64 0), .nil], .agg [.lit (.int .i64 0), .lit (.int .i64 0), .lit (.int .i64 0), .nil]], .agg [.lit (.int .i64 0), .lit (.int .i64 0), .lit (.int .i64 0), .lit (.int .i64 0), .agg [.lit (.int .i64 0), .lit (.bool false), .lit (.int .i64 0), .lit (.int .i64 0), .lit (.int .i64 0)], .lit (.int .i64 0), .lit (.int .i64 0), .nil, .lit (.string [])], .lit (.int .i64 0)], [], [])) (by kernel_rfl) rfl (by kernel_rfl)) ?_
  · rw [Tryz.params3] at h
    match ds, h with
    | [d0, d1, d2], _ => rfl
  · intro W base args ds ps hval hA hb
    rw [Tryz.params3] at hA hval
    obtain ⟨v0, v1, v2, d0, d1, d2, p0, p1, p2, rfl, rfl, rfl, ⟨f0, h0⟩, ⟨f1, h1⟩, h2⟩ := trodAll_three hA
    simp only [Rows.uptoBulkAll] at hb
    obtain ⟨x2, rfl⟩ := int_in (hval 2 3 v2 rfl rfl)
    obtain ⟨a, b, u, v, e0, g0, g1⟩ := trod_devices h0 (by show Rows.uptoBulk d0 ≤ _; omega)
    obtain ⟨x, ra, rn, rc, e1, hx⟩ := trod_editD h1 (by show Rows.uptoBulk d1 ≤ _; omega)
    have k0 := agg_of e0 (by simp [dvCells])
    have hc : v1.cells.toList = (x.ed ra rn rc).cells := by
      have := congrArg Array.toList (Value.agg.inj e1)
      exact this
    have k1 := agg_of hc (by simp [Ed.cells])
    subst k0
    rw [k1]
    exact lMatches (factsOf W) a b u v g0 g1 x ra rn rc hx x2
theorem dmatch_holds : Rows.DeviceMatchesReferenceUptoSaid :=
  OpenClaim.holds_of_cond 3 Tryz.f3 rfl rfl rfl rfl rfl rfl rfl ⟨rfl, rfl, rfl, rfl, rfl⟩ rfl rfl rfl rfl rfl (by kernel_rfl) Tryz.func3 dmatch_joined
    (of_decide_eq_true (by kernel_rfl)) (by unfold Func.isWrapper; first | (rw [if_pos (by decide +kernel)]; kernel_rfl) | (rw [if_neg (by decide +kernel)]; exact ⟨rfl, rfl⟩))
    (fun os started H enc _ G => dmatch_lifted os started H enc G)
#print axioms dmatch_holds
end Go.Proofs.YtojckjngjfgfdaaGreat
