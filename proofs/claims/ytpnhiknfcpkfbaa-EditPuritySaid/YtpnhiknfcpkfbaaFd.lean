import Derived.Test.YtpnhiknfcpkfbaaFa
namespace Go.Proofs.Ytpnhiknfcpkfbaa
set_option linter.unusedSimpArgs false
set_option linter.unusedVariables false
open Go.Proofs.Ytpnhiknfcpkfbaa.Vc
/-- A slice of edits, whatever their rules. -/
def EdC (R : RO) (v : Value) (es : List Ed) : Prop := SlK R v 13 (es.map Ed.cells)
theorem EdC.mono {R R' : RO} {v : Value} {es : List Ed} (h : EdC R v es) (hle : RO.le R R') : EdC R' v es := SlK.mono h hle
theorem EdC.form {R : RO} {v : Value} {es : List Ed} (h : EdC R v es) : ∃ a cap, v = .slice a es.length cap ∧ es.length ≤ cap ∧ ∀ i (hi : i < es.length), ∃ ad, a = some ad ∧ ∀ j u, ((es[i]).cells)[j]? = some u → R ((ad.add (i * 13)).add j) u := by
  obtain ⟨a, cap, rfl, hc, hf⟩ := SlK.form h
  rw [List.length_map] at hc
  refine ⟨a, cap, by rw [List.length_map], hc, fun i hi => ?_⟩
  obtain ⟨_, ad, ha, hR⟩ := hf i (by rw [List.length_map]; exact hi)
  rw [List.getElem_map] at hR
  exact ⟨ad, ha, hR⟩
def madeStep (out : List De) (d : De) : List De := if out.any (fun o => keyEq o d) = true then out else out ++ [d]
/-- The consistent list that the reference makes of any edits. -/
def madeL (es : List Ed) : List De := ((es.take 12).map madeE).foldl madeStep []
theorem madeStep_len (out : List De) (d : De) : (madeStep out d).length ≤ out.length + 1 := by unfold madeStep; split <;> simp
theorem madeStep_snoc (l : List De) (d : De) : (l ++ [d]).foldl madeStep [] = madeStep (l.foldl madeStep []) d := by simp
end Go.Proofs.Ytpnhiknfcpkfbaa
