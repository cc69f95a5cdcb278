import Derived.Test.YtojckjngjfgfdaaGreatEs
namespace Go.Proofs.YtojckjngjfgfdaaGreat
set_option linter.unusedSimpArgs false
set_option linter.unusedVariables false
open Go.Proofs.YtojckjngjfgfdaaGreat.Vc
/-! ### Parts of slices -/
theorem SlK.sub {R : RO} {a : Option Addr} {cap k : Nat} {xs : List (List Value)} (h : SlK R (.slice a xs.length cap) k xs) {l u : Nat} (hl : l ≤ u) (hu : u ≤ xs.length) : SlK R (.slice (if cap = l then a else a.map (·.add (l * k))) (u - l) (cap - l)) k ((xs.take u).drop l) := by
  obtain ⟨a', cap', e, hc, hf⟩ := h
  simp only [Value.slice.injEq] at e
  obtain ⟨rfl, _, rfl⟩ := e
  have hlen : ((xs.take u).drop l).length = u - l := by simp; omega
  refine ⟨_, _, by rw [hlen], by omega, fun i us hi => ?_⟩
  have hil : i < u - l := by rw [← hlen]; exact (List.getElem?_eq_some_iff.1 hi).1
  rw [List.getElem?_drop, List.getElem?_take_of_lt (by omega)] at hi
  obtain ⟨h1, ad, rfl, hR⟩ := hf (l + i) us hi
  refine ⟨h1, ad.add (l * k), by rw [if_neg (by omega)]; rfl, fun j v hj => ?_⟩
  have := hR j v hj
  rw [add_add] at this ⊢
  rw [add_add]
  rw [show l * k + (i * k + j) = (l + i) * k + j by rw [Nat.add_mul]; omega]
  exact this
theorem EdsV.sub {R : RO} {a : Option Addr} {cap : Nat} {ds : List De} (h : EdsV R (.slice a ds.length cap) ds) {l u : Nat} (hl : l ≤ u) (hu : u ≤ ds.length) : EdsV R (.slice (if cap = l then a else a.map (·.add (l * 13))) (u - l) (cap - l)) ((ds.take u).drop l) := by
  obtain ⟨cs, h1, h2, h3, h4⟩ := h
  rw [← h2] at h1
  refine ⟨_, SlK.sub h1 hl (by omega), by simp; omega, fun i c d hc hd => ?_, by simp; omega⟩
  have hil : i < u - l := by
    have := (List.getElem?_eq_some_iff.1 hd).1
    simp at this; omega
  rw [List.getElem?_drop, List.getElem?_take_of_lt (by omega)] at hc hd
  exact h3 _ c d hc hd
end Go.Proofs.YtojckjngjfgfdaaGreat
