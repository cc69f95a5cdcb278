import Derived.Test.YtpnhiknfcpkfbaaVcI
import Derived.Sort.Grow
import Derived.Deep.Draws
namespace Go.Proofs.Ytpnhiknfcpkfbaa.Vc
set_option linter.unusedSimpArgs false
set_option linter.unusedVariables false
/-- What only made memory and drew: the world with more blocks behind it. -/
theorem ext_grow {w w' : World} (h : Ext w w') : ∃ (q : Nat) (os : Array Obj), w' = Go.Sort.grow (w.drewN q) os := by
  refine ⟨w'.drawn - w.drawn, w'.heap.extract w.heap.size w'.heap.size, ?_⟩
  obtain ⟨heap, tape, drawn, os, output⟩ := w
  obtain ⟨heap', tape', drawn', os', output'⟩ := w'
  obtain ⟨h1, h2, h3, h4, h5, h6⟩ := h
  simp only at h1 h2 h3 h4 h5 h6
  subst h1 h2 h3
  have hd : drawn + (drawn' - drawn) = drawn' := by omega
  have hh : heap ++ heap'.extract heap.size heap'.size = heap' := by
    apply Array.ext_getElem?
    intro i
    rcases Nat.lt_or_ge i heap.size with hi | hi
    · rw [Array.getElem?_append_left hi, h5 i hi]
    · rw [Array.getElem?_append_right hi, Array.getElem?_extract]
      rcases Nat.lt_or_ge i heap'.size with hj | hj
      · rw [if_pos (by omega)]
        congr 1; omega
      · rw [if_neg (by omega), Array.getElem?_eq_none hj]
  simp only [Go.Sort.grow, Go.World.drewN, hd, hh]
end Go.Proofs.Ytpnhiknfcpkfbaa.Vc
