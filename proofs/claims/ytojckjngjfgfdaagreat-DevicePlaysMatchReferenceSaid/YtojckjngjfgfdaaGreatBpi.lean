/- Lemmas of our own, no statement of the seat; the last one of the claim's texts proves the law. -/
import Derived.Test.YtojckjngjfgfdaaGreatBph
import Derived.Test.YtojckjngjfgfdaaGreatBpf
open Nat renaming reduceEqDiff → nQ1, reduceAdd → nQ2, reduceMul → nQ3, reduceLeDiff → nQ4, reduceLT → nQ5, reduceBNe → nQ6
open Int renaming reduceLE → iQ1, reduceLT → iQ2, reduceToNat → iQ3, cast_ofNat_Int → iQ4, reduceEq → iQ5, reduceNe → iQ6
namespace Go.Proofs.YtojckjngjfgfdaaGreat
set_option linter.unusedSimpArgs false
set_option linter.unusedVariables false
open Go.ChangeShapes Go.WideShapes Go.ChangeAt Go.RowKit Go.Joins Go.Proofs.YtojckjngjfgfdaaGreat.Vc
set_option maxRecDepth 100000
theorem u8_wf {n : Int} (h : (Lit.int .u8 n).wf = true) : 0 ≤ n ∧ n ≤ 255 := by
 have h1 : IntKind.u8.min = 0 := by decide
 have h2 : IntKind.u8.max = 255 := by decide
 simp only [Lit.wf, IntKind.has, Bool.and_eq_true, decide_eq_true_eq] at h
 rw [h1, h2] at h
 omega
section
variable {P : Program} {t : TypeId} {W : World} {r : Reach} {b0 : Nat} {v : Value}
end
section
variable {H : Type} {enc : TypeId × Value → H} {W : World} {base fuel : Nat} {spare : Nat → Bool} {held : Bool}
theorem trod_op {cs : List Value} {x : DataW H × List MemPlace} (h : DataW.trod enc Tryz.prog W base spare held fuel 68 cs = some x) : ∃ o : Opn, cs = o.cells ∧ o.ok := by
 obtain ⟨xs, n, _, _, hl, hlen, hf⟩ := DataW.trod_struct Tryz.underlying68 h
 have hC : Tryz.prog.cellsOf 68 = 16 := by kernel_rfl
 have hC8 : Tryz.prog.cellsOf 5 = 1 := by kernel_rfl
 have hCe : Tryz.prog.cellsOf 31 = 13 := by kernel_rfl
 rw [hC] at hl
 match xs, hlen, cs, hl with
 | [y0, y1, y2, y3], _, [b0, b1, b2, c0, c1, c2, c3, c4, c5, c6, c7, c8, c9, c10, c11, c12], _ =>
  have h0 : DataW.trod enc Tryz.prog W base spare held n 5 (([b0, b1, b2, c0, c1, c2, c3, c4, c5, c6, c7, c8, c9, c10, c11, c12].drop 0).take (Tryz.prog.cellsOf 5)) = [y0, y1, y2, y3][0]? := hf 0 _ rfl
  have h1 : DataW.trod enc Tryz.prog W base spare held n 5 (([b0, b1, b2, c0, c1, c2, c3, c4, c5, c6, c7, c8, c9, c10, c11, c12].drop 1).take (Tryz.prog.cellsOf 5)) = [y0, y1, y2, y3][1]? := hf 1 _ rfl
  have h2 : DataW.trod enc Tryz.prog W base spare held n 5 (([b0, b1, b2, c0, c1, c2, c3, c4, c5, c6, c7, c8, c9, c10, c11, c12].drop 2).take (Tryz.prog.cellsOf 5)) = [y0, y1, y2, y3][2]? := hf 2 _ rfl
  have h3 : DataW.trod enc Tryz.prog W base spare held n 31 (([b0, b1, b2, c0, c1, c2, c3, c4, c5, c6, c7, c8, c9, c10, c11, c12].drop 3).take (Tryz.prog.cellsOf 31)) = [y0, y1, y2, y3][3]? := hf 3 _ rfl
  simp only [hC8, hCe, List.drop_zero, List.drop_succ_cons, List.take_succ_cons, List.take_zero, List.getElem?_cons_zero, List.getElem?_cons_succ] at h0 h1 h2 h3
  obtain ⟨z0, e0, -, w0⟩ := DataW.trod_int Tryz.underlying5 h0
  obtain ⟨z1, e1, -, w1⟩ := DataW.trod_int Tryz.underlying5 h1
  obtain ⟨z2, e2, -, w2⟩ := DataW.trod_int Tryz.underlying5 h2
  obtain ⟨e, he⟩ := trod_edit h3
  simp only [List.cons.injEq, and_true] at e0 e1 e2
  subst e0 e1 e2
  refine ⟨⟨z0, z1, z2, e⟩, ?_, u8_wf w0, u8_wf w1, u8_wf w2⟩
  show _ :: _ :: _ :: _ = _
  rw [he]
  rfl
theorem ops_in {v : Value} {d : DataW H} {p : List MemPlace} {r : Reach} {b0 : Nat} (hv : Value.okWide Tryz.prog W r b0 44 v) (h : DataW.Trod enc Tryz.prog W base spare held 44 v d p) (hw : ∀ n ∈ d.weights Tryz.prog 44, n ≤ reachBytes) :
  ∃ os, OpC (factsOf W) v os := by
 obtain ⟨fuel, hf⟩ := h
 have hC : Tryz.prog.cellsOf 68 = 16 := by kernel_rfl
 have hB : Tryz.prog.bytesOf 68 = 136 := by kernel_rfl
 obtain ⟨a0, l0, c0, rfl⟩ := ok_slice Tryz.underlying44 (okw_slice Tryz.underlying44 hv)
 rcases Go.Deep.open_slice Tryz.underlying44 hf with ⟨e, _⟩ | ⟨a, len, cap, m, n, D, Pl, e, -, hl, hm, hmm, hx, hi⟩
 ·simp only [Value.cells, List.cons.injEq, and_true, List.toList_toArray] at e
  rw [e]
  exact ⟨[], ⟨none, 0, rfl, Nat.le_refl _, by simp⟩, by simp, by simp⟩
 ·simp only [Value.cells, List.cons.injEq, and_true, List.toList_toArray] at e
  rw [e]
  obtain ⟨rfl, _⟩ := Prod.mk.inj hx
  have hlm : len ≤ m := by rw [hmm]; split <;> omega
  rw [hC] at hi
  have each : ∀ i, i < m → ∃ e : Opn, (∀ j v, (e.cells)[j]? = some v → W.cell? ((a.add (i * 16)).add j) = some v) ∧ e.ok := by
   intro i him
   obtain ⟨cs', hc, ht⟩ := hi i him
   obtain ⟨_, hcl, hat⟩ := World.cells?_some hc
   obtain ⟨e, rfl, hok⟩ := trod_op ht
   refine ⟨e, fun j v hj => ?_, hok⟩
   have hj16 : j < 16 := (List.getElem?_eq_some_iff.1 hj).1
   rw [hat j hj16]
   exact hj
  have hlen : len * 136 ≤ reachBytes := by
   have := hw ((((List.range len).map D).length + ((List.range (m - len)).map fun j => D (len + j)).length) * 136) (by
    simp only [DataW.weights, Tryz.underlying44, hB]
    exact List.mem_cons_self)
   simp only [List.length_map, List.length_range] at this
   omega
  unfold reachBytes at hlen
  let f : Nat → Opn := fun i => if h : i < m then (each i h).choose else ⟨0, 0, 0, ⟨0, 0, 0, 0, ⟨0, false, 0, 0, 0⟩, 0, 0, none, 0, 0, ⟨#[]⟩⟩⟩
  have hf : ∀ i, i < len → (∀ j v, ((f i).cells)[j]? = some v → W.cell? ((a.add (i * 16)).add j) = some v) ∧ (f i).ok := by
   intro i hi'
   have him : i < m := by omega
   simp only [f, him, dif_pos]
   exact (each i him).choose_spec
  refine ⟨(List.range len).map f, ⟨some a, cap, by simp, by simpa using hl, fun i us hi' => ?_⟩, fun o ho => ?_, by simp; omega⟩
  ·rw [List.getElem?_map, List.getElem?_map] at hi'
   obtain ⟨r, hr, rfl⟩ := Option.map_eq_some_iff.1 hi'
   obtain ⟨i', hi'', rfl⟩ := Option.map_eq_some_iff.1 hr
   have hii := List.getElem?_eq_some_iff.1 hi''
   simp only [List.length_range, List.getElem_range] at hii
   obtain ⟨hlt, rfl⟩ := hii
   exact ⟨rfl, a, rfl, fun j u hj => (hf i hlt).1 j u hj⟩
  ·obtain ⟨i, hi', rfl⟩ := List.mem_map.1 ho
   exact (hf i (List.mem_range.1 hi')).2
end
end Go.Proofs.YtojckjngjfgfdaaGreat
