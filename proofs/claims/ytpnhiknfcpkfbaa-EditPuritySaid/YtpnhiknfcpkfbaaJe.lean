/- Plain lemmas of our own, no statement of the seat: edits, lists of edits, numbers, as a law's arguments. -/
import Derived.Test.YtpnhiknfcpkfbaaJo
import Derived.Test.YtpnhiknfcpkfbaaFd
namespace Go.Proofs.Ytpnhiknfcpkfbaa
set_option linter.unusedSimpArgs false
set_option linter.unusedVariables false
open Go.ChangeShapes Go.WideShapes Go.ChangeAt Go.RowKit Go.Joins Go.Proofs.Ytpnhiknfcpkfbaa.Vc
set_option maxRecDepth 100000
section
variable {P : Program} {t : TypeId} {W : World} {r : Reach} {b0 : Nat} {v : Value}
theorem ok_int (ht : P.underlying t = some (.int .i64)) (h : Cell.okWide P W r b0 t v) : ∃ n, v = .int .i64 n := by
  unfold Cell.okWide Cell.ok at h
  rw [ht] at h
  cases v <;> simp_all
theorem ok_bool (ht : P.underlying t = some .bool) (h : Cell.okWide P W r b0 t v) : ∃ n, v = .bool n := by
  unfold Cell.okWide Cell.ok at h
  rw [ht] at h
  cases v <;> simp_all
theorem ok_str (ht : P.underlying t = some .string) (h : Cell.okWide P W r b0 t v) : ∃ n, v = .string n := by
  unfold Cell.okWide Cell.ok at h
  rw [ht] at h
  cases v <;> simp_all
theorem ok_slice {e : TypeId} (ht : P.underlying t = some (.slice e)) (h : Cell.okWide P W r b0 t v) : ∃ a n c, v = .slice a n c := by
  unfold Cell.okWide Cell.ok at h
  rw [ht] at h
  cases v <;> simp_all
theorem ok_u8 (ht : P.underlying t = some (.int .u8)) (h : Cell.okWide P W r b0 t v) : ∃ n, v = .int .u8 n ∧ 0 ≤ n ∧ n ≤ 255 := by
  unfold Cell.okWide Cell.ok at h
  rw [ht] at h
  have h1 : IntKind.u8.min = 0 := by decide
  have h2 : IntKind.u8.max = 255 := by decide
  cases v <;> simp_all
  rename_i g
  obtain ⟨_, h⟩ := h
  unfold IntKind.has at h
  omega
theorem okw_cell {k : IntKind} (ht : P.underlying t = some (.int k)) (h : Value.okWide P W r b0 t v) : Cell.okWide P W r b0 t v := by
  unfold Value.okWide at h
  rw [ht] at h
  exact h
theorem okw_struct {fs : Array Field} {n : Nat} {ts : List TypeId} (ht : P.underlying t = some (.struct fs)) (hC : P.cellsOf t = n) (hT : P.cellTypes P.depth t = some ts) (h : Value.okWide P W r b0 t v) : ∃ cs : List Value, v = .agg cs.toArray ∧ cs.length = n ∧ ∀ i u, cs[i]? = some u → ∃ t, ts[i % ts.length]? = some t ∧ Cell.okWide P W r b0 t u := by
  unfold Value.okWide at h
  rw [ht] at h
  obtain ⟨cs, rfl, hsz, ts', hts, _, hc⟩ := h
  rw [hT] at hts
  cases hts
  rw [hC] at hsz
  exact ⟨cs.toList, rfl, hsz, fun i u hi => hc i u (by simpa using hi)⟩
theorem okw_slice {e : TypeId} (ht : P.underlying t = some (.slice e)) (h : Value.okWide P W r b0 t v) : Cell.okWide P W r b0 t v := by
  unfold Value.okWide at h
  rw [ht] at h
  exact h
theorem trod_boolP {H : Type} {enc : TypeId × Value → H} {base fuel : Nat} {spare : Nat → Bool} {held : Bool} {cs : List Value} {x : DataW H × List MemPlace} (ht : P.underlying t = some .bool) (h : DataW.trod enc P W base spare held fuel t cs = some x) : ∃ b, cs = [.bool b] := by
  cases fuel with
  | zero => simp [DataW.trod] at h
  | succ n =>
    unfold DataW.trod at h
    rw [ht] at h
    split at h <;> simp_all
theorem ed_in {v : Value} (hv : Value.okWide Try.prog W r b0 27 v) : ∃ e : Ed, v = e.val := by
  obtain ⟨cs, rfl, hsz, hc⟩ := okw_struct Try.underlying27 (n := 13) (ts := [3, 3, 3, 3, 3, 4, 3, 3, 3, 3, 3, 25, 9]) (by kernel_rfl) (by kernel_rfl) hv
  match cs, hsz with
  | [c0, c1, c2, c3, c4, c5, c6, c7, c8, c9, c10, c11, c12], _ =>
    obtain ⟨u, hu, k0⟩ := hc 0 c0 rfl
    cases hu
    obtain ⟨u, hu, k1⟩ := hc 1 c1 rfl
    cases hu
    obtain ⟨u, hu, k2⟩ := hc 2 c2 rfl
    cases hu
    obtain ⟨u, hu, k3⟩ := hc 3 c3 rfl
    cases hu
    obtain ⟨u, hu, k4⟩ := hc 4 c4 rfl
    cases hu
    obtain ⟨u, hu, k5⟩ := hc 5 c5 rfl
    cases hu
    obtain ⟨u, hu, k6⟩ := hc 6 c6 rfl
    cases hu
    obtain ⟨u, hu, k7⟩ := hc 7 c7 rfl
    cases hu
    obtain ⟨u, hu, k8⟩ := hc 8 c8 rfl
    cases hu
    obtain ⟨u, hu, k9⟩ := hc 9 c9 rfl
    cases hu
    obtain ⟨u, hu, k10⟩ := hc 10 c10 rfl
    cases hu
    obtain ⟨u, hu, k11⟩ := hc 11 c11 rfl
    cases hu
    obtain ⟨u, hu, k12⟩ := hc 12 c12 rfl
    cases hu
    obtain ⟨n0, rfl⟩ := ok_int Try.underlying3 k0
    obtain ⟨n1, rfl⟩ := ok_int Try.underlying3 k1
    obtain ⟨n2, rfl⟩ := ok_int Try.underlying3 k2
    obtain ⟨n3, rfl⟩ := ok_int Try.underlying3 k3
    obtain ⟨n4, rfl⟩ := ok_int Try.underlying3 k4
    obtain ⟨n5, rfl⟩ := ok_bool Try.underlying4 k5
    obtain ⟨n6, rfl⟩ := ok_int Try.underlying3 k6
    obtain ⟨n7, rfl⟩ := ok_int Try.underlying3 k7
    obtain ⟨n8, rfl⟩ := ok_int Try.underlying3 k8
    obtain ⟨n9, rfl⟩ := ok_int Try.underlying3 k9
    obtain ⟨n10, rfl⟩ := ok_int Try.underlying3 k10
    obtain ⟨a, n, c, rfl⟩ := ok_slice Try.underlying25 k11
    obtain ⟨z, rfl⟩ := ok_str Try.underlying9 k12
    exact ⟨⟨n0, n1, n2, n3, ⟨n4, n5, n6, n7, n8⟩, n9, n10, a, n, c, z⟩, rfl⟩
theorem int_in {v : Value} (hv : Value.okWide Try.prog W r b0 3 v) : ∃ n, v = .int .i64 n := ok_int Try.underlying3 (okw_cell Try.underlying3 hv)
theorem u8_in {v : Value} (hv : Value.okWide Try.prog W r b0 5 v) : ∃ n, v = .int .u8 n ∧ 0 ≤ n ∧ n ≤ 255 := ok_u8 Try.underlying5 (okw_cell Try.underlying5 hv)
end
section
variable {H : Type} {enc : TypeId × Value → H} {W : World} {base fuel : Nat} {spare : Nat → Bool} {held : Bool}
theorem trod_edit {cs : List Value} {x : DataW H × List MemPlace} (h : DataW.trod enc Try.prog W base spare held fuel 27 cs = some x) : ∃ e : Ed, cs = e.cells := by
  obtain ⟨xs, n, _, _, hl, hlen, hf⟩ := DataW.trod_struct Try.underlying27 h
  have hC : Try.prog.cellsOf 27 = 13 := by kernel_rfl
  have hC3 : Try.prog.cellsOf 3 = 1 := by kernel_rfl
  have hC4 : Try.prog.cellsOf 4 = 1 := by kernel_rfl
  have hC9 : Try.prog.cellsOf 9 = 1 := by kernel_rfl
  have hCr : Try.prog.cellsOf 25 = 1 := by kernel_rfl
  have hCm : Try.prog.cellsOf 23 = 5 := by kernel_rfl
  rw [hC] at hl
  match xs, hlen, cs, hl with
  | [y0, y1, y2, y3, y4, y5, y6, y7, y8], _, [c0, c1, c2, c3, c4, c5, c6, c7, c8, c9, c10, c11, c12], _ =>
    have h0 : DataW.trod enc Try.prog W base spare held n 3 (([c0, c1, c2, c3, c4, c5, c6, c7, c8, c9, c10, c11, c12].drop 0).take (Try.prog.cellsOf 3)) = [y0, y1, y2, y3, y4, y5, y6, y7, y8][0]? := hf 0 _ rfl
    have h1 : DataW.trod enc Try.prog W base spare held n 3 (([c0, c1, c2, c3, c4, c5, c6, c7, c8, c9, c10, c11, c12].drop 1).take (Try.prog.cellsOf 3)) = [y0, y1, y2, y3, y4, y5, y6, y7, y8][1]? := hf 1 _ rfl
    have h2 : DataW.trod enc Try.prog W base spare held n 3 (([c0, c1, c2, c3, c4, c5, c6, c7, c8, c9, c10, c11, c12].drop 2).take (Try.prog.cellsOf 3)) = [y0, y1, y2, y3, y4, y5, y6, y7, y8][2]? := hf 2 _ rfl
    have h3 : DataW.trod enc Try.prog W base spare held n 3 (([c0, c1, c2, c3, c4, c5, c6, c7, c8, c9, c10, c11, c12].drop 3).take (Try.prog.cellsOf 3)) = [y0, y1, y2, y3, y4, y5, y6, y7, y8][3]? := hf 3 _ rfl
    have h4 : DataW.trod enc Try.prog W base spare held n 23 (([c0, c1, c2, c3, c4, c5, c6, c7, c8, c9, c10, c11, c12].drop 4).take (Try.prog.cellsOf 23)) = [y0, y1, y2, y3, y4, y5, y6, y7, y8][4]? := hf 4 _ rfl
    have h5 : DataW.trod enc Try.prog W base spare held n 3 (([c0, c1, c2, c3, c4, c5, c6, c7, c8, c9, c10, c11, c12].drop 9).take (Try.prog.cellsOf 3)) = [y0, y1, y2, y3, y4, y5, y6, y7, y8][5]? := hf 5 _ rfl
    have h6 : DataW.trod enc Try.prog W base spare held n 3 (([c0, c1, c2, c3, c4, c5, c6, c7, c8, c9, c10, c11, c12].drop 10).take (Try.prog.cellsOf 3)) = [y0, y1, y2, y3, y4, y5, y6, y7, y8][6]? := hf 6 _ rfl
    have h7 : DataW.trod enc Try.prog W base spare held n 25 (([c0, c1, c2, c3, c4, c5, c6, c7, c8, c9, c10, c11, c12].drop 11).take (Try.prog.cellsOf 25)) = [y0, y1, y2, y3, y4, y5, y6, y7, y8][7]? := hf 7 _ rfl
    have h8 : DataW.trod enc Try.prog W base spare held n 9 (([c0, c1, c2, c3, c4, c5, c6, c7, c8, c9, c10, c11, c12].drop 12).take (Try.prog.cellsOf 9)) = [y0, y1, y2, y3, y4, y5, y6, y7, y8][8]? := hf 8 _ rfl
    simp only [hC3, hC9, hCr, hCm, List.drop_zero, List.drop_succ_cons, List.take_succ_cons, List.take_zero, List.getElem?_cons_zero, List.getElem?_cons_succ] at h0 h1 h2 h3 h4 h5 h6 h7 h8
    obtain ⟨z0, e0, -, -⟩ := DataW.trod_int Try.underlying3 h0
    obtain ⟨z1, e1, -, -⟩ := DataW.trod_int Try.underlying3 h1
    obtain ⟨z2, e2, -, -⟩ := DataW.trod_int Try.underlying3 h2
    obtain ⟨z3, e3, -, -⟩ := DataW.trod_int Try.underlying3 h3
    obtain ⟨z5, e5, -, -⟩ := DataW.trod_int Try.underlying3 h5
    obtain ⟨z6, e6, -, -⟩ := DataW.trod_int Try.underlying3 h6
    obtain ⟨z8, e8, -, -⟩ := DataW.trod_string Try.underlying9 h8
    obtain ⟨ms, n', _, _, _, hlen', hf'⟩ := DataW.trod_struct Try.underlying23 h4
    obtain ⟨a, l, c, e7⟩ : ∃ a l c, [c11] = [Value.slice a l c] := by
      rcases DataW.trod_slice Try.underlying25 h7 with ⟨e, _⟩ | ⟨a, l, c, _, _, _, _, e, _⟩
      · exact ⟨_, _, _, e⟩
      · exact ⟨_, _, _, e⟩
    match ms, hlen' with
    | [y0', y1', y2', y3', y4'], _ =>
      have k0 : DataW.trod enc Try.prog W base spare held n' 3 (([c4, c5, c6, c7, c8].drop 0).take (Try.prog.cellsOf 3)) = [y0', y1', y2', y3', y4'][0]? := hf' 0 _ rfl
      have k1 : DataW.trod enc Try.prog W base spare held n' 4 (([c4, c5, c6, c7, c8].drop 1).take (Try.prog.cellsOf 4)) = [y0', y1', y2', y3', y4'][1]? := hf' 1 _ rfl
      have k2 : DataW.trod enc Try.prog W base spare held n' 3 (([c4, c5, c6, c7, c8].drop 2).take (Try.prog.cellsOf 3)) = [y0', y1', y2', y3', y4'][2]? := hf' 2 _ rfl
      have k3 : DataW.trod enc Try.prog W base spare held n' 3 (([c4, c5, c6, c7, c8].drop 3).take (Try.prog.cellsOf 3)) = [y0', y1', y2', y3', y4'][3]? := hf' 3 _ rfl
      have k4 : DataW.trod enc Try.prog W base spare held n' 3 (([c4, c5, c6, c7, c8].drop 4).take (Try.prog.cellsOf 3)) = [y0', y1', y2', y3', y4'][4]? := hf' 4 _ rfl
      simp only [hC3, hC4, List.drop_zero, List.drop_succ_cons, List.take_succ_cons, List.take_zero, List.getElem?_cons_zero, List.getElem?_cons_succ] at k0 k1 k2 k3 k4
      obtain ⟨w0, g0, -, -⟩ := DataW.trod_int Try.underlying3 k0
      obtain ⟨w2, g2, -, -⟩ := DataW.trod_int Try.underlying3 k2
      obtain ⟨w3, g3, -, -⟩ := DataW.trod_int Try.underlying3 k3
      obtain ⟨w4, g4, -, -⟩ := DataW.trod_int Try.underlying3 k4
      obtain ⟨w1, g1⟩ := trod_boolP Try.underlying4 k1
      simp only [List.cons.injEq, and_true] at e0 e1 e2 e3 e5 e6 e7 e8 g0 g1 g2 g3 g4
      subst e0 e1 e2 e3 e5 e6 e7 e8 g0 g1 g2 g3 g4
      exact ⟨⟨z0, z1, z2, z3, ⟨w0, w1, w2, w3, w4⟩, z5, z6, a, l, c, z8⟩, rfl⟩
theorem eds_in {v : Value} {d : DataW H} {p : List MemPlace} {r : Reach} {b0 : Nat} (hv : Value.okWide Try.prog W r b0 32 v) (h : DataW.Trod enc Try.prog W base spare held 32 v d p) (hw : ∀ n ∈ d.weights Try.prog 32, n ≤ reachBytes) :
    ∃ es, EdC (factsOf W) v es ∧ es.length ≤ 1099511627776 := by
  obtain ⟨fuel, hf⟩ := h
  have hC : Try.prog.cellsOf 27 = 13 := by kernel_rfl
  have hB : Try.prog.bytesOf 27 = 128 := by kernel_rfl
  obtain ⟨a0, l0, c0, rfl⟩ := ok_slice Try.underlying32 (okw_slice Try.underlying32 hv)
  rcases Go.Deep.open_slice Try.underlying32 hf with ⟨e, _⟩ | ⟨a, len, cap, m, n, D, Pl, e, -, hl, hm, hmm, hx, hi⟩
  · simp only [Value.cells, List.cons.injEq, and_true, List.toList_toArray] at e
    rw [e]
    exact ⟨[], ⟨none, 0, rfl, Nat.le_refl _, by simp⟩, by simp⟩
  · simp only [Value.cells, List.cons.injEq, and_true, List.toList_toArray] at e
    rw [e]
    obtain ⟨rfl, _⟩ := Prod.mk.inj hx
    have hlm : len ≤ m := by rw [hmm]; split <;> omega
    rw [hC] at hi
    have each : ∀ i, i < m → ∃ e : Ed, ∀ j v, (e.cells)[j]? = some v → W.cell? ((a.add (i * 13)).add j) = some v := by
      intro i him
      obtain ⟨cs', hc, ht⟩ := hi i him
      obtain ⟨_, hcl, hat⟩ := World.cells?_some hc
      obtain ⟨e, rfl⟩ := trod_edit ht
      refine ⟨e, fun j v hj => ?_⟩
      have hj13 : j < 13 := (List.getElem?_eq_some_iff.1 hj).1
      rw [hat j hj13]
      exact hj
    have hlen : len * 128 ≤ reachBytes := by
      have := hw ((((List.range len).map D).length + ((List.range (m - len)).map fun j => D (len + j)).length) * 128) (by
        simp only [DataW.weights, Try.underlying32, hB]
        exact List.mem_cons_self)
      simp only [List.length_map, List.length_range] at this
      omega
    unfold reachBytes at hlen
    let f : Nat → Ed := fun i => if h : i < m then (each i h).choose else ⟨0, 0, 0, 0, ⟨0, false, 0, 0, 0⟩, 0, 0, none, 0, 0, ⟨#[]⟩⟩
    have hf : ∀ i, i < len → ∀ j v, ((f i).cells)[j]? = some v → W.cell? ((a.add (i * 13)).add j) = some v := by
      intro i hi'
      have him : i < m := by omega
      simp only [f, him, dif_pos]
      exact (each i him).choose_spec
    refine ⟨(List.range len).map f, ⟨some a, cap, by simp, by simpa using hl, fun i us hi' => ?_⟩, by simp; omega⟩
    rw [List.getElem?_map, List.getElem?_map] at hi'
    obtain ⟨r, hr, rfl⟩ := Option.map_eq_some_iff.1 hi'
    obtain ⟨i', hi'', rfl⟩ := Option.map_eq_some_iff.1 hr
    have hii := List.getElem?_eq_some_iff.1 hi''
    simp only [List.length_range, List.getElem_range] at hii
    obtain ⟨hlt, rfl⟩ := hii
    exact ⟨rfl, a, rfl, fun j u hj => hf i hlt j u hj⟩
theorem each_weight {ts : List TypeId} {ds : List (DataW H)} (h : (DataW.weightsEach Try.prog ts ds).all (· ≤ reachBytes) = true) {j : Nat} {t : TypeId} {d : DataW H} (ht : ts[j]? = some t) (hd : ds[j]? = some d) : ∀ n ∈ d.weights Try.prog t, n ≤ reachBytes := fun n hn => by
  have := List.all_eq_true.1 h n (DataW.weights_mem_each ht hd n hn)
  simpa using this
end
end Go.Proofs.Ytpnhiknfcpkfbaa
