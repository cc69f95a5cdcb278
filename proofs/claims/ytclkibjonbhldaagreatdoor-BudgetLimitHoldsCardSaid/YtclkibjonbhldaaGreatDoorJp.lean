import Derived.Test.YtclkibjonbhldaaGreatDoorJo
import Derived.Test.YtclkibjonbhldaaGreatDoorGh
import Derived.Test.YtclkibjonbhldaaGreatDoorCards
import Derived.Test.YtclkibjonbhldaaGreatDoorTie
import Derived.OpenShut
import Derived.Deep.DeepHandedRow
import Derived.Lib.LaidTab
/- Plain lemmas of our own, no statement of the seat: how a law's row follows from a contract where its row lists the table of sizes; deeds as arguments. -/
namespace Go.Proofs.YtclkibjonbhldaaGreatDoor
set_option linter.unusedSimpArgs false
set_option linter.unusedVariables false
open Go.ChangeShapes Go.WideShapes Go.ChangeAt Go.RowKit Go.Joins Go.Proofs.YtclkibjonbhldaaGreatDoor.Vc
set_option maxRecDepth 100000
/-! ### The table -/
abbrev laidL : List (String × DataW Unit) := [("kalends/budget.sizes", Rows.laid_kalends_budget_sizes)]
theorem gSizes : Tryz.prog.globalNamed "kalends/budget.sizes" = some 0 := by kernel_rfl
theorem gSizesType : (Tryz.prog.globals[0]?).map (·.type) = some 90 := by kernel_rfl
theorem cellsSizes : Tryz.prog.cellsOf 90 = 5 := by kernel_rfl
theorem cellsInt : Tryz.prog.cellsOf 3 = 1 := by kernel_rfl
theorem szR_of {W : World} (h : laidMetH Tryz.prog laidL W) : SzR (factsOf W) := fun i hi => by
  have ht : Lib.TabIs Tryz.prog W "kalends/budget.sizes" .i64 [0, 1440, 30, 30, 1] := Lib.tabIs_of_head (rest := []) gSizes gSizesType Tryz.underlying90 Tryz.underlying3 cellsInt cellsSizes h
  exact ht.cell gSizes i hi
/-! ### The row -/
theorem lawLiftedL {os : Os} (started : os.Started) {H : Type} {enc : TypeId × Value → H} {n : Nat} {fn : Func} {s : ChangeSpec} {tb : TypeId} {F : Stop.Interp} (noInit : Tryz.checked.prog.inits.idxOf? n = none) (hfn : Tryz.checked.prog.funcs[n]? = some fn)
    (hvars : s.vars = []) (hres : fn.resultTypes = #[tb]) (hbool : Tryz.checked.prog.underlying tb = some .bool) (hread : ∀ t ∈ fn.params.toList, Tryz.prog.readableRec t = true ∧ t < Tryz.prog.types.size)
    (hs : ∀ ds : List (DataW H), ds.length = fn.params.toList.length → s.fn H ds = { results := [.lit (.bool true)], args := ds })
    (witness : ∃ (w : World) (tape : Tape) (i : Input), w.os = os ∧ (w.forCall tape i).Shaped Tryz.checked.prog ∧ i.vars = [] ∧ Input.okWide Tryz.checked.prog (w.forCall tape i) .any w.heap.size n i ∧
      (OpenSpec.ofChange s).preRow enc Tryz.checked.prog fn [] false laidL (w.forCall tape i).memory i.args ∧ Assume.holds {} Tryz.checked.prog (lone (Frame.enter Tryz.checked.prog n i.args .normal) [] (w.forCall tape i)))
    (hlaw : ∀ (W : World) (base : Nat) (args : Array Value) (ds : List (DataW H)) (ps : List MemPlace), (∀ (j : Nat) t v, fn.params[j]? = some t → args[j]? = some v → Value.okWide Tryz.prog W .any base t v) →
      DataW.TrodAll enc Tryz.prog W 0 (fun _ => true) true fn.params.toList args.toList ds ps → (DataW.weightsEach Tryz.prog fn.params.toList ds).all (· ≤ reachBytes) = true → SzR (factsOf W) →
      CallsR Tryz.prog n args.toList (factsOf W) fun _ v => v = .bool true) :
    ReturnsInHanded {} Tryz.checked os n .any ((OpenSpec.ofChange s).preRow enc Tryz.prog fn [] false laidL) (((OpenSpec.ofChange s).at F).post enc Tryz.prog fn false true false false) := by
  refine returnsInHanded_of_row (C := Tryz.checked) (s := OpenSpec.ofChange s) Tryz.own started noInit hfn witness ?_
  intro W base args ds gs before hval hW hcnd _ hwt hL _ _
  have hW : DataW.Whole enc Tryz.prog fn.params.toList s.vars false W args.toList ds gs before := hW
  have hW0 := hW
  obtain ⟨p, q, hA, hV, rfl, hfz, hnd⟩ := hW0
  rw [hvars] at hV
  obtain ⟨rfl, rfl⟩ := trodVars_none hV
  have hvt : (OpenSpec.ofChange s).bare.plain.varTypes Tryz.checked.prog = [] := by
    show s.plain.varTypes Tryz.checked.prog = []
    simp [ChangeSpec.plain, DataSpec.varTypes, hvars]
  rw [hvt, List.append_nil, List.append_nil] at hwt
  have hlt : ∀ x ∈ p ++ [], x.block < W.heap.size := fun x hx => hW.lt x hx
  rw [List.append_nil] at hlt
  refine (hlaw W base args ds p hval hA hwt (szR_of hL) W (fun a v h => h)).mono ?_
  rintro e W' ⟨v, R', rfl, -, -, hext, rfl⟩
  rw [List.append_nil] at hW
  exact ⟨_, rfl, law_post Tryz.laidOut hvars hres hbool hread (hs ds (trodAll_len hA)) hW hA hext⟩
/-- A world for the witness. -/
noncomputable def laidWorld (os : Os) : World :=
  { World.holding Tryz.prog os ⟨#[], #[], []⟩ with heap := (World.holding Tryz.prog os ⟨#[], #[], []⟩).heap.modify 0 fun
      | .cells _ t frozen => .cells #[.int .i64 0, .int .i64 1440, .int .i64 30, .int .i64 30, .int .i64 1] t frozen
      | o => o }
end Go.Proofs.YtclkibjonbhldaaGreatDoor
/- Plain lemmas of our own, no statement of the seat: numbers, arrays, deeds as a law's arguments. -/
namespace Go.Proofs.YtclkibjonbhldaaGreatDoor
set_option linter.unusedSimpArgs false
set_option linter.unusedVariables false
open Go.ChangeShapes Go.WideShapes Go.ChangeAt Go.RowKit Go.Joins Go.Proofs.YtclkibjonbhldaaGreatDoor.Vc
set_option maxRecDepth 100000
section
variable {P : Program} {t : TypeId} {W : World} {r : Reach} {b0 : Nat} {v : Value}
theorem ok_int (ht : P.underlying t = some (.int .i64)) (h : Cell.okWide P W r b0 t v) : ∃ n, v = .int .i64 n := by
  unfold Cell.okWide Cell.ok at h
  rw [ht] at h
  cases v <;> simp_all
theorem ok_bool (ht : P.underlying t = some .bool) (h : Cell.okWide P W r b0 t v) : ∃ n, v = .bool n := by
  unfold Cell.okWide Cell.ok at h
  rw [ht] at h
  cases v <;> simp_all
theorem ok_str (ht : P.underlying t = some .string) (h : Cell.okWide P W r b0 t v) : ∃ n, v = .string n := by
  unfold Cell.okWide Cell.ok at h
  rw [ht] at h
  cases v <;> simp_all
theorem ok_slice {e : TypeId} (ht : P.underlying t = some (.slice e)) (h : Cell.okWide P W r b0 t v) : ∃ a n c, v = .slice a n c := by
  unfold Cell.okWide Cell.ok at h
  rw [ht] at h
  cases v <;> simp_all
theorem ok_u8 (ht : P.underlying t = some (.int .u8)) (h : Cell.okWide P W r b0 t v) : ∃ n, v = .int .u8 n ∧ 0 ≤ n ∧ n ≤ 255 := by
  unfold Cell.okWide Cell.ok at h
  rw [ht] at h
  have h1 : IntKind.u8.min = 0 := by decide
  have h2 : IntKind.u8.max = 255 := by decide
  cases v <;> simp_all
  rename_i g
  obtain ⟨_, h⟩ := h
  unfold IntKind.has at h
  omega
theorem okw_cell {k : IntKind} (ht : P.underlying t = some (.int k)) (h : Value.okWide P W r b0 t v) : Cell.okWide P W r b0 t v := by
  unfold Value.okWide at h
  rw [ht] at h
  exact h
theorem okw_struct {fs : Array Field} {n : Nat} {ts : List TypeId} (ht : P.underlying t = some (.struct fs)) (hC : P.cellsOf t = n) (hT : P.cellTypes P.depth t = some ts) (h : Value.okWide P W r b0 t v) : ∃ cs : List Value, v = .agg cs.toArray ∧ cs.length = n ∧ ∀ i u, cs[i]? = some u → ∃ t, ts[i % ts.length]? = some t ∧ Cell.okWide P W r b0 t u := by
  unfold Value.okWide at h
  rw [ht] at h
  obtain ⟨cs, rfl, hsz, ts', hts, _, hc⟩ := h
  rw [hT] at hts
  cases hts
  rw [hC] at hsz
  exact ⟨cs.toList, rfl, hsz, fun i u hi => hc i u (by simpa using hi)⟩
theorem okw_slice {e : TypeId} (ht : P.underlying t = some (.slice e)) (h : Value.okWide P W r b0 t v) : Cell.okWide P W r b0 t v := by
  unfold Value.okWide at h
  rw [ht] at h
  exact h
theorem trod_boolP {H : Type} {enc : TypeId × Value → H} {base fuel : Nat} {spare : Nat → Bool} {held : Bool} {cs : List Value} {x : DataW H × List MemPlace} (ht : P.underlying t = some .bool) (h : DataW.trod enc P W base spare held fuel t cs = some x) : ∃ b, cs = [.bool b] := by
  cases fuel with
  | zero => simp [DataW.trod] at h
  | succ n =>
    unfold DataW.trod at h
    rw [ht] at h
    split at h <;> simp_all
theorem int_in {v : Value} (hv : Value.okWide Tryz.prog W r b0 3 v) : ∃ n, v = .int .i64 n := ok_int Tryz.underlying3 (okw_cell Tryz.underlying3 hv)
theorem u8_in {v : Value} (hv : Value.okWide Tryz.prog W r b0 5 v) : ∃ n, v = .int .u8 n ∧ 0 ≤ n ∧ n ≤ 255 := ok_u8 Tryz.underlying5 (okw_cell Tryz.underlying5 hv)
end
section
variable {H : Type} {enc : TypeId × Value → H} {W : World} {base fuel : Nat} {spare : Nat → Bool} {held : Bool}
theorem wf_kind {K : IntKind} {n lo hi : Int} (h : (Lit.int K n).wf = true) (h1 : K.min = lo) (h2 : K.max = hi) : lo ≤ n ∧ n ≤ hi := by
  simp only [Lit.wf, Bool.and_eq_true, decide_eq_true_eq] at h
  omega
/-- An array of integers. -/
theorem arr_in {K : IntKind} {lo hi : Int} {k : Nat} {r : Reach} {b0 : Nat} {t te : TypeId} {v : Value} {d : DataW H} {p : List MemPlace} (ht : Tryz.prog.underlying t = some (.array k te)) (hte : Tryz.prog.underlying te = some (.int K)) (h1 : K.min = lo) (h2 : K.max = hi) (hC : Tryz.prog.cellsOf t = k) (hC3 : Tryz.prog.cellsOf te = 1)
    (hv : Value.okWide Tryz.prog W r b0 t v) (h : DataW.Trod enc Tryz.prog W base spare held t v d p) :
    ∃ xs : List Int, xs.length = k ∧ v = .agg (xs.map (.int K)).toArray ∧ ∀ x ∈ xs, lo ≤ x ∧ x ≤ hi := by
  obtain ⟨cs, rfl, hsz⟩ : ∃ cs : Array Value, v = .agg cs ∧ cs.size = k := by
    cases v <;> simp [Value.okWide, ht] at hv
    rename_i cs
    exact ⟨cs, rfl, by rw [← hC]; exact hv.1⟩
  obtain ⟨fuel, hf⟩ := h
  obtain ⟨xs, m, -, -, hl, hxl, hi'⟩ := DataW.trod_array ht hf
  have each : ∀ i, (hik : i < cs.size) → ∃ z, cs[i] = .int K z ∧ (lo ≤ z ∧ z ≤ hi) := by
    intro i hik
    have h3 := hi' i (by omega)
    rw [hC3, Nat.mul_one] at h3
    have hx : xs[i]? = some (xs[i]'(by omega)) := List.getElem?_eq_getElem _
    rw [hx] at h3
    have hd : (cs.toList.drop i).take 1 = [cs[i]] := by
      rw [List.drop_eq_getElem_cons (by simpa using hik)]
      simp
    simp only [Value.cells] at h3
    rw [hd] at h3
    obtain ⟨z, e, -, w⟩ := DataW.trod_int hte h3
    simp only [List.cons.injEq, and_true] at e
    exact ⟨z, e, wf_kind w h1 h2⟩
  let g : Nat → Int := fun i => if h : i < cs.size then (each i h).choose else 0
  refine ⟨(List.range cs.size).map g, by simpa using hsz, ?_, fun x hx => ?_⟩
  · congr 1
    apply Array.ext
    · simp
    · intro i h1 h2
      simp only [List.getElem_toArray, List.getElem_map, List.getElem_range, g, h1, dif_pos]
      exact (each i h1).choose_spec.1
  · obtain ⟨i, hi', rfl⟩ := List.mem_map.1 hx
    have h1 := List.mem_range.1 hi'
    simp only [g, h1, dif_pos]
    exact (each i h1).choose_spec.2
theorem trod_deed {cs : List Value} {x : DataW H × List MemPlace} (h : DataW.trod enc Tryz.prog W base spare held fuel 30 cs = some x) : ∃ e : Dd, cs = e.cells := by
  obtain ⟨xs, n, _, _, hl, hlen, hf⟩ := DataW.trod_struct Tryz.underlying30 h
  have hC : Tryz.prog.cellsOf 30 = 7 := by kernel_rfl
  have hC3 : Tryz.prog.cellsOf 3 = 1 := by kernel_rfl
  have hC4 : Tryz.prog.cellsOf 4 = 1 := by kernel_rfl
  rw [hC] at hl
  match xs, hlen, cs, hl with
  | [y0, y1, y2, y3, y4, y5, y6], _, [c0, c1, c2, c3, c4, c5, c6], _ =>
    have h0 : DataW.trod enc Tryz.prog W base spare held n 4 (([c0, c1, c2, c3, c4, c5, c6].drop 0).take (Tryz.prog.cellsOf 4)) = [y0, y1, y2, y3, y4, y5, y6][0]? := hf 0 _ rfl
    have h1 : DataW.trod enc Tryz.prog W base spare held n 3 (([c0, c1, c2, c3, c4, c5, c6].drop 1).take (Tryz.prog.cellsOf 3)) = [y0, y1, y2, y3, y4, y5, y6][1]? := hf 1 _ rfl
    have h2 : DataW.trod enc Tryz.prog W base spare held n 3 (([c0, c1, c2, c3, c4, c5, c6].drop 2).take (Tryz.prog.cellsOf 3)) = [y0, y1, y2, y3, y4, y5, y6][2]? := hf 2 _ rfl
    have h3 : DataW.trod enc Tryz.prog W base spare held n 3 (([c0, c1, c2, c3, c4, c5, c6].drop 3).take (Tryz.prog.cellsOf 3)) = [y0, y1, y2, y3, y4, y5, y6][3]? := hf 3 _ rfl
    have h4 : DataW.trod enc Tryz.prog W base spare held n 3 (([c0, c1, c2, c3, c4, c5, c6].drop 4).take (Tryz.prog.cellsOf 3)) = [y0, y1, y2, y3, y4, y5, y6][4]? := hf 4 _ rfl
    have h5 : DataW.trod enc Tryz.prog W base spare held n 3 (([c0, c1, c2, c3, c4, c5, c6].drop 5).take (Tryz.prog.cellsOf 3)) = [y0, y1, y2, y3, y4, y5, y6][5]? := hf 5 _ rfl
    have h6 : DataW.trod enc Tryz.prog W base spare held n 3 (([c0, c1, c2, c3, c4, c5, c6].drop 6).take (Tryz.prog.cellsOf 3)) = [y0, y1, y2, y3, y4, y5, y6][6]? := hf 6 _ rfl
    simp only [hC3, hC4, List.drop_zero, List.drop_succ_cons, List.take_succ_cons, List.take_zero, List.getElem?_cons_zero, List.getElem?_cons_succ] at h0 h1 h2 h3 h4 h5 h6
    obtain ⟨z0, e0⟩ := trod_boolP Tryz.underlying4 h0
    obtain ⟨z1, e1, -, -⟩ := DataW.trod_int Tryz.underlying3 h1
    obtain ⟨z2, e2, -, -⟩ := DataW.trod_int Tryz.underlying3 h2
    obtain ⟨z3, e3, -, -⟩ := DataW.trod_int Tryz.underlying3 h3
    obtain ⟨z4, e4, -, -⟩ := DataW.trod_int Tryz.underlying3 h4
    obtain ⟨z5, e5, -, -⟩ := DataW.trod_int Tryz.underlying3 h5
    obtain ⟨z6, e6, -, -⟩ := DataW.trod_int Tryz.underlying3 h6
    simp only [List.cons.injEq, and_true] at e0 e1 e2 e3 e4 e5 e6
    subst e0 e1 e2 e3 e4 e5 e6
    exact ⟨⟨z0, z1, z2, z3, z4, z5, z6⟩, rfl⟩
theorem deeds_in {v : Value} {d : DataW H} {p : List MemPlace} {r : Reach} {b0 : Nat} (hv : Value.okWide Tryz.prog W r b0 22 v) (h : DataW.Trod enc Tryz.prog W base spare held 22 v d p) (hw : ∀ n ∈ d.weights Tryz.prog 22, n ≤ reachBytes) :
    ∃ es, DdV (factsOf W) v es := by
  obtain ⟨fuel, hf⟩ := h
  have hC : Tryz.prog.cellsOf 30 = 7 := by kernel_rfl
  have hB : Tryz.prog.bytesOf 30 = 56 := by kernel_rfl
  obtain ⟨a0, l0, c0, rfl⟩ := ok_slice Tryz.underlying22 (okw_slice Tryz.underlying22 hv)
  rcases Go.Deep.open_slice Tryz.underlying22 hf with ⟨e, _⟩ | ⟨a, len, cap, m, n, D, Pl, e, -, hl, hm, hmm, hx, hi⟩
  · simp only [Value.cells, List.cons.injEq, and_true, List.toList_toArray] at e
    rw [e]
    exact ⟨[], ⟨none, 0, rfl, Nat.le_refl _, by simp⟩, by simp⟩
  · simp only [Value.cells, List.cons.injEq, and_true, List.toList_toArray] at e
    rw [e]
    obtain ⟨rfl, _⟩ := Prod.mk.inj hx
    have hlm : len ≤ m := by rw [hmm]; split <;> omega
    rw [hC] at hi
    have each : ∀ i, i < m → ∃ e : Dd, ∀ j v, (e.cells)[j]? = some v → W.cell? ((a.add (i * 7)).add j) = some v := by
      intro i him
      obtain ⟨cs', hc, ht⟩ := hi i him
      obtain ⟨_, hcl, hat⟩ := World.cells?_some hc
      obtain ⟨e, rfl⟩ := trod_deed ht
      refine ⟨e, fun j v hj => ?_⟩
      have hj7 : j < 7 := (List.getElem?_eq_some_iff.1 hj).1
      rw [hat j hj7]
      exact hj
    have hlen : len * 56 ≤ reachBytes := by
      have := hw ((((List.range len).map D).length + ((List.range (m - len)).map fun j => D (len + j)).length) * 56) (by
        simp only [DataW.weights, Tryz.underlying22, hB]
        exact List.mem_cons_self)
      simp only [List.length_map, List.length_range] at this
      omega
    unfold reachBytes at hlen
    let f : Nat → Dd := fun i => if h : i < m then (each i h).choose else ⟨false, 0, 0, 0, 0, 0, 0⟩
    have hf : ∀ i, i < len → ∀ j v, ((f i).cells)[j]? = some v → W.cell? ((a.add (i * 7)).add j) = some v := by
      intro i hi'
      have him : i < m := by omega
      simp only [f, him, dif_pos]
      exact (each i him).choose_spec
    refine ⟨(List.range len).map f, ⟨some a, cap, by simp, by simpa using hl, fun i us hi' => ?_⟩, by simp; omega⟩
    rw [List.getElem?_map, List.getElem?_map] at hi'
    obtain ⟨r, hr, rfl⟩ := Option.map_eq_some_iff.1 hi'
    obtain ⟨i', hi'', rfl⟩ := Option.map_eq_some_iff.1 hr
    have hii := List.getElem?_eq_some_iff.1 hi''
    simp only [List.length_range, List.getElem_range] at hii
    obtain ⟨hlt, rfl⟩ := hii
    exact ⟨rfl, a, rfl, fun j u hj => hf i hlt j u hj⟩
theorem each_weight {ts : List TypeId} {ds : List (DataW H)} (h : (DataW.weightsEach Tryz.prog ts ds).all (· ≤ reachBytes) = true) {j : Nat} {t : TypeId} {d : DataW H} (ht : ts[j]? = some t) (hd : ds[j]? = some d) : ∀ n ∈ d.weights Tryz.prog t, n ≤ reachBytes := fun n hn => by
  have := List.all_eq_true.1 h n (DataW.weights_mem_each ht hd n hn)
  simpa using this
end
end Go.Proofs.YtclkibjonbhldaaGreatDoor
