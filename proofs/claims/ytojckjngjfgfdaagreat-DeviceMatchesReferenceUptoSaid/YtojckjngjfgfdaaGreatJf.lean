/- Plain lemmas of our own, no statement of the seat: devices as a law's arguments, read to the bottom, where they are of small bulk; a law's row in its second form. -/
import Derived.Test.YtojckjngjfgfdaaGreatJe
import Derived.Test.YtojckjngjfgfdaaGreatDn
import Derived.JoinedCond
import Derived.OpenShut
import Derived.Deep.CondSized
namespace Go.Proofs.YtojckjngjfgfdaaGreat
set_option linter.unusedSimpArgs false
set_option linter.unusedVariables false
open Go.ChangeShapes Go.WideShapes Go.ChangeAt Go.RowKit Go.Joins Go.Proofs.YtojckjngjfgfdaaGreat.Vc
set_option maxRecDepth 100000
section
variable {H : Type} {enc : TypeId × Value → H} {W : World} {base fuel : Nat} {spare : Nat → Bool} {held : Bool}
theorem bulk1 (d : DataW H) : 1 ≤ Rows.uptoBulk d := by
  cases d with
  | lit l => cases l <;> simp [Rows.uptoBulk]
  | _ => simp [Rows.uptoBulk]
theorem bulk_part {d : DataW H} : ∀ {l : List (DataW H)}, d ∈ l → Rows.uptoBulk d ≤ Rows.uptoBulkAll l
  | x :: l, h => by
    simp only [Rows.uptoBulkAll]
    rcases List.mem_cons.1 h with rfl | h
    · omega
    · have := bulk_part h; omega
theorem bulk_len : ∀ l : List (DataW H), l.length ≤ Rows.uptoBulkAll l
  | [] => by simp [Rows.uptoBulkAll]
  | x :: l => by have := bulk1 x; have := bulk_len l; simp only [Rows.uptoBulkAll, List.length_cons]; omega
theorem bulk_app : ∀ l r : List (DataW H), Rows.uptoBulkAll (l ++ r) = Rows.uptoBulkAll l + Rows.uptoBulkAll r
  | [], r => by simp [Rows.uptoBulkAll]
  | x :: l, r => by simp only [List.cons_append, Rows.uptoBulkAll, bulk_app l r]; omega
theorem trod_intsB {cs : List Value} {x : DataW H × List MemPlace} (h : DataW.trod enc Tryz.prog W base spare held fuel 95 cs = some x) (hb : Rows.uptoBulk x.1 ≤ 1048576) :
    ∃ v xs, cs = [v] ∧ Ints (factsOf W) v xs ∧ xs.length ≤ 1048576 := by
  rcases open_ints Tryz.underlying95 Tryz.underlying3 (by kernel_rfl) h with ⟨rfl, rfl⟩ | ⟨a, len, cap, zs, rfl, -, hl, hm, hz, rfl, hcell, hwf⟩
  · exact ⟨_, [], rfl, Ints.nil _, by simp⟩
  · have hlen : len ≤ zs.length := by rw [hz]; split <;> omega
    refine ⟨_, zs.take len, rfl, ⟨some a, cap, by simp [List.length_take, Nat.min_eq_left hlen], by simp [List.length_take]; omega, fun i u hi => ⟨a, rfl, ?_⟩⟩, ?_⟩
    · rw [List.getElem?_map] at hi
      obtain ⟨z, hz', rfl⟩ := Option.map_eq_some_iff.1 hi
      rw [List.getElem?_take] at hz'
      split at hz'
      · rename_i hil
        have := hcell i (by omega)
        rw [List.getD_eq_getElem?_getD, hz', Option.getD_some] at this
        exact this
      · cases hz'
    · have h1 := bulk_len (lits .i64 (zs.take len) : List (DataW H))
      simp only [Rows.uptoBulk] at hb
      simp only [lits, List.length_map] at h1
      simp only [lits] at hb
      omega
/-- A slice read to the bottom: its elements' cells, each with what it is. -/
theorem slice_deep {α : Type} {t e : TypeId} {k : Nat} (mk : List Value → α → Prop) (ht : Tryz.prog.underlying t = some (.slice e)) (hC : Tryz.prog.cellsOf e = k)
    (each : ∀ (fuel : Nat) (cs : List Value) (x : DataW H × List MemPlace), DataW.trod enc Tryz.prog W base spare held fuel e cs = some x → Rows.uptoBulk x.1 ≤ 1048576 → cs.length = k → ∃ a : α, mk cs a)
    {cs : List Value} {x : DataW H × List MemPlace} (h : DataW.trod enc Tryz.prog W base spare held fuel t cs = some x) (hb : Rows.uptoBulk x.1 ≤ 1048576) :
    ∃ (v : Value) (css : List (List Value)) (ys : List α), cs = [v] ∧ SlK (factsOf W) v k css ∧ css.length = ys.length ∧ (∀ (i : Nat) (c : List Value) (a : α), css[i]? = some c → ys[i]? = some a → mk c a) ∧ ys.length ≤ 1000000000 := by
  rcases Go.Deep.open_slice ht h with ⟨rfl, _⟩ | ⟨a, len, cap, m, n, D, Pl, rfl, -, hl, hm, hmm, rfl, hi⟩
  · exact ⟨_, [], [], rfl, ⟨none, 0, rfl, Nat.le_refl _, by simp⟩, rfl, by simp, by simp⟩
  · have hlm : len ≤ m := by rw [hmm]; split <;> omega
    rw [hC] at hi
    simp only [Rows.uptoBulk] at hb
    have hlen : len ≤ 1048576 := by
      have := bulk_len ((List.range len).map D)
      rw [List.length_map, List.length_range] at this
      omega
    have ex : ∀ i, i < len → ∃ (c : List Value) (y : α), c.length = k ∧ (∀ j v, c[j]? = some v → W.cell? ((a.add (i * k)).add j) = some v) ∧ mk c y := fun i hil => by
      obtain ⟨cs', hc, htr⟩ := hi i (by omega)
      obtain ⟨_, hcl, hat⟩ := World.cells?_some hc
      have hbd : Rows.uptoBulk (D i) ≤ 1048576 := by
        have := bulk_part (d := D i) (l := (List.range len).map D) (List.mem_map.2 ⟨i, by simpa using hil, rfl⟩)
        omega
      obtain ⟨y, hy⟩ := each n cs' _ htr hbd hcl
      exact ⟨cs', y, hcl, fun j v hj => by rw [hat j (by rw [← hcl]; exact (List.getElem?_eq_some_iff.1 hj).1)]; exact hj, hy⟩
    by_cases h0 : len = 0
    · subst h0
      exact ⟨_, [], [], rfl, ⟨some a, cap, rfl, Nat.zero_le _, by simp⟩, rfl, by simp, by simp⟩
    obtain ⟨c0, y0, _⟩ := ex 0 (by omega)
    let fc : Nat → List Value := fun i => if h : i < len then (ex i h).choose else c0
    let fy : Nat → α := fun i => if h : i < len then (ex i h).choose_spec.choose else y0
    have hf : ∀ i, i < len → (fc i).length = k ∧ (∀ j v, (fc i)[j]? = some v → W.cell? ((a.add (i * k)).add j) = some v) ∧ mk (fc i) (fy i) := fun i hil => by
      simp only [fc, fy, hil, dif_pos]
      exact (ex i hil).choose_spec.choose_spec
    refine ⟨_, (List.range len).map fc, (List.range len).map fy, rfl, ⟨some a, cap, by simp, by simpa using hl, fun i us hus => ?_⟩, by simp, fun i c y hc hy => ?_, by simp; omega⟩
    · obtain ⟨i', hi', rfl⟩ := Option.map_eq_some_iff.1 (by rw [← List.getElem?_map]; exact hus)
      obtain ⟨hlt, rfl⟩ := List.getElem?_eq_some_iff.1 hi'
      simp only [List.length_range, List.getElem_range] at hlt ⊢
      exact ⟨(hf i hlt).1, a, rfl, (hf i hlt).2.1⟩
    · obtain ⟨i', hi', rfl⟩ := Option.map_eq_some_iff.1 (by rw [← List.getElem?_map]; exact hc)
      obtain ⟨i'', hi'', rfl⟩ := Option.map_eq_some_iff.1 (by rw [← List.getElem?_map]; exact hy)
      obtain ⟨hlt, rfl⟩ := List.getElem?_eq_some_iff.1 hi'
      obtain ⟨_, rfl⟩ := List.getElem?_eq_some_iff.1 hi''
      simp only [List.length_range, List.getElem_range] at hlt ⊢
      exact (hf i hlt).2.2
theorem trod_node {cs : List Value} {x : DataW H × List MemPlace} (h : DataW.trod enc Tryz.prog W base spare held fuel 149 cs = some x) (hb : Rows.uptoBulk x.1 ≤ 1048576) : ∃ nd : Nd, NodeV (factsOf W) cs nd := by
  obtain ⟨xs, n, _, rfl, hl, hlen, hf⟩ := DataW.trod_struct Tryz.underlying149 h
  have hC : Tryz.prog.cellsOf 149 = 8 := by kernel_rfl
  have hC3 : Tryz.prog.cellsOf 3 = 1 := by kernel_rfl
  have hC9 : Tryz.prog.cellsOf 9 = 1 := by kernel_rfl
  have hCl : Tryz.prog.cellsOf 95 = 1 := by kernel_rfl
  rw [hC] at hl
  match xs, hlen, cs, hl with
  | [y0, y1, y2, y3, y4, y5, y6, y7], _, [c0, c1, c2, c3, c4, c5, c6, c7], _ =>
    have h0 : DataW.trod enc Tryz.prog W base spare held n 3 (([c0, c1, c2, c3, c4, c5, c6, c7].drop 0).take (Tryz.prog.cellsOf 3)) = [y0, y1, y2, y3, y4, y5, y6, y7][0]? := hf 0 _ rfl
    have h1 : DataW.trod enc Tryz.prog W base spare held n 3 (([c0, c1, c2, c3, c4, c5, c6, c7].drop 1).take (Tryz.prog.cellsOf 3)) = [y0, y1, y2, y3, y4, y5, y6, y7][1]? := hf 1 _ rfl
    have h2 : DataW.trod enc Tryz.prog W base spare held n 3 (([c0, c1, c2, c3, c4, c5, c6, c7].drop 2).take (Tryz.prog.cellsOf 3)) = [y0, y1, y2, y3, y4, y5, y6, y7][2]? := hf 2 _ rfl
    have h3 : DataW.trod enc Tryz.prog W base spare held n 3 (([c0, c1, c2, c3, c4, c5, c6, c7].drop 3).take (Tryz.prog.cellsOf 3)) = [y0, y1, y2, y3, y4, y5, y6, y7][3]? := hf 3 _ rfl
    have h4 : DataW.trod enc Tryz.prog W base spare held n 3 (([c0, c1, c2, c3, c4, c5, c6, c7].drop 4).take (Tryz.prog.cellsOf 3)) = [y0, y1, y2, y3, y4, y5, y6, y7][4]? := hf 4 _ rfl
    have h5 : DataW.trod enc Tryz.prog W base spare held n 3 (([c0, c1, c2, c3, c4, c5, c6, c7].drop 5).take (Tryz.prog.cellsOf 3)) = [y0, y1, y2, y3, y4, y5, y6, y7][5]? := hf 5 _ rfl
    have h6 : DataW.trod enc Tryz.prog W base spare held n 95 (([c0, c1, c2, c3, c4, c5, c6, c7].drop 6).take (Tryz.prog.cellsOf 95)) = [y0, y1, y2, y3, y4, y5, y6, y7][6]? := hf 6 _ rfl
    have h7 : DataW.trod enc Tryz.prog W base spare held n 9 (([c0, c1, c2, c3, c4, c5, c6, c7].drop 7).take (Tryz.prog.cellsOf 9)) = [y0, y1, y2, y3, y4, y5, y6, y7][7]? := hf 7 _ rfl
    simp only [hC3, hC9, hCl, List.drop_zero, List.drop_succ_cons, List.take_succ_cons, List.take_zero, List.getElem?_cons_zero, List.getElem?_cons_succ] at h0 h1 h2 h3 h4 h5 h6 h7
    obtain ⟨z0, e0, -, -⟩ := DataW.trod_int Tryz.underlying3 h0
    obtain ⟨z1, e1, -, -⟩ := DataW.trod_int Tryz.underlying3 h1
    obtain ⟨z2, e2, -, -⟩ := DataW.trod_int Tryz.underlying3 h2
    obtain ⟨z3, e3, -, -⟩ := DataW.trod_int Tryz.underlying3 h3
    obtain ⟨z4, e4, -, -⟩ := DataW.trod_int Tryz.underlying3 h4
    obtain ⟨z5, e5, -, -⟩ := DataW.trod_int Tryz.underlying3 h5
    obtain ⟨z7, e7, -, -⟩ := DataW.trod_string Tryz.underlying9 h7
    obtain ⟨lv, zs, e6, hI, hzl⟩ := trod_intsB h6 (by
      have := bulk_part (d := y6.1) (l := [y0, y1, y2, y3, y4, y5, y6, y7].map (·.1)) (by simp)
      simp only [Rows.uptoBulk] at hb
      omega)
    simp only [List.cons.injEq, and_true] at e0 e1 e2 e3 e4 e5 e6 e7
    subst e0 e1 e2 e3 e4 e5 e6 e7
    exact ⟨⟨z0, z1, z2, z3, z4, z5, zs, z7⟩, _, rfl, hI, by show zs.length ≤ 1000000000; omega⟩
theorem trod_rule {cs : List Value} {x : DataW H × List MemPlace} (h : DataW.trod enc Tryz.prog W base spare held fuel 29 cs = some x) (hb : Rows.uptoBulk x.1 ≤ 1048576) : ∃ v nds, cs = [v] ∧ RuleV (factsOf W) v nds := by
  obtain ⟨v, css, ys, e, h1, h2, h3, h4⟩ := slice_deep (k := 8) (NodeV (factsOf W)) Tryz.underlying29 (by kernel_rfl) (fun fuel cs x h hb _ => trod_node h hb) h hb
  exact ⟨v, ys, e, css, h1, h2, h3, h4⟩
theorem trod_editD {cs : List Value} {x : DataW H × List MemPlace} (h : DataW.trod enc Tryz.prog W base spare held fuel 31 cs = some x) (hb : Rows.uptoBulk x.1 ≤ 1048576) : ∃ d : De, EdV (factsOf W) cs d := by
  obtain ⟨e, rfl⟩ := trod_edit h
  obtain ⟨xs, n, _, rfl, hl, hlen, hf⟩ := DataW.trod_struct Tryz.underlying31 h
  have hCr : Tryz.prog.cellsOf 29 = 1 := by kernel_rfl
  match xs, hlen with
  | [y0, y1, y2, y3, y4, y5, y6, y7, y8], _ =>
    have h7 : DataW.trod enc Tryz.prog W base spare held n 29 ((e.cells.drop 11).take (Tryz.prog.cellsOf 29)) = [y0, y1, y2, y3, y4, y5, y6, y7, y8][7]? := hf 7 _ rfl
    simp only [hCr, Ed.cells, List.drop_zero, List.drop_succ_cons, List.take_succ_cons, List.take_zero, List.getElem?_cons_zero, List.getElem?_cons_succ] at h7
    obtain ⟨v, nds, e7, hR⟩ := trod_rule h7 (by
      have := bulk_part (d := y7.1) (l := [y0, y1, y2, y3, y4, y5, y6, y7, y8].map (·.1)) (by simp)
      simp only [Rows.uptoBulk] at hb
      omega)
    simp only [List.cons.injEq, and_true] at e7
    subst e7
    exact ⟨⟨e.kind, e.day, e.device, e.seq, e.mv, e.minute, e.length, nds, e.zone⟩, e.ra, e.rn, e.rc, rfl, hR⟩
theorem trod_device {cs : List Value} {x : DataW H × List MemPlace} (h : DataW.trod enc Tryz.prog W base spare held fuel 24 cs = some x) (hb : Rows.uptoBulk x.1 ≤ 1048576) : ∃ (d : Dv) (v : Value), cs = dvCells d v ∧ EdsV (factsOf W) v d.edits := by
  obtain ⟨xs, n, _, rfl, hl, hlen, hf⟩ := DataW.trod_struct Tryz.underlying24 h
  have hC : Tryz.prog.cellsOf 24 = 4 := by kernel_rfl
  have hC3 : Tryz.prog.cellsOf 3 = 1 := by kernel_rfl
  have hCe : Tryz.prog.cellsOf 22 = 1 := by kernel_rfl
  rw [hC] at hl
  match xs, hlen, cs, hl with
  | [y0, y1, y2, y3], _, [c0, c1, c2, c3], _ =>
    have h0 : DataW.trod enc Tryz.prog W base spare held n 3 (([c0, c1, c2, c3].drop 0).take (Tryz.prog.cellsOf 3)) = [y0, y1, y2, y3][0]? := hf 0 _ rfl
    have h1 : DataW.trod enc Tryz.prog W base spare held n 3 (([c0, c1, c2, c3].drop 1).take (Tryz.prog.cellsOf 3)) = [y0, y1, y2, y3][1]? := hf 1 _ rfl
    have h2 : DataW.trod enc Tryz.prog W base spare held n 3 (([c0, c1, c2, c3].drop 2).take (Tryz.prog.cellsOf 3)) = [y0, y1, y2, y3][2]? := hf 2 _ rfl
    have h3 : DataW.trod enc Tryz.prog W base spare held n 22 (([c0, c1, c2, c3].drop 3).take (Tryz.prog.cellsOf 22)) = [y0, y1, y2, y3][3]? := hf 3 _ rfl
    simp only [hC3, hCe, List.drop_zero, List.drop_succ_cons, List.take_succ_cons, List.take_zero, List.getElem?_cons_zero, List.getElem?_cons_succ] at h0 h1 h2 h3
    obtain ⟨z0, e0, -, -⟩ := DataW.trod_int Tryz.underlying3 h0
    obtain ⟨z1, e1, -, -⟩ := DataW.trod_int Tryz.underlying3 h1
    obtain ⟨z2, e2, -, -⟩ := DataW.trod_int Tryz.underlying3 h2
    obtain ⟨v, css, ds, e3, g1, g2, g3, g4⟩ := slice_deep (k := 13) (EdV (factsOf W)) Tryz.underlying22 (by kernel_rfl) (fun fuel cs x h hb _ => trod_editD h hb) h3 (by
      have := bulk_part (d := y3.1) (l := [y0, y1, y2, y3].map (·.1)) (by simp)
      simp only [Rows.uptoBulk] at hb
      omega)
    simp only [List.cons.injEq, and_true] at e0 e1 e2 e3
    subst e0 e1 e2 e3
    exact ⟨⟨z0, z1, z2, ds⟩, _, rfl, css, g1, g2, g3, g4⟩
theorem trod_devices {cs : List Value} {x : DataW H × List MemPlace} (h : DataW.trod enc Tryz.prog W base spare held fuel 25 cs = some x) (hb : Rows.uptoBulk x.1 ≤ 1048576) :
    ∃ (d0 d1 : Dv) (v0 v1 : Value), cs = dvCells d0 v0 ++ dvCells d1 v1 ∧ EdsV (factsOf W) v0 d0.edits ∧ EdsV (factsOf W) v1 d1.edits := by
  obtain ⟨xs, n, _, rfl, hl, hlen, hf⟩ := DataW.trod_array Tryz.underlying25 h
  have hC : Tryz.prog.cellsOf 25 = 8 := by kernel_rfl
  have hC4 : Tryz.prog.cellsOf 24 = 4 := by kernel_rfl
  rw [hC] at hl
  match xs, hlen, cs, hl with
  | [y0, y1], _, [c0, c1, c2, c3, c4, c5, c6, c7], _ =>
    have h0 : DataW.trod enc Tryz.prog W base spare held n 24 (([c0, c1, c2, c3, c4, c5, c6, c7].drop (0 * Tryz.prog.cellsOf 24)).take (Tryz.prog.cellsOf 24)) = [y0, y1][0]? := hf 0 (by decide)
    have h1 : DataW.trod enc Tryz.prog W base spare held n 24 (([c0, c1, c2, c3, c4, c5, c6, c7].drop (1 * Tryz.prog.cellsOf 24)).take (Tryz.prog.cellsOf 24)) = [y0, y1][1]? := hf 1 (by decide)
    simp only [hC4, Nat.zero_mul, Nat.one_mul, List.drop_zero, List.drop_succ_cons, List.take_succ_cons, List.take_zero, List.getElem?_cons_zero, List.getElem?_cons_succ] at h0 h1
    have hbs := fun (y : DataW H × List MemPlace) (hy : y ∈ [y0, y1]) => show Rows.uptoBulk y.1 ≤ 1048576 by
      have := bulk_part (d := y.1) (l := [y0, y1].map (·.1)) (List.mem_map_of_mem hy)
      simp only [Rows.uptoBulk] at hb
      omega
    obtain ⟨d0, v0, e0, g0⟩ := trod_device h0 (hbs y0 (by simp))
    obtain ⟨d1, v1, e1, g1⟩ := trod_device h1 (hbs y1 (by simp))
    refine ⟨d0, d1, v0, v1, ?_, g0, g1⟩
    rw [← e0, ← e1]; rfl
theorem agg_of {v : Value} {cs : List Value} (h : v.cells.toList = cs) (hl : 2 ≤ cs.length) : v = .agg cs.toArray := by
  subst h
  cases v with
  | agg a => simp [Value.cells]
  | _ => simp [Value.cells] at hl
end
set_option maxRecDepth 100000 in
/-- A law's row in its second form, from a contract of its function. -/
theorem lawLiftedU {os : Os} (started : os.Started) {H : Type} {enc : TypeId × Value → H} {n : Nat} {fn : Func} {s : ChangeSpec} {tb : TypeId} (F : Stop.Interp) (noInit : Tryz.checked.prog.inits.idxOf? n = none) (hfn : Tryz.checked.prog.funcs[n]? = some fn)
    (hvars : s.vars = []) (hres : fn.resultTypes = #[tb]) (hbool : Tryz.checked.prog.underlying tb = some .bool) (hread : ∀ t ∈ fn.params.toList, Tryz.prog.readableRec t = true ∧ t < Tryz.prog.types.size)
    (hs : ∀ ds : List (DataW H), ds.length = fn.params.toList.length → s.fn H ds = { results := [.lit (.bool true)], args := ds })
    (witness : ∃ (w : World) (tape : Tape) (i : Input), w.os = os ∧ (w.forCall tape i).Shaped Tryz.checked.prog ∧ i.vars = [] ∧ Input.okWide Tryz.checked.prog (w.forCall tape i) .any w.heap.size n i ∧
      (Rows.OpenSpec.upto s).pre6 enc Tryz.checked.prog fn [] false (w.forCall tape i).memory i.args ∧ Assume.holds {} Tryz.checked.prog (lone (Frame.enter Tryz.checked.prog n i.args .normal) [] (w.forCall tape i)))
    (hlaw : ∀ (W : World) (base : Nat) (args : Array Value) (ds : List (DataW H)) (ps : List MemPlace), (∀ (j : Nat) t v, fn.params[j]? = some t → args[j]? = some v → Value.okWide Tryz.prog W .any base t v) →
      DataW.TrodAll enc Tryz.prog W 0 (fun _ => true) true fn.params.toList args.toList ds ps → Rows.uptoBulkAll ds ≤ 1048576 →
      CallsR Tryz.prog n args.toList (factsOf W) fun _ v => v = .bool true) :
    ReturnsInHanded {} Tryz.checked os n .any ((Rows.OpenSpec.upto s).pre6 enc Tryz.prog fn [] false) (((Rows.OpenSpec.upto s).at F).post enc Tryz.prog fn false true false false) := by
  refine returnsInHanded_of_cond_sized (C := Tryz.checked) (s := Rows.OpenSpec.upto s) (k := Rows.uptoSmall) rfl Tryz.own started noInit hfn witness ?_
  intro W base args ds gs before hval hW hcnd hk hwt _
  have hW0 := hW
  obtain ⟨p, q, hA, hV, rfl, hfz, hnd⟩ := hW0
  have hsv : (Rows.OpenSpec.upto s).vars = [] := hvars
  rw [hsv] at hV
  obtain ⟨rfl, rfl⟩ := trodVars_none hV
  have hlt : ∀ x ∈ p ++ [], x.block < W.heap.size := fun x hx => hW.lt x hx
  rw [List.append_nil] at hlt hk
  have hk' : Rows.uptoBulkAll ds ≤ 1048576 := of_decide_eq_true hk
  refine (hlaw W base args ds p hval hA hk' W (fun a v h => h)).mono ?_
  rintro e W' ⟨v, R', rfl, -, -, hext, rfl⟩
  rw [List.append_nil] at hW
  exact ⟨_, rfl, law_post Tryz.laidOut hvars hres hbool hread (hs ds (trodAll_len hA)) hW hA hext⟩
end Go.Proofs.YtojckjngjfgfdaaGreat
