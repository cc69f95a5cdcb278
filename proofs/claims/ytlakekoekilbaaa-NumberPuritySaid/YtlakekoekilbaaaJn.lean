/- Plain lemmas of our own, no statement of the seat: integers, arrays and slices of them, as a law's arguments. -/
import Derived.Test.YtlakekoekilbaaaJo
import Derived.Test.YtlakekoekilbaaaNa
namespace Go.Proofs.Ytlakekoekilbaaa
set_option linter.unusedSimpArgs false
set_option linter.unusedVariables false
open Go.ChangeShapes Go.WideShapes Go.ChangeAt Go.RowKit Go.Joins Go.Proofs.Ytlakekoekilbaaa.Vc

section
variable {H : Type} {enc : TypeId × Value → H} {W : World} {base fuel : Nat} {spare : Nat → Bool} {held : Bool}
theorem wf_kind {K : IntKind} {n lo hi : Int} (h : (Lit.int K n).wf = true) (h1 : K.min = lo) (h2 : K.max = hi) : lo ≤ n ∧ n ≤ hi := by
  simp only [Lit.wf, Bool.and_eq_true, decide_eq_true_eq] at h
  omega
theorem int_in {K : IntKind} {t : TypeId} {lo hi : Int} (ht : Try.prog.underlying t = some (.int K)) (h1 : K.min = lo) (h2 : K.max = hi) {r : Reach} {b0 : Nat} {v : Value} {d : DataW H} {p : List MemPlace} (hv : Value.okWide Try.prog W r b0 t v) (h : DataW.Trod enc Try.prog W base spare held t v d p) : ∃ n, v = .int K n ∧ lo ≤ n ∧ n ≤ hi := by
  obtain ⟨n, rfl, -, -, hw⟩ := open_int ht hv h
  exact ⟨n, rfl, wf_kind hw h1 h2⟩
theorem ints_in {t : TypeId} (ht : Try.prog.underlying t = some (.slice 3)) {r : Reach} {b0 : Nat} {v : Value} {d : DataW H} {p : List MemPlace} (hv : Value.okWide Try.prog W r b0 t v) (h : DataW.Trod enc Try.prog W base spare held t v d p) (hw : ∀ n ∈ d.weights Try.prog t, n ≤ reachBytes) :
    ∃ xs, Ints (factsOf W) v xs ∧ (∀ m ∈ xs, I64 m) ∧ xs.length ≤ 17592186044416 := by
  obtain ⟨fuel, hf⟩ := h
  obtain ⟨u, xs, e, h1, h2, h3⟩ := open_ints_in ht Try.underlying3 (by kernel_rfl) (by kernel_rfl) hf hw
  have : v = u := by
    simp only [Value.okWide, ht, Cell.okWide] at hv
    cases v <;> simp_all [Cell.ok, Value.cells]
  subst this
  exact ⟨xs, h1, h2, h3⟩
/-- An array of integers. -/
theorem arr_in {K : IntKind} {lo hi : Int} {k : Nat} {r : Reach} {b0 : Nat} {t te : TypeId} {v : Value} {d : DataW H} {p : List MemPlace} (ht : Try.prog.underlying t = some (.array k te)) (hte : Try.prog.underlying te = some (.int K)) (h1 : K.min = lo) (h2 : K.max = hi) (hC : Try.prog.cellsOf t = k) (hC3 : Try.prog.cellsOf te = 1)
    (hv : Value.okWide Try.prog W r b0 t v) (h : DataW.Trod enc Try.prog W base spare held t v d p) :
    ∃ xs : List Int, xs.length = k ∧ v = .agg (xs.map (.int K)).toArray ∧ ∀ x ∈ xs, lo ≤ x ∧ x ≤ hi := by
  obtain ⟨cs, rfl, hsz⟩ : ∃ cs : Array Value, v = .agg cs ∧ cs.size = k := by
    cases v <;> simp [Value.okWide, ht] at hv
    rename_i cs
    exact ⟨cs, rfl, by rw [← hC]; exact hv.1⟩
  obtain ⟨fuel, hf⟩ := h
  obtain ⟨xs, m, -, -, hl, hxl, hi'⟩ := DataW.trod_array ht hf
  have each : ∀ i, (hik : i < cs.size) → ∃ z, cs[i] = .int K z ∧ (lo ≤ z ∧ z ≤ hi) := by
    intro i hik
    have h3 := hi' i (by omega)
    rw [hC3, Nat.mul_one] at h3
    have hx : xs[i]? = some (xs[i]'(by omega)) := List.getElem?_eq_getElem _
    rw [hx] at h3
    have hd : (cs.toList.drop i).take 1 = [cs[i]] := by
      rw [List.drop_eq_getElem_cons (by simpa using hik)]
      simp
    simp only [Value.cells] at h3
    rw [hd] at h3
    obtain ⟨z, e, -, w⟩ := DataW.trod_int hte h3
    simp only [List.cons.injEq, and_true] at e
    exact ⟨z, e, wf_kind w h1 h2⟩
  let g : Nat → Int := fun i => if h : i < cs.size then (each i h).choose else 0
  refine ⟨(List.range cs.size).map g, by simpa using hsz, ?_, fun x hx => ?_⟩
  · congr 1
    apply Array.ext
    · simp
    · intro i h1 h2
      simp only [List.getElem_toArray, List.getElem_map, List.getElem_range, g, h1, dif_pos]
      exact (each i h1).choose_spec.1
  · obtain ⟨i, hi', rfl⟩ := List.mem_map.1 hx
    have h1 := List.mem_range.1 hi'
    simp only [g, h1, dif_pos]
    exact (each i h1).choose_spec.2
theorem each_weight {ts : List TypeId} {ds : List (DataW H)} (h : (DataW.weightsEach Try.prog ts ds).all (· ≤ reachBytes) = true) {j : Nat} {t : TypeId} {d : DataW H} (ht : ts[j]? = some t) (hd : ds[j]? = some d) : ∀ n ∈ d.weights Try.prog t, n ≤ reachBytes := fun n hn => by
  have := List.all_eq_true.1 h n (DataW.weights_mem_each ht hd n hn)
  simpa using this
end
end Go.Proofs.Ytlakekoekilbaaa
