/- Plain lemmas of our own, no statement of the seat: a calendar, a date, numbers, as a law's arguments. -/
import Derived.Test.YtpbnjoopgignoaaJo
import Derived.Test.YtpbnjoopgignoaaCg
namespace Go.Proofs.Ytpbnjoopgignoaa
set_option linter.unusedSimpArgs false
set_option linter.unusedVariables false
open Go.ChangeShapes Go.WideShapes Go.ChangeAt Go.RowKit Go.Joins Go.Proofs.Ytpbnjoopgignoaa.Vc

section
variable {H : Type} {enc : TypeId × Value → H} {W : World} {base fuel : Nat} {spare : Nat → Bool} {held : Bool}
theorem trod_bool' {cs : List Value} {x : DataW H × List MemPlace} (h : DataW.trod enc Try.prog W base spare held fuel 4 cs = some x) : ∃ b, cs = [.bool b] := by
  cases fuel with
  | zero => simp [DataW.trod] at h
  | succ n =>
    unfold DataW.trod at h
    rw [Try.underlying4] at h
    split at h <;> simp_all
theorem rules_in {cs : List Value} {x : DataW H × List MemPlace} (h : DataW.trod enc Try.prog W base spare held fuel 23 cs = some x) (hw : ∀ n ∈ x.1.weights Try.prog 23, n ≤ reachBytes) : ∃ v rs, cs = [v] ∧ RulesIn (factsOf W) v rs := by
  rcases Go.Deep.open_slice Try.underlying23 h with ⟨rfl, rfl⟩ | ⟨a, len, cap, m, n, D, Pl, rfl, -, hl, hm, hmm, rfl, hi⟩
  · exact ⟨_, [], rfl, SlK.nil _ _, by simp, by simp⟩
  · have hlm : len ≤ m := by rw [hmm]; split <;> omega
    have hC : Try.prog.cellsOf 61 = 3 := by kernel_rfl
    have hC3 : Try.prog.cellsOf 3 = 1 := by kernel_rfl
    have hC4 : Try.prog.cellsOf 4 = 1 := by kernel_rfl
    have hB : Try.prog.bytesOf 61 = 24 := by kernel_rfl
    rw [hC] at hi
    have each : ∀ i, i < m → ∃ r : Rule, (I64 r.1 ∧ I64 r.2.1) ∧ ∀ j v, (rcells r)[j]? = some v → W.cell? ((a.add (i * 3)).add j) = some v := by
      intro i him
      obtain ⟨cs', hc, ht⟩ := hi i him
      obtain ⟨_, hcl, hat⟩ := World.cells?_some hc
      obtain ⟨y0, y1, y2, n', _, _, h0, h1, h2⟩ := Go.Deep.trod_struct3 Try.underlying61 ht
      match cs', hcl with
      | [c0, c1, c2], _ =>
        simp only [hC3, hC4, List.drop_zero, List.drop_succ_cons, List.take_succ_cons, List.take_zero] at h0 h1 h2
        obtain ⟨z0, e0, -, w0⟩ := DataW.trod_int Try.underlying3 h0
        obtain ⟨z1, e1, -, w1⟩ := DataW.trod_int Try.underlying3 h1
        obtain ⟨b2, e2⟩ := trod_bool' h2
        simp only [List.cons.injEq, and_true] at e0 e1 e2
        subst e0 e1 e2
        refine ⟨(z0, z1, b2), ⟨wf_i64 w0, wf_i64 w1⟩, fun j v hj => ?_⟩
        have hj3 : j < 3 := (List.getElem?_eq_some_iff.1 hj).1
        rw [hat j hj3]
        exact hj
    have hlen24 : len * 24 ≤ reachBytes := by
      have := hw ((((List.range len).map D).length + ((List.range (m - len)).map fun j => D (len + j)).length) * 24) (by
        simp only [DataW.weights, Try.underlying23, hB]
        exact List.mem_cons_self)
      simp only [List.length_map, List.length_range] at this
      omega
    unfold reachBytes at hlen24
    let f : Nat → Rule := fun i => if h : i < m then (each i h).choose else (0, 0, false)
    have hf : ∀ i, i < len → (I64 (f i).1 ∧ I64 (f i).2.1) ∧ ∀ j v, (rcells (f i))[j]? = some v → W.cell? ((a.add (i * 3)).add j) = some v := by
      intro i hi'
      have him : i < m := by omega
      simp only [f, him, dif_pos]
      exact (each i him).choose_spec
    refine ⟨_, (List.range len).map f, rfl, ⟨some a, cap, by simp, by simpa using hl, fun i us hi' => ?_⟩, fun r hr => ?_, by simp; omega⟩
    · rw [List.getElem?_map, List.getElem?_map] at hi'
      obtain ⟨r, hr, rfl⟩ := Option.map_eq_some_iff.1 hi'
      obtain ⟨i', hi'', rfl⟩ := Option.map_eq_some_iff.1 hr
      have hii := List.getElem?_eq_some_iff.1 hi''
      simp only [List.length_range, List.getElem_range] at hii
      obtain ⟨hlt, rfl⟩ := hii
      exact ⟨rfl, a, rfl, fun j u hj => (hf i hlt).2 j u hj⟩
    · obtain ⟨i, hi', rfl⟩ := List.mem_map.1 hr
      exact (hf i (List.mem_range.1 hi')).1
theorem cal_in {r : Reach} {b0 : Nat} {v : Value} {d : DataW H} {p : List MemPlace} (hv : Value.okWide Try.prog W r b0 25 v) (h : DataW.Trod enc Try.prog W base spare held 25 v d p) (hw : ∀ n ∈ d.weights Try.prog 25, n ≤ reachBytes) :
    ∃ c sm sr, v = cv c sm sr ∧ CalIn (factsOf W) c sm sr := by
  obtain ⟨v0, v1, v2, v3, y0, y1, y2, y3, n, rfl, rfl, rfl, h0, h1, h2, h3⟩ := open_agg4 Try.underlying25 (by kernel_rfl) (by kernel_rfl) hv h
  simp only at h0 h1 h2 h3
  simp only [DataW.weights, Try.underlying25, List.map_cons, List.map_nil, DataW.weightsEach, List.append_nil, List.mem_append] at hw
  obtain ⟨z0, e0, -, w0⟩ := DataW.trod_int Try.underlying3 h0
  obtain ⟨z2, e2, -, w2⟩ := DataW.trod_int Try.underlying3 h2
  obtain ⟨sm, ms, e1, hm1, hm2, hm3⟩ := open_ints_in Try.underlying22 Try.underlying3 (by kernel_rfl) (by kernel_rfl) h1 (fun n hn => hw n (by simp [hn]))
  obtain ⟨sr, rs, e3, hr⟩ := rules_in h3 (fun n hn => hw n (by simp [hn]))
  simp only [List.cons.injEq, and_true] at e0 e1 e2 e3
  subst e0 e1 e2 e3
  exact ⟨⟨z0, ms, z2, rs⟩, _, _, rfl, ⟨hm1, hm2, by show ms.length ≤ _; omega⟩, hr, wf_i64 w0, wf_i64 w2⟩
theorem int_in {r : Reach} {b0 : Nat} {v : Value} {d : DataW H} {p : List MemPlace} (hv : Value.okWide Try.prog W r b0 3 v) (h : DataW.Trod enc Try.prog W base spare held 3 v d p) : ∃ n, v = .int .i64 n ∧ I64 n := by
  obtain ⟨n, rfl, -, -, hw⟩ := open_int Try.underlying3 hv h
  exact ⟨n, rfl, wf_i64 hw⟩
theorem date_in {r : Reach} {b0 : Nat} {v : Value} {d : DataW H} {p : List MemPlace} (hv : Value.okWide Try.prog W r b0 37 v) (h : DataW.Trod enc Try.prog W base spare held 37 v d p) : ∃ y m d, v = .agg #[.int .i64 y, .int .i64 m, .int .i64 d] ∧ I64 y ∧ I64 m ∧ I64 d := by
  obtain ⟨v0, v1, v2, y0, y1, y2, n, rfl, rfl, rfl, h0, h1, h2⟩ := open_agg3 Try.underlying37 (by kernel_rfl) (by kernel_rfl) hv h
  obtain ⟨z0, e0, -, w0⟩ := DataW.trod_int Try.underlying3 h0
  obtain ⟨z1, e1, -, w1⟩ := DataW.trod_int Try.underlying3 h1
  obtain ⟨z2, e2, -, w2⟩ := DataW.trod_int Try.underlying3 h2
  simp only [List.cons.injEq, and_true] at e0 e1 e2
  subst e0 e1 e2
  exact ⟨z0, z1, z2, rfl, wf_i64 w0, wf_i64 w1, wf_i64 w2⟩
/-- An array of integers. -/
theorem arr_in {k : Nat} {r : Reach} {b0 : Nat} {t : TypeId} {v : Value} {d : DataW H} {p : List MemPlace} (ht : Try.prog.underlying t = some (.array k 3)) (hC : Try.prog.cellsOf t = k) (hv : Value.okWide Try.prog W r b0 t v) (h : DataW.Trod enc Try.prog W base spare held t v d p) :
    ∃ xs : List Int, xs.length = k ∧ v = .agg (xs.map (.int .i64)).toArray ∧ ∀ x ∈ xs, I64 x := by
  have hC3 : Try.prog.cellsOf 3 = 1 := by kernel_rfl
  obtain ⟨cs, rfl, hsz⟩ : ∃ cs : Array Value, v = .agg cs ∧ cs.size = k := by
    cases v <;> simp [Value.okWide, ht] at hv
    rename_i cs
    exact ⟨cs, rfl, by rw [← hC]; exact hv.1⟩
  obtain ⟨fuel, hf⟩ := h
  obtain ⟨xs, m, -, -, hl, hxl, hi⟩ := DataW.trod_array ht hf
  have each : ∀ i, (hik : i < cs.size) → ∃ z, cs[i] = .int .i64 z ∧ I64 z := by
    intro i hik
    have h1 := hi i (by omega)
    rw [hC3, Nat.mul_one] at h1
    have hx : xs[i]? = some (xs[i]'(by omega)) := List.getElem?_eq_getElem _
    rw [hx] at h1
    have hd : (cs.toList.drop i).take 1 = [cs[i]] := by
      rw [List.drop_eq_getElem_cons (by simpa using hik)]
      simp
    simp only [Value.cells] at h1
    rw [hd] at h1
    obtain ⟨z, e, -, w⟩ := DataW.trod_int Try.underlying3 h1
    simp only [List.cons.injEq, and_true] at e
    exact ⟨z, e, wf_i64 w⟩
  let g : Nat → Int := fun i => if h : i < cs.size then (each i h).choose else 0
  refine ⟨(List.range cs.size).map g, by simpa using hsz, ?_, fun x hx => ?_⟩
  · congr 1
    apply Array.ext
    · simp
    · intro i h1 h2
      simp only [List.getElem_toArray, List.getElem_map, List.getElem_range, g, h1, dif_pos]
      exact (each i h1).choose_spec.1
  · obtain ⟨i, hi', rfl⟩ := List.mem_map.1 hx
    have h1 := List.mem_range.1 hi'
    simp only [g, h1, dif_pos]
    exact (each i h1).choose_spec.2
theorem each_weight {ts : List TypeId} {ds : List (DataW H)} (h : (DataW.weightsEach Try.prog ts ds).all (· ≤ reachBytes) = true) {j : Nat} {t : TypeId} {d : DataW H} (ht : ts[j]? = some t) (hd : ds[j]? = some d) : ∀ n ∈ d.weights Try.prog t, n ≤ reachBytes := fun n hn => by
  have := List.all_eq_true.1 h n (DataW.weights_mem_each ht hd n hn)
  simpa using this
end
end Go.Proofs.Ytpbnjoopgignoaa
