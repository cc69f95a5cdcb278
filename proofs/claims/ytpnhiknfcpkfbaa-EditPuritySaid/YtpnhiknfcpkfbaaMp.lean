/- Plain lemmas of our own, no statement of the seat: what a map of the call's own holds, as a function. -/
import Derived.Test.YtpnhiknfcpkfbaaVcI
namespace Go.Proofs.Ytpnhiknfcpkfbaa.Vc
set_option linter.unusedSimpArgs false
set_option linter.unusedVariables false
section
variable {K : Type} [DecidableEq K] (ks : Option (List Nat)) (kenc : K → Value)
def entOf (x : K × Value × Nat) : MapEntry := ⟨kenc x.1, x.2.1, x.2.2⟩
/-- The entries hold the function f. -/
def MapOf (es : List MapEntry) (f : K → Option Value) : Prop :=
  ∃ l : List (K × Value × Nat), es = l.map (entOf kenc) ∧ (l.map (·.1)).Nodup ∧ ∀ k, f k = (l.find? fun x => decide (x.1 = k)).map (·.2.1)
theorem MapOf.nil : MapOf kenc [] (fun _ => none) := ⟨[], rfl, List.nodup_nil, fun _ => rfl⟩
variable (hks : ∀ a b : K, mEq ks (kenc a) (kenc b) = some (decide (a = b)))
include hks
theorem mfind_list (k : K) : ∀ (l : List (K × Value × Nat)) (i : Nat), ∃ r, mfind ks (kenc k) (l.map (entOf kenc)) i = some r ∧ r.map (·.2) = (l.find? fun x => decide (x.1 = k)).map (·.2.1) ∧
    ((r = none ∧ ∀ x ∈ l, x.1 ≠ k) ∨ ∃ (j : Nat) (x : K × Value × Nat), r = some (i + j, x.2.1) ∧ l[j]? = some x ∧ x.1 = k)
  | [], i => ⟨none, rfl, rfl, .inl ⟨rfl, by simp⟩⟩
  | x :: l, i => by
    rw [List.map_cons, mfind]
    simp only [entOf, hks]
    by_cases h : k = x.1
    · rw [decide_eq_true h]
      exact ⟨_, rfl, by simp [h], .inr ⟨0, x, rfl, rfl, h.symm⟩⟩
    · rw [decide_eq_false h]
      obtain ⟨r, h1, h2, h3⟩ := mfind_list k l (i + 1)
      refine ⟨r, h1, ?_, ?_⟩
      · rw [h2, List.find?_cons, decide_eq_false (fun e => h e.symm)]
      · rcases h3 with ⟨h3, h4⟩ | ⟨j, y, h3, h4, h5⟩
        · exact .inl ⟨h3, fun y hy => by
            rcases List.mem_cons.1 hy with rfl | hy
            · exact fun e => h e.symm
            · exact h4 y hy⟩
        · exact .inr ⟨j + 1, y, by rw [h3]; congr 2; omega, by simpa using h4, h5⟩
/-- What is looked up. -/
theorem MapOf.get {es : List MapEntry} {f : K → Option Value} (h : MapOf kenc es f) (k : K) : ∃ r, mfind ks (kenc k) es 0 = some r ∧ r.map (·.2) = f k := by
  obtain ⟨l, rfl, _, hf⟩ := h
  obtain ⟨r, h1, h2, _⟩ := mfind_list ks kenc hks k l 0
  exact ⟨r, h1, by rw [h2, hf]⟩
/-- What is written. -/
theorem MapOf.put {es : List MapEntry} {f : K → Option Value} (h : MapOf kenc es f) (k : K) (v : Value) (clock : Nat) : ∃ r es' clock', mfind ks (kenc k) es 0 = some r ∧ mset (kenc k) v es clock r = .mp es' clock' ∧ MapOf kenc es' (fun k' => if k' = k then some v else f k') := by
  obtain ⟨l, rfl, hnd, hf⟩ := h
  obtain ⟨r, h1, h2, h3⟩ := mfind_list ks kenc hks k l 0
  refine ⟨r, ?_⟩
  rcases h3 with ⟨rfl, h4⟩ | ⟨j, x, rfl, h4, h5⟩
  · refine ⟨_, _, h1, rfl, l ++ [(k, v, clock)], by simp [entOf], ?_, fun k' => ?_⟩
    · rw [List.map_append, List.nodup_append]
      refine ⟨hnd, by simp, fun a ha b hb e => ?_⟩
      simp only [List.map_cons, List.map_nil, List.mem_cons, List.not_mem_nil, or_false] at hb
      obtain ⟨x, hx, rfl⟩ := List.mem_map.1 ha
      exact h4 x hx (e.trans hb)
    · show (if k' = k then some v else f k') = _
      rw [List.find?_append, hf]
      by_cases he : k' = k
      · subst he
        rw [if_pos rfl]
        have : l.find? (fun x => decide (x.1 = k')) = none := List.find?_eq_none.2 fun x hx => by simpa using h4 x hx
        rw [this]
        simp
      · rw [if_neg he]
        cases hq : l.find? (fun x => decide (x.1 = k')) with
        | some y => rfl
        | none => simp [Ne.symm he]
  · subst h5
    have hj := (List.getElem?_eq_some_iff.1 h4).1
    have hx : l[j] = x := (List.getElem?_eq_some_iff.1 h4).2
    refine ⟨_, _, h1, rfl, l.set j (x.1, v, x.2.2), ?_, ?_, fun k' => ?_⟩
    · apply List.ext_getElem?
      intro i
      rw [List.getElem?_modify, List.getElem?_map, List.getElem?_map, List.getElem?_set]
      by_cases hi : 0 + j = i
      · have hi' : j = i := by omega
        subst hi'
        subst hx
        simp [hj, entOf]
      · have hne : ¬ j = i := by omega
        cases l[i]? <;> simp [hne]
    · have : (l.set j (x.1, v, x.2.2)).map (·.1) = l.map (·.1) := by
        apply List.ext_getElem?
        intro i
        rw [List.getElem?_map, List.getElem?_map, List.getElem?_set]
        by_cases hi : j = i
        · subst hi; subst hx; simp [hj]
        · rw [if_neg hi]
      rw [this]; exact hnd
    · show (if k' = x.1 then some v else f k') = _
      rw [hf]
      -- the list around j
      have hsplit : l = l.take j ++ x :: l.drop (j + 1) := by
        rw [← hx, ← List.drop_eq_getElem_cons hj, List.take_append_drop]
      have hset : l.set j (x.1, v, x.2.2) = l.take j ++ (x.1, v, x.2.2) :: l.drop (j + 1) := List.set_eq_take_append_cons_drop.trans (by rw [if_pos hj])
      have hpre : ∀ y ∈ l.take j, y.1 ≠ x.1 := by
        intro y hy e
        rw [hsplit, List.map_append, List.nodup_append] at hnd
        exact hnd.2.2 y.1 (List.mem_map_of_mem (f := (·.1)) hy) x.1 (by simp) e
      by_cases he : k' = x.1
      · subst he
        rw [if_pos rfl, hset, List.find?_append]
        have : (l.take j).find? (fun y => decide (y.1 = x.1)) = none := List.find?_eq_none.2 fun y hy => by simpa using hpre y hy
        rw [this]
        simp
      · rw [if_neg he, hset]
        conv => lhs; rw [hsplit]
        rw [List.find?_append, List.find?_append, List.find?_cons, List.find?_cons, decide_eq_false (fun e => he e.symm)]
end
theorem mEq_int (a b : Int) : mEq none (.int .i64 a) (.int .i64 b) = some (decide (a = b)) := by
  by_cases h : a = b <;> simp [mEq, h]
def pairV (p : Int × Int) : Value := .agg #[.int .i64 p.1, .int .i64 p.2]
theorem mEq_pair (a b : Int × Int) : mEq (some [0, 0]) (pairV a) (pairV b) = some (decide (a = b)) := by
  obtain ⟨a1, a2⟩ := a
  obtain ⟨b1, b2⟩ := b
  simp only [mEq, pairV, eqCells, if_true, Option.map_some, Prod.mk.injEq]
  congr 1
  by_cases h : a1 = b1 <;> by_cases k : a2 = b2 <;> simp [h, k]
end Go.Proofs.Ytpnhiknfcpkfbaa.Vc
