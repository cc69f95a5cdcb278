import Derived.Test.YtpnhiknfcpkfbaaFg
namespace Go.Proofs.Ytpnhiknfcpkfbaa
set_option linter.unusedSimpArgs false
set_option linter.unusedVariables false
open Go.Proofs.Ytpnhiknfcpkfbaa.Vc
/-! ### Plain facts -/
theorem overCount_lt {o : List De} {d b : De} (hb : b ∈ o) (h : overD d b = true) : (o.filter (overD b)).length < (o.filter (overD d)).length := by
  have hsub : ∀ l : List De, (l.filter (overD b)).length ≤ (l.filter (overD d)).length := fun l => by
    induction l with
    | nil => simp
    | cons x l ih =>
      rw [List.filter_cons, List.filter_cons]
      cases hx : overD b x with
      | true => rw [overD_trans h hx]; simpa using ih
      | false => cases overD d x <;> simp <;> omega
  obtain ⟨l1, l2, rfl⟩ := List.append_of_mem hb
  rw [List.filter_append, List.filter_append, List.filter_cons, List.filter_cons, h, overD_irrefl]
  have h1 := hsub l1
  have h2 := hsub l2
  simp
  omega
/-- An edit that is overruled is overruled by one in force. -/
theorem over_force {o : List De} : ∀ (n : Nat) (d : De), (o.filter (overD d)).length ≤ n → (∃ b ∈ o, overD d b = true) → ∃ c ∈ forceD o, overD d c = true
  | 0, d, hn, ⟨b, hb, h⟩ => by have := overCount_lt hb h; omega
  | n + 1, d, hn, ⟨b, hb, h⟩ => by
    by_cases hf : ∃ c ∈ o, overD b c = true
    · obtain ⟨c, hc, hbc⟩ := over_force n b (by have := overCount_lt hb h; omega) hf
      exact ⟨c, hc, overD_trans h hbc⟩
    · refine ⟨b, mem_forceD.2 ⟨hb, fun c hc => ?_⟩, h⟩
      cases hbc : overD b c with
      | false => rfl
      | true => exact absurd ⟨c, hc, hbc⟩ hf
theorem force_recs_len (o : List De) : ∀ l : List De, (l.filter fun a => !(o.any (overD a))).length + (l.filterMap fun a => (o.find? (overD a)).map (ovOf a)).length = l.length
  | [] => rfl
  | x :: l => by
    have ih := force_recs_len o l
    rw [List.filter_cons, List.filterMap_cons]
    cases hf : o.find? (overD x) with
    | none =>
      have : o.any (overD x) = false := List.any_eq_false.2 (List.find?_eq_none.1 hf)
      rw [this]
      simp
      omega
    | some b =>
      have : o.any (overD x) = true := List.any_eq_true.2 ⟨b, List.mem_of_find?_eq_some hf, List.find?_some hf⟩
      rw [this]
      simp
      omega
theorem recs_split {o l : List De} {i : Nat} (hi : i < (l.filterMap fun a => (o.find? (overD a)).map (ovOf a)).length) : ∃ a b, a ∈ l ∧ o.find? (overD a) = some b ∧ (l.filterMap fun a => (o.find? (overD a)).map (ovOf a))[i] = ovOf a b := by
  have hm := List.getElem_mem hi
  obtain ⟨a, ha, h⟩ := List.mem_filterMap.1 hm
  obtain ⟨b, hb, he⟩ := Option.map_eq_some_iff.1 h
  exact ⟨a, b, ha, hb, he.symm⟩
/-- The records are in canonical order. -/
theorem recs_sorted {o : List De} : ∀ {l : List De}, SortedD l → (l.filterMap fun a => (o.find? (overD a)).map fun b => (a, b)).Pairwise fun x y => lessD x.1 y.1 = true
  | [], _ => by simp
  | x :: l, h => by
    have h' := List.pairwise_cons.1 h
    rw [List.filterMap_cons]
    have ih := recs_sorted (o := o) h'.2
    cases hf : (o.find? (overD x)).map fun b => (x, b) with
    | none => exact ih
    | some p =>
      obtain ⟨b, hb, rfl⟩ := Option.map_eq_some_iff.1 hf
      refine List.pairwise_cons.2 ⟨fun q hq => ?_, ih⟩
      obtain ⟨a, ha, hq'⟩ := List.mem_filterMap.1 hq
      obtain ⟨b', _, rfl⟩ := Option.map_eq_some_iff.1 hq'
      exact h'.1 a ha
theorem recs_map (o l : List De) : (l.filterMap fun a => (o.find? (overD a)).map (ovOf a)) = (l.filterMap fun a => (o.find? (overD a)).map fun b => (a, b)).map fun p => ovOf p.1 p.2 := by
  induction l with
  | nil => rfl
  | cons x l ih =>
    rw [List.filterMap_cons, List.filterMap_cons]
    cases o.find? (overD x) with
    | none => exact ih
    | some b => simp only [Option.map_some, List.map_cons, ih]
/-- The record number i. -/
theorem recs_at {o : List De} (hs : SortedD o) {i : Nat} (hi : i < (recsD o).length) : ∃ a b, a ∈ o ∧ b ∈ o ∧ overD a b = true ∧ (recsD o)[i] = ovOf a b ∧ ∀ (h0 : 0 < i), ∃ a' b', a' ∈ o ∧ (recsD o)[i - 1]'(by omega) = ovOf a' b' ∧ lessD a' a = true := by
  have hm := recs_map o o
  have hp := recs_sorted (o := o) hs
  have hl : (recsD o).length = (o.filterMap fun a => (o.find? (overD a)).map fun b => (a, b)).length := by
    unfold recsD; rw [hm, List.length_map]
  have hget : ∀ j (hj : j < (recsD o).length), (recsD o)[j] = ovOf ((o.filterMap fun a => (o.find? (overD a)).map fun b => (a, b))[j]'(by omega)).1 ((o.filterMap fun a => (o.find? (overD a)).map fun b => (a, b))[j]'(by omega)).2 := fun j hj => by
    unfold recsD at hj ⊢
    simp only [hm, List.getElem_map]
  have hmem : ∀ j (hj : j < (o.filterMap fun a => (o.find? (overD a)).map fun b => (a, b)).length), ((o.filterMap fun a => (o.find? (overD a)).map fun b => (a, b))[j]).1 ∈ o ∧ o.find? (overD ((o.filterMap fun a => (o.find? (overD a)).map fun b => (a, b))[j]).1) = some ((o.filterMap fun a => (o.find? (overD a)).map fun b => (a, b))[j]).2 := fun j hj => by
    obtain ⟨a, ha, h⟩ := List.mem_filterMap.1 (List.getElem_mem hj)
    obtain ⟨b, hb, he⟩ := Option.map_eq_some_iff.1 h
    rw [← he]
    exact ⟨ha, hb⟩
  obtain ⟨h1, h2⟩ := hmem i (by omega)
  refine ⟨_, _, h1, List.mem_of_find?_eq_some h2, List.find?_some h2, hget i hi, fun h0 => ⟨_, _, (hmem (i - 1) (by omega)).1, hget (i - 1) (by omega), ?_⟩⟩
  exact (List.pairwise_iff_getElem.1 hp) (i - 1) i (by omega) (by omega) (by omega)
end Go.Proofs.Ytpnhiknfcpkfbaa
