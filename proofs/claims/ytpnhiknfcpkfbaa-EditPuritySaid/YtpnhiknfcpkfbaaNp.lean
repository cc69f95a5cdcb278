/- Plain lemmas of our own, no statement of the seat: strictly increasing lists; the different elements of a list; ranks. -/
import Derived.Lib.SlicesCompact
namespace Go.Proofs.Ytpnhiknfcpkfbaa
set_option linter.unusedSimpArgs false
set_option linter.unusedVariables false

/-- Strictly increasing. -/
def Inc (l : List Int) : Prop := l.Pairwise (· < ·)
theorem Inc.ext : ∀ {a b : List Int}, Inc a → Inc b → (∀ x, x ∈ a ↔ x ∈ b) → a = b
  | [], [], _, _, _ => rfl
  | [], y :: ys, _, _, h => absurd ((h y).2 (by simp)) (by simp)
  | x :: xs, [], _, _, h => absurd ((h x).1 (by simp)) (by simp)
  | x :: xs, y :: ys, ha, hb, h => by
    have ha' := List.pairwise_cons.1 ha
    have hb' := List.pairwise_cons.1 hb
    have hxy : x = y := by
      rcases Int.lt_trichotomy x y with hlt | he | hlt
      · rcases List.mem_cons.1 ((h x).1 (by simp)) with e | m
        · exact e
        · have := hb'.1 x m; omega
      · exact he
      · rcases List.mem_cons.1 ((h y).2 (by simp)) with e | m
        · exact e.symm
        · have := ha'.1 y m; omega
    subst hxy
    congr 1
    refine Inc.ext ha'.2 hb'.2 fun z => ⟨fun hz => ?_, fun hz => ?_⟩
    · have hlt := ha'.1 z hz
      rcases List.mem_cons.1 ((h z).1 (by simp [hz])) with e | m
      · omega
      · exact m
    · have hlt := hb'.1 z hz
      rcases List.mem_cons.1 ((h z).2 (by simp [hz])) with e | m
      · omega
      · exact m
def ins (x : Int) : List Int → List Int
  | [] => [x]
  | y :: ys => if x < y then x :: y :: ys else if x = y then y :: ys else y :: ins x ys
theorem mem_ins {x z : Int} : ∀ {l : List Int}, z ∈ ins x l ↔ z = x ∨ z ∈ l
  | [] => by simp [ins]
  | y :: ys => by
    unfold ins
    split
    · simp
    · split
      · rename_i h; subst h; simp
      · simp only [List.mem_cons, mem_ins (l := ys)]
        constructor
        · rintro (h | h | h) <;> simp [h]
        · rintro (h | h | h) <;> simp [h]
theorem ins_inc {x : Int} : ∀ {l : List Int}, Inc l → Inc (ins x l)
  | [], _ => by simp [ins, Inc]
  | y :: ys, h => by
    have h' := List.pairwise_cons.1 h
    unfold ins
    split
    · rename_i hlt
      exact List.pairwise_cons.2 ⟨fun z hz => by rcases List.mem_cons.1 hz with e | m; omega; have := h'.1 z m; omega, h⟩
    · split
      · exact h
      · refine List.pairwise_cons.2 ⟨fun z hz => ?_, ins_inc h'.2⟩
        rcases mem_ins.1 hz with e | m
        · omega
        · exact h'.1 z m
/-- The different elements, in increasing order. -/
def rising : List Int → List Int
  | [] => []
  | x :: xs => ins x (rising xs)
theorem rising_inc : ∀ l : List Int, Inc (rising l)
  | [] => List.Pairwise.nil
  | _ :: xs => ins_inc (rising_inc xs)
theorem mem_rising {z : Int} : ∀ {l : List Int}, z ∈ rising l ↔ z ∈ l
  | [] => by simp [rising]
  | x :: xs => by simp [rising, mem_ins, mem_rising (l := xs)]
theorem rising_eq {l r : List Int} (h : Inc r) (hm : ∀ x, x ∈ r ↔ x ∈ l) : r = rising l := Inc.ext h (rising_inc l) fun x => (hm x).trans mem_rising.symm
theorem Inc.nodup {l : List Int} (h : Inc l) : l.Nodup := List.Pairwise.imp (fun hlt => by omega) h
theorem nodup_length_le {α : Type} [DecidableEq α] : ∀ {a b : List α}, a.Nodup → (∀ x ∈ a, x ∈ b) → a.length ≤ b.length
  | [], b, _, _ => by simp
  | x :: xs, b, h, hm => by
    have h' := List.nodup_cons.1 h
    have hx := hm x (by simp)
    have := nodup_length_le (a := xs) (b := b.erase x) h'.2 fun y hy => by
      have hne : y ≠ x := fun e => h'.1 (e ▸ hy)
      exact (List.mem_erase_of_ne hne).2 (hm y (by simp [hy]))
    rw [List.length_erase_of_mem hx] at this
    have := List.length_pos_of_mem hx
    simp only [List.length_cons]
    omega
theorem rising_len (l : List Int) : (rising l).length ≤ l.length := nodup_length_le (rising_inc l).nodup fun x hx => mem_rising.1 hx
/-- How many different elements are less. -/
def rank (l : List Int) (x : Int) : Nat := (rising l).countP (fun y => decide (y < x))
theorem rank_le (l : List Int) (x : Int) : rank l x ≤ (rising l).length := List.countP_le_length
theorem Inc.countP_get : ∀ {l : List Int} (_ : Inc l) {i : Nat} (hi : i < l.length), l.countP (fun y => decide (y < l[i])) = i
  | y :: ys, h, 0, _ => by
    have h' := List.pairwise_cons.1 h
    simp only [List.getElem_cons_zero, List.countP_cons]
    rw [List.countP_eq_zero.2 fun z hz => by have := h'.1 z hz; simp; omega]
    simp
  | y :: ys, h, i + 1, hi => by
    have h' := List.pairwise_cons.1 h
    have hi' : i < ys.length := by simpa using hi
    simp only [List.getElem_cons_succ, List.countP_cons]
    rw [Inc.countP_get h'.2 hi', if_pos]
    simpa using h'.1 _ (List.getElem_mem hi')
/-- The element at an element's rank. -/
theorem rank_get {l : List Int} {x : Int} (hx : x ∈ l) : ∃ h : rank l x < (rising l).length, (rising l)[rank l x] = x := by
  obtain ⟨i, hi, e⟩ := List.getElem_of_mem (mem_rising.2 hx)
  have h1 := (rising_inc l).countP_get hi
  rw [e] at h1
  have h2 : rank l x = i := h1
  exact ⟨by omega, by simp [h2, e]⟩
/-- A list of different elements that are those of l below x has x's rank for its length. -/
theorem rank_of_nodup {l r : List Int} {x : Int} (h : r.Nodup) (hm : ∀ y, y ∈ r ↔ y ∈ l ∧ y < x) : r.length = rank l x := by
  unfold rank
  rw [List.countP_eq_length_filter]
  have h2 : ((rising l).filter fun y => decide (y < x)).Nodup := List.Nodup.sublist List.filter_sublist (rising_inc l).nodup
  exact Nat.le_antisymm (nodup_length_le h fun y hy => by simp [mem_rising, (hm y).1 hy]) (nodup_length_le h2 fun y hy => by
    simp only [List.mem_filter, mem_rising, decide_eq_true_eq] at hy
    exact (hm y).2 hy)
/-- Put in at the place where it belongs. -/
theorem put_inc {l : List Int} {x : Int} {k : Nat} (h : Inc l) (hk : k ≤ l.length) (h1 : ∀ j, (hj : j < l.length) → j < k → l[j] < x) (h2 : ∀ hj : k < l.length, x < l[k]) : Inc (l.take k ++ x :: l.drop k) := by
  have e : (l.take k ++ l.drop k).Pairwise (· < ·) := by rw [List.take_append_drop]; exact h
  obtain ⟨e1, e2, e3⟩ := List.pairwise_append.1 e
  have hd : ∀ z ∈ l.drop k, x < z := fun z hz => by
    by_cases hkl : k < l.length
    · rw [List.drop_eq_getElem_cons hkl] at hz e2
      rcases List.mem_cons.1 hz with e | m
      · rw [e]; exact h2 hkl
      · have := (List.pairwise_cons.1 e2).1 z m
        have := h2 hkl
        omega
    · rw [List.drop_eq_nil_of_le (by omega)] at hz; cases hz
  refine List.pairwise_append.2 ⟨e1, List.pairwise_cons.2 ⟨hd, e2⟩, fun a ha b hb => ?_⟩
  obtain ⟨j, hj, rfl⟩ := List.getElem_of_mem ha
  have hj' : j < k ∧ j < l.length := by simp at hj; omega
  have hja : (l.take k)[j] < x := by simpa using h1 j hj'.2 hj'.1
  rcases List.mem_cons.1 hb with e | m
  · rw [e]; exact hja
  · have := hd b m; omega
theorem mem_put {l : List Int} {x z : Int} {k : Nat} : z ∈ l.take k ++ x :: l.drop k ↔ z = x ∨ z ∈ l := by
  have : z ∈ l ↔ z ∈ l.take k ∨ z ∈ l.drop k := by rw [← List.mem_append, List.take_append_drop]
  rw [List.mem_append, List.mem_cons, this]
  constructor
  · rintro (h | h | h) <;> simp [h]
  · rintro (h | h | h) <;> simp [h]

/-! ### slices.Compact of a sorted list -/
theorem compact_inc (d : Array Int) (hs : ∀ i j, i ≤ j → j < d.size → d[i]! ≤ d[j]!) : ∀ m, m ≤ d.size → Inc (Lib.compactUpTo d m) ∧ (∀ x, x ∈ Lib.compactUpTo d m ↔ ∃ j, j < m ∧ d[j]! = x)
  | 0, _ => by simp [Lib.compactUpTo, Inc]
  | m + 1, hm => by
    obtain ⟨h1, h2⟩ := compact_inc d hs m (by omega)
    rw [Lib.compactUpTo_succ]
    by_cases hk : Lib.keeps d m = true
    · rw [if_pos hk]
      refine ⟨List.pairwise_append.2 ⟨h1, List.pairwise_singleton _ _, fun a ha b hb => ?_⟩, fun x => ?_⟩
      · obtain ⟨j, hj, rfl⟩ := (h2 a).1 ha
        rw [List.mem_singleton.1 hb]
        have h3 := hs j (m - 1) (by omega) (by omega)
        have h4 := hs (m - 1) m (by omega) (by omega)
        simp only [Lib.keeps, decide_eq_true_eq] at hk
        rcases hk with h0 | hne
        · omega
        · have : d[m]! ≠ d[m - 1]! := hne
          omega
      · rw [List.mem_append, h2, List.mem_singleton]
        constructor
        · rintro (⟨j, hj, e⟩ | rfl)
          · exact ⟨j, by omega, e⟩
          · exact ⟨m, by omega, rfl⟩
        · rintro ⟨j, hj, e⟩
          by_cases hjm : j = m
          · subst hjm; exact .inr e.symm
          · exact .inl ⟨j, by omega, e⟩
    · rw [if_neg hk, List.append_nil]
      refine ⟨h1, fun x => ?_⟩
      rw [h2]
      simp only [Lib.keeps, decide_eq_true_eq, not_or] at hk
      have he : d[m]! = d[m - 1]! := Classical.not_not.1 hk.2
      constructor
      · rintro ⟨j, hj, e⟩; exact ⟨j, by omega, e⟩
      · rintro ⟨j, hj, e⟩
        by_cases hjm : j = m
        · subst hjm; exact ⟨j - 1, by omega, by rw [← he]; exact e⟩
        · exact ⟨j, by omega, e⟩
theorem compact_rising (xs : List Int) : Lib.compactUpTo (xs.mergeSort fun x y => decide (x ≤ y)).toArray (xs.mergeSort fun x y => decide (x ≤ y)).toArray.size = rising xs := by
  have hp : (xs.mergeSort fun x y => decide (x ≤ y)).Pairwise (· ≤ ·) := by
    have := List.pairwise_mergeSort (le := fun x y : Int => decide (x ≤ y)) (fun a b c h1 h2 => by simp at *; omega) (fun a b => by simp; omega) xs
    simpa using this
  have hm : ∀ x, x ∈ (xs.mergeSort fun x y => decide (x ≤ y)) ↔ x ∈ xs := fun x => List.mem_mergeSort
  generalize (xs.mergeSort fun x y => decide (x ≤ y)) = ys at hp hm
  obtain ⟨h1, h2⟩ := compact_inc ys.toArray (fun i j hij hj => by
    have hj' : j < ys.length := by simpa using hj
    rcases Nat.lt_or_eq_of_le hij with h | rfl
    · have := List.pairwise_iff_getElem.1 hp i j (by omega) hj' h
      simpa [getElem!_pos, hj', show i < ys.length by omega] using this
    · omega) ys.toArray.size (Nat.le_refl _)
  refine rising_eq h1 fun x => ?_
  rw [h2, ← hm]
  constructor
  · rintro ⟨j, hj, rfl⟩
    have hj' : j < ys.length := by simpa using hj
    simp [getElem!_pos, hj']
  · intro hx
    obtain ⟨j, hj, rfl⟩ := List.getElem_of_mem hx
    exact ⟨j, by simpa using hj, by simp [getElem!_pos, hj]⟩
/-! ### Ranks -/
/-- Repeated elements change nothing. -/
theorem rising_append_self (l : List Int) : rising (l ++ l) = rising l := (rising_eq (rising_inc (l ++ l)) fun x => by simp [mem_rising])
theorem rising_rising (l : List Int) : rising (rising l) = rising l := (rising_eq (rising_inc (rising l)) fun x => by simp [mem_rising])
theorem Inc.get_lt {l : List Int} (h : Inc l) {i j : Nat} (hij : i < j) (hj : j < l.length) : l[i] < l[j] := List.pairwise_iff_getElem.1 h i j (by omega) hj hij
/-- The greatest rank. -/
theorem rank_top {l : List Int} (h : l ≠ []) : ∃ i, ∃ hi : i < l.length, rank l l[i] + 1 = (rising l).length := by
  have hne : rising l ≠ [] := by
    obtain ⟨x, hx⟩ := List.exists_mem_of_ne_nil l h
    exact List.ne_nil_of_mem (mem_rising.2 hx)
  have hpos := List.length_pos_iff.2 hne
  have hm := mem_rising.1 (List.getElem_mem (show (rising l).length - 1 < (rising l).length by omega))
  obtain ⟨i, hi, e⟩ := List.getElem_of_mem hm
  refine ⟨i, hi, ?_⟩
  rw [e]
  have := (rising_inc l).countP_get (show (rising l).length - 1 < (rising l).length by omega)
  unfold rank
  omega
end Go.Proofs.Ytpnhiknfcpkfbaa
