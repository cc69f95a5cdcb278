import Derived.Test.YtojckjngjfgfdaaGreatEs
namespace Go.Proofs.YtojckjngjfgfdaaGreat
set_option linter.unusedSimpArgs false
set_option linter.unusedVariables false
open Go.Proofs.YtojckjngjfgfdaaGreat.Vc
/-! ### Inserting, as the reference does: plain facts about edits -/
theorem mem_tw {α : Type} {p : α → Bool} : ∀ {l : List α} {a : α}, a ∈ l.takeWhile p → p a = true
  | [], a, h => by simp at h
  | x :: l, a, h => by
    rw [List.takeWhile_cons] at h
    split at h
    · rcases List.mem_cons.1 h with rfl | h
      · assumption
      · exact mem_tw h
    · simp at h
theorem drop_tw {α : Type} (p : α → Bool) : ∀ l : List α, l.drop (l.takeWhile p).length = l.dropWhile p
  | [] => rfl
  | x :: l => by
    rw [List.takeWhile_cons, List.dropWhile_cons]
    split
    · rw [List.length_cons, List.drop_succ_cons]; exact drop_tw p l
    · rfl
def insAt (out : List De) (d : De) : Nat := (out.takeWhile fun q => lessD q d).length
def insD (out : List De) (d : De) : List De := if (out[insAt out d]?).any (fun q => keyEq q d) = true then out else out.take (insAt out d) ++ d :: out.drop (insAt out d)
theorem insAt_le (out : List De) (d : De) : insAt out d ≤ out.length := (List.takeWhile_prefix _).length_le
theorem take_insAt (out : List De) (d : De) : out.take (insAt out d) = out.takeWhile fun q => lessD q d := (List.prefix_iff_eq_take.1 (List.takeWhile_prefix _)).symm
theorem insAt_less {out : List De} {d : De} {i : Nat} (h : i < insAt out d) (hi : i < out.length) : lessD out[i] d = true := by
  have h1 : out[i] ∈ out.takeWhile fun q => lessD q d := by
    rw [← take_insAt]
    rw [List.mem_take_iff_getElem]
    exact ⟨i, by omega, rfl⟩
  exact mem_tw (p := fun q => lessD q d) h1
theorem insAt_not {out : List De} {d : De} (h : insAt out d < out.length) : lessD out[insAt out d] d = false := by
  have h2 : out.drop (insAt out d) = out.dropWhile fun q => lessD q d := drop_tw _ out
  have h3 : (out.dropWhile fun q => lessD q d) ≠ [] := by
    intro e
    have := congrArg List.length (h2.trans e)
    simp at this; omega
  have h4 := List.head_dropWhile_not (fun q => lessD q d) h3
  have h5 : (out.dropWhile fun q => lessD q d).head h3 = out[insAt out d] := by
    simp only [← h2]
    rw [List.head_drop]
  rw [h5] at h4
  simpa using h4
theorem insD_sorted {out : List De} {d : De} (h : SortedD out) : SortedD (insD out d) := by
  unfold insD
  split
  · exact h
  · rename_i hk
    have hta : ∀ q ∈ out.take (insAt out d), lessD q d = true := fun q hq => by
      rw [take_insAt] at hq
      exact mem_tw (p := fun q => lessD q d) hq
    have hdr : ∀ q ∈ out.drop (insAt out d), lessD d q = true := fun q hq => by
      by_cases hlt : insAt out d < out.length
      · have h1 := insAt_not hlt
        rw [List.drop_eq_getElem_cons hlt] at hq
        have h2 : lessD d out[insAt out d] = true := by
          cases h3 : lessD d out[insAt out d] with
          | true => rfl
          | false =>
            exfalso
            rw [List.getElem?_eq_getElem hlt] at hk
            exact hk (by simpa using lessD_total h1 h3)
        rcases List.mem_cons.1 hq with rfl | hq
        · exact h2
        · have h4 : SortedD (out.drop (insAt out d)) := List.Pairwise.sublist (List.drop_sublist _ _) h
          rw [List.drop_eq_getElem_cons hlt] at h4
          exact lessD_trans h2 ((List.pairwise_cons.1 h4).1 q hq)
      · rw [List.drop_eq_nil_of_le (by omega)] at hq; simp at hq
    have hs := h
    rw [← List.take_append_drop (insAt out d) out] at hs
    have hs' := List.pairwise_append.1 hs
    refine List.pairwise_append.2 ⟨hs'.1, List.pairwise_cons.2 ⟨hdr, hs'.2.1⟩, fun a ha b hb => ?_⟩
    rcases List.mem_cons.1 hb with rfl | hb
    · exact hta a ha
    · exact hs'.2.2 a ha b hb
theorem insD_mem {out : List De} {d : De} (hc : ∀ q ∈ out, keyEq q d = true → q = d) (x : De) : x ∈ insD out d ↔ x = d ∨ x ∈ out := by
  unfold insD
  split
  · rename_i hk
    have hlt : insAt out d < out.length := by
      rcases Nat.lt_or_ge (insAt out d) out.length with h | h
      · exact h
      · rw [List.getElem?_eq_none h] at hk; simp at hk
    rw [List.getElem?_eq_getElem hlt] at hk
    have := hc _ (List.getElem_mem hlt) (by simpa using hk)
    refine ⟨.inr, fun h => ?_⟩
    rcases h with rfl | h
    · rw [← this]; exact List.getElem_mem hlt
    · exact h
  · have : x ∈ out ↔ x ∈ out.take (insAt out d) ∨ x ∈ out.drop (insAt out d) := by rw [← List.mem_append, List.take_append_drop]
    rw [List.mem_append, List.mem_cons, this]
    constructor
    · rintro (h | h | h)
      · exact .inr (.inl h)
      · exact .inl h
      · exact .inr (.inr h)
    · rintro (h | h | h)
      · exact .inr (.inl h)
      · exact .inl h
      · exact .inr (.inr h)
end Go.Proofs.YtojckjngjfgfdaaGreat
