import Derived.Test.YtpnhiknfcpkfbaaFe
namespace Go.Proofs.Ytpnhiknfcpkfbaa
set_option linter.unusedSimpArgs false
set_option linter.unusedVariables false
open Go.Proofs.Ytpnhiknfcpkfbaa.Vc
theorem overD_iff (a b : De) : overD a b = true ↔
    (a.kind = 1 ∧ b.kind = 1 ∧ lessD a b = true ∧ a.day = b.day) ∨ ((a.kind = 1 ∧ b.kind = 3 ∨ a.kind = 2 ∧ b.kind = 2 ∨ a.kind = 3 ∧ b.kind = 3) ∧ lessD a b = true ∧ b.day ≤ a.day) ∨
    (a.kind = 4 ∧ b.kind = 4 ∧ lessD a b = true) ∨ ((a.kind = 1 ∨ a.kind = 2 ∨ a.kind = 3) ∧ b.kind = 5 ∧ b.day ≤ a.day) ∨ (a.kind = 5 ∧ b.kind = 5 ∧ (b.day < a.day ∨ b.day = a.day ∧ lessD a b = true)) := by
  have e : overD a b = (if a.kind = 1 ∧ b.kind = 1 then lessD a b && decide (a.day = b.day)
    else if a.kind = 1 ∧ b.kind = 3 ∨ a.kind = 2 ∧ b.kind = 2 ∨ a.kind = 3 ∧ b.kind = 3 then lessD a b && decide (b.day ≤ a.day)
    else if a.kind = 4 ∧ b.kind = 4 then lessD a b
    else if a.kind = 1 ∧ b.kind = 5 ∨ a.kind = 2 ∧ b.kind = 5 ∨ a.kind = 3 ∧ b.kind = 5 then decide (b.day ≤ a.day)
    else if a.kind = 5 ∧ b.kind = 5 then decide (b.day < a.day) || decide (b.day = a.day) && lessD a b
    else false) := rfl
  rw [e]
  generalize lessD a b = l
  constructor
  · intro h
    repeat' (split at h)
    all_goals (cases l <;> simp at h ⊢ <;> omega)
  · intro h
    repeat' split
    all_goals (cases l <;> simp at h ⊢ <;> omega)
theorem overD_irrefl (a : De) : overD a a = false := by
  cases h : overD a a with
  | false => rfl
  | true => rw [overD_iff, lessD_irrefl] at h; simp at h; omega
theorem overD_trans {a b c : De} (h : overD a b = true) (k : overD b c = true) : overD a c = true := by
  rw [overD_iff] at *
  have ht : lessD a b = true → lessD b c = true → lessD a c = true := fun h k => lessD_trans h k
  rcases h with ⟨h1, h2, h3, h4⟩ | ⟨h1, h3, h4⟩ | ⟨h1, h2, h3⟩ | ⟨h1, h2, h4⟩ | ⟨h1, h2, h4⟩ <;> rcases k with ⟨k1, k2, k3, k4⟩ | ⟨k1, k3, k4⟩ | ⟨k1, k2, k3⟩ | ⟨k1, k2, k4⟩ | ⟨k1, k2, k4⟩
  · exact .inl ⟨h1, k2, ht h3 k3, by omega⟩
  · exact .inr (.inl ⟨by omega, ht h3 k3, by omega⟩)
  · exfalso; omega
  · exact .inr (.inr (.inr (.inl ⟨.inl h1, k2, by omega⟩)))
  · exfalso; omega
  · exfalso; omega
  · exact .inr (.inl ⟨by omega, ht h3 k3, by omega⟩)
  · exfalso; omega
  · exact .inr (.inr (.inr (.inl ⟨by omega, k2, by omega⟩)))
  · exfalso; omega
  · exfalso; omega
  · exfalso; omega
  · exact .inr (.inr (.inl ⟨h1, k2, ht h3 k3⟩))
  · exfalso; omega
  · exfalso; omega
  · exfalso; omega
  · exfalso; omega
  · exfalso; omega
  · exfalso; omega
  · exact .inr (.inr (.inr (.inl ⟨h1, k2, by omega⟩)))
  · exfalso; omega
  · exfalso; omega
  · exfalso; omega
  · exfalso; omega
  · refine .inr (.inr (.inr (.inr ⟨h1, k2, ?_⟩)))
    rcases h4 with h4 | ⟨h4, h5⟩
    · exact .inl (by omega)
    · rcases k4 with k4 | ⟨k4, k5⟩
      · exact .inl (by omega)
      · exact .inr ⟨by omega, ht h5 k5⟩
/-! ### What is made is consistent -/
theorem madeE_valid (e : Ed) : validD (madeE e) = true := by
  have h1 := Int.emod_nonneg e.kind (show (5 : Int) ≠ 0 by omega)
  have h2 := Int.emod_lt_of_pos e.kind (show (0 : Int) < 5 by omega)
  have a1 := Int.emod_nonneg e.day (show (10 : Int) ≠ 0 by omega)
  have a2 := Int.emod_lt_of_pos e.day (show (0 : Int) < 10 by omega)
  have b1 := Int.emod_nonneg e.device (show (3 : Int) ≠ 0 by omega)
  have b2 := Int.emod_lt_of_pos e.device (show (0 : Int) < 3 by omega)
  have c1 := Int.emod_nonneg e.seq (show (8 : Int) ≠ 0 by omega)
  have c2 := Int.emod_lt_of_pos e.seq (show (0 : Int) < 8 by omega)
  have d1 := Int.emod_nonneg e.mv.toDay (show (10 : Int) ≠ 0 by omega)
  have d2 := Int.emod_lt_of_pos e.mv.toDay (show (0 : Int) < 10 by omega)
  have f1 := Int.emod_nonneg e.mv.minute (show (3 : Int) ≠ 0 by omega)
  have f2 := Int.emod_lt_of_pos e.mv.minute (show (0 : Int) < 3 by omega)
  have g1 := Int.emod_nonneg e.mv.length (show (3 : Int) ≠ 0 by omega)
  have g2 := Int.emod_lt_of_pos e.mv.length (show (0 : Int) < 3 by omega)
  have i1 := Int.emod_nonneg e.minute (show (3 : Int) ≠ 0 by omega)
  have i2 := Int.emod_lt_of_pos e.minute (show (0 : Int) < 3 by omega)
  have j1 := Int.emod_nonneg e.length (show (2 : Int) ≠ 0 by omega)
  have j2 := Int.emod_lt_of_pos e.length (show (0 : Int) < 2 by omega)
  have hz : ∀ b : Bool, (if b then zA else zB).size = 1 := by decide
  have hz2 : (((if e.minute % 2 = 0 then zA else zB).size : Nat) : Int) = 1 := by split <;> rfl
  unfold validD validE kindE madeE De.ed betw moveOK betw restZ mvZ
  generalize e.kind % 5 = k at *
  rcases (by omega : k = 0 ∨ k = 1 ∨ k = 2 ∨ k = 3 ∨ k = 4) with rfl | rfl | rfl | rfl | rfl
  · cases hd : e.mv.drop <;> simp [empty_beq] <;> omega
  · simp [empty_beq]; omega
  · simp [empty_beq, ruleN]; omega
  · simp [empty_beq, hz2]; omega
  · simp [empty_beq]; omega
theorem madeStep_mem {out : List De} {d x : De} (h : x ∈ madeStep out d) : x ∈ out ∨ x = d := by
  unfold madeStep at h
  split at h
  · exact .inl h
  · simpa using h
theorem madeStep_keys {out : List De} {d : De} (h : KeysD out) : KeysD (madeStep out d) := by
  unfold madeStep
  split
  · exact h
  · rename_i hn
    refine List.pairwise_append.2 ⟨h, by simp, fun x hx y hy => ?_⟩
    simp only [List.mem_cons, List.not_mem_nil, or_false] at hy
    subst hy
    cases hk : keyEq x y with
    | false => rfl
    | true => exact absurd (List.any_eq_true.2 ⟨x, hx, hk⟩) hn
theorem fold_made : ∀ (l out : List De), KeysD out → KeysD (l.foldl madeStep out) ∧ (∀ d ∈ l.foldl madeStep out, d ∈ out ∨ d ∈ l) ∧ (l.foldl madeStep out).length ≤ out.length + l.length
  | [], out, h => ⟨h, fun d hd => .inl hd, by simp⟩
  | x :: l, out, h => by
    obtain ⟨h1, h2, h3⟩ := fold_made l (madeStep out x) (madeStep_keys h)
    refine ⟨h1, fun d hd => ?_, ?_⟩
    · rcases h2 d hd with h | h
      · rcases madeStep_mem h with h | h
        · exact .inl h
        · exact .inr (by simp [h])
      · exact .inr (by simp [h])
    · have := madeStep_len out x
      simp only [List.foldl_cons, List.length_cons]
      omega
theorem madeL_keys (es : List Ed) : KeysD (madeL es) := (fold_made _ [] List.Pairwise.nil).1
theorem madeL_made (es : List Ed) : ∀ d ∈ madeL es, ∃ e, d = madeE e := fun d hd => by
  rcases (fold_made _ [] List.Pairwise.nil).2.1 d hd with h | h
  · simp at h
  · obtain ⟨e, _, rfl⟩ := List.mem_map.1 h; exact ⟨e, rfl⟩
theorem madeL_len (es : List Ed) : (madeL es).length ≤ 12 := by
  have := (fold_made ((es.take 12).map madeE) [] List.Pairwise.nil).2.2
  unfold madeL
  simp at this ⊢
  omega
theorem madeL_valid (es : List Ed) : ∀ d ∈ madeL es, validD d = true := fun d hd => by obtain ⟨e, rfl⟩ := madeL_made es d hd; exact madeE_valid e
/-! ### Consistent lists -/
/-- The edits are valid, and those with the same number are the same. -/
def Cons (l : List De) : Prop := (∀ d ∈ l, validD d = true) ∧ ∀ a ∈ l, ∀ b ∈ l, keyEq a b = true → a = b
theorem KeysD.eq {l : List De} (h : KeysD l) {a b : De} (ha : a ∈ l) (hb : b ∈ l) (hk : keyEq a b = true) : a = b := by
  induction l with
  | nil => simp at ha
  | cons x l ih =>
    have h' := List.pairwise_cons.1 h
    rcases List.mem_cons.1 ha with ea | ha
    · rcases List.mem_cons.1 hb with eb | hb
      · rw [ea, eb]
      · rw [ea, h'.1 b hb] at hk; cases hk
    · rcases List.mem_cons.1 hb with eb | hb
      · rw [eb, keyEq_symm, h'.1 a ha] at hk; cases hk
      · exact ih h'.2 ha hb
theorem madeL_cons (es : List Ed) : Cons (madeL es) := ⟨madeL_valid es, fun a ha b hb hk => (madeL_keys es).eq ha hb hk⟩
theorem distD_cons : ∀ (l out : List De), (∀ d ∈ l, validD d = true) → (∀ a ∈ out ++ l, ∀ b ∈ out ++ l, keyEq a b = true → a = b) → ∃ o, distD out l = some o ∧ ∀ d, d ∈ o ↔ d ∈ out ∨ d ∈ l
  | [], out, _, _ => ⟨out, rfl, by simp⟩
  | x :: l, out, hv, hc => by
    rw [distD]
    cases hf : out.find? (keyEq x) with
    | some y =>
      have hy := List.mem_of_find?_eq_some hf
      have hk := List.find?_some hf
      have e : x = y := hc x (by simp) y (by simp [hy]) (by simpa using hk)
      subst e
      rw [addD_old (hv x (by simp)) hf, if_pos rfl]
      obtain ⟨o, h1, h2⟩ := distD_cons l out (fun d hd => hv d (by simp [hd])) (fun a ha b hb => hc a (by
        rcases List.mem_append.1 ha with h | h <;> simp [h]) b (by rcases List.mem_append.1 hb with h | h <;> simp [h]))
      refine ⟨o, h1, fun d => ?_⟩
      rw [h2]
      constructor
      · rintro (h | h) <;> simp [h]
      · rintro (h | h)
        · exact .inl h
        · rcases List.mem_cons.1 h with rfl | h
          · exact .inl hy
          · exact .inr h
    | none =>
      rw [addD_new (hv x (by simp)) hf]
      obtain ⟨o, h1, h2⟩ := distD_cons l (out ++ [x]) (fun d hd => hv d (by simp [hd])) (fun a ha b hb => hc a (by simpa using ha) b (by simpa using hb))
      exact ⟨o, h1, fun d => by rw [h2]; simp [or_assoc]⟩
/-- A consistent list has a canonical order. -/
theorem allD_cons {l : List De} (h : Cons l) (hl : l.length ≤ 4096) : ∃ o, allD l = .ok o ∧ SortedD o ∧ ∀ d, d ∈ o ↔ d ∈ l := by
  obtain ⟨o, h1, h2⟩ := distD_cons l [] h.1 (by simpa using h.2)
  refine ⟨sortD o, ?_, sortD_sorted (distD_keys h1 List.Pairwise.nil), fun d => ?_⟩
  · unfold allD
    rw [if_neg (by omega), h1]
    rfl
  · rw [(sortD_perm o).mem_iff, h2]; simp
/-- Only the members count. -/
theorem allD_same {l l' : List De} (h : Cons l) (hl : l.length ≤ 4096) (hl' : l'.length ≤ 4096) (hm : ∀ d, d ∈ l ↔ d ∈ l') : allD l = allD l' := by
  obtain ⟨o, h1, h2, h3⟩ := allD_cons h hl
  obtain ⟨o', k1, k2, k3⟩ := allD_cons (l := l') ⟨fun d hd => h.1 d ((hm d).2 hd), fun a ha b hb => h.2 a ((hm a).2 ha) b ((hm b).2 hb)⟩ hl'
  rw [h1, k1, SortedD.ext h2 k2 (fun d => by rw [h3, k3, hm])]
/-! ### Finding -/
end Go.Proofs.Ytpnhiknfcpkfbaa
