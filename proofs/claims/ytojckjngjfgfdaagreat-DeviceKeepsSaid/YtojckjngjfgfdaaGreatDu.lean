import Derived.Test.YtojckjngjfgfdaaGreatDr
namespace Go.Proofs.YtojckjngjfgfdaaGreat
set_option linter.unusedSimpArgs false
set_option linter.unusedVariables false
open Go.Proofs.YtojckjngjfgfdaaGreat.Vc
/-! ### Records: each overruled edit has exactly one (plain) -/
/-- How often a record names this edit. -/
def recCount (o l : List De) (x : De) : Nat := (l.filterMap fun a => (o.find? (overD a)).map (ovOf a)).countP fun r => decide (r.device = x.device) && decide (r.seq = x.seq)
theorem recCount_none (o : List De) (x : De) : ∀ l : List De, (∀ a ∈ l, keyEq a x = false) → recCount o l x = 0
  | [], _ => rfl
  | a :: l, h => by
    have ih := recCount_none o x l fun b hb => h b (by simp [hb])
    unfold recCount at ih ⊢
    rw [List.filterMap_cons]
    cases hf : (o.find? (overD a)).map (ovOf a) with
    | none => exact ih
    | some r =>
      obtain ⟨b, _, rfl⟩ := Option.map_eq_some_iff.1 hf
      have hk := h a (by simp)
      dsimp only
      rw [List.countP_cons_of_neg, ih]
      intro hd
      simp only [Bool.and_eq_true, decide_eq_true_eq] at hd
      have : keyEq a x = true := (keyEq_iff a x).2 ⟨hd.1, hd.2⟩
      rw [hk] at this
      cases this
theorem recCount_one (o : List De) (x : De) : ∀ l : List De, KeysD l → x ∈ l → recCount o l x = if o.any (overD x) = true then 1 else 0
  | [], _, h => by simp at h
  | a :: l, hk, h => by
    have hk' := List.pairwise_cons.1 hk
    unfold recCount
    rw [List.filterMap_cons]
    rcases List.mem_cons.1 h with rfl | h
    · have hn := recCount_none o x l fun b hb => by rw [keyEq_symm]; exact hk'.1 b hb
      unfold recCount at hn
      cases hf : o.find? (overD x) with
      | none =>
        have : o.any (overD x) = false := List.any_eq_false.2 fun b hb => List.find?_eq_none.1 hf b hb
        rw [this]
        exact hn
      | some b =>
        have h1 : b ∈ o := List.mem_of_find?_eq_some hf
        have h2 : overD x b = true := List.find?_some hf
        have : o.any (overD x) = true := List.any_eq_true.2 ⟨b, h1, h2⟩
        rw [this]
        simp only [Option.map_some]
        rw [List.countP_cons_of_pos, hn]
        · rfl
        · simp [ovOf]
    · have hax : keyEq a x = false := hk'.1 x h
      have ih := recCount_one o x l hk'.2 h
      unfold recCount at ih
      cases hf : (o.find? (overD a)).map (ovOf a) with
      | none => exact ih
      | some r =>
        obtain ⟨b, _, rfl⟩ := Option.map_eq_some_iff.1 hf
        dsimp only
        rw [List.countP_cons_of_neg, ih]
        intro hd
        simp only [Bool.and_eq_true, decide_eq_true_eq] at hd
        have : keyEq a x = true := (keyEq_iff a x).2 ⟨hd.1, hd.2⟩
        rw [hax] at this
        cases this
/-- What a device knows it knows after any operation but a restoration. -/
theorem run_keeps {n : Nat} {M : List De} {w : Wd} (h : Inv n M w) (hn : n ≤ 40) {o : Opn} (hk5 : ¬ o.kind % 6 = 5) {i : Nat} (hi : i < 3) : ∀ x ∈ (w.now i).edits, x ∈ ((runW w o).now i).edits := fun x hx => by
  by_cases h3 : o.kind % 6 = 3
  · obtain ⟨r, e, _, hm⟩ := run_sync h hn h3
    rw [e, now_setNow _ _ o.i_lt hi]
    split
    · subst_vars; exact (hm x).2 (.inl hx)
    · exact hx
  by_cases h4 : o.kind % 6 = 4
  · rw [(run_copy h h4).1, now_setCopy _ _ o.i_lt hi]
    exact hx
  · rw [(run_add h hn h3 h4 hk5).1, now_setNow _ _ o.i_lt hi]
    split
    · subst_vars; exact List.mem_append.2 (.inl hx)
    · exact hx
/-- Found in force exactly if nothing overrules it. -/
theorem find_force {o : List De} (hs : SortedD o) {x : De} (hx : x ∈ o) : (∃ y ∈ forceD o, keyEq x y = true) ↔ o.any (overD x) = false := by
  have hko : KeysD o := hs.imp fun h => lessD_key h
  constructor
  · rintro ⟨y, hy, hk⟩
    obtain ⟨h1, h2⟩ := mem_forceD.1 hy
    have : x = y := hko.eq hx h1 hk
    subst this
    exact List.any_eq_false.2 fun b hb => by rw [h2 b hb]; simp
  · intro h
    refine ⟨x, mem_forceD.2 ⟨hx, fun b hb => ?_⟩, keyEq_refl x⟩
    have := List.any_eq_false.1 h b hb
    simpa using this
end Go.Proofs.YtojckjngjfgfdaaGreat
