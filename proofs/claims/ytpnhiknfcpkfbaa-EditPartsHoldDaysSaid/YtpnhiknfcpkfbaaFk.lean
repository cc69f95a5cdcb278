import Derived.Test.YtpnhiknfcpkfbaaFj
namespace Go.Proofs.Ytpnhiknfcpkfbaa
set_option linter.unusedSimpArgs false
set_option linter.unusedVariables false
open Go.Proofs.Ytpnhiknfcpkfbaa.Vc
/-! ### What is in force on a day: plain facts -/
def lastOf (p : De → Bool) (l : List De) : Option De := (l.filter p).getLast?
theorem lastOf_snoc (p : De → Bool) (l : List De) (d : De) : lastOf p (l ++ [d]) = if p d = true then some d else lastOf p l := by
  unfold lastOf
  rw [List.filter_append]
  cases h : p d <;> simp [h]
def kOn (k day : Int) (d : De) : Bool := decide (d.kind = k) && decide (d.day ≤ day)
def kind5 (d : De) : Bool := decide (d.kind = 5)
theorem list_snoc_ind {α : Type} {P : List α → Prop} (h0 : P []) (h1 : ∀ l x, P l → P (l ++ [x])) (l : List α) : P l := by
  have : ∀ r : List α, P r.reverse := fun r => by
    induction r with
    | nil => exact h0
    | cons x r ih => rw [List.reverse_cons]; exact h1 _ _ ih
  rw [← List.reverse_reverse l]
  exact this _
theorem onE_snoc (day : Int) (s : On) (l : List De) (d : De) : onE day s (l ++ [d]) = stepOn day (onE day s l) d := by
  unfold onE; rw [List.foldl_append]; rfl
theorem onE_eq (day : Int) (s : On) (l : List De) : onE day s l = ⟨((lastOf (kOn 3 day) l).map (·.rule)).getD s.rule, ((lastOf (kOn 2 day) l).map (·.minute)).getD s.minute, ((lastOf (kOn 2 day) l).map (·.length)).getD s.length, ((lastOf (kOn 4 day) l).map (·.zone)).getD s.zone⟩ := by
  refine list_snoc_ind (P := fun l => onE day s l = ⟨((lastOf (kOn 3 day) l).map (·.rule)).getD s.rule, ((lastOf (kOn 2 day) l).map (·.minute)).getD s.minute, ((lastOf (kOn 2 day) l).map (·.length)).getD s.length, ((lastOf (kOn 4 day) l).map (·.zone)).getD s.zone⟩) rfl (fun l d ih => ?_) l
  rw [onE_snoc, ih, lastOf_snoc, lastOf_snoc, lastOf_snoc]
  unfold stepOn kOn
  by_cases h0 : day < d.day
  · have : ¬ d.day ≤ day := by omega
    simp [h0, this]
  · have h0' : d.day ≤ day := by omega
    by_cases h2 : d.kind = 2
    · simp [h0, h0', h2]
    · by_cases h3 : d.kind = 3
      · simp [h0, h0', h3]
      · by_cases h4 : d.kind = 4 <;> simp [h0, h0', h2, h3, h4]
theorem endE_snoc (l : List De) (d : De) : endE (l ++ [d]) = if d.kind = 5 then d.day else endE l := by
  unfold endE; rw [List.foldl_append]; rfl
theorem endE_eq (l : List De) : endE l = ((lastOf kind5 l).map (·.day)).getD 1099511627777 := by
  refine list_snoc_ind (P := fun l => endE l = ((lastOf kind5 l).map (·.day)).getD 1099511627777) rfl (fun l d ih => ?_) l
  rw [endE_snoc, lastOf_snoc, ih]
  unfold kind5
  by_cases h : d.kind = 5 <;> simp [h]
theorem lastOf_some {p : De → Bool} {l : List De} {c : De} (h : lastOf p l = some c) : c ∈ l ∧ p c = true := by
  have := List.mem_of_getLast? h
  exact List.mem_filter.1 this
theorem lastOf_none {p : De → Bool} {l : List De} (h : lastOf p l = none) : ∀ d ∈ l, p d = false := by
  unfold lastOf at h
  rw [List.getLast?_eq_none_iff, List.filter_eq_nil_iff] at h
  intro d hd
  simpa using h d hd
/-- The last one is behind the others. -/
theorem lastOf_max {p : De → Bool} {l : List De} {c x : De} (hs : SortedD l) (h : lastOf p l = some c) (hx : x ∈ l) (hp : p x = true) : x = c ∨ lessD x c = true := by
  have hs' : SortedD (l.filter p) := List.Pairwise.sublist List.filter_sublist hs
  have hm : x ∈ l.filter p := List.mem_filter.2 ⟨hx, hp⟩
  unfold lastOf at h
  obtain ⟨l0, hl⟩ := List.getLast?_eq_some_iff.1 h
  rw [hl] at hs' hm
  rcases List.mem_append.1 hm with h1 | h1
  · exact .inr ((List.pairwise_append.1 hs').2.2 x h1 c (by simp))
  · exact .inl (by simpa using h1)
theorem lastOf_of {p : De → Bool} {l : List De} {c : De} (hs : SortedD l) (hc : c ∈ l) (hp : p c = true) (hmax : ∀ x ∈ l, p x = true → x = c ∨ lessD x c = true) : lastOf p l = some c := by
  cases h : lastOf p l with
  | none => have := lastOf_none h c hc; rw [hp] at this; cases this
  | some y =>
    obtain ⟨hy, hpy⟩ := lastOf_some h
    rcases lastOf_max hs h hc hp with e | e
    · rw [e]
    · rcases hmax y hy hpy with e' | e'
      · rw [e']
      · rw [lessD_asymm e] at e'; cases e'
/-- If the last one is in force, it is the last one in force. -/
theorem lastOf_force {p : De → Bool} {o : List De} (hs : SortedD o) (h : ∀ c, lastOf p o = some c → c ∈ forceD o) : lastOf p (forceD o) = lastOf p o := by
  cases hc : lastOf p o with
  | none =>
    unfold lastOf
    rw [List.getLast?_eq_none_iff, List.filter_eq_nil_iff]
    intro d hd
    simpa using lastOf_none hc d (mem_forceD.1 hd).1
  | some c =>
    obtain ⟨h1, h2⟩ := lastOf_some hc
    exact lastOf_of (forceD_sorted hs) (h c hc) h2 fun x hx hp => lastOf_max hs hc (mem_forceD.1 hx).1 hp
theorem valid_kind {d : De} (h : validD d = true) : d.kind = 1 ∨ d.kind = 2 ∨ d.kind = 3 ∨ d.kind = 4 ∨ d.kind = 5 := by
  unfold validD validE at h
  simp only [Bool.and_eq_true] at h
  have h4 := h.2
  unfold kindE at h4
  repeat' (split at h4)
  all_goals first
    | (rename_i hk; exact .inl hk)
    | (rename_i hk; exact .inr (.inl hk))
    | (rename_i hk; exact .inr (.inr (.inl hk)))
    | (rename_i hk; exact .inr (.inr (.inr (.inl hk))))
    | (rename_i hk; exact .inr (.inr (.inr (.inr hk))))
    | cases h4
theorem valid_day {d : De} (h : validD d = true) : 0 ≤ d.day ∧ d.day ≤ 1099511627776 := by
  unfold validD validE betw at h
  simp only [Bool.and_eq_true, decide_eq_true_eq] at h
  exact h.1.2
theorem valid_zone {d : De} (h : validD d = true) (hk : d.kind = 4) : d.day = 0 := by
  unfold validD validE at h
  simp only [Bool.and_eq_true] at h
  have h4 := h.2
  unfold kindE at h4
  have hk' : (d.ed none d.rule.length 0).kind = 4 := hk
  rw [if_neg (by omega), if_neg (by omega), if_neg (by omega), if_pos hk'] at h4
  simp only [Bool.and_eq_true, decide_eq_true_eq] at h4
  exact h4.1.1
theorem valid_length {d : De} (h : validD d = true) (hk : d.kind = 2) : 1 ≤ d.length := by
  unfold validD validE at h
  simp only [Bool.and_eq_true] at h
  have h4 := h.2
  unfold kindE betw at h4
  have hk' : (d.ed none d.rule.length 0).kind = 2 := hk
  rw [if_neg (by omega), if_pos hk'] at h4
  simp only [Bool.and_eq_true, decide_eq_true_eq] at h4
  exact h4.1.2.1
section
variable {o : List De} (hs : SortedD o) (hv : ∀ d ∈ o, validD d = true)
include hs
theorem withdraw_one {a b : De} (ha : a ∈ forceD o) (hb : b ∈ forceD o) (ka : a.kind = 5) (kb : b.kind = 5) : a = b := by
  have h1 := (mem_forceD.1 ha).2 b (mem_forceD.1 hb).1
  have h2 := (mem_forceD.1 hb).2 a (mem_forceD.1 ha).1
  have h3 : ¬ overD a b = true := by rw [h1]; simp
  have h4 : ¬ overD b a = true := by rw [h2]; simp
  rw [overD_iff] at h3 h4
  have hd : a.day = b.day := by
    rcases Int.lt_trichotomy a.day b.day with h | h | h
    · exact absurd (.inr (.inr (.inr (.inr ⟨kb, ka, .inl h⟩)))) h4
    · exact h
    · exact absurd (.inr (.inr (.inr (.inr ⟨ka, kb, .inl h⟩)))) h3
  have l1 : lessD a b = false := by
    cases h : lessD a b with
    | false => rfl
    | true => exact absurd (.inr (.inr (.inr (.inr ⟨ka, kb, .inr ⟨hd.symm, h⟩⟩)))) h3
  have l2 : lessD b a = false := by
    cases h : lessD b a with
    | false => rfl
    | true => exact absurd (.inr (.inr (.inr (.inr ⟨kb, ka, .inr ⟨hd, h⟩⟩)))) h4
  have hk := lessD_total l1 l2
  have hkeys : KeysD o := hs.imp fun h => lessD_key h
  exact hkeys.eq (mem_forceD.1 ha).1 (mem_forceD.1 hb).1 hk
theorem endE_mem {w : De} (hw : w ∈ forceD o) (hk : w.kind = 5) : endE (forceD o) = w.day := by
  rw [endE_eq]
  cases h : lastOf kind5 (forceD o) with
  | none => have := lastOf_none h w hw; simp [kind5, hk] at this
  | some c =>
    obtain ⟨h1, h2⟩ := lastOf_some h
    rw [withdraw_one hs h1 hw (by simpa [kind5] using h2) hk]
    rfl
theorem endE_le {w : De} (hw : w ∈ o) (hk : w.kind = 5) : endE (forceD o) ≤ w.day := by
  by_cases hf : ∃ b ∈ o, overD w b = true
  · obtain ⟨c, hc, hwc⟩ := over_force _ w (Nat.le_refl _) hf
    rw [overD_iff] at hwc
    have hck : c.kind = 5 ∧ c.day ≤ w.day := by omega
    rw [endE_mem hs hc hck.1]
    exact hck.2
  · rw [endE_mem hs (mem_forceD.2 ⟨hw, fun b hb => by
      cases h : overD w b with
      | false => rfl
      | true => exact absurd ⟨b, hb, h⟩ hf⟩) hk]
    exact Int.le_refl _
include hv
omit hs in
theorem force_lt_end {d : De} (hd : d ∈ forceD o) (hk : d.kind = 1 ∨ d.kind = 2 ∨ d.kind = 3) : d.day < endE (forceD o) := by
  have hvd := (valid_day (hv d (mem_forceD.1 hd).1)).2
  rw [endE_eq]
  cases h : lastOf kind5 (forceD o) with
  | none => simp; omega
  | some w =>
    obtain ⟨h1, h2⟩ := lastOf_some h
    have hwk : w.kind = 5 := by simpa [kind5] using h2
    have h3 : ¬ overD d w = true := by rw [(mem_forceD.1 hd).2 w (mem_forceD.1 h1).1]; simp
    rw [overD_iff] at h3
    simp only [Option.map_some, Option.getD_some]
    omega
omit hs hv in
theorem end_cases : endE (forceD o) = 1099511627777 ∨ ∃ w ∈ forceD o, w.kind = 5 ∧ w.day = endE (forceD o) := by
  rw [endE_eq]
  cases h : lastOf kind5 (forceD o) with
  | none => exact .inl rfl
  | some w =>
    obtain ⟨h1, h2⟩ := lastOf_some h
    exact .inr ⟨w, h1, by simpa [kind5] using h2, rfl⟩
/-- The last edit of a kind that concerns a day before the end is in force. -/
theorem last_in_force {k day : Int} (hk : k = 2 ∨ k = 3 ∨ k = 4) (hday : day < endE (forceD o)) {c : De} (h : lastOf (kOn k day) o = some c) : c ∈ forceD o := by
  obtain ⟨hc, hp⟩ := lastOf_some h
  have hp' : c.kind = k ∧ c.day ≤ day := by simpa [kOn] using hp
  refine mem_forceD.2 ⟨hc, fun b hb => ?_⟩
  cases hcb : overD c b with
  | false => rfl
  | true =>
    exfalso
    have hb2 := hv b hb
    rw [overD_iff] at hcb
    have hw : b.kind = 5 → b.day ≤ c.day → False := fun h1 h2 => by have := endE_le hs hb h1; omega
    have hl : b.kind = k → b.day ≤ day → lessD c b = true → False := fun h1 h2 h3 => by
      rcases lastOf_max hs h hb (by simp [kOn, h1, h2]) with e | e
      · rw [e, lessD_irrefl] at h3; cases h3
      · rw [lessD_asymm e] at h3; cases h3
    rcases hcb with h1 | h1 | h1 | h1 | h1
    · omega
    · obtain ⟨h2, h3, h4⟩ := h1
      exact hl (by omega) (by omega) h3
    · have := valid_zone hb2 h1.2.1
      have := valid_zone (hv c hc) h1.1
      exact hl (by omega) (by omega) h1.2.2
    · exact hw h1.2.1 h1.2.2
    · omega
/-- What is in force on a day before the end: all edits say the same as those in force. -/
theorem onE_force (day : Int) (s : On) (hday : day < endE (forceD o)) : onE day s (forceD o) = onE day s o := by
  rw [onE_eq, onE_eq, lastOf_force hs fun c hc => last_in_force hs hv (.inr (.inl rfl)) hday hc, lastOf_force hs fun c hc => last_in_force hs hv (.inl rfl) hday hc, lastOf_force hs fun c hc => last_in_force hs hv (.inr (.inr rfl)) hday hc]
omit hv in
/-- On its day an edit in force is the last one of its kind. -/
theorem last_self {a : De} {k : Int} (hk : k = 2 ∨ k = 3) (ha : a ∈ forceD o) (hak : a.kind = k) : lastOf (kOn k a.day) (forceD o) = some a := by
  refine lastOf_of (forceD_sorted hs) ha (by simp [kOn, hak]) fun x hx hp => ?_
  have hp' : x.kind = k ∧ x.day ≤ a.day := by simpa [kOn] using hp
  have h3 : ¬ overD a x = true := by rw [(mem_forceD.1 ha).2 x (mem_forceD.1 hx).1]; simp
  rw [overD_iff] at h3
  cases h : lessD x a with
  | true => exact .inr rfl
  | false =>
    cases h' : lessD a x with
    | true =>
      have hkk : a.kind = 1 ∧ x.kind = 3 ∨ a.kind = 2 ∧ x.kind = 2 ∨ a.kind = 3 ∧ x.kind = 3 := by
        rcases hk with rfl | rfl
        · exact .inr (.inl ⟨hak, hp'.1⟩)
        · exact .inr (.inr ⟨hak, hp'.1⟩)
      exact absurd (.inr (.inl ⟨hkk, h', hp'.2⟩)) h3
    | false =>
      have hkeys : KeysD o := hs.imp fun h => lessD_key h
      exact .inl (hkeys.eq (mem_forceD.1 hx).1 (mem_forceD.1 ha).1 (lessD_total h h'))
omit hv in
theorem zone_self {a : De} (ha : a ∈ forceD o) (hak : a.kind = 4) : lastOf (kOn 4 a.day) (forceD o) = some a := by
  refine lastOf_of (forceD_sorted hs) ha (by simp [kOn, hak]) fun x hx hp => ?_
  have hp' : x.kind = 4 ∧ x.day ≤ a.day := by simpa [kOn] using hp
  have h3 : ¬ overD a x = true := by rw [(mem_forceD.1 ha).2 x (mem_forceD.1 hx).1]; simp
  rw [overD_iff] at h3
  cases h : lessD x a with
  | true => exact .inr rfl
  | false =>
    cases h' : lessD a x with
    | true => exact absurd (.inr (.inr (.inl ⟨hak, hp'.1, h'⟩))) h3
    | false =>
      have hkeys : KeysD o := hs.imp fun h => lessD_key h
      exact .inl (hkeys.eq (mem_forceD.1 hx).1 (mem_forceD.1 ha).1 (lessD_total h h'))
end
end Go.Proofs.Ytpnhiknfcpkfbaa
