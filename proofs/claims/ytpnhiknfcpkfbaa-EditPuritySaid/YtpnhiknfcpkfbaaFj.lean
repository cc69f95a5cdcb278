import Derived.Test.YtpnhiknfcpkfbaaFg
namespace Go.Proofs.Ytpnhiknfcpkfbaa
set_option linter.unusedSimpArgs false
set_option linter.unusedVariables false
open Go.Proofs.Ytpnhiknfcpkfbaa.Vc
/-! ### Plain facts -/
theorem overCount_lt {o : List De} {d b : De} (hb : b ∈ o) (h : overD d b = true) : (o.filter (overD b)).length < (o.filter (overD d)).length := by
  have hsub : ∀ l : List De, (l.filter (overD b)).length ≤ (l.filter (overD d)).length := fun l => by
    induction l with
    | nil => simp
    | cons x l ih =>
      rw [List.filter_cons, List.filter_cons]
      cases hx : overD b x with
      | true => rw [overD_trans h hx]; simpa using ih
      | false => cases overD d x <;> simp <;> omega
  obtain ⟨l1, l2, rfl⟩ := List.append_of_mem hb
  rw [List.filter_append, List.filter_append, List.filter_cons, List.filter_cons, h, overD_irrefl]
  have h1 := hsub l1
  have h2 := hsub l2
  simp
  omega
/-- An edit that is overruled is overruled by one in force. -/
theorem over_force {o : List De} : ∀ (n : Nat) (d : De), (o.filter (overD d)).length ≤ n → (∃ b ∈ o, overD d b = true) → ∃ c ∈ forceD o, overD d c = true
  | 0, d, hn, ⟨b, hb, h⟩ => by have := overCount_lt hb h; omega
  | n + 1, d, hn, ⟨b, hb, h⟩ => by
    by_cases hf : ∃ c ∈ o, overD b c = true
    · obtain ⟨c, hc, hbc⟩ := over_force n b (by have := overCount_lt hb h; omega) hf
      exact ⟨c, hc, overD_trans h hbc⟩
    · refine ⟨b, mem_forceD.2 ⟨hb, fun c hc => ?_⟩, h⟩
      cases hbc : overD b c with
      | false => rfl
      | true => exact absurd ⟨c, hc, hbc⟩ hf
theorem force_recs_len (o : List De) : ∀ l : List De, (l.filter fun a => !(o.any (overD a))).length + (l.filterMap fun a => (o.find? (overD a)).map (ovOf a)).length = l.length
  | [] => rfl
  | x :: l => by
    have ih := force_recs_len o l
    rw [List.filter_cons, List.filterMap_cons]
    cases hf : o.find? (overD x) with
    | none =>
      have : o.any (overD x) = false := List.any_eq_false.2 (List.find?_eq_none.1 hf)
      rw [this]
      simp
      omega
    | some b =>
      have : o.any (overD x) = true := List.any_eq_true.2 ⟨b, List.mem_of_find?_eq_some hf, List.find?_some hf⟩
      rw [this]
      simp
      omega
theorem recs_split {o l : List De} {i : Nat} (hi : i < (l.filterMap fun a => (o.find? (overD a)).map (ovOf a)).length) : ∃ a b, a ∈ l ∧ o.find? (overD a) = some b ∧ (l.filterMap fun a => (o.find? (overD a)).map (ovOf a))[i] = ovOf a b := by
  have hm := List.getElem_mem hi
  obtain ⟨a, ha, h⟩ := List.mem_filterMap.1 hm
  obtain ⟨b, hb, he⟩ := Option.map_eq_some_iff.1 h
  exact ⟨a, b, ha, hb, he.symm⟩
/-- The records are in canonical order. -/
theorem recs_sorted {o : List De} : ∀ {l : List De}, SortedD l → (l.filterMap fun a => (o.find? (overD a)).map fun b => (a, b)).Pairwise fun x y => lessD x.1 y.1 = true
  | [], _ => by simp
  | x :: l, h => by
    have h' := List.pairwise_cons.1 h
    rw [List.filterMap_cons]
    have ih := recs_sorted (o := o) h'.2
    cases hf : (o.find? (overD x)).map fun b => (x, b) with
    | none => exact ih
    | some p =>
      obtain ⟨b, hb, rfl⟩ := Option.map_eq_some_iff.1 hf
      refine List.pairwise_cons.2 ⟨fun q hq => ?_, ih⟩
      obtain ⟨a, ha, hq'⟩ := List.mem_filterMap.1 hq
      obtain ⟨b', _, rfl⟩ := Option.map_eq_some_iff.1 hq'
      exact h'.1 a ha
theorem recs_map (o l : List De) : (l.filterMap fun a => (o.find? (overD a)).map (ovOf a)) = (l.filterMap fun a => (o.find? (overD a)).map fun b => (a, b)).map fun p => ovOf p.1 p.2 := by
  induction l with
  | nil => rfl
  | cons x l ih =>
    rw [List.filterMap_cons, List.filterMap_cons]
    cases o.find? (overD x) with
    | none => exact ih
    | some b => simp only [Option.map_some, List.map_cons, ih]
/-- The record number i. -/
theorem recs_at {o : List De} (hs : SortedD o) {i : Nat} (hi : i < (recsD o).length) : ∃ a b, a ∈ o ∧ b ∈ o ∧ overD a b = true ∧ (recsD o)[i] = ovOf a b ∧ ∀ (h0 : 0 < i), ∃ a' b', a' ∈ o ∧ (recsD o)[i - 1]'(by omega) = ovOf a' b' ∧ lessD a' a = true := by
  have hm := recs_map o o
  have hp := recs_sorted (o := o) hs
  have hl : (recsD o).length = (o.filterMap fun a => (o.find? (overD a)).map fun b => (a, b)).length := by
    unfold recsD; rw [hm, List.length_map]
  have hget : ∀ j (hj : j < (recsD o).length), (recsD o)[j] = ovOf ((o.filterMap fun a => (o.find? (overD a)).map fun b => (a, b))[j]'(by omega)).1 ((o.filterMap fun a => (o.find? (overD a)).map fun b => (a, b))[j]'(by omega)).2 := fun j hj => by
    unfold recsD at hj ⊢
    simp only [hm, List.getElem_map]
  have hmem : ∀ j (hj : j < (o.filterMap fun a => (o.find? (overD a)).map fun b => (a, b)).length), ((o.filterMap fun a => (o.find? (overD a)).map fun b => (a, b))[j]).1 ∈ o ∧ o.find? (overD ((o.filterMap fun a => (o.find? (overD a)).map fun b => (a, b))[j]).1) = some ((o.filterMap fun a => (o.find? (overD a)).map fun b => (a, b))[j]).2 := fun j hj => by
    obtain ⟨a, ha, h⟩ := List.mem_filterMap.1 (List.getElem_mem hj)
    obtain ⟨b, hb, he⟩ := Option.map_eq_some_iff.1 h
    rw [← he]
    exact ⟨ha, hb⟩
  obtain ⟨h1, h2⟩ := hmem i (by omega)
  refine ⟨_, _, h1, List.mem_of_find?_eq_some h2, List.find?_some h2, hget i hi, fun h0 => ⟨_, _, (hmem (i - 1) (by omega)).1, hget (i - 1) (by omega), ?_⟩⟩
  exact (List.pairwise_iff_getElem.1 hp) (i - 1) i (by omega) (by omega) (by omega)
end Go.Proofs.Ytpnhiknfcpkfbaa
namespace Go.Proofs.Ytpnhiknfcpkfbaa
set_option linter.unusedSimpArgs false
set_option linter.unusedVariables false
open Go.Proofs.Ytpnhiknfcpkfbaa.Vc
/-! ### What is in force on a day: plain facts -/
def lastOf (p : De → Bool) (l : List De) : Option De := (l.filter p).getLast?
theorem lastOf_snoc (p : De → Bool) (l : List De) (d : De) : lastOf p (l ++ [d]) = if p d = true then some d else lastOf p l := by
  unfold lastOf
  rw [List.filter_append]
  cases h : p d <;> simp [h]
def kOn (k day : Int) (d : De) : Bool := decide (d.kind = k) && decide (d.day ≤ day)
def kind5 (d : De) : Bool := decide (d.kind = 5)
theorem list_snoc_ind {α : Type} {P : List α → Prop} (h0 : P []) (h1 : ∀ l x, P l → P (l ++ [x])) (l : List α) : P l := by
  have : ∀ r : List α, P r.reverse := fun r => by
    induction r with
    | nil => exact h0
    | cons x r ih => rw [List.reverse_cons]; exact h1 _ _ ih
  rw [← List.reverse_reverse l]
  exact this _
theorem onE_snoc (day : Int) (s : On) (l : List De) (d : De) : onE day s (l ++ [d]) = stepOn day (onE day s l) d := by
  unfold onE; rw [List.foldl_append]; rfl
theorem onE_eq (day : Int) (s : On) (l : List De) : onE day s l = ⟨((lastOf (kOn 3 day) l).map (·.rule)).getD s.rule, ((lastOf (kOn 2 day) l).map (·.minute)).getD s.minute, ((lastOf (kOn 2 day) l).map (·.length)).getD s.length, ((lastOf (kOn 4 day) l).map (·.zone)).getD s.zone⟩ := by
  refine list_snoc_ind (P := fun l => onE day s l = ⟨((lastOf (kOn 3 day) l).map (·.rule)).getD s.rule, ((lastOf (kOn 2 day) l).map (·.minute)).getD s.minute, ((lastOf (kOn 2 day) l).map (·.length)).getD s.length, ((lastOf (kOn 4 day) l).map (·.zone)).getD s.zone⟩) rfl (fun l d ih => ?_) l
  rw [onE_snoc, ih, lastOf_snoc, lastOf_snoc, lastOf_snoc]
  unfold stepOn kOn
  by_cases h0 : day < d.day
  · have : ¬ d.day ≤ day := by omega
    simp [h0, this]
  · have h0' : d.day ≤ day := by omega
    by_cases h2 : d.kind = 2
    · simp [h0, h0', h2]
    · by_cases h3 : d.kind = 3
      · simp [h0, h0', h3]
      · by_cases h4 : d.kind = 4 <;> simp [h0, h0', h2, h3, h4]
theorem endE_snoc (l : List De) (d : De) : endE (l ++ [d]) = if d.kind = 5 then d.day else endE l := by
  unfold endE; rw [List.foldl_append]; rfl
theorem endE_eq (l : List De) : endE l = ((lastOf kind5 l).map (·.day)).getD 1099511627777 := by
  refine list_snoc_ind (P := fun l => endE l = ((lastOf kind5 l).map (·.day)).getD 1099511627777) rfl (fun l d ih => ?_) l
  rw [endE_snoc, lastOf_snoc, ih]
  unfold kind5
  by_cases h : d.kind = 5 <;> simp [h]
theorem lastOf_some {p : De → Bool} {l : List De} {c : De} (h : lastOf p l = some c) : c ∈ l ∧ p c = true := by
  have := List.mem_of_getLast? h
  exact List.mem_filter.1 this
theorem lastOf_none {p : De → Bool} {l : List De} (h : lastOf p l = none) : ∀ d ∈ l, p d = false := by
  unfold lastOf at h
  rw [List.getLast?_eq_none_iff, List.filter_eq_nil_iff] at h
  intro d hd
  simpa using h d hd
/-- The last one is behind the others. -/
theorem lastOf_max {p : De → Bool} {l : List De} {c x : De} (hs : SortedD l) (h : lastOf p l = some c) (hx : x ∈ l) (hp : p x = true) : x = c ∨ lessD x c = true := by
  have hs' : SortedD (l.filter p) := List.Pairwise.sublist List.filter_sublist hs
  have hm : x ∈ l.filter p := List.mem_filter.2 ⟨hx, hp⟩
  unfold lastOf at h
  obtain ⟨l0, hl⟩ := List.getLast?_eq_some_iff.1 h
  rw [hl] at hs' hm
  rcases List.mem_append.1 hm with h1 | h1
  · exact .inr ((List.pairwise_append.1 hs').2.2 x h1 c (by simp))
  · exact .inl (by simpa using h1)
theorem lastOf_of {p : De → Bool} {l : List De} {c : De} (hs : SortedD l) (hc : c ∈ l) (hp : p c = true) (hmax : ∀ x ∈ l, p x = true → x = c ∨ lessD x c = true) : lastOf p l = some c := by
  cases h : lastOf p l with
  | none => have := lastOf_none h c hc; rw [hp] at this; cases this
  | some y =>
    obtain ⟨hy, hpy⟩ := lastOf_some h
    rcases lastOf_max hs h hc hp with e | e
    · rw [e]
    · rcases hmax y hy hpy with e' | e'
      · rw [e']
      · rw [lessD_asymm e] at e'; cases e'
/-- If the last one is in force, it is the last one in force. -/
theorem lastOf_force {p : De → Bool} {o : List De} (hs : SortedD o) (h : ∀ c, lastOf p o = some c → c ∈ forceD o) : lastOf p (forceD o) = lastOf p o := by
  cases hc : lastOf p o with
  | none =>
    unfold lastOf
    rw [List.getLast?_eq_none_iff, List.filter_eq_nil_iff]
    intro d hd
    simpa using lastOf_none hc d (mem_forceD.1 hd).1
  | some c =>
    obtain ⟨h1, h2⟩ := lastOf_some hc
    exact lastOf_of (forceD_sorted hs) (h c hc) h2 fun x hx hp => lastOf_max hs hc (mem_forceD.1 hx).1 hp
theorem valid_kind {d : De} (h : validD d = true) : d.kind = 1 ∨ d.kind = 2 ∨ d.kind = 3 ∨ d.kind = 4 ∨ d.kind = 5 := by
  unfold validD validE at h
  simp only [Bool.and_eq_true] at h
  have h4 := h.2
  unfold kindE at h4
  repeat' (split at h4)
  all_goals first
    | (rename_i hk; exact .inl hk)
    | (rename_i hk; exact .inr (.inl hk))
    | (rename_i hk; exact .inr (.inr (.inl hk)))
    | (rename_i hk; exact .inr (.inr (.inr (.inl hk))))
    | (rename_i hk; exact .inr (.inr (.inr (.inr hk))))
    | cases h4
theorem valid_day {d : De} (h : validD d = true) : 0 ≤ d.day ∧ d.day ≤ 1099511627776 := by
  unfold validD validE betw at h
  simp only [Bool.and_eq_true, decide_eq_true_eq] at h
  exact h.1.2
theorem valid_zone {d : De} (h : validD d = true) (hk : d.kind = 4) : d.day = 0 := by
  unfold validD validE at h
  simp only [Bool.and_eq_true] at h
  have h4 := h.2
  unfold kindE at h4
  have hk' : (d.ed none d.rule.length 0).kind = 4 := hk
  rw [if_neg (by omega), if_neg (by omega), if_neg (by omega), if_pos hk'] at h4
  simp only [Bool.and_eq_true, decide_eq_true_eq] at h4
  exact h4.1.1
theorem valid_length {d : De} (h : validD d = true) (hk : d.kind = 2) : 1 ≤ d.length := by
  unfold validD validE at h
  simp only [Bool.and_eq_true] at h
  have h4 := h.2
  unfold kindE betw at h4
  have hk' : (d.ed none d.rule.length 0).kind = 2 := hk
  rw [if_neg (by omega), if_pos hk'] at h4
  simp only [Bool.and_eq_true, decide_eq_true_eq] at h4
  exact h4.1.2.1
section
variable {o : List De} (hs : SortedD o) (hv : ∀ d ∈ o, validD d = true)
include hs
theorem withdraw_one {a b : De} (ha : a ∈ forceD o) (hb : b ∈ forceD o) (ka : a.kind = 5) (kb : b.kind = 5) : a = b := by
  have h1 := (mem_forceD.1 ha).2 b (mem_forceD.1 hb).1
  have h2 := (mem_forceD.1 hb).2 a (mem_forceD.1 ha).1
  have h3 : ¬ overD a b = true := by rw [h1]; simp
  have h4 : ¬ overD b a = true := by rw [h2]; simp
  rw [overD_iff] at h3 h4
  have hd : a.day = b.day := by
    rcases Int.lt_trichotomy a.day b.day with h | h | h
    · exact absurd (.inr (.inr (.inr (.inr ⟨kb, ka, .inl h⟩)))) h4
    · exact h
    · exact absurd (.inr (.inr (.inr (.inr ⟨ka, kb, .inl h⟩)))) h3
  have l1 : lessD a b = false := by
    cases h : lessD a b with
    | false => rfl
    | true => exact absurd (.inr (.inr (.inr (.inr ⟨ka, kb, .inr ⟨hd.symm, h⟩⟩)))) h3
  have l2 : lessD b a = false := by
    cases h : lessD b a with
    | false => rfl
    | true => exact absurd (.inr (.inr (.inr (.inr ⟨kb, ka, .inr ⟨hd, h⟩⟩)))) h4
  have hk := lessD_total l1 l2
  have hkeys : KeysD o := hs.imp fun h => lessD_key h
  exact hkeys.eq (mem_forceD.1 ha).1 (mem_forceD.1 hb).1 hk
theorem endE_mem {w : De} (hw : w ∈ forceD o) (hk : w.kind = 5) : endE (forceD o) = w.day := by
  rw [endE_eq]
  cases h : lastOf kind5 (forceD o) with
  | none => have := lastOf_none h w hw; simp [kind5, hk] at this
  | some c =>
    obtain ⟨h1, h2⟩ := lastOf_some h
    rw [withdraw_one hs h1 hw (by simpa [kind5] using h2) hk]
    rfl
theorem endE_le {w : De} (hw : w ∈ o) (hk : w.kind = 5) : endE (forceD o) ≤ w.day := by
  by_cases hf : ∃ b ∈ o, overD w b = true
  · obtain ⟨c, hc, hwc⟩ := over_force _ w (Nat.le_refl _) hf
    rw [overD_iff] at hwc
    have hck : c.kind = 5 ∧ c.day ≤ w.day := by omega
    rw [endE_mem hs hc hck.1]
    exact hck.2
  · rw [endE_mem hs (mem_forceD.2 ⟨hw, fun b hb => by
      cases h : overD w b with
      | false => rfl
      | true => exact absurd ⟨b, hb, h⟩ hf⟩) hk]
    exact Int.le_refl _
include hv
omit hs in
theorem force_lt_end {d : De} (hd : d ∈ forceD o) (hk : d.kind = 1 ∨ d.kind = 2 ∨ d.kind = 3) : d.day < endE (forceD o) := by
  have hvd := (valid_day (hv d (mem_forceD.1 hd).1)).2
  rw [endE_eq]
  cases h : lastOf kind5 (forceD o) with
  | none => simp; omega
  | some w =>
    obtain ⟨h1, h2⟩ := lastOf_some h
    have hwk : w.kind = 5 := by simpa [kind5] using h2
    have h3 : ¬ overD d w = true := by rw [(mem_forceD.1 hd).2 w (mem_forceD.1 h1).1]; simp
    rw [overD_iff] at h3
    simp only [Option.map_some, Option.getD_some]
    omega
omit hs hv in
theorem end_cases : endE (forceD o) = 1099511627777 ∨ ∃ w ∈ forceD o, w.kind = 5 ∧ w.day = endE (forceD o) := by
  rw [endE_eq]
  cases h : lastOf kind5 (forceD o) with
  | none => exact .inl rfl
  | some w =>
    obtain ⟨h1, h2⟩ := lastOf_some h
    exact .inr ⟨w, h1, by simpa [kind5] using h2, rfl⟩
/-- The last edit of a kind that concerns a day before the end is in force. -/
theorem last_in_force {k day : Int} (hk : k = 2 ∨ k = 3 ∨ k = 4) (hday : day < endE (forceD o)) {c : De} (h : lastOf (kOn k day) o = some c) : c ∈ forceD o := by
  obtain ⟨hc, hp⟩ := lastOf_some h
  have hp' : c.kind = k ∧ c.day ≤ day := by simpa [kOn] using hp
  refine mem_forceD.2 ⟨hc, fun b hb => ?_⟩
  cases hcb : overD c b with
  | false => rfl
  | true =>
    exfalso
    have hb2 := hv b hb
    rw [overD_iff] at hcb
    have hw : b.kind = 5 → b.day ≤ c.day → False := fun h1 h2 => by have := endE_le hs hb h1; omega
    have hl : b.kind = k → b.day ≤ day → lessD c b = true → False := fun h1 h2 h3 => by
      rcases lastOf_max hs h hb (by simp [kOn, h1, h2]) with e | e
      · rw [e, lessD_irrefl] at h3; cases h3
      · rw [lessD_asymm e] at h3; cases h3
    rcases hcb with h1 | h1 | h1 | h1 | h1
    · omega
    · obtain ⟨h2, h3, h4⟩ := h1
      exact hl (by omega) (by omega) h3
    · have := valid_zone hb2 h1.2.1
      have := valid_zone (hv c hc) h1.1
      exact hl (by omega) (by omega) h1.2.2
    · exact hw h1.2.1 h1.2.2
    · omega
/-- What is in force on a day before the end: all edits say the same as those in force. -/
theorem onE_force (day : Int) (s : On) (hday : day < endE (forceD o)) : onE day s (forceD o) = onE day s o := by
  rw [onE_eq, onE_eq, lastOf_force hs fun c hc => last_in_force hs hv (.inr (.inl rfl)) hday hc, lastOf_force hs fun c hc => last_in_force hs hv (.inl rfl) hday hc, lastOf_force hs fun c hc => last_in_force hs hv (.inr (.inr rfl)) hday hc]
omit hv in
/-- On its day an edit in force is the last one of its kind. -/
theorem last_self {a : De} {k : Int} (hk : k = 2 ∨ k = 3) (ha : a ∈ forceD o) (hak : a.kind = k) : lastOf (kOn k a.day) (forceD o) = some a := by
  refine lastOf_of (forceD_sorted hs) ha (by simp [kOn, hak]) fun x hx hp => ?_
  have hp' : x.kind = k ∧ x.day ≤ a.day := by simpa [kOn] using hp
  have h3 : ¬ overD a x = true := by rw [(mem_forceD.1 ha).2 x (mem_forceD.1 hx).1]; simp
  rw [overD_iff] at h3
  cases h : lessD x a with
  | true => exact .inr rfl
  | false =>
    cases h' : lessD a x with
    | true =>
      have hkk : a.kind = 1 ∧ x.kind = 3 ∨ a.kind = 2 ∧ x.kind = 2 ∨ a.kind = 3 ∧ x.kind = 3 := by
        rcases hk with rfl | rfl
        · exact .inr (.inl ⟨hak, hp'.1⟩)
        · exact .inr (.inr ⟨hak, hp'.1⟩)
      exact absurd (.inr (.inl ⟨hkk, h', hp'.2⟩)) h3
    | false =>
      have hkeys : KeysD o := hs.imp fun h => lessD_key h
      exact .inl (hkeys.eq (mem_forceD.1 hx).1 (mem_forceD.1 ha).1 (lessD_total h h'))
omit hv in
theorem zone_self {a : De} (ha : a ∈ forceD o) (hak : a.kind = 4) : lastOf (kOn 4 a.day) (forceD o) = some a := by
  refine lastOf_of (forceD_sorted hs) ha (by simp [kOn, hak]) fun x hx hp => ?_
  have hp' : x.kind = 4 ∧ x.day ≤ a.day := by simpa [kOn] using hp
  have h3 : ¬ overD a x = true := by rw [(mem_forceD.1 ha).2 x (mem_forceD.1 hx).1]; simp
  rw [overD_iff] at h3
  cases h : lessD x a with
  | true => exact .inr rfl
  | false =>
    cases h' : lessD a x with
    | true => exact absurd (.inr (.inr (.inl ⟨hak, hp'.1, h'⟩))) h3
    | false =>
      have hkeys : KeysD o := hs.imp fun h => lessD_key h
      exact .inl (hkeys.eq (mem_forceD.1 hx).1 (mem_forceD.1 ha).1 (lessD_total h h'))
end
end Go.Proofs.Ytpnhiknfcpkfbaa
namespace Go.Proofs.Ytpnhiknfcpkfbaa
set_option linter.unusedSimpArgs false
set_option linter.unusedVariables false
open Go.Proofs.Ytpnhiknfcpkfbaa.Vc
/-! ### The parts hold the days: plain facts -/
/-- The part that holds a day. -/
def holdP (ps : List (Int × Ti)) (x : Int) : Option (Int × Ti) := (ps.filter fun p => decide (p.1 ≤ x)).getLast?
def lastLe (l : List Int) (x : Int) : Option Int := (l.filter fun d => decide (d ≤ x)).getLast?
theorem holdP_snoc (ps : List (Int × Ti)) (p : Int × Ti) (x : Int) : holdP (ps ++ [p]) x = if p.1 ≤ x then some p else holdP ps x := by
  unfold holdP
  rw [List.filter_append]
  by_cases h : p.1 ≤ x <;> simp [h]
theorem holdP_all {ps : List (Int × Ti)} {x : Int} (h : ∀ p ∈ ps, p.1 ≤ x) : holdP ps x = ps.getLast? := by
  unfold holdP
  rw [List.filter_eq_self.2 fun p hp => by simpa using h p hp]
theorem lastLe_lt {l : List Int} {x : Int} (h : ∀ d ∈ l, x < d) : lastLe l x = none := by
  unfold lastLe
  rw [List.getLast?_eq_none_iff, List.filter_eq_nil_iff]
  intro d hd
  have := h d hd
  simp; omega
theorem lastLe_cons {d : Int} {r : List Int} (h : Inc (d :: r)) (x : Int) : (x < d ∧ lastLe (d :: r) x = none ∧ lastLe r x = none) ∨ (d ≤ x ∧ ((lastLe r x = none ∧ lastLe (d :: r) x = some d) ∨ ∃ d2, lastLe r x = some d2 ∧ lastLe (d :: r) x = some d2)) := by
  have h' := List.pairwise_cons.1 h
  rcases Int.lt_or_le x d with hx | hx
  · refine .inl ⟨hx, lastLe_lt fun y hy => ?_, lastLe_lt fun y hy => ?_⟩
    · rcases List.mem_cons.1 hy with rfl | hy
      · exact hx
      · have := h'.1 y hy; omega
    · have := h'.1 y hy; omega
  · refine .inr ⟨hx, ?_⟩
    have hc : lastLe (d :: r) x = some ((lastLe r x).getD d) := by
      unfold lastLe
      rw [List.filter_cons, if_pos (by simpa using hx), List.getLast?_cons]
    cases hr : lastLe r x with
    | none => rw [hr] at hc; exact .inl ⟨rfl, hc⟩
    | some d2 => rw [hr] at hc; exact .inr ⟨d2, rfl, hc⟩
theorem lastLe_mem {l : List Int} {x d : Int} (h : lastLe l x = some d) : d ∈ l ∧ d ≤ x := by
  have := List.mem_of_getLast? h
  rw [List.mem_filter] at this
  simpa using this
theorem hold_go (e : Int) (f : Int → Ti) (H : ∀ a b : Int, 0 ≤ a → 0 ≤ b → sameTi (f a) (f b) = true → f a = f b) : ∀ (l : List Int) (out : List (Int × Ti)), Inc l → (∀ d ∈ l, 0 ≤ d) → (∀ p ∈ out, ∀ d ∈ l, p.1 < d) → (∀ p, out.getLast? = some p → ∃ d' : Int, 0 ≤ d' ∧ p.2 = f d') →
    ∀ x, (lastLe l x = none → holdP (partsGo e f l out) x = holdP out x) ∧ (∀ d, lastLe l x = some d → ∃ d', holdP (partsGo e f l out) x = some (d', if e ≤ d then Ti.zero else f d))
  | [], out, _, _, _, _, x => ⟨fun _ => rfl, fun d h => by simp [lastLe] at h⟩
  | d :: r, out, hi, hnn, ho, hl, x => by
    have h' := List.pairwise_cons.1 hi
    have hor : ∀ p ∈ out, ∀ d' ∈ r, p.1 < d' := fun p hp d' hd' => ho p hp d' (by simp [hd'])
    have hod : ∀ p ∈ out, p.1 < d := fun p hp => ho p hp d (by simp)
    by_cases he : e ≤ d
    · rw [partsGo_end he]
      refine ⟨fun hn => ?_, fun d1 hd1 => ?_⟩
      · rcases lastLe_cons hi x with ⟨hx, _, _⟩ | ⟨hx, ⟨_, h⟩ | ⟨d2, _, h⟩⟩
        · rw [holdP_snoc, if_neg (by simp; omega)]
        · rw [hn] at h; cases h
        · rw [hn] at h; cases h
      · obtain ⟨hm, hx⟩ := lastLe_mem hd1
        have hdd : d ≤ d1 := by
          rcases List.mem_cons.1 hm with e' | hm
          · omega
          · have := h'.1 d1 hm; omega
        rw [holdP_snoc, if_pos (by simp; omega)]
        exact ⟨d, by rw [if_pos (by omega)]⟩
    · have hnew : ∀ x, (lastLe (d :: r) x = none → holdP (partsGo e f r (out ++ [(d, f d)])) x = holdP out x) ∧ (∀ d1, lastLe (d :: r) x = some d1 → ∃ d', holdP (partsGo e f r (out ++ [(d, f d)])) x = some (d', if e ≤ d1 then Ti.zero else f d1)) := fun x => by
        obtain ⟨i1, i2⟩ := hold_go e f H r (out ++ [(d, f d)]) h'.2 (fun y hy => hnn y (by simp [hy])) (fun p hp d' hd' => by
          rcases List.mem_append.1 hp with hp | hp
          · exact hor p hp d' hd'
          · simp only [List.mem_cons, List.not_mem_nil, or_false] at hp; subst hp; exact h'.1 d' hd') (fun p hp => by
          rw [List.getLast?_concat] at hp; cases hp; exact ⟨d, hnn d (by simp), rfl⟩) x
        rcases lastLe_cons hi x with ⟨hx, h1, h2⟩ | ⟨hx, ⟨h1, h2⟩ | ⟨d2, h1, h2⟩⟩
        · refine ⟨fun _ => ?_, fun d1 h => by rw [h1] at h; cases h⟩
          rw [i1 h2, holdP_snoc, if_neg (by simp; omega)]
        · refine ⟨fun h => (by rw [h2] at h; cases h), fun d1 h => ?_⟩
          rw [h2] at h; cases h
          rw [i1 h1, holdP_snoc, if_pos (by simpa using hx), if_neg he]
          exact ⟨_, rfl⟩
        · refine ⟨fun h => (by rw [h2] at h; cases h), fun d1 h => ?_⟩
          rw [h2] at h; cases h
          exact i2 _ h1
      rcases List.eq_nil_or_concat out with hnil | ⟨out0, y, hc⟩
      · subst hnil
        rw [partsGo_first he]
        exact hnew x
      · rw [List.concat_eq_append] at hc
        cases hsame : sameTi (f d) y.2 with
        | false =>
          rw [hc, partsGo_new he hsame, ← hc]
          exact hnew x
        | true =>
          rw [hc, partsGo_same he hsame, ← hc]
          obtain ⟨i1, i2⟩ := hold_go e f H r out h'.2 (fun y hy => hnn y (by simp [hy])) hor hl x
          have hlast : out.getLast? = some y := by rw [hc, List.getLast?_concat]
          obtain ⟨d', hd0, hd'⟩ := hl y hlast
          rcases lastLe_cons hi x with ⟨hx, h1, h2⟩ | ⟨hx, ⟨h1, h2⟩ | ⟨d2, h1, h2⟩⟩
          · exact ⟨fun _ => i1 h2, fun d1 h => by rw [h1] at h; cases h⟩
          · refine ⟨fun h => (by rw [h2] at h; cases h), fun d1 h => ?_⟩
            rw [h2] at h; cases h
            rw [i1 h1, holdP_all (fun p hp => by have := hod p hp; omega), hlast, if_neg he]
            refine ⟨y.1, ?_⟩
            rw [hd'] at hsame
            rw [H _ _ (hnn d (by simp)) hd0 hsame, ← hd']
          · refine ⟨fun h => (by rw [h2] at h; cases h), fun d1 h => ?_⟩
            rw [h2] at h; cases h
            exact i2 _ h1
/-- Neighbors differ. -/
def AdjNe (ps : List (Int × Ti)) : Prop := ∀ i (h : i + 1 < ps.length), (ps[i]).2 ≠ (ps[i + 1]).2
theorem AdjNe.snoc {ps : List (Int × Ti)} {q : Int × Ti} (h : AdjNe ps) (hq : ∀ y, ps.getLast? = some y → y.2 ≠ q.2) : AdjNe (ps ++ [q]) := by
  intro i hi
  rw [List.length_append, List.length_cons, List.length_nil] at hi
  by_cases hl : i + 1 < ps.length
  · rw [List.getElem_append_left (by omega), List.getElem_append_left hl]
    exact h i hl
  · have hi' : i + 1 = ps.length := by omega
    rw [List.getElem_append_left (by omega), List.getElem_append_right (by omega)]
    have : (ps ++ [q])[i + 1]? = some q := by rw [hi', List.getElem?_concat_length]
    have hz : i + 1 - ps.length = 0 := by omega
    simp only [hz, List.getElem_cons_zero]
    refine hq _ ?_
    rw [List.getLast?_eq_getElem?, show ps.length - 1 = i by omega, List.getElem?_eq_getElem (by omega)]
theorem sameTi_self (x : Ti) : sameTi x x = true := by simp [sameTi]
theorem adj_go (e : Int) (f : Int → Ti) (hf : ∀ d, f d ≠ Ti.zero) : ∀ (l : List Int) (out : List (Int × Ti)), AdjNe out → (∀ p ∈ out, p.2 ≠ Ti.zero) → AdjNe (partsGo e f l out)
  | [], out, h, _ => h
  | d :: r, out, h, hz => by
    by_cases he : e ≤ d
    · rw [partsGo_end he]
      exact h.snoc fun y hy => hz y (List.mem_of_getLast? hy)
    · have hnew : (∀ y, out.getLast? = some y → y.2 ≠ f d) → AdjNe (partsGo e f r (out ++ [(d, f d)])) := fun hn => adj_go e f hf r _ (h.snoc hn) fun p hp => by
        rcases List.mem_append.1 hp with hp | hp
        · exact hz p hp
        · simp only [List.mem_cons, List.not_mem_nil, or_false] at hp; subst hp; exact hf d
      rcases List.eq_nil_or_concat out with hnil | ⟨out0, y, hc⟩
      · subst hnil
        rw [partsGo_first he]
        exact hnew (by simp)
      · rw [List.concat_eq_append] at hc
        cases hsame : sameTi (f d) y.2 with
        | false =>
          have := hnew (fun y' hy' => by
            rw [hc, List.getLast?_concat] at hy'
            cases hy'
            intro e'
            rw [e', sameTi_self] at hsame; cases hsame)
          rw [hc, partsGo_new he hsame, ← hc]
          exact this
        | true =>
          rw [hc, partsGo_same he hsame, ← hc]
          exact adj_go e f hf r out h hz
/-- The last part begins at the end. -/
theorem end_go (e : Int) (f : Int → Ti) : ∀ (l : List Int) (out : List (Int × Ti)), Inc l → e ∈ l → ∃ q, partsGo e f l out = q ++ [(e, Ti.zero)]
  | [], out, _, h => by simp at h
  | d :: r, out, hi, h => by
    have h' := List.pairwise_cons.1 hi
    by_cases he : e ≤ d
    · have : d = e := by
        rcases List.mem_cons.1 h with e' | h
        · exact e'.symm
        · have := h'.1 e h; omega
      subst this
      exact ⟨out, partsGo_end he⟩
    · have hr : e ∈ r := by
        rcases List.mem_cons.1 h with e' | h
        · omega
        · exact h
      rcases List.eq_nil_or_concat out with hnil | ⟨out0, y, hc⟩
      · subst hnil
        rw [partsGo_first he]
        exact end_go e f r _ h'.2 hr
      · rw [List.concat_eq_append] at hc
        cases hsame : sameTi (f d) y.2 with
        | false =>
          rw [hc, partsGo_new he hsame]
          exact end_go e f r _ h'.2 hr
        | true =>
          rw [hc, partsGo_same he hsame]
          exact end_go e f r _ h'.2 hr
/-- The part at an index holds the days up to the next one. -/
theorem holdP_at {ps : List (Int × Ti)} {i : Nat} (hi : i < ps.length) {x : Int} (hinc : Inc (ps.map (·.1))) (h1 : (ps[i]).1 ≤ x) (h2 : ∀ j (hj : j < ps.length), i < j → x < (ps[j]).1) : holdP ps x = some ps[i] := by
  have e : ps = ps.take (i + 1) ++ ps.drop (i + 1) := (List.take_append_drop _ _).symm
  have f2 : (ps.drop (i + 1)).filter (fun p => decide (p.1 ≤ x)) = [] := by
    rw [List.filter_eq_nil_iff]
    intro a ha
    obtain ⟨j, hj, rfl⟩ := List.mem_iff_getElem.1 ha
    rw [List.getElem_drop]
    rw [List.length_drop] at hj
    have := h2 (i + 1 + j) (by omega) (by omega)
    simp; omega
  unfold holdP
  conv => lhs; rw [e]
  rw [List.filter_append, f2, List.append_nil, List.take_succ_eq_append_getElem hi, List.filter_append]
  simp [h1]
/-! ### Merge -/
theorem tiOn_same (s : Se) (rl : List Nd) {o : List De} (hv : ∀ d ∈ o, validD d = true) {a b : Int} (ha : 0 ≤ a) (hb : 0 ≤ b) (h : sameTi (tiOn s rl o a) (tiOn s rl o b) = true) : tiOn s rl o a = tiOn s rl o b := by
  have hz : ∀ x : Int, 0 ≤ x → lastOf (kOn 4 x) o = lastOf (fun d => decide (d.kind = 4)) o := fun x hx => by
    unfold lastOf
    congr 1
    refine List.filter_congr fun d hd => ?_
    unfold kOn
    by_cases hk : d.kind = 4
    · have := valid_zone (hv d hd) hk
      simp [hk, this, hx]
    · simp [hk]
  have h1 : ∀ x : Int, 0 ≤ x → (tiOn s rl o x).zone = ((lastOf (fun d => decide (d.kind = 4)) o).map (·.zone)).getD s.zone := fun x hx => by
    show (onE x (s.on rl) o).zone = _
    rw [onE_eq, hz x hx]
    rfl
  unfold sameTi at h
  simp only [Bool.and_eq_true, decide_eq_true_eq] at h
  have hz2 := (h1 a ha).trans (h1 b hb).symm
  have e1 : ∀ x, (tiOn s rl o x).gap = s.gap := fun _ => rfl
  have e2 : ∀ x, (tiOn s rl o x).fold = s.fold := fun _ => rfl
  have k1 := (e1 a).trans (e1 b).symm
  have k2 := (e2 a).trans (e2 b).symm
  obtain ⟨⟨h3, h4⟩, h5⟩ := h
  generalize tiOn s rl o a = p at *
  generalize tiOn s rl o b = q at *
  obtain ⟨_, _, _, _, _, _⟩ := p
  obtain ⟨_, _, _, _, _, _⟩ := q
  simp only at *
  subst h3 h4 h5 hz2 k1 k2
  rfl
theorem tiOn_length (s : Se) (rl : List Nd) {o : List De} (hv : ∀ d ∈ o, validD d = true) (hl : 1 ≤ s.length) (x : Int) : 1 ≤ (tiOn s rl o x).length := by
  show 1 ≤ (onE x (s.on rl) o).length
  rw [onE_eq]
  cases h : lastOf (kOn 2 x) o with
  | none => exact hl
  | some c =>
    obtain ⟨h1, h2⟩ := lastOf_some h
    exact valid_length (hv c h1) (by simp [kOn] at h2; exact h2.1)
/-- Between the days of the edits nothing changes. -/
theorem tiOn_last (s : Se) (rl : List Nd) (o : List De) {x d : Int} (h : lastLe (rising (0 :: o.map (·.day))) x = some d) : tiOn s rl o x = tiOn s rl o d := by
  have hd := (lastLe_mem h).2
  have key : ∀ q ∈ o, (x < q.day ↔ d < q.day) := fun q hq => by
    refine ⟨fun hx => by omega, fun hx => ?_⟩
    rcases Int.lt_or_le x q.day with h1 | h1
    · exact h1
    · exfalso
      have hm : q.day ∈ (rising (0 :: o.map (·.day))).filter fun d => decide (d ≤ x) := List.mem_filter.2 ⟨by rw [mem_rising]; exact List.mem_cons_of_mem _ (List.mem_map_of_mem hq), by simpa using h1⟩
      unfold lastLe at h
      obtain ⟨l0, hl⟩ := List.getLast?_eq_some_iff.1 h
      have hi : Inc ((rising (0 :: o.map (·.day))).filter fun d => decide (d ≤ x)) := List.Pairwise.sublist List.filter_sublist (rising_inc _)
      rw [hl] at hi hm
      rcases List.mem_append.1 hm with h2 | h2
      · have := (List.pairwise_append.1 hi).2.2 _ h2 d (by simp); omega
      · simp at h2; omega
  have hon : ∀ (l : List De) (u : On), (∀ q ∈ l, q ∈ o) → onE x u l = onE d u l := by
    intro l
    induction l with
    | nil => intro u _; rfl
    | cons q l ih =>
      intro u hq
      have hs : stepOn x u q = stepOn d u q := by
        unfold stepOn
        have := key q (hq q (by simp))
        by_cases h1 : x < q.day
        · rw [if_pos h1, if_pos (this.1 h1)]
        · rw [if_neg h1, if_neg (fun h2 => h1 (this.2 h2))]
      show onE x (stepOn x u q) l = onE d (stepOn d u q) l
      rw [hs]
      exact ih _ fun q' hq' => hq q' (by simp [hq'])
  unfold tiOn
  rw [hon o _ fun _ h => h]
/-- What the part that holds a day says. -/
theorem parts_hold (s : Se) (rl : List Nd) {o : List De} (hv : ∀ d ∈ o, validD d = true) (e : Int) {x : Int} (hx : 0 ≤ x) (he : e ∈ o.map (·.day) ∨ x < e) : ∃ d', holdP (partsD s rl o e) x = some (d', if e ≤ x then Ti.zero else tiOn s rl o x) := by
  have hnn : ∀ d ∈ rising (0 :: o.map (·.day)), 0 ≤ d := fun d hd => by
    rw [mem_rising] at hd
    rcases List.mem_cons.1 hd with rfl | hd
    · exact Int.le_refl _
    · obtain ⟨q, hq, rfl⟩ := List.mem_map.1 hd
      exact (valid_day (hv q hq)).1
  have h := (hold_go e (tiOn s rl o) (fun a b ha hb h => tiOn_same s rl hv ha hb h) (rising (0 :: o.map (·.day))) [] (rising_inc _) hnn (by simp) (by simp) x).2
  have h0 : (0 : Int) ∈ rising (0 :: o.map (·.day)) := by rw [mem_rising]; simp
  cases hl : lastLe (rising (0 :: o.map (·.day))) x with
  | none =>
    unfold lastLe at hl
    rw [List.getLast?_eq_none_iff, List.filter_eq_nil_iff] at hl
    exact absurd hx (by simpa using hl 0 h0)
  | some d =>
    obtain ⟨d', hd'⟩ := h d hl
    obtain ⟨hm, hdx⟩ := lastLe_mem hl
    refine ⟨d', ?_⟩
    unfold partsD
    rw [hd', tiOn_last s rl o hl]
    by_cases hex : e ≤ x
    · have hed : e ≤ d := by
        rcases he with he | he
        · rcases Int.lt_or_le d e with h1 | h1
          · exfalso
            have hm2 : e ∈ (rising (0 :: o.map (·.day))).filter fun d => decide (d ≤ x) := List.mem_filter.2 ⟨by rw [mem_rising]; simp only [List.mem_cons]; exact .inr he, by simpa using hex⟩
            unfold lastLe at hl
            obtain ⟨l0, hl0⟩ := List.getLast?_eq_some_iff.1 hl
            have hi : Inc ((rising (0 :: o.map (·.day))).filter fun d => decide (d ≤ x)) := List.Pairwise.sublist List.filter_sublist (rising_inc _)
            rw [hl0] at hi hm2
            rcases List.mem_append.1 hm2 with h2 | h2
            · have := (List.pairwise_append.1 hi).2.2 _ h2 d (by simp); omega
            · simp at h2; omega
          · exact h1
        · omega
      rw [if_pos hex, if_pos hed]
    · rw [if_neg hex, if_neg (by omega)]
/-- The same at what Rebase leaves. -/
theorem force_hold (s : Se) (rl : List Nd) {o : List De} (hs : SortedD o) (hv : ∀ d ∈ o, validD d = true) {x : Int} (hx : 0 ≤ x ∧ x ≤ 1099511627776) : ∃ d', holdP (partsD s rl (forceD o) (endE (forceD o))) x = some (d', if endE (forceD o) ≤ x then Ti.zero else tiOn s rl (forceD o) x) := by
  refine parts_hold s rl (fun d hd => hv d (mem_forceD.1 hd).1) _ hx.1 ?_
  rcases end_cases (o := o) with h | ⟨w, hw, _, hwd⟩
  · exact .inr (by omega)
  · exact .inl (List.mem_map.2 ⟨w, hw, hwd⟩)
theorem mergeP_len (s : Se) (rl : List Nd) (ms : List Mv) (o : List De) : (mergeP s rl ms o).length = (partsD s rl (forceD o) (endE (forceD o))).length := by
  unfold mergeP placeD; rw [List.length_mapIdx]
theorem mergeP_at {s : Se} {rl : List Nd} {ms : List Mv} {o : List De} {i : Nat} {pa : Pa} (h : (mergeP s rl ms o)[i]? = some pa) : ∃ p, (partsD s rl (forceD o) (endE (forceD o)))[i]? = some p ∧
    pa = ⟨p.1, p.2, (sortM (movesD ms (forceD o) (endE (forceD o)))).filter fun m => decide (partAt ((partsD s rl (forceD o) (endE (forceD o))).map (·.1)) m.day = i)⟩ := by
  unfold mergeP placeD at h
  rw [List.getElem?_mapIdx] at h
  obtain ⟨p, hp, rfl⟩ := Option.map_eq_some_iff.1 h
  exact ⟨p, hp, rfl⟩
end Go.Proofs.Ytpnhiknfcpkfbaa
