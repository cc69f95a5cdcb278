import Derived.Test.YtpnhiknfcpkfbaaGreatZg
namespace Go.Proofs.YtpnhiknfcpkfbaaGreat
set_option linter.unusedSimpArgs false
set_option linter.unusedVariables false
open Go.Proofs.YtpnhiknfcpkfbaaGreat.Vc
/-! ### The reference's parts are ours: plain -/
theorem gone_iff {o : List De} (hs : SortedD o) {d : Int} (hd : d ≤ 1099511627776) : o.any (goneOn d) = true ↔ endE (forceD o) ≤ d := by
  rw [List.any_eq_true]
  constructor
  · rintro ⟨w, hw, hg⟩
    simp only [goneOn, Bool.and_eq_true, decide_eq_true_eq] at hg
    have := endE_le hs hw hg.1
    omega
  · intro h
    rcases end_cases (o := o) with h1 | ⟨w, hw, hk, hwd⟩
    · omega
    · exact ⟨w, (mem_forceD.1 hw).1, by simp [goneOn, hk]; omega⟩
theorem refR_go (s : Se) (rl : List Nd) (ms : List Mv) {o : List De} (hs : SortedD o) (hv : ∀ d ∈ o, validD d = true) (hm : movesOK none ms = true) : ∀ (l : List Int) (out : List Pa), (∀ d ∈ l, d ≤ 1099511627776) →
    refR s rl ms o l out = refGo (endE (forceD o)) (tiOn s rl (forceD o)) (fun d => (movesD ms (forceD o) (endE (forceD o))).filter fun m => decide (m.day = d)) l out
  | [], _, _ => rfl
  | d :: l, out, h => by
    have hd := h d (by simp)
    have ih := fun out => refR_go s rl ms hs hv hm l out fun x hx => h x (by simp [hx])
    by_cases hg : endE (forceD o) ≤ d
    · rw [refR, if_pos ((gone_iff hs hd).2 hg), refGo, if_pos hg]
    · rw [refR, if_neg (fun e => hg ((gone_iff hs hd).1 e)), refGo, if_neg hg, ih, mvRef_day hs hv hm (by omega)]
      have : tiR s rl o d = tiOn s rl (forceD o) d := by
        unfold tiR tiOn
        rw [onE_force hs hv d _ (by omega)]
      rw [this]
theorem refR_merge (s : Se) (rl : List Nd) (ms : List Mv) {o : List De} (hs : SortedD o) (hv : ∀ d ∈ o, validD d = true) (hm : movesOK none ms = true) (hl : 1 ≤ s.length) : refR s rl ms o (daysR ms o) [] = mergeP s rl ms o := by
  have hinc0 : Inc [(0 : Int)] := List.pairwise_singleton _ _
  obtain ⟨h1, h2⟩ := insDays (o.map (·.day)) [0] hinc0
  obtain ⟨h3, h4⟩ := insDays (ms.map (·.day)) _ h1
  have hmem : ∀ x, x ∈ daysR ms o ↔ x = 0 ∨ (∃ d ∈ o, d.day = x) ∨ ∃ m ∈ ms, m.day = x := fun x => by
    unfold daysR
    rw [h4, h2]
    simp [or_assoc]
  have hmv := movesOK_all hm
  have hb : ∀ d ∈ daysR ms o, 0 ≤ d ∧ d ≤ 1099511627776 := fun d hd => by
    rcases (hmem d).1 hd with rfl | ⟨x, hx, rfl⟩ | ⟨m, hm', rfl⟩
    · omega
    · exact valid_day (hv x hx)
    · have := hmv m hm'
      unfold moveOK betw at this
      simp only [Bool.and_eq_true, decide_eq_true_eq] at this
      exact this.1
  have h0 : ∃ r, daysR ms o = 0 :: r := by
    have h5 : (0 : Int) ∈ daysR ms o := (hmem 0).2 (.inl rfl)
    cases hd : daysR ms o with
    | nil => rw [hd] at h5; simp at h5
    | cons x r =>
      have hx := hb x (by rw [hd]; simp)
      rw [hd] at h5
      have h6 : Inc (x :: r) := by rw [← hd]; exact h3
      rcases List.mem_cons.1 h5 with rfl | h5
      · exact ⟨r, rfl⟩
      · have := (List.pairwise_cons.1 h6).1 0 h5; omega
  rw [refR_go s rl ms hs hv hm _ _ fun d hd => (hb d hd).2]
  exact ref_merge hs hv hm hl h3 h0 hb (fun q hq => (hmem _).2 (.inr (.inl ⟨q, hq, rfl⟩))) (fun m hm' => (hmem _).2 (.inr (.inr ⟨m, hm', rfl⟩)))
end Go.Proofs.YtpnhiknfcpkfbaaGreat
