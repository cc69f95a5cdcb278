import Derived.Test.YtpnhiknfcpkfbaaFg
namespace Go.Proofs.Ytpnhiknfcpkfbaa
set_option linter.unusedSimpArgs false
set_option linter.unusedVariables false
open Go.Proofs.Ytpnhiknfcpkfbaa.Vc
theorem mvOf_ok (e : Ed) : moveOK (mvOf e) = true := by
  have hv := madeE_valid (ed0 e)
  have hk : (madeE (ed0 e)).kind = 1 := by unfold madeE ed0; simp
  exact (validD_move hv hk).1
theorem movesOf_len (es : List Ed) : (movesOf es).length ≤ 10 := by
  unfold movesOf
  have := List.length_filterMap_le (mvOn es) (List.range 10)
  simpa using this
theorem movesOK_of : ∀ {l : List Mv} {p : Option Int}, (∀ m ∈ l, moveOK m = true) → (l.Pairwise fun a b => a.day < b.day) → (∀ d, p = some d → ∀ m ∈ l, d < m.day) → movesOK p l = true
  | [], p, _, _, _ => movesOK_nil p
  | m :: r, p, h1, h2, h3 => by
    have h2' := List.pairwise_cons.1 h2
    rw [movesOK_cons, h1 m (by simp), movesOK_of (fun x hx => h1 x (by simp [hx])) h2'.2 (fun d hd x hx => by cases hd; exact h2'.1 x hx)]
    cases p with
    | none => rfl
    | some d => have := h3 d rfl m (by simp); simp [ltO, this]
theorem movesOf_pair (es : List Ed) (n : Nat) : ((List.range n).filterMap (mvOn es)).Pairwise fun a b => a.day < b.day := by
  induction n with
  | zero => simp
  | succ n ih =>
    rw [List.range_succ, List.filterMap_append, List.pairwise_append]
    refine ⟨ih, ?_, fun a ha b hb => ?_⟩
    · rw [List.filterMap_cons, List.filterMap_nil]
      cases mvOn es n <;> simp
    · have h1 := range_moves_day es n a ha
      obtain ⟨d, hd, hb'⟩ := List.mem_filterMap.1 hb
      simp only [List.mem_cons, List.not_mem_nil, or_false] at hd
      subst hd
      rw [mvOn_day hb']
      exact h1
theorem movesOf_ok (es : List Ed) : movesOK none (movesOf es) = true := by
  refine movesOK_of (fun m hm => ?_) (movesOf_pair es 10) (by simp)
  obtain ⟨d, _, hm'⟩ := List.mem_filterMap.1 hm
  unfold mvOn at hm'
  obtain ⟨e, _, rfl⟩ := Option.map_eq_some_iff.1 hm'
  exact mvOf_ok e
theorem turn_back (n m : Nat) (t : Int) (hm : m < n) (ht : 0 ≤ t) : ∃ j : Nat, j < n ∧ (((j : Int) + t) % n).toNat = m := by
  have hn : (0 : Int) < n := by omega
  have h1 := Int.emod_nonneg ((m : Int) - t) (show (n : Int) ≠ 0 by omega)
  have h2 := Int.emod_lt_of_pos ((m : Int) - t) hn
  refine ⟨(((m : Int) - t) % n).toNat, by omega, ?_⟩
  rw [Int.toNat_of_nonneg h1, Int.emod_add_emod, Int.sub_add_cancel, Int.emod_eq_of_lt (by omega) (by omega)]
  rfl
end Go.Proofs.Ytpnhiknfcpkfbaa
