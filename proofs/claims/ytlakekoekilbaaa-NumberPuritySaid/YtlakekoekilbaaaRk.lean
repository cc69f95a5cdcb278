/- Contracts of the reference of package number, and of package number's lists: few, Same, Has, Rising, Ranks. -/
import Derived.Test.YtlakekoekilbaaaIt
import Derived.Test.YtlakekoekilbaaaNd
namespace Go.Proofs.Ytlakekoekilbaaa
set_option linter.unusedSimpArgs false
set_option linter.unusedVariables false
open Go.RowKit Go.Sort Go.Proofs.Ytlakekoekilbaaa.Vc

theorem lend_ints {s : St} {β κ : Nat → Nat} {R' : RO} (h : LendR s β κ R') {j T : Nat} {xs : List Int} (hj : s.blk[j]? = some (.row T 1 (xs.map (.int .i64)))) : Ints R' (.slice (some ⟨β j, 0, none⟩) xs.length (κ j)) xs := by
  have := h.2 j _ hj
  exact RowIn.ints this.1 (by simpa using this.2)
theorem nFew (xs : List Int) (v : Value) (R : RO) (h : Ints R v xs) : CallsR Try.prog 20 [v] R fun R' u => Ints R' u (xs.take 40) := by
  obtain ⟨a, cap, rfl, hc, hf⟩ := h.form
  refine callsT mix Try.func20 comp20 (by simp [Try.ntmps20]) ?_; simp only [go_sem, ↓reduceIte, Nat.reduceEqDiff, Nat.reduceAdd, Nat.reduceMul, Nat.reduceLeDiff, Nat.reduceLT, Nat.reduceBNe, reduceCtorEq, vc20, rs20]
  refine ⟨0, min xs.length 40, rfl, by omega, by omega, by omega, ?_⟩
  refine ⟨if cap = 0 then a else Option.map (fun x => x.add 0) a, cap, ?_, by simp; omega, fun i u hi => ?_⟩
  · simp [Nat.min_comm]
  · rw [List.getElem?_map, List.getElem?_take] at hi
    split at hi
    · obtain ⟨z, hz, rfl⟩ := Option.map_eq_some_iff.1 hi
      obtain ⟨hlt, rfl⟩ := List.getElem?_eq_some_iff.1 hz
      obtain ⟨ad, rfl, hR⟩ := hf i hlt
      refine ⟨ad, ?_, hR⟩
      have : ad.add 0 = ad := by simp [Addr.add]
      simp [this]
    · cases hi
theorem nSame (xs ys : List Int) (u v : Value) (R : RO) (h : Ints R u xs) (k : Ints R v ys) (hl : xs.length ≤ 1099511627776) : CallsR Try.prog 23 [u, v] R fun _ r => r = .bool (decide (xs = ys)) := by
  obtain ⟨a, cap, rfl, hc, hf⟩ := h.form
  obtain ⟨b, cap', rfl, hc', hf'⟩ := k.form
  refine callsT mix Try.func23 comp23 (by simp [Try.ntmps23]) ?_; simp only [go_sem, ↓reduceIte, Nat.reduceEqDiff, Nat.reduceAdd, Nat.reduceMul, Nat.reduceLeDiff, Nat.reduceLT, Nat.reduceBNe, reduceCtorEq, vc23, rs23]
  refine ⟨fun hne => ?_, fun he => ?_⟩
  · rw [decide_eq_false]; rintro rfl; exact hne rfl
  have he' : xs.length = ys.length := by omega
  refine vcLoop Nat (fun i => [(5, .val (.int .i64 i)), (0, .val (.slice a xs.length cap)), (1, .val (.slice b ys.length cap'))]) (fun _ => []) (fun i _ => i ≤ xs.length ∧ xs.take i = ys.take i) (fun i => xs.length - i) 0 ?_ rfl ?_ ?_
  · (try simp only [go_sem, ↓reduceIte, Nat.reduceEqDiff, Nat.reduceAdd, Nat.reduceMul, Nat.reduceLeDiff, Nat.reduceLT, Nat.reduceBNe, reduceCtorEq]) <;> (repeat' (first | rfl | trivial | constructor | (intro h; exact absurd rfl h)))
  · exact ⟨Nat.zero_le _, rfl⟩
  rintro i env R1 hle hE ⟨hi, hp⟩
  (simp only [go_sem] at hE; obtain ⟨e5, e0, e1⟩ := hE; simp only [go_sem, ↓reduceIte, Nat.reduceEqDiff, Nat.reduceAdd, Nat.reduceMul, Nat.reduceLeDiff, Nat.reduceLT, Nat.reduceBNe, reduceCtorEq, e5, e0, e1]; dsimp only at *)
  refine ⟨fun hlt => ⟨hlt, ?_⟩, fun hge => ?_⟩
  · have hlt' : i < xs.length := by omega
    obtain ⟨ad, had, hR⟩ := hf i hlt'
    obtain ⟨ad', had', hR'⟩ := hf' i (by omega)
    refine vat ad had ?_
    try simp only [go_sem, ↓reduceIte, Nat.reduceEqDiff, Nat.reduceAdd, Nat.reduceMul, Nat.reduceLeDiff, Nat.reduceLT, Nat.reduceBNe, reduceCtorEq]
    refine vload _ (hle _ _ hR) ?_
    simp only [go_sem, ↓reduceIte, Nat.reduceEqDiff, Nat.reduceAdd, Nat.reduceMul, Nat.reduceLeDiff, Nat.reduceLT, Nat.reduceBNe, reduceCtorEq, e5, e0, e1]
    refine ⟨by omega, vat ad' had' ?_⟩
    try simp only [go_sem, ↓reduceIte, Nat.reduceEqDiff, Nat.reduceAdd, Nat.reduceMul, Nat.reduceLeDiff, Nat.reduceLT, Nat.reduceBNe, reduceCtorEq]
    refine vload _ (hle _ _ hR') ?_
    simp only [go_sem, ↓reduceIte, Nat.reduceEqDiff, Nat.reduceAdd, Nat.reduceMul, Nat.reduceLeDiff, Nat.reduceLT, Nat.reduceBNe, reduceCtorEq, e5, e0, e1]
    refine ⟨fun hne => ?_, fun heq => ?_⟩
    · rw [decide_eq_false]; rintro rfl; exact hne rfl
    · refine ⟨_, W.in64 (by omega), i + 1, by omega, by constructor, by omega, ?_⟩
      rw [List.take_succ_eq_append_getElem hlt', List.take_succ_eq_append_getElem (by omega : i < ys.length), hp, heq]
  · obtain rfl : i = xs.length := by omega
    rw [List.take_length, he', List.take_length] at hp
    simp [hp]
theorem nHas (xs : List Int) (x : Int) (v : Value) (R : RO) (h : Ints R v xs) (hl : xs.length ≤ 1099511627776) : CallsR Try.prog 35 [v, .int .i64 x] R fun _ r => r = .bool (decide (x ∈ xs)) := by
  obtain ⟨a, cap, rfl, hc, hf⟩ := h.form
  refine callsT mix Try.func35 comp35 (by simp [Try.ntmps35]) ?_; simp only [go_sem, ↓reduceIte, Nat.reduceEqDiff, Nat.reduceAdd, Nat.reduceMul, Nat.reduceLeDiff, Nat.reduceLT, Nat.reduceBNe, reduceCtorEq, vc35, rs35]
  refine vcLoop Nat (fun i => [(5, .val (.int .i64 i)), (0, .val (.slice a xs.length cap)), (1, .val (.int .i64 x))]) (fun _ => []) (fun i _ => i ≤ xs.length ∧ x ∉ xs.take i) (fun i => xs.length - i) 0 ?_ rfl ?_ ?_
  · (try simp only [go_sem, ↓reduceIte, Nat.reduceEqDiff, Nat.reduceAdd, Nat.reduceMul, Nat.reduceLeDiff, Nat.reduceLT, Nat.reduceBNe, reduceCtorEq]) <;> (repeat' (first | rfl | trivial | constructor | (intro h; exact absurd rfl h)))
  · exact ⟨Nat.zero_le _, by simp⟩
  rintro i env R1 hle hE ⟨hi, hp⟩
  (simp only [go_sem] at hE; obtain ⟨e5, e0, e1⟩ := hE; simp only [go_sem, ↓reduceIte, Nat.reduceEqDiff, Nat.reduceAdd, Nat.reduceMul, Nat.reduceLeDiff, Nat.reduceLT, Nat.reduceBNe, reduceCtorEq, e5, e0, e1]; dsimp only at *)
  refine ⟨fun hlt => ⟨hlt, ?_⟩, fun hge => ?_⟩
  · have hlt' : i < xs.length := by omega
    obtain ⟨ad, had, hR⟩ := hf i hlt'
    refine vat ad had ?_
    try simp only [go_sem, ↓reduceIte, Nat.reduceEqDiff, Nat.reduceAdd, Nat.reduceMul, Nat.reduceLeDiff, Nat.reduceLT, Nat.reduceBNe, reduceCtorEq]
    refine vload _ (hle _ _ hR) ?_
    simp only [go_sem, ↓reduceIte, Nat.reduceEqDiff, Nat.reduceAdd, Nat.reduceMul, Nat.reduceLeDiff, Nat.reduceLT, Nat.reduceBNe, reduceCtorEq, e5, e0, e1]
    refine ⟨fun heq => ?_, fun hne => ?_⟩
    · rw [decide_eq_true]; rw [← heq]; exact List.getElem_mem hlt'
    · refine ⟨_, W.in64 (by omega), i + 1, by omega, by constructor, by omega, ?_⟩
      rw [List.take_succ_eq_append_getElem hlt', List.mem_append, List.mem_singleton]
      rintro (h | h)
      · exact hp h
      · exact hne h.symm
  · obtain rfl : i = xs.length := by omega
    rw [List.take_length] at hp
    simp [hp]
theorem rRising (xs : List Int) (v : Value) (R : RO) (h : Ints R v xs) (hl : xs.length ≤ 1000000000) : CallsR Try.prog 25 [v] R fun R' u => Ints R' u (rising xs) := by
  obtain ⟨a, cap, rfl, hc, hf⟩ := h.form
  refine callsT mix Try.func25 comp25 (by simp [Try.ntmps25]) ?_; simp only [go_sem, ↓reduceIte, Nat.reduceEqDiff, Nat.reduceAdd, Nat.reduceMul, Nat.reduceLeDiff, Nat.reduceLT, Nat.reduceBNe, reduceCtorEq, vc25, rs25]
  refine vcLoopR Nat (fun i => [(4, .val (.int .i64 i)), (3, .sl 0 (rising (xs.take i)).length), (0, .val (.slice a xs.length cap))]) (fun i => [.row 3 1 ((rising (xs.take i)).map (.int .i64))]) (fun i _ => i ≤ xs.length) (fun i => xs.length - i) 0 [] ?_ ?_ ?_ ?_
  · (try simp only [go_sem, ↓reduceIte, Nat.reduceEqDiff, Nat.reduceAdd, Nat.reduceMul, Nat.reduceLeDiff, Nat.reduceLT, Nat.reduceBNe, reduceCtorEq]) <;> (repeat' (first | rfl | trivial | constructor | (intro h; exact absurd rfl h)))
  · try simp only [go_sem, ↓reduceIte, Nat.reduceEqDiff, Nat.reduceAdd, Nat.reduceMul, Nat.reduceLeDiff, Nat.reduceLT, Nat.reduceBNe, reduceCtorEq]
  · omega
  rintro i env R1 hle hE hi
  (simp only [go_sem] at hE; obtain ⟨e4, e3, e0⟩ := hE; simp only [go_sem, ↓reduceIte, Nat.reduceEqDiff, Nat.reduceAdd, Nat.reduceMul, Nat.reduceLeDiff, Nat.reduceLT, Nat.reduceBNe, reduceCtorEq, e4, e3, e0]; dsimp only at *)
  have hrl := rising_len (xs.take i)
  rw [List.length_take] at hrl
  refine ⟨fun hlt => ?_, fun hge => ?_⟩
  · have hlt' : i < xs.length := by omega
    obtain ⟨ad, had, hR⟩ := hf i hlt'
    have htk : xs.take (i + 1) = xs.take i ++ [xs[i]] := List.take_succ_eq_append_getElem hlt'
    refine ⟨hlt, vat ad had ?_⟩
    try simp only [go_sem, ↓reduceIte, Nat.reduceEqDiff, Nat.reduceAdd, Nat.reduceMul, Nat.reduceLeDiff, Nat.reduceLT, Nat.reduceBNe, reduceCtorEq]
    refine vload _ (hle _ _ hR) ?_
    simp only [go_sem, ↓reduceIte, Nat.reduceEqDiff, Nat.reduceAdd, Nat.reduceMul, Nat.reduceLeDiff, Nat.reduceLT, Nat.reduceBNe, reduceCtorEq, e4, e3, e0]
    refine vlend fun β κ R2 hL => ⟨_, nHas (rising (xs.take i)) xs[i] _ R2 (lend_ints hL rfl) (by omega), ?_⟩
    rintro R3 v R4 hle3 rfl hle4 hfr
    replace hle4 : RO.le R1 R4 := hle4
    clear hL hfr hle3 β κ R2 R3
    obtain ⟨x, hx⟩ : ∃ x, x = xs[i] := ⟨_, rfl⟩
    rw [← hx] at hR htk ⊢
    obtain ⟨rl, hrr⟩ : ∃ rl, rl = rising (xs.take i) := ⟨_, rfl⟩
    have hinc : Inc rl := hrr ▸ rising_inc _
    have hmem : ∀ z, z ∈ rl ↔ z ∈ xs.take i := fun z => hrr ▸ mem_rising
    rw [← hrr] at hrl e3 ⊢
    simp only [go_sem, ↓reduceIte, Nat.reduceEqDiff, Nat.reduceAdd, Nat.reduceMul, Nat.reduceLeDiff, Nat.reduceLT, Nat.reduceBNe, reduceCtorEq, e4, e3, e0]
    refine ⟨fun hin => ⟨_, W.in64 (by omega), i + 1, [], by omega, ?_⟩, fun hnin => ?_⟩
    · have e : rising (xs.take (i + 1)) = rl := by
        refine (rising_eq hinc fun z => ?_).symm
        rw [hmem, htk, List.mem_append, List.mem_singleton]
        constructor
        · exact .inl
        · rintro (h | rfl)
          · exact h
          · exact (hmem _).1 hin
      rw [e]
      try simp only [go_sem, ↓reduceIte, Nat.reduceEqDiff, Nat.reduceAdd, Nat.reduceMul, Nat.reduceLeDiff, Nat.reduceLT, Nat.reduceBNe, reduceCtorEq]
      exact ⟨rfl, rfl, by omega⟩
    · refine vcLoop Nat (fun k => [(5, .val (.int .i64 k)), (4, .val (.int .i64 i)), (3, .sl 0 rl.length), (0, .val (.slice a xs.length cap))]) (fun _ => [.row 3 1 (rl.map (.int .i64))]) (fun k _ => k ≤ rl.length ∧ ∀ j, (hj : j < rl.length) → j < k → rl[j] < x) (fun k => rl.length - k) 0 ?_ rfl ?_ ?_
      · (try simp only [go_sem, ↓reduceIte, Nat.reduceEqDiff, Nat.reduceAdd, Nat.reduceMul, Nat.reduceLeDiff, Nat.reduceLT, Nat.reduceBNe, reduceCtorEq]) <;> (repeat' (first | rfl | trivial | constructor | (intro h; exact absurd rfl h)))
      · exact ⟨Nat.zero_le _, fun j hj h => by omega⟩
      clear e4 e3 e0
      rintro k env2 R5 hle5 hE ⟨hk, hbel⟩
      (simp only [go_sem] at hE; obtain ⟨e5, e4, e3, e0⟩ := hE; simp only [go_sem, ↓reduceIte, Nat.reduceEqDiff, Nat.reduceAdd, Nat.reduceMul, Nat.reduceLeDiff, Nat.reduceLT, Nat.reduceBNe, reduceCtorEq, e5, e4, e3, e0]; dsimp only at *)
      refine ⟨fun hkn => ?_, fun hkn => ?_⟩
      case' refine_1 =>
        have hkn' : k < rl.length := by omega
        have hg : (rl.map (Value.int .i64))[k]? = some (.int .i64 rl[k]) := by simp [hkn']
        refine ⟨hkn, _, hg, by omega, vat ad had ?_⟩
        try simp only [go_sem, ↓reduceIte, Nat.reduceEqDiff, Nat.reduceAdd, Nat.reduceMul, Nat.reduceLeDiff, Nat.reduceLT, Nat.reduceBNe, reduceCtorEq]
        refine vload _ (hle5 _ _ (hle4 _ _ (hle _ _ hR))) ?_
        simp only [go_sem, ↓reduceIte, Nat.reduceEqDiff, Nat.reduceAdd, Nat.reduceMul, Nat.reduceLeDiff, Nat.reduceLT, Nat.reduceBNe, reduceCtorEq, e5, e4, e3, e0]
        refine ⟨fun hlt2 => ⟨_, W.in64 (by omega), k + 1, by omega, by rfl, by omega, fun j hj hjk => ?_⟩, fun hge2 => ?_⟩
        · by_cases hjk' : j = k
          · subst hjk'; exact hlt2
          · exact hbel j hj (by omega)
        have hput : Inc (rl.take k ++ x :: rl.drop k) := put_inc hinc hk hbel (fun hj => by
          have : rl[k] ≠ x := fun e => hnin (e ▸ List.getElem_mem hkn')
          omega)
      case' refine_2 => have hput : Inc (rl.take k ++ x :: rl.drop k) := put_inc hinc hk hbel (fun hj => by omega)
      all_goals
        have e : rising (xs.take (i + 1)) = rl.take k ++ x :: rl.drop k := by
          refine (rising_eq hput fun z => ?_).symm
          rw [mem_put, hmem, htk, List.mem_append, List.mem_singleton]
          constructor
          · rintro (h | h)
            · exact .inr h
            · exact .inl h
          · rintro (h | h)
            · exact .inr h
            · exact .inl h
        have hlen2 : (rl.take k ++ x :: rl.drop k).length = rl.length + 1 := by simp; omega
        have hone : ∀ u ∈ rl.map (Value.int .i64), u.oneCell' = true := fun u hu => by obtain ⟨z, _, rfl⟩ := List.mem_map.1 hu; rfl
        have hdl : (rl.map (Value.int .i64)).length = rl.length := by simp
        have htk2 : (rl.map (Value.int .i64)).take k <+: rl.map (Value.int .i64) := List.take_prefix _ _
        have hres : ((rl.map (Value.int .i64)).take k ++ [.int .i64 x]) ++ (rl.map (Value.int .i64)).drop k = (rl.take k ++ x :: rl.drop k).map (.int .i64) := by simp
        rcases Nat.eq_zero_or_pos k with rfl | hkp
        · refine ⟨0, rl.length, rfl, rfl, Nat.zero_le _, ⟨_, _, ⟨rfl, rfl⟩, by simp⟩, ?_⟩
          simp only [go_sem, ↓reduceIte, Nat.reduceEqDiff, Nat.reduceAdd, Nat.reduceMul, Nat.reduceLeDiff, Nat.reduceLT, Nat.reduceBNe, reduceCtorEq, e5, e4, e3, e0]
          refine ⟨by simp, hone, vappO [] rfl rfl (by omega) ?_⟩
          simp only [go_sem, ↓reduceIte, Nat.reduceEqDiff, Nat.reduceAdd, Nat.reduceMul, Nat.reduceLeDiff, Nat.reduceLT, Nat.reduceBNe, reduceCtorEq, e5, e4, e3, e0]
          refine ⟨0, 0, rfl, rfl, Nat.zero_le _, ⟨_, _, ⟨rfl, rfl⟩, by simp⟩, ?_⟩
          refine ⟨by omega, vat ad had ?_⟩
          try simp only [go_sem, ↓reduceIte, Nat.reduceEqDiff, Nat.reduceAdd, Nat.reduceMul, Nat.reduceLeDiff, Nat.reduceLT, Nat.reduceBNe, reduceCtorEq]
          refine vload _ (hle5 _ _ (hle4 _ _ (hle _ _ hR))) ?_
          simp only [go_sem, ↓reduceIte, Nat.reduceEqDiff, Nat.reduceAdd, Nat.reduceMul, Nat.reduceLeDiff, Nat.reduceLT, Nat.reduceBNe, reduceCtorEq, e5, e4, e3, e0]
          refine vappP [] _ rfl (List.nil_prefix) rfl (by omega) ?_
          simp only [go_sem, ↓reduceIte, Nat.reduceEqDiff, Nat.reduceAdd, Nat.reduceMul, Nat.reduceLeDiff, Nat.reduceLT, Nat.reduceBNe, reduceCtorEq, e5, e4, e3, e0]
          refine ⟨by simp, fun u hu => ?_, vappO _ rfl (by simp) (by omega) ?_⟩
          · obtain ⟨z, _, rfl⟩ := List.mem_map.1 (List.mem_of_mem_take (show u ∈ List.take rl.length (rl.map (Value.int .i64)) by simpa using hu)); rfl
          simp only [go_sem, ↓reduceIte, Nat.reduceEqDiff, Nat.reduceAdd, Nat.reduceMul, Nat.reduceLeDiff, Nat.reduceLT, Nat.reduceBNe, reduceCtorEq, e5, e4, e3, e0]
          refine ⟨_, W.in64 (by omega), i + 1, [5], by omega, ?_⟩
          rw [e]
          try simp only [go_sem, ↓reduceIte, Nat.reduceEqDiff, Nat.reduceAdd, Nat.reduceMul, Nat.reduceLeDiff, Nat.reduceLT, Nat.reduceBNe, reduceCtorEq]
          exact ⟨⟨⟨rfl, by congr 1; omega⟩, by rw [List.take_of_length_le (by simp), List.take_of_length_le (by simp)]⟩, rfl, by omega⟩
        · refine ⟨k, rl.length, rfl, rfl, hk, ⟨_, _, ⟨rfl, rfl⟩, by simp⟩, ?_⟩
          rw [if_neg (by omega)]
          simp only [go_sem, ↓reduceIte, Nat.reduceEqDiff, Nat.reduceAdd, Nat.reduceMul, Nat.reduceLeDiff, Nat.reduceLT, Nat.reduceBNe, reduceCtorEq, e5, e4, e3, e0]
          refine ⟨by simp; omega, hone, vappO [] rfl rfl (by omega) ?_⟩
          simp only [go_sem, ↓reduceIte, Nat.reduceEqDiff, Nat.reduceAdd, Nat.reduceMul, Nat.reduceLeDiff, Nat.reduceLT, Nat.reduceBNe, reduceCtorEq, e5, e4, e3, e0]
          refine ⟨0, k, rfl, rfl, Nat.zero_le _, ⟨_, _, ⟨rfl, rfl⟩, by simp; omega⟩, ?_⟩
          refine ⟨by omega, vat ad had ?_⟩
          try simp only [go_sem, ↓reduceIte, Nat.reduceEqDiff, Nat.reduceAdd, Nat.reduceMul, Nat.reduceLeDiff, Nat.reduceLT, Nat.reduceBNe, reduceCtorEq]
          refine vload _ (hle5 _ _ (hle4 _ _ (hle _ _ hR))) ?_
          simp only [go_sem, ↓reduceIte, Nat.reduceEqDiff, Nat.reduceAdd, Nat.reduceMul, Nat.reduceLeDiff, Nat.reduceLT, Nat.reduceBNe, reduceCtorEq, e5, e4, e3, e0]
          refine vappP _ _ rfl htk2 (by simp; omega) (by omega) ?_
          simp only [go_sem, ↓reduceIte, Nat.reduceEqDiff, Nat.reduceAdd, Nat.reduceMul, Nat.reduceLeDiff, Nat.reduceLT, Nat.reduceBNe, reduceCtorEq, e5, e4, e3, e0]
          refine ⟨by simp, fun u hu => ?_, vappO _ rfl (by simp; omega) (by omega) ?_⟩
          · obtain ⟨z, _, rfl⟩ := List.mem_map.1 (List.mem_of_mem_drop (List.mem_of_mem_take (show u ∈ List.take (rl.length - k) (List.drop k (rl.map (Value.int .i64))) by simpa using hu))); rfl
          simp only [go_sem, ↓reduceIte, Nat.reduceEqDiff, Nat.reduceAdd, Nat.reduceMul, Nat.reduceLeDiff, Nat.reduceLT, Nat.reduceBNe, reduceCtorEq, e5, e4, e3, e0]
          refine ⟨_, W.in64 (by omega), i + 1, [5], by omega, ?_⟩
          rw [e]
          try simp only [go_sem, ↓reduceIte, Nat.reduceEqDiff, Nat.reduceAdd, Nat.reduceMul, Nat.reduceLeDiff, Nat.reduceLT, Nat.reduceBNe, reduceCtorEq]
          exact ⟨⟨⟨rfl, by congr 1; simp; omega⟩, by rw [List.take_of_length_le (l := List.drop k (rl.map (Value.int .i64))) (by simp), List.take_of_length_le (l := List.drop k (rl.map (Value.int .i64))) (by simp)]; exact hres⟩, rfl, by omega⟩
  · obtain rfl : i = xs.length := by omega
    intro b cap' R2 hle2 hrow hcap hfr
    have hrl2 := rising_len xs
    rw [List.take_length] at hrow hcap ⊢
    try simp only [go_sem, ↓reduceIte, Nat.reduceEqDiff, Nat.reduceAdd, Nat.reduceMul, Nat.reduceLeDiff, Nat.reduceLT, Nat.reduceBNe, reduceCtorEq]
    exact RowIn.ints hrow (by simpa using hcap)
theorem rRanks (xs : List Int) (v : Value) (R : RO) (h : Ints R v xs) (hl : xs.length ≤ 1000000000) : CallsR Try.prog 27 [v] R fun R' u => Ints R' u (xs.map fun x => (rank xs x : Int)) := by
  obtain ⟨a, cap, rfl, hc, hf⟩ := h.form
  refine callsT mix Try.func27 comp27 (by simp [Try.ntmps27]) ?_; simp only [go_sem, ↓reduceIte, Nat.reduceEqDiff, Nat.reduceAdd, Nat.reduceMul, Nat.reduceLeDiff, Nat.reduceLT, Nat.reduceBNe, reduceCtorEq, vc27, rs27]
  refine vcLoopR Nat (fun i => [(4, .val (.int .i64 i)), (3, .sl 0 i), (0, .val (.slice a xs.length cap))]) (fun i => [.row 3 1 (((xs.take i).map fun x => (rank xs x : Int)).map (.int .i64))]) (fun i _ => i ≤ xs.length) (fun i => xs.length - i) 0 [] ?_ ?_ ?_ ?_
  · (try simp only [go_sem, ↓reduceIte, Nat.reduceEqDiff, Nat.reduceAdd, Nat.reduceMul, Nat.reduceLeDiff, Nat.reduceLT, Nat.reduceBNe, reduceCtorEq]) <;> (repeat' (first | rfl | trivial | constructor | (intro h; exact absurd rfl h)))
  · try simp only [go_sem, ↓reduceIte, Nat.reduceEqDiff, Nat.reduceAdd, Nat.reduceMul, Nat.reduceLeDiff, Nat.reduceLT, Nat.reduceBNe, reduceCtorEq]
  · omega
  rintro i env R1 hle hE hi
  (simp only [go_sem] at hE; obtain ⟨e4, e3, e0⟩ := hE; simp only [go_sem, ↓reduceIte, Nat.reduceEqDiff, Nat.reduceAdd, Nat.reduceMul, Nat.reduceLeDiff, Nat.reduceLT, Nat.reduceBNe, reduceCtorEq, e4, e3, e0]; dsimp only at *)
  refine ⟨fun hlt => ?_, fun hge => ?_⟩
  · have hlt' : i < xs.length := by omega
    obtain ⟨ad, had, hR⟩ := hf i hlt'
    have htk : xs.take (i + 1) = xs.take i ++ [xs[i]] := List.take_succ_eq_append_getElem hlt'
    obtain ⟨x, hx⟩ : ∃ x, x = xs[i] := ⟨_, rfl⟩
    rw [← hx] at hR htk
    refine vcLoopR (Nat × List Int) (fun y => [(6, .val (.int .i64 y.1)), (5, .sl 1 y.2.length), (4, .val (.int .i64 i)), (3, .sl 0 i), (0, .val (.slice a xs.length cap))])
      (fun y => [.row 3 1 (((xs.take i).map fun x => (rank xs x : Int)).map (.int .i64)), .row 3 1 (y.2.map (.int .i64))])
      (fun y _ => y.1 ≤ xs.length ∧ y.2.length ≤ y.1 ∧ y.2.Nodup ∧ ∀ z, z ∈ y.2 ↔ z ∈ xs.take y.1 ∧ z < x) (fun y => xs.length - y.1) (0, []) [] ?_ ?_ ?_ ?_
    · (try simp only [go_sem, ↓reduceIte, Nat.reduceEqDiff, Nat.reduceAdd, Nat.reduceMul, Nat.reduceLeDiff, Nat.reduceLT, Nat.reduceBNe, reduceCtorEq]) <;> (repeat' (first | rfl | trivial | constructor | (intro h; exact absurd rfl h)))
    · try simp only [go_sem, ↓reduceIte, Nat.reduceEqDiff, Nat.reduceAdd, Nat.reduceMul, Nat.reduceLeDiff, Nat.reduceLT, Nat.reduceBNe, reduceCtorEq]
    · exact ⟨Nat.zero_le _, Nat.le_refl _, List.nodup_nil, fun z => by simp⟩
    clear e4 e3 e0
    rintro ⟨k, ls⟩ env2 R2 hle2 hE ⟨hk, hkl, hnd, hm⟩
    dsimp only at hk hkl hnd hm
    (simp only [go_sem] at hE; obtain ⟨e6, e5, e4, e3, e0⟩ := hE; simp only [go_sem, ↓reduceIte, Nat.reduceEqDiff, Nat.reduceAdd, Nat.reduceMul, Nat.reduceLeDiff, Nat.reduceLT, Nat.reduceBNe, reduceCtorEq, e6, e5, e4, e3, e0]; dsimp only at *)
    refine ⟨fun hkn => ?_, fun hkn => ?_⟩
    · have hkn' : k < xs.length := by omega
      obtain ⟨ad', had', hR'⟩ := hf k hkn'
      have htk2 : xs.take (k + 1) = xs.take k ++ [xs[k]] := List.take_succ_eq_append_getElem hkn'
      obtain ⟨z, hz⟩ : ∃ z, z = xs[k] := ⟨_, rfl⟩
      rw [← hz] at hR' htk2
      refine ⟨hkn, vat ad' had' ?_⟩
      try simp only [go_sem, ↓reduceIte, Nat.reduceEqDiff, Nat.reduceAdd, Nat.reduceMul, Nat.reduceLeDiff, Nat.reduceLT, Nat.reduceBNe, reduceCtorEq]
      refine vload _ (hle2 _ _ (hle _ _ hR')) ?_
      simp only [go_sem, ↓reduceIte, Nat.reduceEqDiff, Nat.reduceAdd, Nat.reduceMul, Nat.reduceLeDiff, Nat.reduceLT, Nat.reduceBNe, reduceCtorEq, e6, e5, e4, e3, e0]
      refine ⟨by omega, vat ad had ?_⟩
      try simp only [go_sem, ↓reduceIte, Nat.reduceEqDiff, Nat.reduceAdd, Nat.reduceMul, Nat.reduceLeDiff, Nat.reduceLT, Nat.reduceBNe, reduceCtorEq]
      refine vload _ (hle2 _ _ (hle _ _ hR)) ?_
      simp only [go_sem, ↓reduceIte, Nat.reduceEqDiff, Nat.reduceAdd, Nat.reduceMul, Nat.reduceLeDiff, Nat.reduceLT, Nat.reduceBNe, reduceCtorEq, e6, e5, e4, e3, e0]
      have hnot : ∀ (h : ¬ z < x ∨ z ∈ ls), ∀ y, y ∈ ls ↔ y ∈ xs.take (k + 1) ∧ y < x := fun h y => by
        rw [hm, htk2, List.mem_append, List.mem_singleton]
        constructor
        · rintro ⟨h1, h2⟩; exact ⟨.inl h1, h2⟩
        · rintro ⟨h1 | rfl, h2⟩
          · exact ⟨h1, h2⟩
          · rcases h with h | h
            · exact absurd h2 h
            · exact (hm y).1 h
      refine ⟨fun hzx => ⟨hkn, vat ad' had' ?_⟩, fun hzx => ⟨_, W.in64 (by omega), (k + 1, ls), [], by dsimp only; omega, ?_⟩⟩
      · try simp only [go_sem, ↓reduceIte, Nat.reduceEqDiff, Nat.reduceAdd, Nat.reduceMul, Nat.reduceLeDiff, Nat.reduceLT, Nat.reduceBNe, reduceCtorEq]
        refine vload _ (hle2 _ _ (hle _ _ hR')) ?_
        simp only [go_sem, ↓reduceIte, Nat.reduceEqDiff, Nat.reduceAdd, Nat.reduceMul, Nat.reduceLeDiff, Nat.reduceLT, Nat.reduceBNe, reduceCtorEq, e6, e5, e4, e3, e0]
        refine vlend fun β κ R3 hL => ⟨_, nHas ls z _ R3 (lend_ints hL rfl) (by omega), ?_⟩
        rintro R4 v R5 hle4 rfl hle5 hfr
        replace hle5 : RO.le R2 R5 := hle5
        simp only [go_sem, ↓reduceIte, Nat.reduceEqDiff, Nat.reduceAdd, Nat.reduceMul, Nat.reduceLeDiff, Nat.reduceLT, Nat.reduceBNe, reduceCtorEq, e6, e5, e4, e3, e0]
        refine ⟨fun hin => ?_, fun hin => ⟨_, W.in64 (by omega), (k + 1, ls), [], by dsimp only; omega, ?_⟩⟩
        · refine ⟨hkn, vat ad' had' ?_⟩
          try simp only [go_sem, ↓reduceIte, Nat.reduceEqDiff, Nat.reduceAdd, Nat.reduceMul, Nat.reduceLeDiff, Nat.reduceLT, Nat.reduceBNe, reduceCtorEq]
          refine vload _ (hle5 _ _ (hle2 _ _ (hle _ _ hR'))) ?_
          simp only [go_sem, ↓reduceIte, Nat.reduceEqDiff, Nat.reduceAdd, Nat.reduceMul, Nat.reduceLeDiff, Nat.reduceLT, Nat.reduceBNe, reduceCtorEq, e6, e5, e4, e3, e0]
          refine vappO _ rfl (by simp) (by omega) ?_
          simp only [go_sem, ↓reduceIte, Nat.reduceEqDiff, Nat.reduceAdd, Nat.reduceMul, Nat.reduceLeDiff, Nat.reduceLT, Nat.reduceBNe, reduceCtorEq, e6, e5, e4, e3, e0]
          refine ⟨_, W.in64 (by omega), (k + 1, ls ++ [z]), [0, 3], by dsimp only; omega, ?_⟩
          try simp only [go_sem, ↓reduceIte, Nat.reduceEqDiff, Nat.reduceAdd, Nat.reduceMul, Nat.reduceLeDiff, Nat.reduceLT, Nat.reduceBNe, reduceCtorEq]
          refine ⟨⟨rfl, by simp⟩, rfl, by omega, by omega, ?_, fun y => ?_⟩
          · rw [List.nodup_append]
            exact ⟨hnd, by simp, fun a ha b hb e => hin (by rw [List.mem_singleton] at hb; rw [← hb, ← e]; exact ha)⟩
          · rw [List.mem_append, List.mem_singleton, hm, htk2, List.mem_append, List.mem_singleton]
            constructor
            · rintro (⟨h1, h2⟩ | rfl)
              · exact ⟨.inl h1, h2⟩
              · exact ⟨.inr rfl, hzx⟩
            · rintro ⟨h1 | rfl, h2⟩
              · exact .inl ⟨h1, h2⟩
              · exact .inr rfl
        · try simp only [go_sem, ↓reduceIte, Nat.reduceEqDiff, Nat.reduceAdd, Nat.reduceMul, Nat.reduceLeDiff, Nat.reduceLT, Nat.reduceBNe, reduceCtorEq]
          exact ⟨rfl, rfl, by omega, by omega, hnd, hnot (.inr hin)⟩
      · try simp only [go_sem, ↓reduceIte, Nat.reduceEqDiff, Nat.reduceAdd, Nat.reduceMul, Nat.reduceLeDiff, Nat.reduceLT, Nat.reduceBNe, reduceCtorEq]
        exact ⟨rfl, rfl, by omega, by omega, hnd, hnot (.inl hzx)⟩
    · have hkk : k = xs.length := by omega
      subst hkk
      rw [List.take_length] at hm
      have hlen := rank_of_nodup hnd hm
      refine vappO _ rfl (by simp; omega) (by omega) ?_
      simp only [go_sem, ↓reduceIte, Nat.reduceEqDiff, Nat.reduceAdd, Nat.reduceMul, Nat.reduceLeDiff, Nat.reduceLT, Nat.reduceBNe, reduceCtorEq, e6, e5, e4, e3, e0]
      refine ⟨_, W.in64 (by omega), i + 1, [3], by omega, ?_⟩
      rw [htk]
      try simp only [go_sem, ↓reduceIte, Nat.reduceEqDiff, Nat.reduceAdd, Nat.reduceMul, Nat.reduceLeDiff, Nat.reduceLT, Nat.reduceBNe, reduceCtorEq]
      exact ⟨⟨rfl, by simp [hlen]⟩, rfl, by omega⟩
  · obtain rfl : i = xs.length := by omega
    intro b cap' R2 hle2 hrow hcap hfr
    rw [List.take_length] at hrow hcap
    try simp only [go_sem, ↓reduceIte, Nat.reduceEqDiff, Nat.reduceAdd, Nat.reduceMul, Nat.reduceLeDiff, Nat.reduceLT, Nat.reduceBNe, reduceCtorEq]
    have := RowIn.ints hrow (cap := cap') (by simpa using hcap)
    simpa using this
/-! ### Ranks of package number -/
theorem nSearch0 (x : Int) (a : Option Addr) (cap : Nat) (R : RO) : CallsR Try.prog 38 [.slice a 0 cap, .int .i64 x] R fun _ u => ∃ b, u = .tuple #[.int .i64 0, .bool b] := by
  refine callsT mix Try.func38 comp38 (by simp [Try.ntmps38]) ?_; simp only [go_sem, ↓reduceIte, Nat.reduceEqDiff, Nat.reduceAdd, Nat.reduceMul, Nat.reduceLeDiff, Nat.reduceLT, Nat.reduceBNe, reduceCtorEq, vc38, rs38]
  refine vcLoop Unit (fun _ => [(7, .val (.int .i64 0)), (8, .val (.int .i64 0)), (6, .val (.int .i64 0))]) (fun _ => []) (fun _ _ => True) (fun _ => 0) () ?_ rfl trivial ?_
  · (try simp only [go_sem, ↓reduceIte, Nat.reduceEqDiff, Nat.reduceAdd, Nat.reduceMul, Nat.reduceLeDiff, Nat.reduceLT, Nat.reduceBNe, reduceCtorEq]) <;> (repeat' (first | rfl | trivial | constructor | (intro h; exact absurd rfl h)))
  rintro _ env R1 hle hE _
  (simp only [go_sem] at hE; obtain ⟨e7, e8, e6⟩ := hE; simp only [go_sem, ↓reduceIte, Nat.reduceEqDiff, Nat.reduceAdd, Nat.reduceMul, Nat.reduceLeDiff, Nat.reduceLT, Nat.reduceBNe, reduceCtorEq, e7, e8, e6]; dsimp only at *)
  try simp only [go_sem, ↓reduceIte, Nat.reduceEqDiff, Nat.reduceAdd, Nat.reduceMul, Nat.reduceLeDiff, Nat.reduceLT, Nat.reduceBNe, reduceCtorEq, Int.reduceLE, Int.reduceLT, Int.reduceToNat, Int.cast_ofNat_Int, Int.reduceEq, Int.reduceNe]
  exact ⟨_, rfl⟩
theorem nSearch (xs : List Int) (x : Int) (v : Value) (R : RO) (h : Ints R v xs) (hs : Inc xs) (hl : xs.length ≤ 1000000000) : CallsR Try.prog 38 [v, .int .i64 x] R fun _ u => ∃ b, u = .tuple #[.int .i64 (xs.countP (fun y => decide (y < x))), .bool b] := by
  intro w hR
  have hz := ints_holdsZ h hR
  have hsp : (xs.take xs.length).Pairwise (· ≤ ·) := by rw [List.take_length]; exact hs.imp (fun h => by omega)
  rcases hz with ⟨⟨a, cap, rfl⟩, rfl⟩ | ⟨b, off, cap, rfl, hb, hc⟩
  · exact nSearch0 x a cap R w hR
  · refine Calls.mono (AnyG.slices_BinarySearch_int Try.searchA b off xs.length cap xs x w (Nat.le_refl _) (by omega) (fun j hj => by rw [List.getD_eq_getElem?_getD]; exact hc j hj) hsp) ?_
    rintro e w' ⟨rfl, q, rfl⟩
    exact ⟨_, R, rfl, RO.le_refl R, fun a v ha => ⟨hR a v ha, .inl ha⟩, ⟨rfl, rfl, rfl, Nat.le_refl _, fun _ _ => rfl, by simp⟩, _, by rw [List.take_length]⟩
theorem nRankAt (ad : Addr) (xs : List Int) (x : Int) (sv : Value) (R : RO) (hb : R ad sv) (h : Ints R sv (rising xs)) (hl : (rising xs).length ≤ 1000000000) : CallsR Try.prog 37 [.int .i64 x, .pointer (some ad)] R fun _ u => u = .int .i64 (rank xs x) := by
  refine callsT mix Try.func37 comp37 (by simp [Try.ntmps37]) ?_; simp only [go_sem, ↓reduceIte, Nat.reduceEqDiff, Nat.reduceAdd, Nat.reduceMul, Nat.reduceLeDiff, Nat.reduceLT, Nat.reduceBNe, reduceCtorEq, vc37, rs37]
  refine vload _ hb ?_
  try simp only [go_sem, ↓reduceIte, Nat.reduceEqDiff, Nat.reduceAdd, Nat.reduceMul, Nat.reduceLeDiff, Nat.reduceLT, Nat.reduceBNe, reduceCtorEq]
  refine vcall (nSearch _ x _ R h (rising_inc xs) hl) ?_
  rintro R1 v hle ⟨b, rfl⟩
  try simp only [go_sem, ↓reduceIte, Nat.reduceEqDiff, Nat.reduceAdd, Nat.reduceMul, Nat.reduceLeDiff, Nat.reduceLT, Nat.reduceBNe, reduceCtorEq]
  rfl
theorem nEach (xs zs : List Int) (v : Value) (ad : Addr) (sv : Value) (R : RO) (h : Ints R v xs) (hb : R ad sv) (hz : Ints R sv (rising zs)) (hl : xs.length ≤ 1000000000) (hl2 : (rising zs).length ≤ 1000000000) :
    CallsR Try.prog 36 [v, .func (.func 37) #[] #[.pointer (some ad)]] R fun R' u => Ints R' u (xs.map fun x => (rank zs x : Int)) ∧ NewS R u := by
  obtain ⟨a, cap, rfl, hc, hf⟩ := h.form
  refine callsT mix Try.func36 comp36 (by simp [Try.ntmps36]) ?_; simp only [go_sem, ↓reduceIte, Nat.reduceEqDiff, Nat.reduceAdd, Nat.reduceMul, Nat.reduceLeDiff, Nat.reduceLT, Nat.reduceBNe, reduceCtorEq, vc36, rs36]
  refine ⟨by omega, by omega, ?_⟩
  refine vcLoopR Nat (fun i => [(13, .val (.int .i64 i)), (12, .val (.int .i64 xs.length)), (11, .val (.slice a xs.length cap)), (5, .sl 0 i), (1, .val (.func (.func 37) #[] #[.pointer (some ad)]))]) (fun i => [.row 3 1 (((xs.take i).map fun x => (rank zs x : Int)).map (.int .i64))]) (fun i _ => i ≤ xs.length) (fun i => xs.length - i) 0 [] ?_ ?_ ?_ ?_
  · (try simp only [go_sem, ↓reduceIte, Nat.reduceEqDiff, Nat.reduceAdd, Nat.reduceMul, Nat.reduceLeDiff, Nat.reduceLT, Nat.reduceBNe, reduceCtorEq]) <;> (repeat' (first | rfl | trivial | constructor | (intro h; exact absurd rfl h)))
  · try simp only [go_sem, ↓reduceIte, Nat.reduceEqDiff, Nat.reduceAdd, Nat.reduceMul, Nat.reduceLeDiff, Nat.reduceLT, Nat.reduceBNe, reduceCtorEq]
  · omega
  rintro i env R1 hle hE hi
  (simp only [go_sem] at hE; obtain ⟨e13, e12, e11, e5, e1⟩ := hE; simp only [go_sem, ↓reduceIte, Nat.reduceEqDiff, Nat.reduceAdd, Nat.reduceMul, Nat.reduceLeDiff, Nat.reduceLT, Nat.reduceBNe, reduceCtorEq, e13, e12, e11, e5, e1]; dsimp only at *)
  refine ⟨fun hlt => ?_, fun hge => ?_⟩
  · have hlt' : i < xs.length := by omega
    obtain ⟨ad', had, hR⟩ := hf i hlt'
    have htk : xs.take (i + 1) = xs.take i ++ [xs[i]] := List.take_succ_eq_append_getElem hlt'
    refine ⟨hlt, vat ad' had ?_⟩
    try simp only [go_sem, ↓reduceIte, Nat.reduceEqDiff, Nat.reduceAdd, Nat.reduceMul, Nat.reduceLeDiff, Nat.reduceLT, Nat.reduceBNe, reduceCtorEq]
    refine vload _ (hle _ _ hR) ?_
    simp only [go_sem, ↓reduceIte, Nat.reduceEqDiff, Nat.reduceAdd, Nat.reduceMul, Nat.reduceLeDiff, Nat.reduceLT, Nat.reduceBNe, reduceCtorEq, e13, e12, e11, e5, e1]
    refine ⟨by kernel_rfl, vcall (nRankAt ad zs xs[i] sv R1 (hle _ _ hb) (hz.mono hle) hl2) ?_⟩
    rintro R2 v hle2 rfl
    simp only [go_sem, ↓reduceIte, Nat.reduceEqDiff, Nat.reduceAdd, Nat.reduceMul, Nat.reduceLeDiff, Nat.reduceLT, Nat.reduceBNe, reduceCtorEq, e13, e12, e11, e5, e1]
    refine vappO _ rfl (by simp; omega) (by omega) ?_
    simp only [go_sem, ↓reduceIte, Nat.reduceEqDiff, Nat.reduceAdd, Nat.reduceMul, Nat.reduceLeDiff, Nat.reduceLT, Nat.reduceBNe, reduceCtorEq, e13, e12, e11, e5, e1]
    refine ⟨_, W.in64 (by omega), i + 1, [2], by omega, ?_⟩
    rw [htk]
    try simp only [go_sem, ↓reduceIte, Nat.reduceEqDiff, Nat.reduceAdd, Nat.reduceMul, Nat.reduceLeDiff, Nat.reduceLT, Nat.reduceBNe, reduceCtorEq]
    exact ⟨⟨rfl, by rw [List.map_append, List.map_append]; rfl⟩, rfl, by omega⟩
  · obtain rfl : i = xs.length := by omega
    intro b cap' R2 hle2 hrow hcap hfr
    rw [List.take_length] at hrow hcap
    try simp only [go_sem, ↓reduceIte, Nat.reduceEqDiff, Nat.reduceAdd, Nat.reduceMul, Nat.reduceLeDiff, Nat.reduceLT, Nat.reduceBNe, reduceCtorEq]
    have := RowIn.ints hrow (cap := cap') (by simpa using hcap)
    refine ⟨by simpa using this, fun a n c e x v hx => ?_⟩
    cases e
    exact hfr x v (hle _ _ hx)
theorem nRanks (xs : List Int) (v : Value) (R : RO) (h : Ints R v xs) (hl : xs.length ≤ 1000000000) : CallsR Try.prog 26 [v] R fun R' u => Ints R' u (xs.map fun x => (rank xs x : Int)) ∧ NewS R u := by
  obtain ⟨a, cap, rfl, hc, hf⟩ := h.form
  refine callsT mix Try.func26 comp26 (by simp [Try.ntmps26]) ?_; simp only [go_sem, ↓reduceIte, Nat.reduceEqDiff, Nat.reduceAdd, Nat.reduceMul, Nat.reduceLeDiff, Nat.reduceLT, Nat.reduceBNe, reduceCtorEq, vc26, rs26]
  refine vcall (nRising xs _ R h (by omega)) ?_
  rintro R1 sv hle ⟨hsv, -⟩
  obtain ⟨aS, caps, rfl, hcs, hfs⟩ := hsv.form
  have hrl := rising_len xs
  try simp only [go_sem, ↓reduceIte, Nat.reduceEqDiff, Nat.reduceAdd, Nat.reduceMul, Nat.reduceLeDiff, Nat.reduceLT, Nat.reduceBNe, reduceCtorEq]
  refine vlend fun β κ R2 hL => ⟨_, nEach xs xs _ ⟨β 0, 0, none⟩ (.slice aS (rising xs).length caps) R2 ((h.mono hle).mono hL.1) ?_ (hsv.mono hL.1) (by omega) (by omega), ?_⟩
  · have := hL.2 0 _ rfl
    simp only [lendB] at this
    exact this 0 _ rfl
  · rintro R3 v R4 hle3 ⟨hv, hn⟩ hle4 hfr
    try simp only [go_sem, ↓reduceIte, Nat.reduceEqDiff, Nat.reduceAdd, Nat.reduceMul, Nat.reduceLeDiff, Nat.reduceLT, Nat.reduceBNe, reduceCtorEq]
    exact ⟨ints_keep hv hn hfr, hn.anti fun a u ha => hL.1 _ _ (hle _ _ ha)⟩
end Go.Proofs.Ytlakekoekilbaaa
