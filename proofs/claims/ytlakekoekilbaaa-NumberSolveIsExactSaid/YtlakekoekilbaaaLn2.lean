/- Laws of package number, as contracts of the statements' functions: agreement with the reference; ranks. -/
import Derived.Test.YtlakekoekilbaaaLn1
namespace Go.Proofs.Ytlakekoekilbaaa
set_option linter.unusedSimpArgs false
set_option linter.unusedVariables false
open Go.RowKit Go.Sort Go.Proofs.Ytlakekoekilbaaa.Vc

theorem rGcdV (a b : Int) (ha : I64 a) (hb : I64 b) (R : RO) : CallsR Try.prog 22 [.int .i64 a, .int .i64 b] R fun _ v => v = .int .i64 (gcdV a b) := rGcd a b ha hb R
theorem lMatches (a b : Int) (xs : List Int) (v : Value) (ha : I64 a) (hb : I64 b) (R : RO) (h : Ints R v xs) : CallsR Try.prog 3 [.int .i64 a, .int .i64 b, v] R fun _ v => v = .bool true := by
  obtain ⟨ax, cap, rfl, hc, hf⟩ := h.form
  refine callsT mix Try.func3 comp3 (by simp [Try.ntmps3]) ?_; simp only [go_sem, ↓reduceIte, Nat.reduceEqDiff, Nat.reduceAdd, Nat.reduceMul, Nat.reduceLeDiff, Nat.reduceLT, Nat.reduceBNe, reduceCtorEq, vc3, rs3]
  refine vcall (nSanity R) ?_
  rintro R1 v hle1 rfl
  try simp only [go_sem, ↓reduceIte, Nat.reduceEqDiff, Nat.reduceAdd, Nat.reduceMul, Nat.reduceLeDiff, Nat.reduceLT, Nat.reduceBNe, reduceCtorEq, Int.reduceLE, Int.reduceLT, Int.reduceToNat, Int.cast_ofNat_Int, Int.reduceEq, Int.reduceNe]
  refine vcall (nFloorDiv a b hb ha _) ?_
  rintro R2 v hle2 rfl
  try simp only [go_sem, ↓reduceIte, Nat.reduceEqDiff, Nat.reduceAdd, Nat.reduceMul, Nat.reduceLeDiff, Nat.reduceLT, Nat.reduceBNe, reduceCtorEq, Int.reduceLE, Int.reduceLT, Int.reduceToNat, Int.cast_ofNat_Int, Int.reduceEq, Int.reduceNe]
  refine vcall (nMod a b hb ha _) ?_
  rintro R3 v hle3 rfl
  have h3 := ((h.mono hle1).mono hle2).mono hle3
  have hlen : (xs.take 40).length ≤ 40 := by simp; omega
  by_cases hb1 : b < 1
  case' pos =>
    simp only [hb1, if_true]
    try simp only [go_sem, ↓reduceIte, Nat.reduceEqDiff, Nat.reduceAdd, Nat.reduceMul, Nat.reduceLeDiff, Nat.reduceLT, Nat.reduceBNe, reduceCtorEq, Int.reduceLE, Int.reduceLT, Int.reduceToNat, Int.cast_ofNat_Int, Int.reduceEq, Int.reduceNe]
    refine ⟨fun _ => ?_, fun h => absurd hb1 h⟩
    have h5 := h3
  case' neg =>
    simp only [hb1, if_false]
    try simp only [go_sem, ↓reduceIte, Nat.reduceEqDiff, Nat.reduceAdd, Nat.reduceMul, Nat.reduceLeDiff, Nat.reduceLT, Nat.reduceBNe, reduceCtorEq, Int.reduceLE, Int.reduceLT, Int.reduceToNat, Int.cast_ofNat_Int, Int.reduceEq, Int.reduceNe]
    refine ⟨fun h => absurd h hb1, fun _ => ?_⟩
    refine vcall (rFloorDiv a b (by omega) hb ha _) ?_
    rintro R4 v hle4 rfl
    try simp only [go_sem, ↓reduceIte, Nat.reduceEqDiff, Nat.reduceAdd, Nat.reduceMul, Nat.reduceLeDiff, Nat.reduceLT, Nat.reduceBNe, reduceCtorEq, Int.reduceLE, Int.reduceLT, Int.reduceToNat, Int.cast_ofNat_Int, Int.reduceEq, Int.reduceNe]
    refine vcall (rMod a b (by omega) hb ha _) ?_
    rintro R5 v hle5 rfl
    try simp only [go_sem, ↓reduceIte, Nat.reduceEqDiff, Nat.reduceAdd, Nat.reduceMul, Nat.reduceLeDiff, Nat.reduceLT, Nat.reduceBNe, reduceCtorEq, Int.reduceLE, Int.reduceLT, Int.reduceToNat, Int.cast_ofNat_Int, Int.reduceEq, Int.reduceNe]
    have h5 := (h3.mono hle4).mono hle5
  all_goals
    refine vcall (nLcm a b ha hb _) ?_
    rintro R6 v hle6 rfl
    replace h5 := h5.mono hle6
    try simp only [go_sem, ↓reduceIte, Nat.reduceEqDiff, Nat.reduceAdd, Nat.reduceMul, Nat.reduceLeDiff, Nat.reduceLT, Nat.reduceBNe, reduceCtorEq, Int.reduceLE, Int.reduceLT, Int.reduceToNat, Int.cast_ofNat_Int, Int.reduceEq, Int.reduceNe]
    refine vcall (rLcm a b ha hb _) ?_
    rintro R7 v hle7 rfl
    replace h5 := h5.mono hle7
    try simp only [go_sem, ↓reduceIte, Nat.reduceEqDiff, Nat.reduceAdd, Nat.reduceMul, Nat.reduceLeDiff, Nat.reduceLT, Nat.reduceBNe, reduceCtorEq, Int.reduceLE, Int.reduceLT, Int.reduceToNat, Int.cast_ofNat_Int, Int.reduceEq, Int.reduceNe]
    refine vcall (nFew xs _ _ h5) ?_
    rintro R8 x hle8 hx
    try simp only [go_sem, ↓reduceIte, Nat.reduceEqDiff, Nat.reduceAdd, Nat.reduceMul, Nat.reduceLeDiff, Nat.reduceLT, Nat.reduceBNe, reduceCtorEq, Int.reduceLE, Int.reduceLT, Int.reduceToNat, Int.cast_ofNat_Int, Int.reduceEq, Int.reduceNe]
    refine vcall (nGcdV a b ha hb _) ?_
    rintro R9 v hle9 rfl
    replace hx := hx.mono hle9
    try simp only [go_sem, ↓reduceIte, Nat.reduceEqDiff, Nat.reduceAdd, Nat.reduceMul, Nat.reduceLeDiff, Nat.reduceLT, Nat.reduceBNe, reduceCtorEq, Int.reduceLE, Int.reduceLT, Int.reduceToNat, Int.cast_ofNat_Int, Int.reduceEq, Int.reduceNe]
    refine vcall (rGcdV a b ha hb _) ?_
    rintro R10 v hle10 rfl
    replace hx := hx.mono hle10
    try simp only [go_sem, ↓reduceIte, Nat.reduceEqDiff, Nat.reduceAdd, Nat.reduceMul, Nat.reduceLeDiff, Nat.reduceLT, Nat.reduceBNe, reduceCtorEq, Int.reduceLE, Int.reduceLT, Int.reduceToNat, Int.cast_ofNat_Int, Int.reduceEq, Int.reduceNe]
    refine vcall (nRising _ _ _ hx (by omega)) ?_
    rintro R11 v hle11 ⟨hv, -⟩
    replace hx := hx.mono hle11
    try simp only [go_sem, ↓reduceIte, Nat.reduceEqDiff, Nat.reduceAdd, Nat.reduceMul, Nat.reduceLeDiff, Nat.reduceLT, Nat.reduceBNe, reduceCtorEq, Int.reduceLE, Int.reduceLT, Int.reduceToNat, Int.cast_ofNat_Int, Int.reduceEq, Int.reduceNe]
    refine vcall (rRising _ _ _ hx (by omega)) ?_
    rintro R12 u hle12 hu
    replace hx := hx.mono hle12
    replace hv := hv.mono hle12
    have hrl := rising_len (xs.take 40)
    try simp only [go_sem, ↓reduceIte, Nat.reduceEqDiff, Nat.reduceAdd, Nat.reduceMul, Nat.reduceLeDiff, Nat.reduceLT, Nat.reduceBNe, reduceCtorEq, Int.reduceLE, Int.reduceLT, Int.reduceToNat, Int.cast_ofNat_Int, Int.reduceEq, Int.reduceNe]
    refine vcall (nSame _ _ _ _ _ hv hu (by omega)) ?_
    rintro R13 w hle13 rfl
    replace hx := hx.mono hle13
    try simp only [go_sem, ↓reduceIte, Nat.reduceEqDiff, Nat.reduceAdd, Nat.reduceMul, Nat.reduceLeDiff, Nat.reduceLT, Nat.reduceBNe, reduceCtorEq, Int.reduceLE, Int.reduceLT, Int.reduceToNat, Int.cast_ofNat_Int, Int.reduceEq, Int.reduceNe]
    refine vcall (nRanks _ _ _ hx (by omega)) ?_
    rintro R14 y hle14 ⟨hy, -⟩
    replace hx := hx.mono hle14
    try simp only [go_sem, ↓reduceIte, Nat.reduceEqDiff, Nat.reduceAdd, Nat.reduceMul, Nat.reduceLeDiff, Nat.reduceLT, Nat.reduceBNe, reduceCtorEq, Int.reduceLE, Int.reduceLT, Int.reduceToNat, Int.cast_ofNat_Int, Int.reduceEq, Int.reduceNe]
    refine vcall (rRanks _ _ _ hx (by omega)) ?_
    rintro R15 z hle15 hz
    replace hy := hy.mono hle15
    try simp only [go_sem, ↓reduceIte, Nat.reduceEqDiff, Nat.reduceAdd, Nat.reduceMul, Nat.reduceLeDiff, Nat.reduceLT, Nat.reduceBNe, reduceCtorEq, Int.reduceLE, Int.reduceLT, Int.reduceToNat, Int.cast_ofNat_Int, Int.reduceEq, Int.reduceNe]
    refine vcall (nSame _ _ _ _ _ hy hz (by simp; omega)) ?_
    rintro R16 w hle16 rfl
    try simp only [go_sem, ↓reduceIte, Nat.reduceEqDiff, Nat.reduceAdd, Nat.reduceMul, Nat.reduceLeDiff, Nat.reduceLT, Nat.reduceBNe, reduceCtorEq, Int.reduceLE, Int.reduceLT, Int.reduceToNat, Int.cast_ofNat_Int, Int.reduceEq, Int.reduceNe]
theorem vsrcZ {R : RO} {a : Option Addr} {c : Nat} {xs : List Int} {kk : List Value → Prop} {t : Tok kk} (h : Ints R (.slice a xs.length c) xs) (hk : kk (xs.map (.int .i64))) : SrcP R 1 a xs.length kk t := by
  obtain ⟨a', c', e, _, hf⟩ := h.form
  cases e
  refine vsrc _ (by simp) (fun u hu => by obtain ⟨z, _, rfl⟩ := List.mem_map.1 hu; rfl) (fun hne => ?_) hk
  have h0 : 0 < xs.length := by
    rcases Nat.eq_zero_or_pos xs.length with h | h
    · exact absurd (by rw [List.eq_nil_of_length_eq_zero h]; rfl) hne
    · exact h
  obtain ⟨ad, rfl, _⟩ := hf 0 h0
  refine ⟨ad, rfl, fun i v hi => ?_⟩
  rw [List.getElem?_map] at hi
  obtain ⟨z, hz, rfl⟩ := Option.map_eq_some_iff.1 hi
  obtain ⟨hlt, rfl⟩ := List.getElem?_eq_some_iff.1 hz
  obtain ⟨ad', e', hR⟩ := hf i hlt
  cases e'
  exact hR
theorem lRestore (xs : List Int) (v : Value) (R : RO) (h : Ints R v xs) : CallsR Try.prog 11 [v] R fun _ v => v = .bool true := by
  obtain ⟨ax, cap, rfl, hc, hf⟩ := h.form
  refine callsT mix Try.func11 comp11 (by simp [Try.ntmps11]) ?_; simp only [go_sem, ↓reduceIte, Nat.reduceEqDiff, Nat.reduceAdd, Nat.reduceMul, Nat.reduceLeDiff, Nat.reduceLT, Nat.reduceBNe, reduceCtorEq, vc11, rs11]
  refine vcall (nSanity R) ?_
  rintro R1 v hle1 rfl
  try simp only [go_sem, ↓reduceIte, Nat.reduceEqDiff, Nat.reduceAdd, Nat.reduceMul, Nat.reduceLeDiff, Nat.reduceLT, Nat.reduceBNe, reduceCtorEq, Int.reduceLE, Int.reduceLT, Int.reduceToNat, Int.cast_ofNat_Int, Int.reduceEq, Int.reduceNe]
  refine vcall (nFew xs _ _ (h.mono hle1)) ?_
  have hlen : (xs.take 40).length ≤ 40 := by simp; omega
  obtain ⟨zs, hzs⟩ : ∃ zs, zs = xs.take 40 := ⟨_, rfl⟩
  rw [← hzs] at hlen ⊢
  rintro R2 x hle2 hx
  obtain ⟨a1, c1, rfl, hc1, hf1⟩ := hx.form
  try simp only [go_sem, ↓reduceIte, Nat.reduceEqDiff, Nat.reduceAdd, Nat.reduceMul, Nat.reduceLeDiff, Nat.reduceLT, Nat.reduceBNe, reduceCtorEq, Int.reduceLE, Int.reduceLT, Int.reduceToNat, Int.cast_ofNat_Int, Int.reduceEq, Int.reduceNe]
  refine vcall (nRanks zs _ _ hx (by omega)) ?_
  rintro R3 y hle3 ⟨hy, -⟩
  replace hx := hx.mono hle3
  obtain ⟨a2, c2, rfl, hc2, hf2⟩ := hy.form
  try simp only [go_sem, ↓reduceIte, Nat.reduceEqDiff, Nat.reduceAdd, Nat.reduceMul, Nat.reduceLeDiff, Nat.reduceLT, Nat.reduceBNe, reduceCtorEq, Int.reduceLE, Int.reduceLT, Int.reduceToNat, Int.cast_ofNat_Int, Int.reduceEq, Int.reduceNe]
  refine vcall (nRising zs _ _ hx (by omega)) ?_
  rintro R4 z hle4 ⟨hz, -⟩
  replace hx := hx.mono hle4
  replace hy := hy.mono hle4
  obtain ⟨a3, c3, rfl, hc3, hf3⟩ := hz.form
  have hrl := rising_len zs
  simp only [List.length_map] at hy hc2 hf2 ⊢
  try simp only [go_sem, ↓reduceIte, Nat.reduceEqDiff, Nat.reduceAdd, Nat.reduceMul, Nat.reduceLeDiff, Nat.reduceLT, Nat.reduceBNe, reduceCtorEq, Int.reduceLE, Int.reduceLT, Int.reduceToNat, Int.cast_ofNat_Int, Int.reduceEq, Int.reduceNe]
  refine ⟨fun h => by omega, fun _ => ?_⟩
  have hf1' := fun i hi => by have := hf1 i hi; exact this
  refine vcLoop Nat (fun i => [(7, .val (.int .i64 i)), (3, .val (.bool true)), (4, .val (.slice a1 zs.length c1)), (5, .val (.slice a2 zs.length c2)), (6, .val (.slice a3 (rising zs).length c3))]) (fun _ => []) (fun i _ => 1 ≤ i ∧ i ≤ 100) (fun i => 100 - i) 1 ?_ rfl (by decide) ?_
  · (try simp only [go_sem, ↓reduceIte, Nat.reduceEqDiff, Nat.reduceAdd, Nat.reduceMul, Nat.reduceLeDiff, Nat.reduceLT, Nat.reduceBNe, reduceCtorEq]) <;> (repeat' (first | rfl | trivial | constructor | (intro h; exact absurd rfl h)))
  rintro i env R5 hle5 hE ⟨hi, hi2⟩
  have g1 := hx.mono hle5
  (simp only [go_sem] at hE; obtain ⟨e7, e3, e4, e5, e6⟩ := hE; simp only [go_sem, ↓reduceIte, Nat.reduceEqDiff, Nat.reduceAdd, Nat.reduceMul, Nat.reduceLeDiff, Nat.reduceLT, Nat.reduceBNe, reduceCtorEq, e7, e3, e4, e5, e6]; dsimp only at *)
  refine ⟨fun hlt => ?_, fun hge => ?_⟩
  · have hlt' : i < (rising zs).length := by omega
    obtain ⟨ad, had, hR⟩ := hf3 (i - 1) (by omega)
    obtain ⟨ad2, had2, hR2⟩ := hf3 i hlt'
    have hinc := (rising_inc zs).get_lt (show i - 1 < i by omega) hlt'
    refine ⟨_, W.in64 (by omega), by omega, by omega, vat ad had ?_⟩
    rw [show ((i : Int) - 1).toNat = i - 1 by omega]
    try simp only [go_sem, ↓reduceIte, Nat.reduceEqDiff, Nat.reduceAdd, Nat.reduceMul, Nat.reduceLeDiff, Nat.reduceLT, Nat.reduceBNe, reduceCtorEq]
    refine vload _ (hle5 _ _ hR) ?_
    simp only [go_sem, ↓reduceIte, Nat.reduceEqDiff, Nat.reduceAdd, Nat.reduceMul, Nat.reduceLeDiff, Nat.reduceLT, Nat.reduceBNe, reduceCtorEq, e7, e3, e4, e5, e6]
    refine ⟨hlt, vat ad2 had2 ?_⟩
    try simp only [go_sem, ↓reduceIte, Nat.reduceEqDiff, Nat.reduceAdd, Nat.reduceMul, Nat.reduceLeDiff, Nat.reduceLT, Nat.reduceBNe, reduceCtorEq]
    refine vload _ (hle5 _ _ hR2) ?_
    simp only [go_sem, ↓reduceIte, Nat.reduceEqDiff, Nat.reduceAdd, Nat.reduceMul, Nat.reduceLeDiff, Nat.reduceLT, Nat.reduceBNe, reduceCtorEq, e7, e3, e4, e5, e6]
    exact ⟨fun h => by omega, fun _ => ⟨_, W.in64 (by omega), i + 1, by omega, rfl, by omega⟩⟩
  · refine vcLoop (Nat × Nat) (fun y => [(9, .val (.int .i64 y.1)), (8, .val (.int .i64 y.2)), (3, .val (.bool true)), (4, .val (.slice a1 zs.length c1)), (5, .val (.slice a2 zs.length c2)), (6, .val (.slice a3 (rising zs).length c3))]) (fun _ => [])
      (fun y _ => y.1 ≤ zs.length ∧ y.2 ≤ (rising zs).length ∧ ∀ j, (hj : j < zs.length) → j < y.1 → rank zs zs[j] + 1 ≤ y.2) (fun y => zs.length - y.1) (0, 0) ?_ rfl ?_ ?_
    · (try simp only [go_sem, ↓reduceIte, Nat.reduceEqDiff, Nat.reduceAdd, Nat.reduceMul, Nat.reduceLeDiff, Nat.reduceLT, Nat.reduceBNe, reduceCtorEq]) <;> (repeat' (first | rfl | trivial | constructor | (intro h; exact absurd rfl h)))
    · exact ⟨by omega, by omega, fun j hj h => by dsimp only at h; omega⟩
    clear e7 e3 e4 e5 e6
    rintro ⟨k, m⟩ env2 R6 hle6 hE ⟨hk, hm, hmax⟩
    dsimp only at hk hm hmax
    have g2 := g1.mono hle6
    (simp only [go_sem] at hE; obtain ⟨e9, e8, e3, e4, e5, e6⟩ := hE; simp only [go_sem, ↓reduceIte, Nat.reduceEqDiff, Nat.reduceAdd, Nat.reduceMul, Nat.reduceLeDiff, Nat.reduceLT, Nat.reduceBNe, reduceCtorEq, e9, e8, e3, e4, e5, e6]; dsimp only at *)
    refine ⟨fun hlt => ?_, fun hge2 => ?_⟩
    · have hlt' : k < zs.length := by omega
      obtain ⟨ad, had, hR⟩ := hf2 k hlt'
      rw [List.getElem_map] at hR
      obtain ⟨hrk, hget⟩ := rank_get (List.getElem_mem hlt')
      refine ⟨hlt, vat ad had ?_⟩
      try simp only [go_sem, ↓reduceIte, Nat.reduceEqDiff, Nat.reduceAdd, Nat.reduceMul, Nat.reduceLeDiff, Nat.reduceLT, Nat.reduceBNe, reduceCtorEq]
      refine vload _ (hle6 _ _ (hle5 _ _ (hle4 _ _ hR))) ?_
      simp only [go_sem, ↓reduceIte, Nat.reduceEqDiff, Nat.reduceAdd, Nat.reduceMul, Nat.reduceLeDiff, Nat.reduceLT, Nat.reduceBNe, reduceCtorEq, e9, e8, e3, e4, e5, e6]
      refine ⟨fun _ => ⟨hlt, vat ad had ?_⟩, fun h => by omega⟩
      try simp only [go_sem, ↓reduceIte, Nat.reduceEqDiff, Nat.reduceAdd, Nat.reduceMul, Nat.reduceLeDiff, Nat.reduceLT, Nat.reduceBNe, reduceCtorEq]
      refine vload _ (hle6 _ _ (hle5 _ _ (hle4 _ _ hR))) ?_
      simp only [go_sem, ↓reduceIte, Nat.reduceEqDiff, Nat.reduceAdd, Nat.reduceMul, Nat.reduceLeDiff, Nat.reduceLT, Nat.reduceBNe, reduceCtorEq, e9, e8, e3, e4, e5, e6]
      refine ⟨fun h => by omega, fun _ => ⟨hlt, vat ad had ?_⟩⟩
      try simp only [go_sem, ↓reduceIte, Nat.reduceEqDiff, Nat.reduceAdd, Nat.reduceMul, Nat.reduceLeDiff, Nat.reduceLT, Nat.reduceBNe, reduceCtorEq]
      refine vload _ (hle6 _ _ (hle5 _ _ (hle4 _ _ hR))) ?_
      simp only [go_sem, ↓reduceIte, Nat.reduceEqDiff, Nat.reduceAdd, Nat.reduceMul, Nat.reduceLeDiff, Nat.reduceLT, Nat.reduceBNe, reduceCtorEq, e9, e8, e3, e4, e5, e6]
      obtain ⟨ad2, had2, hR2⟩ := hf3 (rank zs zs[k]) hrk
      rw [hget] at hR2
      obtain ⟨ad3, had3, hR3⟩ := hf1 k hlt'
      refine ⟨by omega, vat ad2 had2 ?_⟩
      try simp only [go_sem, ↓reduceIte, Nat.reduceEqDiff, Nat.reduceAdd, Nat.reduceMul, Nat.reduceLeDiff, Nat.reduceLT, Nat.reduceBNe, reduceCtorEq]
      refine vload _ (hle6 _ _ (hle5 _ _ hR2)) ?_
      simp only [go_sem, ↓reduceIte, Nat.reduceEqDiff, Nat.reduceAdd, Nat.reduceMul, Nat.reduceLeDiff, Nat.reduceLT, Nat.reduceBNe, reduceCtorEq, e9, e8, e3, e4, e5, e6]
      refine ⟨hlt, vat ad3 had3 ?_⟩
      try simp only [go_sem, ↓reduceIte, Nat.reduceEqDiff, Nat.reduceAdd, Nat.reduceMul, Nat.reduceLeDiff, Nat.reduceLT, Nat.reduceBNe, reduceCtorEq]
      refine vload _ (hle6 _ _ (hle5 _ _ (hle4 _ _ (hle3 _ _ hR3)))) ?_
      simp only [go_sem, ↓reduceIte, Nat.reduceEqDiff, Nat.reduceAdd, Nat.reduceMul, Nat.reduceLeDiff, Nat.reduceLT, Nat.reduceBNe, reduceCtorEq, e9, e8, e3, e4, e5, e6]
      refine ⟨hlt, vat ad had ?_⟩
      try simp only [go_sem, ↓reduceIte, Nat.reduceEqDiff, Nat.reduceAdd, Nat.reduceMul, Nat.reduceLeDiff, Nat.reduceLT, Nat.reduceBNe, reduceCtorEq]
      refine vload _ (hle6 _ _ (hle5 _ _ (hle4 _ _ hR))) ?_
      simp only [go_sem, ↓reduceIte, Nat.reduceEqDiff, Nat.reduceAdd, Nat.reduceMul, Nat.reduceLeDiff, Nat.reduceLT, Nat.reduceBNe, reduceCtorEq, e9, e8, e3, e4, e5, e6]
      refine ⟨_, W.in64 (by omega), _, W.in64 (by omega), (k + 1, max m (rank zs zs[k] + 1)), by dsimp only; omega, ?_, by dsimp only; omega, by dsimp only; omega, fun j hj hjk => ?_⟩
      · constructor
        · rfl
        · congr 2; omega
      · dsimp only at hjk ⊢
        by_cases hjk' : j = k
        · subst hjk'; omega
        · have := hmax j hj (by omega); omega
    · obtain rfl : k = zs.length := by omega
      have hmm : m = (rising zs).length := by
        by_cases hne : zs = []
        · subst hne; simp [rising] at hm ⊢; exact hm
        · obtain ⟨i, hi, e⟩ := rank_top hne
          have := hmax i hi hi
          omega
      subst hmm
      refine vsrcZ (hx.mono (RO.le_trans hle5 hle6)) ?_
      try simp only [go_sem, ↓reduceIte, Nat.reduceEqDiff, Nat.reduceAdd, Nat.reduceMul, Nat.reduceLeDiff, Nat.reduceLT, Nat.reduceBNe, reduceCtorEq]
      refine vappO [] rfl rfl (by omega) ?_
      simp only [go_sem, ↓reduceIte, Nat.reduceEqDiff, Nat.reduceAdd, Nat.reduceMul, Nat.reduceLeDiff, Nat.reduceLT, Nat.reduceBNe, reduceCtorEq, e9, e8, e3, e4, e5, e6]
      refine vsrcZ (hx.mono (RO.le_trans hle5 hle6)) ?_
      try simp only [go_sem, ↓reduceIte, Nat.reduceEqDiff, Nat.reduceAdd, Nat.reduceMul, Nat.reduceLeDiff, Nat.reduceLT, Nat.reduceBNe, reduceCtorEq]
      refine vappO _ rfl (by simp) (by omega) ?_
      simp only [go_sem, ↓reduceIte, Nat.reduceEqDiff, Nat.reduceAdd, Nat.reduceMul, Nat.reduceLeDiff, Nat.reduceLT, Nat.reduceBNe, reduceCtorEq, e9, e8, e3, e4, e5, e6]
      refine vlend fun β κ R7 hL => ⟨_, nRising (zs ++ zs) _ R7 (by have := lend_ints (j := 2) (T := 3) (xs := zs ++ zs) hL (by simp); simpa [den] using this) (by simp; omega), ?_⟩
      rintro R8 v R9 hle8 ⟨hv1, hn1⟩ hle9 hfr
      replace hle9 : RO.le R6 R9 := hle9
      have hi := ints_keep hv1 hn1 hfr
      rw [rising_append_self] at hi
      have g3 := hz.mono (RO.le_trans hle5 (RO.le_trans hle6 hle9))
      simp only [go_sem, ↓reduceIte, Nat.reduceEqDiff, Nat.reduceAdd, Nat.reduceMul, Nat.reduceLeDiff, Nat.reduceLT, Nat.reduceBNe, reduceCtorEq, e9, e8, e3, e4, e5, e6]
      refine vcall (nSame _ _ _ _ _ hi g3 (by omega)) ?_
      rintro R10 w hle10 rfl
      replace g3 := g3.mono hle10
      simp only [decide_true]
      try simp only [go_sem, ↓reduceIte, Nat.reduceEqDiff, Nat.reduceAdd, Nat.reduceMul, Nat.reduceLeDiff, Nat.reduceLT, Nat.reduceBNe, reduceCtorEq, e9, e8, e3, e4, e5, e6]
      refine vcall (nRanks _ _ _ g3 (by omega)) ?_
      rintro R11 y hle11 ⟨hy1, -⟩
      replace g3 := g3.mono hle11
      try simp only [go_sem, ↓reduceIte, Nat.reduceEqDiff, Nat.reduceAdd, Nat.reduceMul, Nat.reduceLeDiff, Nat.reduceLT, Nat.reduceBNe, reduceCtorEq, e9, e8, e3, e4, e5, e6]
      refine vcall (nRising _ _ _ g3 (by omega)) ?_
      rintro R12 z hle12 ⟨hz1, -⟩
      rw [rising_rising] at hz1
      replace hy1 := hy1.mono hle12
      try simp only [go_sem, ↓reduceIte, Nat.reduceEqDiff, Nat.reduceAdd, Nat.reduceMul, Nat.reduceLeDiff, Nat.reduceLT, Nat.reduceBNe, reduceCtorEq, e9, e8, e3, e4, e5, e6]
      refine vcall (nRanks _ _ _ hz1 (by omega)) ?_
      rintro R13 z2 hle13 ⟨hz2, -⟩
      replace hy1 := hy1.mono hle13
      try simp only [go_sem, ↓reduceIte, Nat.reduceEqDiff, Nat.reduceAdd, Nat.reduceMul, Nat.reduceLeDiff, Nat.reduceLT, Nat.reduceBNe, reduceCtorEq, e9, e8, e3, e4, e5, e6]
      refine vcall (nSame _ _ _ _ _ hy1 hz2 (by simp; omega)) ?_
      rintro R14 w hle14 rfl
      try simp only [go_sem, ↓reduceIte, Nat.reduceEqDiff, Nat.reduceAdd, Nat.reduceMul, Nat.reduceLeDiff, Nat.reduceLT, Nat.reduceBNe, reduceCtorEq, e9, e8, e3, e4, e5, e6]
end Go.Proofs.Ytlakekoekilbaaa
