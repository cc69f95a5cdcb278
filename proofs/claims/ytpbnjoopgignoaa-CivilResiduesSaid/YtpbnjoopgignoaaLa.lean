/- The law CivilMatchesReference, out of the contracts. -/
import Derived.Test.YtpbnjoopgignoaaSa
namespace Go.Proofs.Ytpbnjoopgignoaa
set_option linter.unusedSimpArgs false
set_option linter.unusedVariables false
open Go.RowKit Go.Proofs.Ytpbnjoopgignoaa.Vc

theorem CalIn.form {R : RO} {c : Cal} {sm sr : Value} (h : CalIn R c sm sr) : ∃ a b d e, sm = .slice a c.months.length b ∧ sr = .slice d c.rules.length e := by
  obtain ⟨a, b, h1, -, -⟩ := h.m.form
  obtain ⟨d, e, h2, -, -⟩ := h.r.form
  exact ⟨a, b, d, e, h1, h2⟩
theorem cycA_form (c : Cal) : ∃ a b e, cycA c = .tuple #[.int .i64 a, .int .i64 b, .int .i64 e] := by
  unfold cycA
  split <;> exact ⟨_, _, _, rfl⟩
theorem lAgrees (c : Cal) (sm sr : Value) (R : RO) (h : CalIn R c sm sr) (y m : Int) (hy : I64 y) (hm : I64 m) : CallsR Try.prog 19 [cv c sm sr, .int .i64 y, .int .i64 m] R fun _ v => v = .bool true := by
  obtain ⟨a, b, d, e, rfl, rfl⟩ := h.form
  obtain ⟨p, q, r, hc⟩ := cycA_form c
  refine callsT mix Try.func19 comp19 (by simp [Try.ntmps19]) ?_; simp only [go_sem, ↓reduceIte, Nat.reduceEqDiff, Nat.reduceAdd, Nat.reduceMul, Nat.reduceLeDiff, Nat.reduceLT, Nat.reduceBNe, reduceCtorEq, vc19, rs19]
  refine vcall (pCycle c _ _ R h) ?_
  rintro R1 v hle1 rfl
  replace h := h.mono hle1
  rw [hc]
  try simp only [go_sem, ↓reduceIte, Nat.reduceEqDiff, Nat.reduceAdd, Nat.reduceMul, Nat.reduceLeDiff, Nat.reduceLT, Nat.reduceBNe, reduceCtorEq]
  refine vcall (rCycle c _ _ R1 h) ?_
  rintro R2 v hle2 rfl
  replace h := h.mono hle2
  rw [hc]
  try simp only [go_sem, ↓reduceIte, Nat.reduceEqDiff, Nat.reduceAdd, Nat.reduceMul, Nat.reduceLeDiff, Nat.reduceLT, Nat.reduceBNe, reduceCtorEq]
  refine vcall (cValid c _ _ R2 h) ?_
  rintro R3 v hle3 rfl
  replace h := h.mono hle3
  try simp only [go_sem, ↓reduceIte, Nat.reduceEqDiff, Nat.reduceAdd, Nat.reduceMul, Nat.reduceLeDiff, Nat.reduceLT, Nat.reduceBNe, reduceCtorEq]
  refine vcall (rValid c _ _ R3 h) ?_
  rintro R4 v hle4 rfl
  replace h := h.mono hle4
  try simp only [go_sem, ↓reduceIte, Nat.reduceEqDiff, Nat.reduceAdd, Nat.reduceMul, Nat.reduceLeDiff, Nat.reduceLT, Nat.reduceBNe, reduceCtorEq]
  rw [beq_self_eq_true]
  try simp only [go_sem, ↓reduceIte, Nat.reduceEqDiff, Nat.reduceAdd, Nat.reduceMul, Nat.reduceLeDiff, Nat.reduceLT, Nat.reduceBNe, reduceCtorEq]
  refine vcall (pLeap c _ _ R4 h y hy) ?_
  rintro R5 v hle5 rfl
  replace h := h.mono hle5
  try simp only [go_sem, ↓reduceIte, Nat.reduceEqDiff, Nat.reduceAdd, Nat.reduceMul, Nat.reduceLeDiff, Nat.reduceLT, Nat.reduceBNe, reduceCtorEq]
  refine vcall (rLeap c _ _ R5 h y hy) ?_
  rintro R6 v hle6 rfl
  replace h := h.mono hle6
  try simp only [go_sem, ↓reduceIte, Nat.reduceEqDiff, Nat.reduceAdd, Nat.reduceMul, Nat.reduceLeDiff, Nat.reduceLT, Nat.reduceBNe, reduceCtorEq]
  rw [beq_self_eq_true]
  try simp only [go_sem, ↓reduceIte, Nat.reduceEqDiff, Nat.reduceAdd, Nat.reduceMul, Nat.reduceLeDiff, Nat.reduceLT, Nat.reduceBNe, reduceCtorEq]
  refine vcall (pMonthLength c _ _ R6 h y m hy) ?_
  rintro R7 v hle7 rfl
  replace h := h.mono hle7
  try simp only [go_sem, ↓reduceIte, Nat.reduceEqDiff, Nat.reduceAdd, Nat.reduceMul, Nat.reduceLeDiff, Nat.reduceLT, Nat.reduceBNe, reduceCtorEq]
  refine vcall (rMonthLength c _ _ R7 h y m hy hm) ?_
  rintro R8 v hle8 rfl
  replace h := h.mono hle8
  try simp only [go_sem, ↓reduceIte, Nat.reduceEqDiff, Nat.reduceAdd, Nat.reduceMul, Nat.reduceLeDiff, Nat.reduceLT, Nat.reduceBNe, reduceCtorEq]
  refine vcall (pYearLength c _ _ R8 h y hy) ?_
  rintro R9 v hle9 rfl
  replace h := h.mono hle9
  try simp only [go_sem, ↓reduceIte, Nat.reduceEqDiff, Nat.reduceAdd, Nat.reduceMul, Nat.reduceLeDiff, Nat.reduceLT, Nat.reduceBNe, reduceCtorEq]
  refine vcall (rYearLength c _ _ R9 h y hy) ?_
  rintro R10 v hle10 rfl
  try simp only [go_sem, ↓reduceIte, Nat.reduceEqDiff, Nat.reduceAdd, Nat.reduceMul, Nat.reduceLeDiff, Nat.reduceLT, Nat.reduceBNe, reduceCtorEq]
theorem lMatches (c : Cal) (sm sr : Value) (R : RO) (h : CalIn R c sm sr) (x0 x1 x2 x3 : Int) (h0 : I64 x0) (h1 : I64 x1) (h2 : I64 x2) (h3 : I64 x3) :
    CallsR Try.prog 3 [cv c sm sr, .agg #[.int .i64 x0, .int .i64 x1, .int .i64 x2, .int .i64 x3]] R fun _ v => v = .bool true := by
  obtain ⟨a, b, d, e, rfl, rfl⟩ := h.form
  refine callsT mix Try.func3 comp3 (by simp [Try.ntmps3]) ?_; simp only [go_sem, ↓reduceIte, Nat.reduceEqDiff, Nat.reduceAdd, Nat.reduceMul, Nat.reduceLeDiff, Nat.reduceLT, Nat.reduceBNe, reduceCtorEq, vc3, rs3]
  refine vcall (lSanity R) ?_
  rintro R1 v hle1 rfl
  replace h := h.mono hle1
  try simp only [go_sem, ↓reduceIte, Nat.reduceEqDiff, Nat.reduceAdd, Nat.reduceMul, Nat.reduceLeDiff, Nat.reduceLT, Nat.reduceBNe, reduceCtorEq, Int.reduceLE, Int.reduceLT, Int.reduceToNat, Int.cast_ofNat_Int, Int.reduceEq, Int.reduceNe]
  refine vcall (pKnown x2 R1) ?_
  rintro R2 v hle2 hk
  obtain ⟨ka, kb, kd, ke, rfl, hk1⟩ := hk.form
  clear hk
  replace h := h.mono hle2
  try simp only [go_sem, ↓reduceIte, Nat.reduceEqDiff, Nat.reduceAdd, Nat.reduceMul, Nat.reduceLeDiff, Nat.reduceLT, Nat.reduceBNe, reduceCtorEq, Int.reduceLE, Int.reduceLT, Int.reduceToNat, Int.cast_ofNat_Int, Int.reduceEq, Int.reduceNe]
  refine vcall (rKnown x2 R2) ?_
  rintro R3 v hle3 hk
  obtain ⟨ra, rb, rd, re, rfl, hk2⟩ := hk.form
  clear hk
  replace h := h.mono hle3
  replace hk1 := hk1.mono hle3
  try simp only [go_sem, ↓reduceIte, Nat.reduceEqDiff, Nat.reduceAdd, Nat.reduceMul, Nat.reduceLeDiff, Nat.reduceLT, Nat.reduceBNe, reduceCtorEq, Int.reduceLE, Int.reduceLT, Int.reduceToNat, Int.cast_ofNat_Int, Int.reduceEq, Int.reduceNe]
  refine vcall (rSame (knownCal x2) _ _ _ _ R3 hk1 hk2) ?_
  rintro R4 v hle4 rfl
  replace h := h.mono hle4
  try simp only [go_sem, ↓reduceIte, Nat.reduceEqDiff, Nat.reduceAdd, Nat.reduceMul, Nat.reduceLeDiff, Nat.reduceLT, Nat.reduceBNe, reduceCtorEq, Int.reduceLE, Int.reduceLT, Int.reduceToNat, Int.cast_ofNat_Int, Int.reduceEq, Int.reduceNe]
  refine vcall (cWeekday x3 h3 R4) ?_
  rintro R5 v hle5 rfl
  replace h := h.mono hle5
  try simp only [go_sem, ↓reduceIte, Nat.reduceEqDiff, Nat.reduceAdd, Nat.reduceMul, Nat.reduceLeDiff, Nat.reduceLT, Nat.reduceBNe, reduceCtorEq, Int.reduceLE, Int.reduceLT, Int.reduceToNat, Int.cast_ofNat_Int, Int.reduceEq, Int.reduceNe]
  refine vcall (rWeekday x3 h3 R5) ?_
  rintro R6 v hle6 rfl
  replace h := h.mono hle6
  try simp only [go_sem, ↓reduceIte, Nat.reduceEqDiff, Nat.reduceAdd, Nat.reduceMul, Nat.reduceLeDiff, Nat.reduceLT, Nat.reduceBNe, reduceCtorEq, Int.reduceLE, Int.reduceLT, Int.reduceToNat, Int.cast_ofNat_Int, Int.reduceEq, Int.reduceNe]
  refine vcall (lAgrees c _ _ R6 h x0 x1 h0 h1) ?_
  rintro R7 v hle7 rfl
  replace h := h.mono hle7
  try simp only [go_sem, ↓reduceIte, Nat.reduceEqDiff, Nat.reduceAdd, Nat.reduceMul, Nat.reduceLeDiff, Nat.reduceLT, Nat.reduceBNe, reduceCtorEq, Int.reduceLE, Int.reduceLT, Int.reduceToNat, Int.cast_ofNat_Int, Int.reduceEq, Int.reduceNe]
  refine vcall (rMade c _ _ R7 h) ?_
  rintro R8 v hle8 ⟨sm, sr, rfl, hm⟩
  try simp only [go_sem, ↓reduceIte, Nat.reduceEqDiff, Nat.reduceAdd, Nat.reduceMul, Nat.reduceLeDiff, Nat.reduceLT, Nat.reduceBNe, reduceCtorEq, Int.reduceLE, Int.reduceLT, Int.reduceToNat, Int.cast_ofNat_Int, Int.reduceEq, Int.reduceNe]
  refine vcall (lAgrees c.made _ _ R8 hm x0 x1 h0 h1) ?_
  rintro R9 v hle9 rfl
  try simp only [go_sem, ↓reduceIte, Nat.reduceEqDiff, Nat.reduceAdd, Nat.reduceMul, Nat.reduceLeDiff, Nat.reduceLT, Nat.reduceBNe, reduceCtorEq, Int.reduceLE, Int.reduceLT, Int.reduceToNat, Int.cast_ofNat_Int, Int.reduceEq, Int.reduceNe]
end Go.Proofs.Ytpbnjoopgignoaa
