/- Plain lemmas of our own: a day has one date. The examples that each law evaluates first. -/
import Derived.Test.YtpbnjoopgignoaaRe
import Derived.KernelRfl
namespace Go.Proofs.Ytpbnjoopgignoaa
set_option linter.unusedSimpArgs false
set_option linter.unusedVariables false
open Go.RowKit Go.Proofs.Ytpbnjoopgignoaa.Vc

theorem Cal.beg_lt {c : Cal} (hv : c.valid) {y : Int} {m n : Nat} (h : m < n) (hn : n ≤ c.months.length) : c.beg y m + c.mlen y m ≤ c.beg y n := by
  have h1 : sumTo (c.mlen y) (m + 1) ≤ sumTo (c.mlen y) n := sumTo_mono (fun i => c.mlen_nonneg hv y i) h
  have h2 : sumTo (c.mlen y) (m + 1) = sumTo (c.mlen y) m + c.mlen y m := rfl
  unfold Cal.beg
  omega
/-- A day has one date. -/
theorem Cal.IsDay.unique {c : Cal} (hv : c.valid) {y y' : Int} {m m' : Nat} {d d' day : Int} (h : c.IsDay y m d day) (h' : c.IsDay y' m' d' day) : y = y' ∧ m = m' ∧ d = d' := by
  have hy : y = y' := by
    obtain ⟨a1, a2⟩ := h.year hv
    obtain ⟨b1, b2⟩ := h'.year hv
    rcases Int.lt_trichotomy y y' with h1 | h1 | h1
    · have := hv.first_lt h1; omega
    · exact h1
    · have := hv.first_lt h1; omega
  subst hy
  have g1 := h.d1
  have g2 := h.d2
  have g3 := h.day
  have k1 := h'.d1
  have k2 := h'.d2
  have k3 := h'.day
  have hm : m = m' := by
    rcases Nat.lt_trichotomy m m' with h1 | h1 | h1
    · have := Cal.beg_lt hv (y := y) h1 (Nat.le_of_lt h'.mlt); omega
    · exact h1
    · have := Cal.beg_lt hv (y := y) h1 (Nat.le_of_lt h.mlt); omega
  subst hm
  exact ⟨rfl, rfl, by omega⟩
theorem DateOfP.det {c : Cal} {day : Int} {v v' : Value} (h : DateOfP c day v) (h' : DateOfP c day v') : v = v' := by
  rcases h with ⟨a, rfl⟩ | ⟨a, b, rfl⟩ | ⟨a, b, y, m, d, h, rfl⟩ <;> rcases h' with ⟨a', rfl⟩ | ⟨a', b', rfl⟩ | ⟨a', b', y', m', d', h', rfl⟩
  · rfl
  · exact absurd a' a
  · exact absurd a' a
  · exact absurd a a'
  · rfl
  · exact absurd b' b
  · exact absurd a a'
  · exact absurd b b'
  · obtain ⟨rfl, rfl, rfl⟩ := h.unique a h'
    rfl
theorem WeekOfP.det {c : Cal} {day : Int} {v v' : Value} (h : WeekOfP c day v) (h' : WeekOfP c day v') : v = v' := by
  rcases h with ⟨a, rfl⟩ | ⟨a, b, rfl⟩ | ⟨a, b, y, m, d, h, rfl⟩ <;> rcases h' with ⟨a', rfl⟩ | ⟨a', b', rfl⟩ | ⟨a', b', y', m', d', h', rfl⟩
  · rfl
  · exact absurd a' a
  · exact absurd a' a
  · exact absurd a a'
  · rfl
  · exact absurd b' b
  · exact absurd a a'
  · exact absurd b b'
  · obtain ⟨rfl, rfl, rfl⟩ := h.unique a h'
    rfl
theorem greg_valid : greg.valid := of_decide_eq_true (by kernel_rfl)
theorem jul_valid : jul.valid := of_decide_eq_true (by kernel_rfl)
theorem lunar_valid : lunar.valid := of_decide_eq_true (by kernel_rfl)
theorem noCal_invalid : ¬ noCal.valid := of_decide_eq_true (by kernel_rfl)
theorem ex1 : dayV greg 2000 3 1 = 730186 ∧ dayE greg 2000 3 1 = 0 ∧ dayE greg 10000 1 1 = 2 ∧ dayE greg 1900 2 29 = 4 := ⟨by kernel_rfl, by kernel_rfl, by kernel_rfl, by kernel_rfl⟩
theorem ex2 : greg.IsDay 2021 0 3 737799 := ⟨by decide, by decide, by decide, by decide, of_decide_eq_true (by kernel_rfl), by kernel_rfl⟩
theorem ex3 : greg.IsDay 2020 11 31 (thu 737799) := ⟨by decide, by decide, by decide, by decide, of_decide_eq_true (by kernel_rfl), by kernel_rfl⟩
theorem ex4 : (thu 737799 - greg.first 2020) / 7 + 1 = 53 := by kernel_rfl
theorem ex5 : nthV greg 2024 11 3 4 = 739224 ∧ nthE greg 2024 11 3 4 = 0 := ⟨by kernel_rfl, by kernel_rfl⟩
theorem ex6 : nthV greg 2024 3 6 (-1) = 738982 ∧ nthE greg 2024 3 6 (-1) = 0 := ⟨by kernel_rfl, by kernel_rfl⟩
theorem ex7 : cycA lunar = .tuple #[.int .i64 30, .int .i64 10631, .int .i64 0] := by
  rw [cycA, if_pos lunar_valid]
  have h1 : lunar.per = 30 := by kernel_rfl
  have h2 : lunar.days = 10631 := by kernel_rfl
  rw [h1, h2]
theorem ex8 : leapA jul 1900 = true ∧ leapA greg 1900 = false ∧ leapA lunar 2 = true := ⟨by kernel_rfl, by kernel_rfl, by kernel_rfl⟩
theorem ex9 : mlenA lunar 2 12 = 30 ∧ mlenA lunar 1 12 = 29 ∧ ylenA greg 2000 = 366 := ⟨by kernel_rfl, by kernel_rfl, by kernel_rfl⟩
theorem ex10 : greg.first 10000 = 3652066 := by kernel_rfl
theorem KnownP.form {k : Int} {R : RO} {v : Value} (h : KnownP k R v) : ∃ a b d e, v = .tuple #[cv (knownCal k) (.slice a (knownCal k).months.length b) (.slice d (knownCal k).rules.length e), .int .i64 (knownE k)] ∧ CalIn R (knownCal k) (.slice a (knownCal k).months.length b) (.slice d (knownCal k).rules.length e) := by
  obtain ⟨sm, sr, rfl, h⟩ := h
  obtain ⟨a, b, rfl, -, -⟩ := h.m.form
  obtain ⟨d, e, rfl, -, -⟩ := h.r.form
  exact ⟨a, b, d, e, rfl, h⟩
theorem DateOfP.at {c : Cal} {y : Int} {m : Nat} {d day : Int} {v : Value} (h : DateOfP c day v) (hv : c.valid) (hr : c.epoch ≤ day ∧ day < c.first 10000) (hd : c.IsDay y m d day) {M : Int} (hM : (m : Int) + 1 = M) : v = .tuple #[dv y M d, .int .i64 0] := by
  subst hM
  exact h.det (.inr (.inr ⟨hv, hr, y, m, d, hd, rfl⟩))
theorem WeekOfP.at {c : Cal} {y : Int} {m : Nat} {d day : Int} {v : Value} (h : WeekOfP c day v) (hv : c.valid) (hr : c.epoch ≤ thu day ∧ thu day < c.first 10000) (hd : c.IsDay y m d (thu day)) : v = .tuple #[.int .i64 y, .int .i64 ((thu day - c.first y) / 7 + 1), .int .i64 0] :=
  h.det (.inr (.inr ⟨hv, hr, y, m, d, hd, rfl⟩))
set_option maxRecDepth 100000 in
theorem lSanity (R : RO) : CallsR Try.prog 13 [] R fun _ v => v = .bool true := by
  refine callsT mix Try.func13 comp13 (by simp [Try.ntmps13]) ?_; simp only [go_sem, ↓reduceIte, Nat.reduceEqDiff, Nat.reduceAdd, Nat.reduceMul, Nat.reduceLeDiff, Nat.reduceLT, Nat.reduceBNe, reduceCtorEq, vc13, rs13]
  refine vcall (pKnown 0 R) ?_
  rintro R1 v hle1 hk
  obtain ⟨ga, gb, gd, ge, rfl, hg⟩ : ∃ a b d e, v = .tuple #[cv greg (.slice a 12 b) (.slice d 3 e), .int .i64 0] ∧ CalIn R1 greg (.slice a 12 b) (.slice d 3 e) := hk.form
  clear hk
  try simp only [go_sem, ↓reduceIte, Nat.reduceEqDiff, Nat.reduceAdd, Nat.reduceMul, Nat.reduceLeDiff, Nat.reduceLT, Nat.reduceBNe, reduceCtorEq]
  refine vcall (pKnown 1 R1) ?_
  rintro R2 v hle2 hk
  obtain ⟨ja, jb, jd, je, rfl, hj⟩ : ∃ a b d e, v = .tuple #[cv jul (.slice a 12 b) (.slice d 1 e), .int .i64 0] ∧ CalIn R2 jul (.slice a 12 b) (.slice d 1 e) := hk.form
  clear hk
  try simp only [go_sem, ↓reduceIte, Nat.reduceEqDiff, Nat.reduceAdd, Nat.reduceMul, Nat.reduceLeDiff, Nat.reduceLT, Nat.reduceBNe, reduceCtorEq]
  refine vcall (pKnown 2 R2) ?_
  rintro R3 v hle3 hk
  obtain ⟨la, lb, ld, le, rfl, hl⟩ : ∃ a b d e, v = .tuple #[cv lunar (.slice a 12 b) (.slice d 11 e), .int .i64 0] ∧ CalIn R3 lunar (.slice a 12 b) (.slice d 11 e) := hk.form
  clear hk
  try simp only [go_sem, ↓reduceIte, Nat.reduceEqDiff, Nat.reduceAdd, Nat.reduceMul, Nat.reduceLeDiff, Nat.reduceLT, Nat.reduceBNe, reduceCtorEq]
  refine vcall (pKnown 3 R3) ?_
  rintro R4 v hle4 hk
  obtain ⟨na, nb, nd, ne, rfl, hn⟩ : ∃ a b d e, v = .tuple #[cv noCal (.slice a 0 b) (.slice d 0 e), .int .i64 4] ∧ CalIn R4 noCal (.slice a 0 b) (.slice d 0 e) := hk.form
  clear hk hn
  try simp only [go_sem, ↓reduceIte, Nat.reduceEqDiff, Nat.reduceAdd, Nat.reduceMul, Nat.reduceLeDiff, Nat.reduceLT, Nat.reduceBNe, reduceCtorEq]
  replace hg := ((hg.mono hle2).mono hle3).mono hle4
  replace hj := (hj.mono hle3).mono hle4
  replace hl := hl.mono hle4
  clear hle1 hle2 hle3 hle4
  refine vcall (cValid greg _ _ R4 hg) ?_
  rintro R5 v hle5 rfl
  rw [show decide greg.valid = true from decide_eq_true greg_valid]
  replace hg := hg.mono hle5
  replace hj := hj.mono hle5
  replace hl := hl.mono hle5
  clear hle5
  try simp only [go_sem, ↓reduceIte, Nat.reduceEqDiff, Nat.reduceAdd, Nat.reduceMul, Nat.reduceLeDiff, Nat.reduceLT, Nat.reduceBNe, reduceCtorEq]
  refine vcall (cValid jul _ _ R5 hj) ?_
  rintro R6 v hle6 rfl
  rw [show decide jul.valid = true from decide_eq_true jul_valid]
  replace hg := hg.mono hle6
  replace hj := hj.mono hle6
  replace hl := hl.mono hle6
  clear hle6
  try simp only [go_sem, ↓reduceIte, Nat.reduceEqDiff, Nat.reduceAdd, Nat.reduceMul, Nat.reduceLeDiff, Nat.reduceLT, Nat.reduceBNe, reduceCtorEq]
  refine vcall (cValid lunar _ _ R6 hl) ?_
  rintro R7 v hle7 rfl
  rw [show decide lunar.valid = true from decide_eq_true lunar_valid]
  replace hg := hg.mono hle7
  replace hj := hj.mono hle7
  replace hl := hl.mono hle7
  clear hle7
  try simp only [go_sem, ↓reduceIte, Nat.reduceEqDiff, Nat.reduceAdd, Nat.reduceMul, Nat.reduceLeDiff, Nat.reduceLT, Nat.reduceBNe, reduceCtorEq]
  refine vcall (cValid noCal _ _ R7 (noCal_in _)) ?_
  rintro R8 v hle8 rfl
  rw [show decide noCal.valid = false from decide_eq_false noCal_invalid]
  replace hg := hg.mono hle8
  replace hj := hj.mono hle8
  replace hl := hl.mono hle8
  clear hle8
  try simp only [go_sem, ↓reduceIte, Nat.reduceEqDiff, Nat.reduceAdd, Nat.reduceMul, Nat.reduceLeDiff, Nat.reduceLT, Nat.reduceBNe, reduceCtorEq]
  refine vcall (pDayOf greg _ _ R8 hg 2000 3 1 (by decide) (by decide) (by decide)) ?_
  rintro R9 v hle9 rfl
  rw [ex1.1, ex1.2.1]
  replace hg := hg.mono hle9
  replace hj := hj.mono hle9
  replace hl := hl.mono hle9
  clear hle9
  try simp only [go_sem, ↓reduceIte, Nat.reduceEqDiff, Nat.reduceAdd, Nat.reduceMul, Nat.reduceLeDiff, Nat.reduceLT, Nat.reduceBNe, reduceCtorEq]
  refine vcall (pDateOf greg _ _ R9 hg 737799 (by decide)) ?_
  rintro R10 v hle10 hdd
  obtain rfl := hdd.at greg_valid ⟨by decide, by rw [ex10]; decide⟩ ex2 (M := 1) rfl
  replace hg := hg.mono hle10
  replace hj := hj.mono hle10
  replace hl := hl.mono hle10
  clear hle10
  try simp only [go_sem, ↓reduceIte, Nat.reduceEqDiff, Nat.reduceAdd, Nat.reduceMul, Nat.reduceLeDiff, Nat.reduceLT, Nat.reduceBNe, reduceCtorEq]
  refine vcall (pWeekOf greg _ _ R10 hg 737799 (by decide)) ?_
  rintro R11 v hle11 hdd
  obtain rfl := hdd.at greg_valid ⟨by decide, by rw [ex10]; decide⟩ ex3
  rw [ex4]
  replace hg := hg.mono hle11
  replace hj := hj.mono hle11
  replace hl := hl.mono hle11
  clear hle11
  try simp only [go_sem, ↓reduceIte, Nat.reduceEqDiff, Nat.reduceAdd, Nat.reduceMul, Nat.reduceLeDiff, Nat.reduceLT, Nat.reduceBNe, reduceCtorEq]
  refine vcall (pNth greg _ _ R11 hg 2024 11 0 3 4 (by decide) (by decide) (by decide) (by decide) (by decide)) ?_
  rintro R12 v hle12 rfl
  rw [ex5.1, ex5.2]
  replace hg := hg.mono hle12
  replace hj := hj.mono hle12
  replace hl := hl.mono hle12
  clear hle12
  try simp only [go_sem, ↓reduceIte, Nat.reduceEqDiff, Nat.reduceAdd, Nat.reduceMul, Nat.reduceLeDiff, Nat.reduceLT, Nat.reduceBNe, reduceCtorEq]
  refine vcall (pNth greg _ _ R12 hg 2024 3 0 6 (-1) (by decide) (by decide) (by decide) (by decide) (by decide)) ?_
  rintro R13 v hle13 rfl
  rw [ex6.1, ex6.2]
  replace hg := hg.mono hle13
  replace hj := hj.mono hle13
  replace hl := hl.mono hle13
  clear hle13
  try simp only [go_sem, ↓reduceIte, Nat.reduceEqDiff, Nat.reduceAdd, Nat.reduceMul, Nat.reduceLeDiff, Nat.reduceLT, Nat.reduceBNe, reduceCtorEq]
  refine vcall (pDayOf greg _ _ R13 hg 10000 1 1 (by decide) (by decide) (by decide)) ?_
  rintro R14 v hle14 rfl
  rw [ex1.2.2.1]
  replace hg := hg.mono hle14
  replace hj := hj.mono hle14
  replace hl := hl.mono hle14
  clear hle14
  try simp only [go_sem, ↓reduceIte, Nat.reduceEqDiff, Nat.reduceAdd, Nat.reduceMul, Nat.reduceLeDiff, Nat.reduceLT, Nat.reduceBNe, reduceCtorEq]
  refine vcall (pDayOf greg _ _ R14 hg 1900 2 29 (by decide) (by decide) (by decide)) ?_
  rintro R15 v hle15 rfl
  rw [ex1.2.2.2]
  replace hg := hg.mono hle15
  replace hj := hj.mono hle15
  replace hl := hl.mono hle15
  clear hle15
  try simp only [go_sem, ↓reduceIte, Nat.reduceEqDiff, Nat.reduceAdd, Nat.reduceMul, Nat.reduceLeDiff, Nat.reduceLT, Nat.reduceBNe, reduceCtorEq]
  refine vcall (pCycle lunar _ _ R15 hl) ?_
  rintro R16 v hle16 rfl
  rw [ex7]
  replace hg := hg.mono hle16
  replace hj := hj.mono hle16
  replace hl := hl.mono hle16
  clear hle16
  try simp only [go_sem, ↓reduceIte, Nat.reduceEqDiff, Nat.reduceAdd, Nat.reduceMul, Nat.reduceLeDiff, Nat.reduceLT, Nat.reduceBNe, reduceCtorEq]
  refine vcall (cWeekday 730186 (by decide) R16) ?_
  rintro R17 v hle17 rfl
  rw [show (730186 : Int) % 7 = 2 from rfl]
  replace hg := hg.mono hle17
  replace hj := hj.mono hle17
  replace hl := hl.mono hle17
  clear hle17
  try simp only [go_sem, ↓reduceIte, Nat.reduceEqDiff, Nat.reduceAdd, Nat.reduceMul, Nat.reduceLeDiff, Nat.reduceLT, Nat.reduceBNe, reduceCtorEq]
  refine vcall (cWeekday (-1) (by decide) R17) ?_
  rintro R18 v hle18 rfl
  rw [show (-1 : Int) % 7 = 6 from rfl]
  replace hg := hg.mono hle18
  replace hj := hj.mono hle18
  replace hl := hl.mono hle18
  clear hle18
  try simp only [go_sem, ↓reduceIte, Nat.reduceEqDiff, Nat.reduceAdd, Nat.reduceMul, Nat.reduceLeDiff, Nat.reduceLT, Nat.reduceBNe, reduceCtorEq]
  refine vcall (pLeap jul _ _ R18 hj 1900 (by decide)) ?_
  rintro R19 v hle19 rfl
  rw [ex8.1]
  replace hg := hg.mono hle19
  replace hj := hj.mono hle19
  replace hl := hl.mono hle19
  clear hle19
  try simp only [go_sem, ↓reduceIte, Nat.reduceEqDiff, Nat.reduceAdd, Nat.reduceMul, Nat.reduceLeDiff, Nat.reduceLT, Nat.reduceBNe, reduceCtorEq]
  refine vcall (pLeap greg _ _ R19 hg 1900 (by decide)) ?_
  rintro R20 v hle20 rfl
  rw [ex8.2.1]
  replace hg := hg.mono hle20
  replace hj := hj.mono hle20
  replace hl := hl.mono hle20
  clear hle20
  try simp only [go_sem, ↓reduceIte, Nat.reduceEqDiff, Nat.reduceAdd, Nat.reduceMul, Nat.reduceLeDiff, Nat.reduceLT, Nat.reduceBNe, reduceCtorEq]
  refine vcall (pLeap lunar _ _ R20 hl 2 (by decide)) ?_
  rintro R21 v hle21 rfl
  rw [ex8.2.2]
  replace hg := hg.mono hle21
  replace hj := hj.mono hle21
  replace hl := hl.mono hle21
  clear hle21
  try simp only [go_sem, ↓reduceIte, Nat.reduceEqDiff, Nat.reduceAdd, Nat.reduceMul, Nat.reduceLeDiff, Nat.reduceLT, Nat.reduceBNe, reduceCtorEq]
  refine vcall (pMonthLength lunar _ _ R21 hl 2 12 (by decide)) ?_
  rintro R22 v hle22 rfl
  rw [ex9.1]
  replace hg := hg.mono hle22
  replace hj := hj.mono hle22
  replace hl := hl.mono hle22
  clear hle22
  try simp only [go_sem, ↓reduceIte, Nat.reduceEqDiff, Nat.reduceAdd, Nat.reduceMul, Nat.reduceLeDiff, Nat.reduceLT, Nat.reduceBNe, reduceCtorEq]
  refine vcall (pMonthLength lunar _ _ R22 hl 1 12 (by decide)) ?_
  rintro R23 v hle23 rfl
  rw [ex9.2.1]
  replace hg := hg.mono hle23
  replace hj := hj.mono hle23
  replace hl := hl.mono hle23
  clear hle23
  try simp only [go_sem, ↓reduceIte, Nat.reduceEqDiff, Nat.reduceAdd, Nat.reduceMul, Nat.reduceLeDiff, Nat.reduceLT, Nat.reduceBNe, reduceCtorEq]
  refine vcall (pYearLength greg _ _ R23 hg 2000 (by decide)) ?_
  rintro R24 v hle24 rfl
  rw [ex9.2.2]
  replace hg := hg.mono hle24
  replace hj := hj.mono hle24
  replace hl := hl.mono hle24
  clear hle24
  try simp only [go_sem, ↓reduceIte, Nat.reduceEqDiff, Nat.reduceAdd, Nat.reduceMul, Nat.reduceLeDiff, Nat.reduceLT, Nat.reduceBNe, reduceCtorEq]
end Go.Proofs.Ytpbnjoopgignoaa
