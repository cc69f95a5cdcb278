/- The law CivilDatesMatchReference, out of the contracts; the bounds of the days. -/
import Derived.Test.YtpbnjoopgignoaaLa
namespace Go.Proofs.Ytpbnjoopgignoaa
set_option linter.unusedSimpArgs false
set_option linter.unusedVariables false
open Go.RowKit Go.Proofs.Ytpbnjoopgignoaa.Vc

theorem DateOfP.form {c : Cal} {day : Int} {v : Value} (h : DateOfP c day v) : ∃ y m d e, v = .tuple #[dv y m d, .int .i64 e] := by
  rcases h with ⟨a, rfl⟩ | ⟨a, b, rfl⟩ | ⟨a, b, y, m, d, h, rfl⟩ <;> exact ⟨_, _, _, _, rfl⟩
theorem WeekOfP.form {c : Cal} {day : Int} {v : Value} (h : WeekOfP c day v) : ∃ y n e, v = .tuple #[.int .i64 y, .int .i64 n, .int .i64 e] := by
  rcases h with ⟨a, rfl⟩ | ⟨a, b, rfl⟩ | ⟨a, b, y, m, d, h, rfl⟩ <;> exact ⟨_, _, _, rfl⟩
theorem lDates (c : Cal) (sm sr : Value) (R : RO) (h : CalIn R c sm sr) (y m d x0 x1 x2 : Int) (hy : I64 y) (hm : I64 m) (hd : I64 d) (h0 : I64 x0) (h1 : I64 x1) (h2 : I64 x2) :
    CallsR Try.prog 21 [cv c sm sr, dv y m d, .agg #[.int .i64 x0, .int .i64 x1, .int .i64 x2]] R fun _ v => v = .bool true := by
  obtain ⟨a, b, p, q, rfl, rfl⟩ := h.form
  refine callsT mix Try.func21 comp21 (by simp [Try.ntmps21]) ?_; simp only [go_sem, ↓reduceIte, Nat.reduceEqDiff, Nat.reduceAdd, Nat.reduceMul, Nat.reduceLeDiff, Nat.reduceLT, Nat.reduceBNe, reduceCtorEq, vc21, rs21]
  refine vcall (pDayOf c _ _ R h y m d hy hm hd) ?_
  rintro R1 v hle rfl
  replace h := h.mono hle
  try simp only [go_sem, ↓reduceIte, Nat.reduceEqDiff, Nat.reduceAdd, Nat.reduceMul, Nat.reduceLeDiff, Nat.reduceLT, Nat.reduceBNe, reduceCtorEq, Int.reduceLE, Int.reduceLT, Int.reduceToNat, Int.cast_ofNat_Int, Int.reduceEq, Int.reduceNe]
  refine vcall (rDayOf c _ _ R1 h y m d hy hm hd) ?_
  rintro R2 v hle rfl
  replace h := h.mono hle
  try simp only [go_sem, ↓reduceIte, Nat.reduceEqDiff, Nat.reduceAdd, Nat.reduceMul, Nat.reduceLeDiff, Nat.reduceLT, Nat.reduceBNe, reduceCtorEq, Int.reduceLE, Int.reduceLT, Int.reduceToNat, Int.cast_ofNat_Int, Int.reduceEq, Int.reduceNe]
  refine vcall (pDateOf c _ _ R2 h x0 h0) ?_
  rintro R3 v hle hv
  replace h := h.mono hle
  obtain ⟨p1, p2, p3, p4, rfl⟩ := hv.form
  try simp only [go_sem, ↓reduceIte, Nat.reduceEqDiff, Nat.reduceAdd, Nat.reduceMul, Nat.reduceLeDiff, Nat.reduceLT, Nat.reduceBNe, reduceCtorEq, Int.reduceLE, Int.reduceLT, Int.reduceToNat, Int.cast_ofNat_Int, Int.reduceEq, Int.reduceNe]
  refine vcall (rDateOf c _ _ R3 h x0 h0) ?_
  rintro R4 v hle hv'
  replace h := h.mono hle
  obtain rfl := hv.det hv'
  try simp only [go_sem, ↓reduceIte, Nat.reduceEqDiff, Nat.reduceAdd, Nat.reduceMul, Nat.reduceLeDiff, Nat.reduceLT, Nat.reduceBNe, reduceCtorEq, Int.reduceLE, Int.reduceLT, Int.reduceToNat, Int.cast_ofNat_Int, Int.reduceEq, Int.reduceNe]
  refine vcall (pWeekOf c _ _ R4 h x0 h0) ?_
  rintro R5 v hle hw
  replace h := h.mono hle
  obtain ⟨w1, w2, w3, rfl⟩ := hw.form
  try simp only [go_sem, ↓reduceIte, Nat.reduceEqDiff, Nat.reduceAdd, Nat.reduceMul, Nat.reduceLeDiff, Nat.reduceLT, Nat.reduceBNe, reduceCtorEq, Int.reduceLE, Int.reduceLT, Int.reduceToNat, Int.cast_ofNat_Int, Int.reduceEq, Int.reduceNe]
  refine vcall (rWeekOf c _ _ R5 h x0 h0) ?_
  rintro R6 v hle hw'
  replace h := h.mono hle
  obtain rfl := hw.det hw'
  try simp only [go_sem, ↓reduceIte, Nat.reduceEqDiff, Nat.reduceAdd, Nat.reduceMul, Nat.reduceLeDiff, Nat.reduceLT, Nat.reduceBNe, reduceCtorEq, Int.reduceLE, Int.reduceLT, Int.reduceToNat, Int.cast_ofNat_Int, Int.reduceEq, Int.reduceNe]
  refine vcall (pNth c _ _ R6 h y m d x1 x2 hy hm hd h1 h2) ?_
  rintro R7 v hle rfl
  replace h := h.mono hle
  try simp only [go_sem, ↓reduceIte, Nat.reduceEqDiff, Nat.reduceAdd, Nat.reduceMul, Nat.reduceLeDiff, Nat.reduceLT, Nat.reduceBNe, reduceCtorEq, Int.reduceLE, Int.reduceLT, Int.reduceToNat, Int.cast_ofNat_Int, Int.reduceEq, Int.reduceNe]
  refine vcall (rNth c _ _ R7 h y m d x1 x2 hy hm h2) ?_
  rintro R8 v hle rfl
  try simp only [go_sem, ↓reduceIte, Nat.reduceEqDiff, Nat.reduceAdd, Nat.reduceMul, Nat.reduceLeDiff, Nat.reduceLT, Nat.reduceBNe, reduceCtorEq, Int.reduceLE, Int.reduceLT, Int.reduceToNat, Int.cast_ofNat_Int, Int.reduceEq, Int.reduceNe]
theorem lDatesMatch (c : Cal) (sm sr : Value) (R : RO) (h : CalIn R c sm sr) (y m d : Int) (hy : I64 y) (hm : I64 m) (hd : I64 d) (x0 x1 x2 : Int) (h0 : I64 x0) (h1 : I64 x1) (h2 : I64 x2) :
    CallsR Try.prog 4 [cv c sm sr, dv y m d, .agg #[.int .i64 x0, .int .i64 x1, .int .i64 x2]] R fun _ v => v = .bool true := by
  obtain ⟨a, b, p, q, rfl, rfl⟩ := h.form
  refine callsT mix Try.func4 comp4 (by simp [Try.ntmps4]) ?_; simp only [go_sem, ↓reduceIte, Nat.reduceEqDiff, Nat.reduceAdd, Nat.reduceMul, Nat.reduceLeDiff, Nat.reduceLT, Nat.reduceBNe, reduceCtorEq, vc4, rs4]
  refine vcall (lSanity R) ?_
  rintro R1 v hle rfl
  replace h := h.mono hle
  try simp only [go_sem, ↓reduceIte, Nat.reduceEqDiff, Nat.reduceAdd, Nat.reduceMul, Nat.reduceLeDiff, Nat.reduceLT, Nat.reduceBNe, reduceCtorEq, Int.reduceLE, Int.reduceLT, Int.reduceToNat, Int.cast_ofNat_Int, Int.reduceEq, Int.reduceNe]
  refine vcall (lDates c _ _ R1 h y m d x0 x1 x2 hy hm hd h0 h1 h2) ?_
  rintro R2 v hle rfl
  replace h := h.mono hle
  try simp only [go_sem, ↓reduceIte, Nat.reduceEqDiff, Nat.reduceAdd, Nat.reduceMul, Nat.reduceLeDiff, Nat.reduceLT, Nat.reduceBNe, reduceCtorEq, Int.reduceLE, Int.reduceLT, Int.reduceToNat, Int.cast_ofNat_Int, Int.reduceEq, Int.reduceNe]
  refine vcall (rMade c _ _ R2 h) ?_
  rintro R3 v hle ⟨sm, sr, rfl, hm'⟩
  try simp only [go_sem, ↓reduceIte, Nat.reduceEqDiff, Nat.reduceAdd, Nat.reduceMul, Nat.reduceLeDiff, Nat.reduceLT, Nat.reduceBNe, reduceCtorEq, Int.reduceLE, Int.reduceLT, Int.reduceToNat, Int.cast_ofNat_Int, Int.reduceEq, Int.reduceNe]
  refine vcall (lDates c.made _ _ R3 hm' y m d x0 x1 x2 hy hm hd h0 h1 h2) ?_
  rintro R4 v hle rfl
  try simp only [go_sem, ↓reduceIte, Nat.reduceEqDiff, Nat.reduceAdd, Nat.reduceMul, Nat.reduceLeDiff, Nat.reduceLT, Nat.reduceBNe, reduceCtorEq, Int.reduceLE, Int.reduceLT, Int.reduceToNat, Int.cast_ofNat_Int, Int.reduceEq, Int.reduceNe]
theorem Cal.last (c : Cal) (hv : c.valid) (y : Int) : c.beg y (c.months.length - 1) + c.mlen y (c.months.length - 1) = c.first y + c.ylen y := by
  have hm := hv.2.1
  obtain ⟨k, hk⟩ : ∃ k, c.months.length = k + 1 := ⟨c.months.length - 1, by omega⟩
  unfold Cal.beg Cal.ylen
  rw [hk]
  simp only [Nat.add_sub_cancel, sumTo]
  omega
theorem has_iff {c : Cal} (hv : c.valid) (y m d : Int) : c.has m d y ↔ 1 ≤ d ∧ d ≤ mlenA c y m := by
  unfold Cal.has mlenA
  by_cases hmm : 1 ≤ m ∧ m ≤ c.months.length
  · rw [if_pos ⟨hv, hmm⟩]
    exact ⟨fun h => ⟨h.2.2.1, h.2.2.2⟩, fun h => ⟨hmm.1, hmm.2, h.1, h.2⟩⟩
  · rw [if_neg (fun h => hmm h.2)]
    exact ⟨fun h => absurd ⟨h.1, h.2.1⟩ hmm, fun h => by omega⟩
theorem dayE_iff {c : Cal} (hv : c.valid) (y m d : Int) : dayE c y m d = 0 ↔ (1 ≤ y ∧ y ≤ 9999) ∧ c.has m d y := by
  unfold dayE
  rw [if_neg (by simpa using hv)]
  by_cases h1 : 1 ≤ y ∧ y ≤ 9999
  · rw [if_neg (by simpa using h1)]
    by_cases h2 : c.has m d y
    · rw [if_neg (by simpa using h2)]; exact ⟨fun _ => ⟨h1, h2⟩, fun _ => rfl⟩
    · rw [if_pos h2]; exact ⟨fun h => by omega, fun h => absurd h.2 h2⟩
  · rw [if_pos h1]; exact ⟨fun h => by omega, fun h => absurd h.1 h1⟩
/-- A date that exists is the date of its day. -/
theorem isDay_of {c : Cal} {y m d : Int} (hv : c.valid) (h : dayE c y m d = 0) : c.IsDay y (m - 1).toNat d (dayV c y m d) ∧ ((m - 1).toNat : Int) + 1 = m := by
  obtain ⟨h1, h2, h3, h4, h5⟩ := (dayE_iff hv y m d).1 h
  exact ⟨⟨h1.1, h1.2, by omega, h4, h5, by rw [dayV, if_pos h]⟩, by omega⟩
/-- The day of a date is in the years of the calendar. -/
theorem Cal.IsDay.range {c : Cal} (hv : c.valid) {y : Int} {m : Nat} {d day : Int} (h : c.IsDay y m d day) : c.epoch ≤ day ∧ day < c.first 10000 := by
  obtain ⟨h1, h2⟩ := h.year hv
  have h3 := hv.first_bd h.y1 (by have := h.y2; omega)
  have h4 := hv.first_lt (show y < 10000 by have := h.y2; omega)
  exact ⟨by omega, by omega⟩
/-- The date of a day exists, and is that day's. -/
theorem dayV_of {c : Cal} (hv : c.valid) {y : Int} {m : Nat} {d day : Int} (h : c.IsDay y m d day) : dayE c y (m + 1) d = 0 ∧ dayV c y (m + 1) d = day := by
  have hE : dayE c y (m + 1) d = 0 := by
    refine (dayE_iff hv _ _ _).2 ⟨⟨h.y1, h.y2⟩, by omega, by have := h.mlt; omega, h.d1, ?_⟩
    have := h.d2
    rw [show ((m : Int) + 1 - 1).toNat = m by omega]
    exact this
  refine ⟨hE, ?_⟩
  rw [dayV, if_pos hE, show ((m : Int) + 1 - 1).toNat = m by omega]
  exact h.day
theorem lBounds (c : Cal) (hv : c.valid) (sm sr : Value) (R : RO) (h : CalIn R c sm sr) : CallsR Try.prog 22 [cv c sm sr] R fun _ v => v = .tuple #[.int .i64 c.epoch, .int .i64 (c.first 10000 - 1), .bool true] := by
  obtain ⟨a, b, p, q, rfl, rfl⟩ := h.form
  have hml := hv.2.1
  have hf1 := hv.first_one
  have hfb := hv.first_bd (y := 10000) (by omega) (by omega)
  have hmb := hv.mlen_bd 1 (show 0 < c.months.length by omega)
  have hmb2 := hv.mlen_bd 9999 (show c.months.length - 1 < c.months.length by omega)
  have hlast := c.last hv 9999
  have hsucc := hv.first_succ 9999
  simp only [Int.reduceAdd] at hsucc
  have e1 : dayE c 1 1 1 = 0 ∧ dayV c 1 1 1 = c.epoch := by
    have hd : c.IsDay 1 0 1 c.epoch := ⟨by omega, by omega, by omega, by omega, by omega, by simp [Cal.beg, sumTo]; omega⟩
    simpa using dayV_of hv hd
  have hmA : mlenA c 9999 c.months.length = c.mlen 9999 (c.months.length - 1) := by
    rw [mlenA, if_pos ⟨hv, by omega, by omega⟩]
    congr 1
    omega
  have e2 : dayE c 9999 c.months.length (c.mlen 9999 (c.months.length - 1)) = 0 ∧ dayV c 9999 c.months.length (c.mlen 9999 (c.months.length - 1)) = c.first 10000 - 1 := by
    have hd : c.IsDay 9999 (c.months.length - 1) (c.mlen 9999 (c.months.length - 1)) (c.first 10000 - 1) := ⟨by omega, by omega, by omega, by omega, by omega, by omega⟩
    have := dayV_of hv hd
    rwa [show ((c.months.length - 1 : Nat) : Int) + 1 = c.months.length by omega] at this
  refine callsT mix Try.func22 comp22 (by simp [Try.ntmps22]) ?_; simp only [go_sem, ↓reduceIte, Nat.reduceEqDiff, Nat.reduceAdd, Nat.reduceMul, Nat.reduceLeDiff, Nat.reduceLT, Nat.reduceBNe, reduceCtorEq, vc22, rs22]
  refine vcall (pDayOf c _ _ R h 1 1 1 (by decide) (by decide) (by decide)) ?_
  rintro R1 v hle rfl
  replace h := h.mono hle
  rw [e1.1, e1.2]
  try simp only [go_sem, ↓reduceIte, Nat.reduceEqDiff, Nat.reduceAdd, Nat.reduceMul, Nat.reduceLeDiff, Nat.reduceLT, Nat.reduceBNe, reduceCtorEq, Int.reduceLE, Int.reduceLT, Int.reduceToNat, Int.cast_ofNat_Int, Int.reduceEq, Int.reduceNe]
  refine vcall (pMonthLength c _ _ R1 h 9999 c.months.length (by decide)) ?_
  rintro R2 v hle rfl
  replace h := h.mono hle
  rw [hmA]
  try simp only [go_sem, ↓reduceIte, Nat.reduceEqDiff, Nat.reduceAdd, Nat.reduceMul, Nat.reduceLeDiff, Nat.reduceLT, Nat.reduceBNe, reduceCtorEq, Int.reduceLE, Int.reduceLT, Int.reduceToNat, Int.cast_ofNat_Int, Int.reduceEq, Int.reduceNe]
  refine vcall (pDayOf c _ _ R2 h 9999 c.months.length _ (by decide) (by unfold I64; omega) (by unfold I64; omega)) ?_
  rintro R3 v hle rfl
  rw [e2.1, e2.2]
  try simp only [go_sem, ↓reduceIte, Nat.reduceEqDiff, Nat.reduceAdd, Nat.reduceMul, Nat.reduceLeDiff, Nat.reduceLT, Nat.reduceBNe, reduceCtorEq, Int.reduceLE, Int.reduceLT, Int.reduceToNat, Int.cast_ofNat_Int, Int.reduceEq, Int.reduceNe]
  rw [decide_eq_true (by have := hv.first_lt (show (1 : Int) < 10000 by omega); have := hv.ylen_bd 1; omega)]
end Go.Proofs.Ytpbnjoopgignoaa
