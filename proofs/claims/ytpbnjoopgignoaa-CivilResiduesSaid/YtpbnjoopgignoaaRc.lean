/- Contracts of the reference's functions: dates and weeks. -/
import Derived.Test.YtpbnjoopgignoaaRb
namespace Go.Proofs.Ytpbnjoopgignoaa
set_option linter.unusedSimpArgs false
set_option linter.unusedVariables false
open Go.RowKit Go.Proofs.Ytpbnjoopgignoaa.Vc

theorem Cal.valid.first_mono {c : Cal} (h : c.valid) {x y : Int} (hxy : c.first x < c.first y) : x < y := by
  rcases Int.lt_or_le x y with h1 | h1
  · exact h1
  · exfalso
    rcases Int.lt_or_le y x with h2 | h2
    · have := h.first_lt h2
      have := h.ylen_bd y
      omega
    · have : x = y := by omega
      subst this; omega
theorem rDateOf (c : Cal) (sm sr : Value) (R : RO) (h : CalIn R c sm sr) (day : Int) (hday : I64 day) : CallsR Try.prog 44 [cv c sm sr, .int .i64 day] R fun _ v => DateOfP c day v := by
  have h0 := h
  obtain ⟨am, cm, rfl, hcm, hfm⟩ := h.m.form
  obtain ⟨ar, cr, rfl, hcr, hfr⟩ := h.r.form
  unfold I64 at hday
  refine callsT mix Try.func44 comp44 (by simp [Try.ntmps44]) ?_; simp only [go_sem, ↓reduceIte, Nat.reduceEqDiff, Nat.reduceAdd, Nat.reduceMul, Nat.reduceLeDiff, Nat.reduceLT, Nat.reduceBNe, reduceCtorEq, vc44, rs44]
  refine vcall (rValid c _ _ R h) ?_
  rintro R1 v hle rfl
  try simp only [go_sem, ↓reduceIte, Nat.reduceEqDiff, Nat.reduceAdd, Nat.reduceMul, Nat.reduceLeDiff, Nat.reduceLT, Nat.reduceBNe, reduceCtorEq]
  refine ⟨fun hv => .inl ⟨hv, rfl⟩, fun hv => ⟨fun h1 => ?_, fun h1 => .inr (.inl ⟨hv, by omega, rfl⟩)⟩⟩
  have he := hv.1
  have hp := hv.per.2.1
  have hd := hv.days_bd
  have hfb := hv.first_bd (y := 10000) (by omega) (by omega)
  have hml := hv.2.1
  refine vcall (rStart c hv _ _ R1 (h0.mono hle) 10000 (by omega)) ?_
  rintro R2 v hle2 rfl
  try simp only [go_sem, ↓reduceIte, Nat.reduceEqDiff, Nat.reduceAdd, Nat.reduceMul, Nat.reduceLeDiff, Nat.reduceLT, Nat.reduceBNe, reduceCtorEq]
  refine ⟨fun h2 => .inr (.inl ⟨hv, by omega, rfl⟩), fun h2 => ?_⟩
  refine vcall (rCycle c _ _ R2 ((h0.mono hle).mono hle2)) ?_
  rintro R3 v hle3 rfl
  rw [cycA, if_pos hv]
  try simp only [go_sem, ↓reduceIte, Nat.reduceEqDiff, Nat.reduceAdd, Nat.reduceMul, Nat.reduceLeDiff, Nat.reduceLT, Nat.reduceBNe, reduceCtorEq]
  have hr0 := Int.emod_nonneg (day - c.epoch) (show c.days ≠ 0 by omega)
  have hr1 := Int.emod_lt_of_pos (day - c.epoch) (show 0 < c.days by omega)
  have hq := Int.ediv_nonneg (show 0 ≤ day - c.epoch by omega) (show 0 ≤ c.days by omega)
  have hqle := Int.ediv_le_self (a := day - c.epoch) c.days (by omega)
  have hdm := Int.ediv_mul_add_emod (day - c.epoch) c.days
  have hS0 : c.S 0 = 0 := rfl
  have hf0 := hv.first_of ((day - c.epoch) / c.days) 0 (by omega)
  rw [hS0] at hf0
  have hqp : (day - c.epoch) / c.days * c.per ≤ (day - c.epoch) / c.days * 400 := Int.mul_le_mul_of_nonneg_left (by omega) hq
  have hqp0 := Int.mul_nonneg hq (show 0 ≤ c.per by omega)
  refine ⟨_, W.in64 (by omega), by omega, ?_⟩
  rw [tdiv_nonneg' (by omega) (by omega)]
  refine ⟨_, W.in64 (by omega), _, W.in64 (by omega), by omega, ?_⟩
  rw [tmod_nonneg' (by omega)]
  refine ⟨_, W.in64 (by omega), _, W.in64 (by omega), ?_⟩
  generalize hY : (day - c.epoch) / c.days * c.per = Y0 at *
  have e0 : c.first (Y0 + 1) = c.epoch + (day - c.epoch) / c.days * c.days := by
    have e : Y0 + 1 = Y0 + ((0 : Nat) : Int) + 1 := by omega
    rw [e, hf0]; omega
  have hcal := ((h0.mono hle).mono hle2).mono hle3
  refine vcLoop Int (fun x => [(10, .val (.int .i64 (day - c.first x))), (11, .loc 2 0), (2, .loc 0 0), (4, .loc 1 0)])
    (fun x => [.box [.val (.int .i64 c.epoch), .val (.slice am c.months.length cm), .val (.int .i64 c.leap), .val (.slice ar c.rules.length cr)], .box [.val (.int .i64 0), .val (.int .i64 0), .val (.int .i64 0)],
      .box [.val (.int .i64 x), .val (.int .i64 1), .val (.int .i64 1)]])
    (fun x _ => 1 ≤ x ∧ c.first x ≤ day) (fun x => (10000 - x).toNat) (Y0 + 1) ?_ rfl ?_ ?_
  · (try simp only [go_sem, ↓reduceIte, Nat.reduceEqDiff, Nat.reduceAdd, Nat.reduceMul, Nat.reduceLeDiff, Nat.reduceLT, Nat.reduceBNe, reduceCtorEq]) <;> (repeat' (first | rfl | trivial | constructor | (intro h; exact absurd rfl h)))
    have : (day - c.epoch) % c.days = day - c.first (Y0 + 1) := by omega
    rw [this]
  · omega
  · rintro x env R4 hle4 hE ⟨hx1, hx2⟩
    (simp only [go_sem] at hE; obtain ⟨e10, e11, e2, e4⟩ := hE; simp only [go_sem, ↓reduceIte, Nat.reduceEqDiff, Nat.reduceAdd, Nat.reduceMul, Nat.reduceLeDiff, Nat.reduceLT, Nat.reduceBNe, reduceCtorEq, e10, e11, e2, e4]; dsimp only at *)
    have hx3 := hv.first_mono (show c.first x < c.first 10000 by omega)
    have hfx := hv.first_bd hx1 (by omega)
    have hyb := hv.ylen_bd x
    have hs := hv.first_succ x
    refine vcall (rYearLength c _ _ R4 (hcal.mono hle4) x (by unfold I64; omega)) ?_
    rintro R5 v hle5 rfl
    simp only [go_sem, ↓reduceIte, Nat.reduceEqDiff, Nat.reduceAdd, Nat.reduceMul, Nat.reduceLeDiff, Nat.reduceLT, Nat.reduceBNe, reduceCtorEq, e10, e11, e2, e4]
    have hyl : ylenA c x = c.ylen x := by rw [ylenA, if_pos hv]
    rw [hyl]
    refine ⟨fun hlt => ?_, fun hge => ?_⟩
    · refine vcall (rYearLength c _ _ R5 ((hcal.mono hle4).mono hle5) x (by unfold I64; omega)) ?_
      rintro R6 v hle6 rfl
      simp only [go_sem, ↓reduceIte, Nat.reduceEqDiff, Nat.reduceAdd, Nat.reduceMul, Nat.reduceLeDiff, Nat.reduceLT, Nat.reduceBNe, reduceCtorEq, e10, e11, e2, e4]
      rw [hyl]
      refine ⟨_, W.in64 (by omega), _, W.in64 (by omega), x + 1, by omega, ⟨?_, rfl⟩, by omega, by omega⟩
      congr 2; omega
    · refine vcLoop Nat (fun m => [(10, .val (.int .i64 (day - c.beg x m))), (11, .loc 2 0), (2, .loc 0 0), (4, .loc 1 0)])
        (fun m => [.box [.val (.int .i64 c.epoch), .val (.slice am c.months.length cm), .val (.int .i64 c.leap), .val (.slice ar c.rules.length cr)], .box [.val (.int .i64 0), .val (.int .i64 0), .val (.int .i64 0)],
          .box [.val (.int .i64 x), .val (.int .i64 (m + 1 : Int)), .val (.int .i64 1)]])
        (fun m _ => m < c.months.length ∧ c.beg x m ≤ day) (fun m => c.months.length - m) 0 ?_ rfl ?_ ?_
      · simp only [go_sem, ↓reduceIte, Nat.reduceEqDiff, Nat.reduceAdd, Nat.reduceMul, Nat.reduceLeDiff, Nat.reduceLT, Nat.reduceBNe, reduceCtorEq, e10, e11, e2, e4]
        have : c.beg x 0 = c.first x := by simp [Cal.beg, sumTo]
        rw [this]
        repeat' (first | rfl | constructor)
      · have : c.beg x 0 = c.first x := by simp [Cal.beg, sumTo]
        exact ⟨by omega, by omega⟩
      · rintro m env2 R6 hle6 hE ⟨hm, hb⟩
        (simp only [go_sem] at hE; obtain ⟨f10, f11, f2, f4⟩ := hE; simp only [go_sem, ↓reduceIte, Nat.reduceEqDiff, Nat.reduceAdd, Nat.reduceMul, Nat.reduceLeDiff, Nat.reduceLT, Nat.reduceBNe, reduceCtorEq, f10, f11, f2, f4]; dsimp only at *)
        have hb1 : c.beg x (m + 1) = c.beg x m + c.mlen x m := by simp only [Cal.beg, sumTo]; omega
        have hmb := hv.mlen_bd x hm
        have hbm : c.first x ≤ c.beg x m := by
          have := sumTo_bd (f := c.mlen x) (a := 1) (b := 41) m (fun i hi => hv.mlen_bd x (by omega))
          unfold Cal.beg; omega
        have hlast : c.beg x c.months.length = c.first x + c.ylen x := rfl
        have hA : mlenA c x (m + 1) = c.mlen x m := by
          rw [mlenA, if_pos ⟨hv, by omega, by omega⟩]
          congr 1
          omega
        have hcal6 := ((hcal.mono hle4).mono hle5).mono hle6
        refine vcall (rMonthLength c _ _ R6 hcal6 x (m + 1) (by unfold I64; omega) (by unfold I64; omega)) ?_
        rintro R7 v hle7 rfl
        simp only [go_sem, ↓reduceIte, Nat.reduceEqDiff, Nat.reduceAdd, Nat.reduceMul, Nat.reduceLeDiff, Nat.reduceLT, Nat.reduceBNe, reduceCtorEq, f10, f11, f2, f4]
        rw [hA]
        refine ⟨fun hlt => ?_, fun hge2 => ?_⟩
        · have hm2 : m + 1 < c.months.length := by
            rcases Nat.lt_or_ge (m + 1) c.months.length with h9 | h9
            · exact h9
            · exfalso
              have : m + 1 = c.months.length := by omega
              rw [this] at hb1
              omega
          refine vcall (rMonthLength c _ _ R7 (hcal6.mono hle7) x (m + 1) (by unfold I64; omega) (by unfold I64; omega)) ?_
          rintro R8 v hle8 rfl
          simp only [go_sem, ↓reduceIte, Nat.reduceEqDiff, Nat.reduceAdd, Nat.reduceMul, Nat.reduceLeDiff, Nat.reduceLT, Nat.reduceBNe, reduceCtorEq, f10, f11, f2, f4]
          rw [hA]
          refine ⟨_, W.in64 (by omega), _, W.in64 (by omega), m + 1, by omega, ⟨?_, rfl⟩, by omega, by omega⟩
          congr 2; omega
        · refine ⟨_, W.in64 (by omega), .inr (.inr ⟨hv, by omega, x, m, _, ⟨hx1, by omega, hm, by omega, by omega, by omega⟩, rfl⟩)⟩
theorem rWeekOf (c : Cal) (sm sr : Value) (R : RO) (h : CalIn R c sm sr) (day : Int) (hday : I64 day) : CallsR Try.prog 45 [cv c sm sr, .int .i64 day] R fun _ v => WeekOfP c day v := by
  have h0 := h
  obtain ⟨am, cm, rfl, hcm, hfm⟩ := h.m.form
  obtain ⟨ar, cr, rfl, hcr, hfr⟩ := h.r.form
  unfold I64 at hday
  have hth : day - 3 ≤ thu day ∧ thu day ≤ day + 3 := by unfold thu; omega
  refine callsT mix Try.func45 comp45 (by simp [Try.ntmps45]) ?_; simp only [go_sem, ↓reduceIte, Nat.reduceEqDiff, Nat.reduceAdd, Nat.reduceMul, Nat.reduceLeDiff, Nat.reduceLT, Nat.reduceBNe, reduceCtorEq, vc45, rs45]
  refine vcall (rValid c _ _ R h) ?_
  rintro R1 v hle rfl
  try simp only [go_sem, ↓reduceIte, Nat.reduceEqDiff, Nat.reduceAdd, Nat.reduceMul, Nat.reduceLeDiff, Nat.reduceLT, Nat.reduceBNe, reduceCtorEq]
  refine ⟨fun hv => .inl ⟨hv, rfl⟩, fun hv => ?_⟩
  have he := hv.1
  have hfb := hv.first_bd (y := 10000) (by omega) (by omega)
  refine ⟨fun h1 => ?_, fun h1 => .inr (.inl ⟨hv, by omega, rfl⟩)⟩
  refine vcall (rStart c hv _ _ R1 (h0.mono hle) 10000 (by omega)) ?_
  rintro R2 v hle2 rfl
  try simp only [go_sem, ↓reduceIte, Nat.reduceEqDiff, Nat.reduceAdd, Nat.reduceMul, Nat.reduceLeDiff, Nat.reduceLT, Nat.reduceBNe, reduceCtorEq]
  refine ⟨_, W.in64 (by omega), fun h2 => .inr (.inl ⟨hv, by omega, rfl⟩), fun h2 => ?_⟩
  refine vcall (rWeekday day (by unfold I64; omega) R2) ?_
  rintro R3 v hle3 rfl
  try simp only [go_sem, ↓reduceIte, Nat.reduceEqDiff, Nat.reduceAdd, Nat.reduceMul, Nat.reduceLeDiff, Nat.reduceLT, Nat.reduceBNe, reduceCtorEq]
  refine ⟨_, W.in64 (by omega), _, W.in64 (by omega), ?_⟩
  rw [show day - day % 7 + 3 = thu day from rfl]
  have hcal := ((h0.mono hle).mono hle2).mono hle3
  refine vcall (rDateOf c _ _ R3 hcal (thu day) (by unfold I64; omega)) ?_
  rintro R4 v hle4 (⟨hn, rfl⟩ | ⟨hn, hn2, rfl⟩ | ⟨-, hn, y, m, d, hd, rfl⟩)
  · exact absurd hv hn
  · try simp only [go_sem, ↓reduceIte, Nat.reduceEqDiff, Nat.reduceAdd, Nat.reduceMul, Nat.reduceLeDiff, Nat.reduceLT, Nat.reduceBNe, reduceCtorEq]
    exact ⟨fun _ => .inr (.inl ⟨hv, hn2, rfl⟩), fun h => by cases h⟩
  · try simp only [go_sem, ↓reduceIte, Nat.reduceEqDiff, Nat.reduceAdd, Nat.reduceMul, Nat.reduceLeDiff, Nat.reduceLT, Nat.reduceBNe, reduceCtorEq]
    have hy := hd.year hv
    have hy1 := hd.y1
    have hy2 := hd.y2
    have hyb := hv.ylen_bd y
    refine vcall (rStart c hv _ _ R4 (hcal.mono hle4) y (by omega)) ?_
    rintro R5 v hle5 rfl
    try simp only [go_sem, ↓reduceIte, Nat.reduceEqDiff, Nat.reduceAdd, Nat.reduceMul, Nat.reduceLeDiff, Nat.reduceLT, Nat.reduceBNe, reduceCtorEq]
    refine ⟨_, W.in64 (by omega), by decide, ?_⟩
    rw [tdiv_nonneg' (by omega) (by omega)]
    exact ⟨_, W.in64 (by omega), _, W.in64 (by omega), .inr (.inr ⟨hv, hn, y, m, d, hd, rfl⟩)⟩
end Go.Proofs.Ytpbnjoopgignoaa
