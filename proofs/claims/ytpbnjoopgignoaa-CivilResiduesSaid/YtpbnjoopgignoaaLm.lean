/- The law CivilResidues, out of the contracts. -/
import Derived.Test.YtpbnjoopgignoaaLl
import Derived.Test.YtpbnjoopgignoaaNd
namespace Go.Proofs.Ytpbnjoopgignoaa
set_option linter.unusedSimpArgs false
set_option linter.unusedVariables false
open Go.RowKit Go.Proofs.Ytpbnjoopgignoaa.Vc

theorem timesC {n : Int} (h : n ≤ 2147483648) : TimesC n := fun a b m ha hb hm _ R => nTimesS a b m ha hb (by omega) R
theorem lResidues (x0 x1 x2 x3 : Int) (h0 : I64 x0) (h1 : I64 x1) (h2 : I64 x2) (h3 : I64 x3) (R : RO) :
    CallsR Try.prog 12 [.agg #[.int .i64 x0, .int .i64 x1, .int .i64 x2, .int .i64 x3]] R fun _ v => v = .bool true := by
  refine callsT mix Try.func12 comp12 (by simp [Try.ntmps12]) ?_; simp only [go_sem, ↓reduceIte, Nat.reduceEqDiff, Nat.reduceAdd, Nat.reduceMul, Nat.reduceLeDiff, Nat.reduceLT, Nat.reduceBNe, reduceCtorEq, vc12, rs12]
  refine vcall (lSanity R) ?_
  rintro R1 v hle rfl
  try simp only [go_sem, ↓reduceIte, Nat.reduceEqDiff, Nat.reduceAdd, Nat.reduceMul, Nat.reduceLeDiff, Nat.reduceLT, Nat.reduceBNe, reduceCtorEq, Int.reduceLE, Int.reduceLT, Int.reduceToNat, Int.cast_ofNat_Int, Int.reduceEq, Int.reduceNe]
  refine vcall (rMod x0 12 (by omega) (by decide) h0 R1) ?_
  rintro R2 v hle rfl
  have hL : 0 ≤ x0 % 12 ∧ x0 % 12 < 12 := by omega
  try simp only [go_sem, ↓reduceIte, Nat.reduceEqDiff, Nat.reduceAdd, Nat.reduceMul, Nat.reduceLeDiff, Nat.reduceLT, Nat.reduceBNe, reduceCtorEq, Int.reduceLE, Int.reduceLT, Int.reduceToNat, Int.cast_ofNat_Int, Int.reduceEq, Int.reduceNe]
  refine ⟨_, W.in64 (by omega), ?_⟩
  have hL : 1 ≤ 1 + x0 % 12 ∧ 1 + x0 % 12 ≤ 12 := by omega
  generalize 1 + x0 % 12 = L at *
  try simp only [go_sem, ↓reduceIte, Nat.reduceEqDiff, Nat.reduceAdd, Nat.reduceMul, Nat.reduceLeDiff, Nat.reduceLT, Nat.reduceBNe, reduceCtorEq, Int.reduceLE, Int.reduceLT, Int.reduceToNat, Int.cast_ofNat_Int, Int.reduceEq, Int.reduceNe]
  refine vcall (rMod x1 1000 (by omega) (by decide) h1 R2) ?_
  rintro R3 v hle rfl
  have hE : 0 ≤ x1 % 1000 ∧ x1 % 1000 < 1000 := by omega
  generalize x1 % 1000 = E at *
  try simp only [go_sem, ↓reduceIte, Nat.reduceEqDiff, Nat.reduceAdd, Nat.reduceMul, Nat.reduceLeDiff, Nat.reduceLT, Nat.reduceBNe, reduceCtorEq, Int.reduceLE, Int.reduceLT, Int.reduceToNat, Int.cast_ofNat_Int, Int.reduceEq, Int.reduceNe]
  intro b cap R3' hle3 hrow hcap hfr
  refine vcall (rMod x2 7 (by omega) (by decide) h2 R3') ?_
  rintro R4 v hle4 rfl
  have hW : 0 ≤ x2 % 7 ∧ x2 % 7 < 7 := by omega
  generalize x2 % 7 = w at *
  try simp only [go_sem, ↓reduceIte, Nat.reduceEqDiff, Nat.reduceAdd, Nat.reduceMul, Nat.reduceLeDiff, Nat.reduceLT, Nat.reduceBNe, reduceCtorEq, Int.reduceLE, Int.reduceLT, Int.reduceToNat, Int.cast_ofNat_Int, Int.reduceEq, Int.reduceNe]
  refine vcall (rMod x3 L (by omega) (by unfold I64; omega) h3 R4) ?_
  rintro R5 v hle5 rfl
  have hI : 0 ≤ x3 % L ∧ x3 % L < L := ⟨Int.emod_nonneg _ (by omega), Int.emod_lt_of_pos _ (by omega)⟩
  generalize x3 % L = j at *
  try simp only [go_sem, ↓reduceIte, Nat.reduceEqDiff, Nat.reduceAdd, Nat.reduceMul, Nat.reduceLeDiff, Nat.reduceLT, Nat.reduceBNe, reduceCtorEq, Int.reduceLE, Int.reduceLT, Int.reduceToNat, Int.cast_ofNat_Int, Int.reduceEq, Int.reduceNe]
  have hcal : CalIn R5 (oneCal E L) (.slice (some ⟨b, 0, none⟩) 1 cap) (.slice none 0 0) :=
    ⟨MonthsIn.row (ms := [L]) ((hrow.mono hle4).mono hle5) (by simpa using hcap) (by intro m hm; simp at hm; subst hm; unfold I64; omega) (by simp), RulesIn.nil R5, by have : (oneCal E L).epoch = E := rfl; unfold I64; omega, by have : (oneCal E L).leap = -1 := rfl; unfold I64; omega⟩
  refine ⟨_, W.in64 (by omega), ?_⟩
  try simp only [go_sem, ↓reduceIte, Nat.reduceEqDiff, Nat.reduceAdd, Nat.reduceMul, Nat.reduceLeDiff, Nat.reduceLT, Nat.reduceBNe, reduceCtorEq, Int.reduceLE, Int.reduceLT, Int.reduceToNat, Int.cast_ofNat_Int, Int.reduceEq, Int.reduceNe]
  refine ⟨_, W.in64 (by omega), _, W.in64 (by omega), ?_⟩
  refine vcall (nSolve w 7 (E + (1 + j) - 1) L (by unfold I64; omega) (by decide) (by unfold I64; omega) (by unfold I64; omega) (timesC (by omega)) R5) ?_
  rintro R6 v hle6 hs
  have hlb := lcm_bd hL
  have hcv := oneCal_valid hE hL
  have hW7 := nLcm 7 L (by decide) (by unfold I64; omega) R6
  have e1 : lcmE 7 L = 0 := by unfold lcmE; rw [if_neg (by omega), if_neg (by omega)]
  have e2 : lcmV 7 L = Int.lcm 7 L := by unfold lcmV; rw [if_pos e1]
  rw [e1, e2] at hW7
  replace hcal := hcal.mono hle6
  rw [show E + (1 + j) - 1 = E + j by omega] at hs
  rcases hs with ⟨hs, _⟩ | ⟨_, hs, rfl⟩ | ⟨_, _, hs, _⟩ | ⟨_, _, _, x, hx0, hx1, hx7, hxL, rfl⟩
  · exact absurd ⟨by omega, hL.1⟩ hs
  · try simp only [go_sem, ↓reduceIte, Nat.reduceEqDiff, Nat.reduceAdd, Nat.reduceMul, Nat.reduceLeDiff, Nat.reduceLT, Nat.reduceBNe, reduceCtorEq, Int.reduceLE, Int.reduceLT, Int.reduceToNat, Int.cast_ofNat_Int, Int.reduceEq, Int.reduceNe]
    refine vcall hW7 ?_
    rintro R7 v hle rfl
    replace hcal := hcal.mono hle
    generalize (Int.lcm 7 L : Int) = P at *
    try simp only [go_sem, ↓reduceIte, Nat.reduceEqDiff, Nat.reduceAdd, Nat.reduceMul, Nat.reduceLeDiff, Nat.reduceLT, Nat.reduceBNe, reduceCtorEq, Int.reduceEq, Int.reduceNe]
    refine vcLoop (Nat × Bool) (fun X => [(14, .val (.int .i64 X.1)), (11, .val (.int .i64 P)), (5, .loc 2 0), (7, .val (.int .i64 (1 + j))), (6, .val (.int .i64 w)), (10, .val (.int .i64 4)), (8, .val (.int .i64 0)), (13, .val (.bool X.2)), (3, .val (.bool true))])
      (fun _ => [.box [.val (.int .i64 x0), .val (.int .i64 x1), .val (.int .i64 x2), .val (.int .i64 x3)], .dead, .box [.val (.int .i64 E), .val (.slice (some ⟨b, 0, none⟩) 1 cap), .val (.int .i64 (-1)), .val (.slice none 0 0)]])
      (fun X _ => (X.1 : Int) ≤ 2 * P ∧ (X.2 = true ↔ ∃ k : Nat, k < X.1 ∧ ((k : Int) % L = j ∧ (E + k) % 7 = w))) (fun X => (2 * P).toNat - X.1) (0, false) ?_ ?_ ?_ ?_
    · (try simp only [go_sem, ↓reduceIte, Nat.reduceEqDiff, Nat.reduceAdd, Nat.reduceMul, Nat.reduceLeDiff, Nat.reduceLT, Nat.reduceBNe, reduceCtorEq]) <;> (repeat' (first | rfl | trivial | constructor | (intro h; exact absurd rfl h)))
    · try simp only [go_sem, ↓reduceIte, Nat.reduceEqDiff, Nat.reduceAdd, Nat.reduceMul, Nat.reduceLeDiff, Nat.reduceLT, Nat.reduceBNe, reduceCtorEq]
    · exact ⟨by dsimp only; omega, by simp⟩
    rintro ⟨i, an⟩ env R8 hle8 hE ⟨hi, han⟩
    replace hcal := hcal.mono hle8
    dsimp only at hi han
    (simp only [go_sem] at hE; obtain ⟨f14, f11, f5, f7, f6, f10, f8, f13, f3⟩ := hE; simp only [go_sem, ↓reduceIte, Nat.reduceEqDiff, Nat.reduceAdd, Nat.reduceMul, Nat.reduceLeDiff, Nat.reduceLT, Nat.reduceBNe, reduceCtorEq, f14, f11, f5, f7, f6, f10, f8, f13, f3]; dsimp only at *)
    have hday := oneCal_day (E := E) hL (i := i) (by omega)
    have hrange := oneCal_range (E := E) hL (i := i) (by omega)
    refine ⟨_, W.in64 (by omega), fun hlt => ⟨_, W.in64 (by omega), ?_⟩, fun hge => ?_⟩
    · refine vcall (pDateOf (oneCal E L) _ _ _ hcal (E + i) (by unfold I64; omega)) ?_
      rintro R9 v hle hd
      replace hcal := hcal.mono hle
      obtain rfl := hd.at hcv hrange hday rfl
      by_cases hd : (i : Int) % L + 1 = 1 + j
      · try simp only [go_sem, ↓reduceIte, Nat.reduceEqDiff, Nat.reduceAdd, Nat.reduceMul, Nat.reduceLeDiff, Nat.reduceLT, Nat.reduceBNe, reduceCtorEq, f14, f11, f5, f7, f6, f10, f8, f13, f3, Int.reduceEq, Int.reduceNe, bne_self_eq_false, hd]
        refine ⟨_, W.in64 (by omega), ?_⟩
        refine vcall (cWeekday (E + i) (by unfold I64; omega) _) ?_
        rintro R10 v hle rfl
        by_cases hw2 : (E + i) % 7 = w
        · try simp only [go_sem, ↓reduceIte, Nat.reduceEqDiff, Nat.reduceAdd, Nat.reduceMul, Nat.reduceLeDiff, Nat.reduceLT, Nat.reduceBNe, reduceCtorEq, f14, f11, f5, f7, f6, f10, f8, f13, f3, Int.reduceEq, Int.reduceNe, bne_self_eq_false, hw2]
          exact absurd ⟨by omega, hw2⟩ (no_hit (i := i) hs)
        · try simp only [go_sem, ↓reduceIte, Nat.reduceEqDiff, Nat.reduceAdd, Nat.reduceMul, Nat.reduceLeDiff, Nat.reduceLT, Nat.reduceBNe, reduceCtorEq, f14, f11, f5, f7, f6, f10, f8, f13, f3, Int.reduceEq, Int.reduceNe, bne_self_eq_false, hw2]
          have hno : ¬ ((i : Int) % L = j ∧ (E + i) % 7 = w) := fun h => hw2 h.2
          refine ⟨fun ha => ⟨_, W.in64 (by omega), (i + 1, false), by dsimp only; omega, ⟨rfl, rfl⟩, by dsimp only; omega, ?_⟩, fun ha => ⟨_, W.in64 (by omega), (i + 1, true), by dsimp only; omega, ⟨rfl, rfl⟩, by dsimp only; omega, ?_⟩⟩
          · have := any_step (b := false) han (by constructor; (intro h; exact absurd h (by decide)); (intro h; exact absurd h hno)); rw [ha] at this; exact this
          · have := any_step (b := false) han (by constructor; (intro h; exact absurd h (by decide)); (intro h; exact absurd h hno)); rw [ha] at this; exact this
      · try simp only [go_sem, ↓reduceIte, Nat.reduceEqDiff, Nat.reduceAdd, Nat.reduceMul, Nat.reduceLeDiff, Nat.reduceLT, Nat.reduceBNe, reduceCtorEq, f14, f11, f5, f7, f6, f10, f8, f13, f3, Int.reduceEq, Int.reduceNe, bne_self_eq_false, hd]
        have hno : ¬ ((i : Int) % L = j ∧ (E + i) % 7 = w) := fun h => hd (by omega)
        refine ⟨fun ha => ⟨_, W.in64 (by omega), (i + 1, false), by dsimp only; omega, ⟨rfl, rfl⟩, by dsimp only; omega, ?_⟩, fun ha => ⟨_, W.in64 (by omega), (i + 1, true), by dsimp only; omega, ⟨rfl, rfl⟩, by dsimp only; omega, ?_⟩⟩
        · have := any_step (b := false) han (by constructor; (intro h; exact absurd h (by decide)); (intro h; exact absurd h hno)); rw [ha] at this; exact this
        · have := any_step (b := false) han (by constructor; (intro h; exact absurd h (by decide)); (intro h; exact absurd h hno)); rw [ha] at this; exact this
    · have hno : an = false := by
        cases an
        · rfl
        · obtain ⟨k, _, hk⟩ := han.1 rfl
          exact absurd hk (no_hit hs)
      subst hno
      intro h
      exact absurd h (by decide)
  · omega
  · try simp only [go_sem, ↓reduceIte, Nat.reduceEqDiff, Nat.reduceAdd, Nat.reduceMul, Nat.reduceLeDiff, Nat.reduceLT, Nat.reduceBNe, reduceCtorEq, Int.reduceLE, Int.reduceLT, Int.reduceToNat, Int.cast_ofNat_Int, Int.reduceEq, Int.reduceNe]
    refine vcall hW7 ?_
    rintro R7 v hle rfl
    replace hcal := hcal.mono hle
    have hit := fun i : Int => hit_iff (i := i) hW hI hx7 hxL
    generalize (Int.lcm 7 L : Int) = P at *
    try simp only [go_sem, ↓reduceIte, Nat.reduceEqDiff, Nat.reduceAdd, Nat.reduceMul, Nat.reduceLeDiff, Nat.reduceLT, Nat.reduceBNe, reduceCtorEq, Int.reduceEq, Int.reduceNe]
    refine vcLoop (Nat × Bool) (fun X => [(14, .val (.int .i64 X.1)), (11, .val (.int .i64 P)), (5, .loc 2 0), (7, .val (.int .i64 (1 + j))), (6, .val (.int .i64 w)), (10, .val (.int .i64 0)), (8, .val (.int .i64 x)), (13, .val (.bool X.2)), (3, .val (.bool true))])
      (fun _ => [.box [.val (.int .i64 x0), .val (.int .i64 x1), .val (.int .i64 x2), .val (.int .i64 x3)], .dead, .box [.val (.int .i64 E), .val (.slice (some ⟨b, 0, none⟩) 1 cap), .val (.int .i64 (-1)), .val (.slice none 0 0)]])
      (fun X _ => (X.1 : Int) ≤ 2 * P ∧ (X.2 = true ↔ ∃ k : Nat, k < X.1 ∧ ((k : Int) % L = j ∧ (E + k) % 7 = w))) (fun X => (2 * P).toNat - X.1) (0, false) ?_ ?_ ?_ ?_
    · (try simp only [go_sem, ↓reduceIte, Nat.reduceEqDiff, Nat.reduceAdd, Nat.reduceMul, Nat.reduceLeDiff, Nat.reduceLT, Nat.reduceBNe, reduceCtorEq]) <;> (repeat' (first | rfl | trivial | constructor | (intro h; exact absurd rfl h)))
    · try simp only [go_sem, ↓reduceIte, Nat.reduceEqDiff, Nat.reduceAdd, Nat.reduceMul, Nat.reduceLeDiff, Nat.reduceLT, Nat.reduceBNe, reduceCtorEq]
    · exact ⟨by dsimp only; omega, by simp⟩
    rintro ⟨i, an⟩ env R8 hle8 hE ⟨hi, han⟩
    replace hcal := hcal.mono hle8
    dsimp only at hi han
    (simp only [go_sem] at hE; obtain ⟨f14, f11, f5, f7, f6, f10, f8, f13, f3⟩ := hE; simp only [go_sem, ↓reduceIte, Nat.reduceEqDiff, Nat.reduceAdd, Nat.reduceMul, Nat.reduceLeDiff, Nat.reduceLT, Nat.reduceBNe, reduceCtorEq, f14, f11, f5, f7, f6, f10, f8, f13, f3]; dsimp only at *)
    have hday := oneCal_day (E := E) hL (i := i) (by omega)
    have hrange := oneCal_range (E := E) hL (i := i) (by omega)
    refine ⟨_, W.in64 (by omega), fun hlt => ⟨_, W.in64 (by omega), ?_⟩, fun hge => ?_⟩
    · refine vcall (pDateOf (oneCal E L) _ _ _ hcal (E + i) (by unfold I64; omega)) ?_
      rintro R9 v hle hd
      replace hcal := hcal.mono hle
      obtain rfl := hd.at hcv hrange hday rfl
      by_cases hd : (i : Int) % L + 1 = 1 + j
      · try simp only [go_sem, ↓reduceIte, Nat.reduceEqDiff, Nat.reduceAdd, Nat.reduceMul, Nat.reduceLeDiff, Nat.reduceLT, Nat.reduceBNe, reduceCtorEq, f14, f11, f5, f7, f6, f10, f8, f13, f3, Int.reduceEq, Int.reduceNe, bne_self_eq_false, hd]
        refine ⟨_, W.in64 (by omega), ?_⟩
        refine vcall (cWeekday (E + i) (by unfold I64; omega) _) ?_
        rintro R10 v hle rfl
        by_cases hw2 : (E + i) % 7 = w
        · try simp only [go_sem, ↓reduceIte, Nat.reduceEqDiff, Nat.reduceAdd, Nat.reduceMul, Nat.reduceLeDiff, Nat.reduceLT, Nat.reduceBNe, reduceCtorEq, f14, f11, f5, f7, f6, f10, f8, f13, f3, Int.reduceEq, Int.reduceNe, bne_self_eq_false, hw2]
          have hyes : ((i : Int) % L = j ∧ (E + i) % 7 = w) := ⟨by omega, hw2⟩
          have htm := Int.tmod_eq_zero_of_dvd ((hit i).1 hyes)
          refine ⟨_, W.in64 (by omega), _, W.in64 (by omega), by omega, ?_⟩
          rw [decide_eq_true htm]
          refine ⟨fun h => absurd h (by decide), fun _ => ?_⟩
          refine ⟨fun ha => ⟨_, W.in64 (by omega), (i + 1, true), by dsimp only; omega, ⟨rfl, rfl⟩, by dsimp only; omega, ?_⟩, fun ha => ⟨_, W.in64 (by omega), (i + 1, true), by dsimp only; omega, ⟨rfl, rfl⟩, by dsimp only; omega, ?_⟩⟩
          · have := any_step (b := true) han (by constructor; (intro _; exact hyes); (intro _; rfl)); rw [ha] at this; exact this
          · have := any_step (b := true) han (by constructor; (intro _; exact hyes); (intro _; rfl)); rw [ha] at this; exact this
        · try simp only [go_sem, ↓reduceIte, Nat.reduceEqDiff, Nat.reduceAdd, Nat.reduceMul, Nat.reduceLeDiff, Nat.reduceLT, Nat.reduceBNe, reduceCtorEq, f14, f11, f5, f7, f6, f10, f8, f13, f3, Int.reduceEq, Int.reduceNe, bne_self_eq_false, hw2]
          have hno : ¬ ((i : Int) % L = j ∧ (E + i) % 7 = w) := fun h => hw2 h.2
          have htm : ¬ (E + i - x).tmod P = 0 := fun h => hno ((hit i).2 (Int.dvd_of_tmod_eq_zero h))
          refine ⟨_, W.in64 (by omega), _, W.in64 (by omega), by omega, ?_⟩
          rw [decide_eq_false htm]
          refine ⟨fun h => absurd h (by decide), fun _ => ?_⟩
          refine ⟨fun ha => ⟨_, W.in64 (by omega), (i + 1, false), by dsimp only; omega, ⟨rfl, rfl⟩, by dsimp only; omega, ?_⟩, fun ha => ⟨_, W.in64 (by omega), (i + 1, true), by dsimp only; omega, ⟨rfl, rfl⟩, by dsimp only; omega, ?_⟩⟩
          · have := any_step (b := false) han (by constructor; (intro h; exact absurd h (by decide)); (intro h; exact absurd h hno)); rw [ha] at this; exact this
          · have := any_step (b := false) han (by constructor; (intro h; exact absurd h (by decide)); (intro h; exact absurd h hno)); rw [ha] at this; exact this
      · try simp only [go_sem, ↓reduceIte, Nat.reduceEqDiff, Nat.reduceAdd, Nat.reduceMul, Nat.reduceLeDiff, Nat.reduceLT, Nat.reduceBNe, reduceCtorEq, f14, f11, f5, f7, f6, f10, f8, f13, f3, Int.reduceEq, Int.reduceNe, bne_self_eq_false, hd]
        have hno : ¬ ((i : Int) % L = j ∧ (E + i) % 7 = w) := fun h => hd (by omega)
        have htm : ¬ (E + i - x).tmod P = 0 := fun h => hno ((hit i).2 (Int.dvd_of_tmod_eq_zero h))
        refine ⟨_, W.in64 (by omega), _, W.in64 (by omega), by omega, ?_⟩
        rw [decide_eq_false htm]
        refine ⟨fun h => absurd h (by decide), fun _ => ?_⟩
        refine ⟨fun ha => ⟨_, W.in64 (by omega), (i + 1, false), by dsimp only; omega, ⟨rfl, rfl⟩, by dsimp only; omega, ?_⟩, fun ha => ⟨_, W.in64 (by omega), (i + 1, true), by dsimp only; omega, ⟨rfl, rfl⟩, by dsimp only; omega, ?_⟩⟩
        · have := any_step (b := false) han (by constructor; (intro h; exact absurd h (by decide)); (intro h; exact absurd h hno)); rw [ha] at this; exact this
        · have := any_step (b := false) han (by constructor; (intro h; exact absurd h (by decide)); (intro h; exact absurd h hno)); rw [ha] at this; exact this
    · have k0 := Int.emod_nonneg (x - E) (show P ≠ 0 by omega)
      have k1 := Int.emod_lt_of_pos (x - E) (show 0 < P by omega)
      have hyes : an = true := by
        refine han.2 ⟨((x - E) % P).toNat, by omega, ?_⟩
        rw [Int.toNat_of_nonneg k0]
        refine (hit _).2 ?_
        have := Int.dvd_neg.2 (dvd_sub_emod (x - E) P)
        rwa [show -(x - E - (x - E) % P) = E + (x - E) % P - x by omega] at this
      subst hyes
      intro h
      exact absurd h (by decide)
end Go.Proofs.Ytpbnjoopgignoaa
