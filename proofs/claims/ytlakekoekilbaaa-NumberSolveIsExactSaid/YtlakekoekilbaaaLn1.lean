/- Laws of package number, as contracts of the statements' functions: division, the greatest common divisor, the least common multiple. -/
import Derived.Test.YtlakekoekilbaaaSn
namespace Go.Proofs.Ytlakekoekilbaaa
set_option linter.unusedSimpArgs false
set_option linter.unusedVariables false
open Go.RowKit Go.Sort Go.Proofs.Ytlakekoekilbaaa.Vc

theorem lDivision (a b : Int) (ha : I64 a) (hb : I64 b) (R : RO) : CallsR Try.prog 5 [.int .i64 a, .int .i64 b] R fun _ v => v = .bool true := by
  refine callsT mix Try.func5 comp5 (by simp [Try.ntmps5]) ?_; simp only [go_sem, ↓reduceIte, Nat.reduceEqDiff, Nat.reduceAdd, Nat.reduceMul, Nat.reduceLeDiff, Nat.reduceLT, Nat.reduceBNe, reduceCtorEq, vc5, rs5]
  refine vcall (nSanity R) ?_
  rintro R1 v hle rfl
  try simp only [go_sem, ↓reduceIte, Nat.reduceEqDiff, Nat.reduceAdd, Nat.reduceMul, Nat.reduceLeDiff, Nat.reduceLT, Nat.reduceBNe, reduceCtorEq, Int.reduceLE, Int.reduceLT, Int.reduceToNat, Int.cast_ofNat_Int, Int.reduceEq, Int.reduceNe]
  refine vcall (nFloorDiv a b hb ha _) ?_
  rintro R2 v hle rfl
  try simp only [go_sem, ↓reduceIte, Nat.reduceEqDiff, Nat.reduceAdd, Nat.reduceMul, Nat.reduceLeDiff, Nat.reduceLT, Nat.reduceBNe, reduceCtorEq, Int.reduceLE, Int.reduceLT, Int.reduceToNat, Int.cast_ofNat_Int, Int.reduceEq, Int.reduceNe]
  refine vcall (nMod a b hb ha _) ?_
  rintro R3 v hle rfl
  unfold I64 at *
  by_cases h : b < 1
  · simp only [h, if_true]
    try simp only [go_sem, ↓reduceIte, Nat.reduceEqDiff, Nat.reduceAdd, Nat.reduceMul, Nat.reduceLeDiff, Nat.reduceLT, Nat.reduceBNe, reduceCtorEq, Int.reduceLE, Int.reduceLT, Int.reduceToNat, Int.cast_ofNat_Int, Int.reduceEq, Int.reduceNe]
    exact fun h' => absurd h h'
  · have h1 := Int.mul_ediv_add_emod a b
    have h2 := Int.emod_nonneg a (show b ≠ 0 by omega)
    have h3 := Int.emod_lt_of_pos a (show 0 < b by omega)
    simp only [h, if_false]
    try simp only [go_sem, ↓reduceIte, Nat.reduceEqDiff, Nat.reduceAdd, Nat.reduceMul, Nat.reduceLeDiff, Nat.reduceLT, Nat.reduceBNe, reduceCtorEq, h, h2, h3]
    refine ⟨_, W.mk _ _, _, W.mk _ _, fun h' => absurd ?_ h'⟩
    simp only [IntKind.wrap_i64]
    rw [Int.mul_comm] at h1
    omega
/-- What Gcd returns. -/
def gcdV (a b : Int) : Int := if 9223372036854775807 < Int.gcd a b then 0 else Int.gcd a b
theorem nGcdV (a b : Int) (ha : I64 a) (hb : I64 b) (R : RO) : CallsR Try.prog 21 [.int .i64 a, .int .i64 b] R fun _ v => v = .int .i64 (gcdV a b) := nGcd a b ha hb R
theorem gcdV_comm (a b : Int) : gcdV b a = gcdV a b := by unfold gcdV; rw [Int.gcd_comm]
theorem gcdV_neg (a b : Int) : gcdV (-a) b = gcdV a b := by unfold gcdV; rw [Int.neg_gcd]
theorem gcdV_nonneg (a b : Int) : 0 ≤ gcdV a b := by unfold gcdV; split <;> omega
theorem gcdV_le (a b : Int) : gcdV a b ≤ 9223372036854775807 := by unfold gcdV; split <;> omega
theorem gcdV_eq {a b : Int} (ha : I64 a) (hb : I64 b) (h1 : a ≠ -9223372036854775808) (h2 : b ≠ -9223372036854775808) (h0 : ¬ (a = 0 ∧ b = 0)) : gcdV a b = Int.gcd a b ∧ 1 ≤ gcdV a b := by
  unfold I64 at *
  have hpos : 0 < Int.gcd a b := by
    rcases Nat.eq_zero_or_pos (Int.gcd a b) with h | h
    · exact absurd (Int.gcd_eq_zero_iff.1 h) h0
    · exact h
  have hle : (Int.gcd a b : Int) ≤ 9223372036854775807 := by
    by_cases ha0 : a = 0
    · have : Int.gcd a b ≤ b.natAbs := Int.gcd_le_natAbs_right a (by omega)
      omega
    · have : Int.gcd a b ≤ a.natAbs := Int.gcd_le_natAbs_left b (by omega)
      omega
  unfold gcdV
  rw [if_neg (by omega)]
  exact ⟨rfl, by omega⟩
theorem lLcmIsLeast (a b : Int) (ha : I64 a) (hb : I64 b) (R : RO) : CallsR Try.prog 7 [.int .i64 a, .int .i64 b] R fun _ v => v = .bool true := by
  refine callsT mix Try.func7 comp7 (by simp [Try.ntmps7]) ?_; simp only [go_sem, ↓reduceIte, Nat.reduceEqDiff, Nat.reduceAdd, Nat.reduceMul, Nat.reduceLeDiff, Nat.reduceLT, Nat.reduceBNe, reduceCtorEq, vc7, rs7]
  refine vcall (nSanity R) ?_
  rintro R1 v hle rfl
  try simp only [go_sem, ↓reduceIte, Nat.reduceEqDiff, Nat.reduceAdd, Nat.reduceMul, Nat.reduceLeDiff, Nat.reduceLT, Nat.reduceBNe, reduceCtorEq, Int.reduceLE, Int.reduceLT, Int.reduceToNat, Int.cast_ofNat_Int, Int.reduceEq, Int.reduceNe]
  refine vcall (nLcm a b ha hb _) ?_
  rintro R2 v hle rfl
  by_cases hlt : a < 1 ∨ b < 1
  · have e1 : lcmE a b = 1 := by unfold lcmE; rw [if_pos hlt]
    have e2 : lcmV a b = 0 := by unfold lcmV; rw [e1]; rfl
    rw [e1, e2]
    try simp only [go_sem, ↓reduceIte, Nat.reduceEqDiff, Nat.reduceAdd, Nat.reduceMul, Nat.reduceLeDiff, Nat.reduceLT, Nat.reduceBNe, reduceCtorEq, Int.reduceLE, Int.reduceLT, Int.reduceToNat, Int.cast_ofNat_Int, Int.reduceEq, Int.reduceNe]
    exact fun h1 h2 => by omega
  · have h1 := gcd_le_left (a := a) b (by omega)
    have h2 := lcm_eq (a := a) (b := b) (by omega) (by omega)
    have hg := gcdV_eq ha hb (by omega) (by omega) (by omega)
    have h3 := Int.ediv_nonneg (show 0 ≤ a by omega) (show 0 ≤ (Int.gcd a b : Int) by omega)
    have h4 := Int.ediv_le_self (a := a) (Int.gcd a b) (by omega)
    have h5 := Int.ediv_nonneg (show (0 : Int) ≤ 1099511627776 by omega) (show 0 ≤ b by omega)
    have h6 := Int.ediv_le_self (a := 1099511627776) b (by omega)
    have h7 : 1099511627776 / b < a / (Int.gcd a b : Int) ↔ 1099511627776 < (Int.lcm a b : Int) := by
      rw [h2, Int.ediv_lt_iff_lt_mul (by omega)]
    have hle1 : lcmE a b = if 1099511627776 < (Int.lcm a b : Int) then 2 else 0 := by unfold lcmE; rw [if_neg hlt]
    have hle2 : lcmV a b = if 1099511627776 < (Int.lcm a b : Int) then 0 else (Int.lcm a b : Int) := by unfold lcmV; rw [hle1]; split <;> simp
    have t1 : (Int.lcm a b : Int).tmod a = 0 := Int.tmod_eq_zero_of_dvd (Int.dvd_lcm_left a b)
    have t2 : (Int.lcm a b : Int).tmod b = 0 := Int.tmod_eq_zero_of_dvd (Int.dvd_lcm_right a b)
    try simp only [go_sem, ↓reduceIte, Nat.reduceEqDiff, Nat.reduceAdd, Nat.reduceMul, Nat.reduceLeDiff, Nat.reduceLT, Nat.reduceBNe, reduceCtorEq, Int.reduceLE, Int.reduceLT, Int.reduceToNat, Int.cast_ofNat_Int, Int.reduceEq, Int.reduceNe]
    refine ⟨fun _ => ⟨fun h => by omega, fun _ => vcall (nGcdV a b ha hb _) ?_⟩, fun h => by omega⟩
    rintro R3 v hle3 rfl
    rw [hg.1]
    try simp only [go_sem, ↓reduceIte, Nat.reduceEqDiff, Nat.reduceAdd, Nat.reduceMul, Nat.reduceLeDiff, Nat.reduceLT, Nat.reduceBNe, reduceCtorEq, Int.reduceLE, Int.reduceLT, Int.reduceToNat, Int.cast_ofNat_Int, Int.reduceEq, Int.reduceNe]
    rw [tdiv_nonneg' (by omega) (by omega), tdiv_nonneg' (by omega) (by omega)]
    unfold I64 at *
    refine ⟨fun h => by omega, fun _ => ⟨by omega, _, W.in64 (by omega), by omega, _, W.in64 (by omega), fun h => ?_, fun h => ?_⟩⟩
    · rw [h7] at h
      rw [if_pos h] at hle1 hle2
      rw [hle1, hle2]
      try simp only [go_sem, ↓reduceIte, Nat.reduceEqDiff, Nat.reduceAdd, Nat.reduceMul, Nat.reduceLeDiff, Nat.reduceLT, Nat.reduceBNe, reduceCtorEq, Int.reduceLE, Int.reduceLT, Int.reduceToNat, Int.cast_ofNat_Int, Int.reduceEq, Int.reduceNe]
    · rw [h7] at h
      rw [if_neg h] at hle1 hle2
      rw [hle1, hle2]
      try simp only [go_sem, ↓reduceIte, Nat.reduceEqDiff, Nat.reduceAdd, Nat.reduceMul, Nat.reduceLeDiff, Nat.reduceLT, Nat.reduceBNe, reduceCtorEq, Int.reduceLE, Int.reduceLT, Int.reduceToNat, Int.cast_ofNat_Int, Int.reduceEq, Int.reduceNe]
      refine ⟨by omega, _, W.in64 (by omega), _, (by rw [← h2]; exact W.in64 (by omega)), fun _ => ⟨by omega, fun _ => ⟨by omega, fun h => absurd t2 h⟩, fun h => absurd t1 h⟩, fun h => absurd rfl h⟩
theorem lGcdIsGreatest (a b d : Int) (ha : I64 a) (hb : I64 b) (hd : I64 d) (R : RO) : CallsR Try.prog 6 [.int .i64 a, .int .i64 b, .int .i64 d] R fun _ v => v = .bool true := by
  refine callsT mix Try.func6 comp6 (by simp [Try.ntmps6]) ?_; simp only [go_sem, ↓reduceIte, Nat.reduceEqDiff, Nat.reduceAdd, Nat.reduceMul, Nat.reduceLeDiff, Nat.reduceLT, Nat.reduceBNe, reduceCtorEq, vc6, rs6]
  refine vcall (nSanity R) ?_
  rintro R1 v hle rfl
  try simp only [go_sem, ↓reduceIte, Nat.reduceEqDiff, Nat.reduceAdd, Nat.reduceMul, Nat.reduceLeDiff, Nat.reduceLT, Nat.reduceBNe, reduceCtorEq, Int.reduceLE, Int.reduceLT, Int.reduceToNat, Int.cast_ofNat_Int, Int.reduceEq, Int.reduceNe]
  refine vcall (nGcdV a b ha hb _) ?_
  rintro R2 v hle rfl
  have g0 := gcdV_nonneg a b
  have g1 : a = 0 ∧ b = 0 → gcdV a b = 0 := by rintro ⟨rfl, rfl⟩; rfl
  have g2 : ¬ (a = 0 ∧ b = 0) ∧ a ≠ -9223372036854775808 ∧ b ≠ -9223372036854775808 → 1 ≤ gcdV a b := fun h => (gcdV_eq ha hb h.2.1 h.2.2 h.1).2
  have t0 : ¬ (a = 0 ∧ b = 0) ∧ a ≠ -9223372036854775808 ∧ b ≠ -9223372036854775808 → a.tmod (gcdV a b) = 0 ∧ b.tmod (gcdV a b) = 0 := fun h => by
    rw [(gcdV_eq ha hb h.2.1 h.2.2 h.1).1]
    exact ⟨Int.tmod_eq_zero_of_dvd (Int.gcd_dvd_left a b), Int.tmod_eq_zero_of_dvd (Int.gcd_dvd_right a b)⟩
  have t1 : ¬ (a = 0 ∧ b = 0) ∧ a ≠ -9223372036854775808 ∧ b ≠ -9223372036854775808 → a.tmod d = 0 ∧ b.tmod d = 0 → (gcdV a b).tmod d = 0 := fun h k => by
    rw [(gcdV_eq ha hb h.2.1 h.2.2 h.1).1]
    exact Int.tmod_eq_zero_of_dvd (Int.dvd_coe_gcd (Int.dvd_of_tmod_eq_zero k.1) (Int.dvd_of_tmod_eq_zero k.2))
  have wa1 : a ≠ -9223372036854775808 → IntKind.i64.wrap (0 - a) = -a := fun h => by unfold I64 at *; rw [IntKind.wrap_i64]; omega
  have wa2 : a = -9223372036854775808 → IntKind.i64.wrap (0 - a) = a := fun h => by subst h; rfl
  have wb1 : b ≠ -9223372036854775808 → IntKind.i64.wrap (0 - b) = -b := fun h => by unfold I64 at *; rw [IntKind.wrap_i64]; omega
  have wb2 : b = -9223372036854775808 → IntKind.i64.wrap (0 - b) = b := fun h => by subst h; rfl
  try simp only [go_sem, ↓reduceIte, Nat.reduceEqDiff, Nat.reduceAdd, Nat.reduceMul, Nat.reduceLeDiff, Nat.reduceLT, Nat.reduceBNe, reduceCtorEq, Int.reduceLE, Int.reduceLT, Int.reduceToNat, Int.cast_ofNat_Int, Int.reduceEq, Int.reduceNe]
  unfold I64 at *
  repeat' (with_reducible first | refine And.intro ?_ ?_ | intro _ | refine Exists.intro _ (And.intro (W.mk _ _) ?_))
  all_goals (try (first | omega | (exfalso; omega)))
  all_goals (try (refine vcall (nGcdV b a hb ha _) ?_; rintro R3 v hle3 rfl; rw [gcdV_comm a b]; try simp only [go_sem, ↓reduceIte, Nat.reduceEqDiff, Nat.reduceAdd, Nat.reduceMul, Nat.reduceLeDiff, Nat.reduceLT, Nat.reduceBNe, reduceCtorEq, Int.reduceLE, Int.reduceLT, Int.reduceToNat, Int.cast_ofNat_Int, Int.reduceEq, Int.reduceNe]))
  all_goals (try (rw [wa1 (by omega)]))
  all_goals repeat' (with_reducible first | refine And.intro ?_ ?_ | intro _ | refine Exists.intro _ (And.intro (W.mk _ _) ?_))
  all_goals (try (first | omega | (exfalso; omega)))
  all_goals (try (rw [wa1 (by omega)]; refine vcall (nGcdV (-a) b (by unfold I64; omega) hb _) ?_; rintro R4 v hle4 rfl; rw [gcdV_neg]; try simp only [go_sem, ↓reduceIte, Nat.reduceEqDiff, Nat.reduceAdd, Nat.reduceMul, Nat.reduceLeDiff, Nat.reduceLT, Nat.reduceBNe, reduceCtorEq, Int.reduceLE, Int.reduceLT, Int.reduceToNat, Int.cast_ofNat_Int, Int.reduceEq, Int.reduceNe]))
  all_goals repeat' (with_reducible first | refine And.intro ?_ ?_ | intro _ | refine Exists.intro _ (And.intro (W.mk _ _) ?_))
  all_goals (try (first | omega | (exfalso; omega)))
end Go.Proofs.Ytlakekoekilbaaa
