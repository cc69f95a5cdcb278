/- Contracts of package number's functions: the least common multiple. -/
import Derived.Test.YtlakekoekilbaaaNa
namespace Go.Proofs.Ytlakekoekilbaaa
set_option linter.unusedSimpArgs false
set_option linter.unusedVariables false
open Go.Proofs.Ytlakekoekilbaaa.Vc

theorem gcd_le_left {a : Int} (b : Int) (ha : 1 ≤ a) : 1 ≤ (Int.gcd a b : Int) ∧ (Int.gcd a b : Int) ≤ a := by
  have h1 : 0 < Int.gcd a b := Int.gcd_pos_of_ne_zero_left b (by omega)
  have h2 : (Int.gcd a b : Int) ∣ a := Int.gcd_dvd_left a b
  exact ⟨by omega, Int.le_of_dvd (by omega) h2⟩
theorem lcm_eq {a b : Int} (ha : 1 ≤ a) (hb : 1 ≤ b) : (Int.lcm a b : Int) = a / (Int.gcd a b : Int) * b := by
  have h1 := Int.gcd_mul_lcm a b
  have hg := gcd_le_left b ha
  have h2 : (Int.gcd a b : Int) ∣ a := Int.gcd_dvd_left a b
  have h3 : ((Int.gcd a b * Int.lcm a b : Nat) : Int) = a * b := by
    rw [h1]
    push_cast
    rw [Int.natAbs_of_nonneg (by omega), Int.natAbs_of_nonneg (by omega)]
  push_cast at h3
  obtain ⟨q, hq⟩ := h2
  have hq2 : a / (Int.gcd a b : Int) = q := by
    have : a / (Int.gcd a b : Int) = (Int.gcd a b * q) / (Int.gcd a b : Int) := by rw [← hq]
    rw [this]
    exact Int.mul_ediv_cancel_left _ (show (Int.gcd a b : Int) ≠ 0 by omega)
  rw [hq2]
  have h4 : (Int.gcd a b : Int) * Int.lcm a b = Int.gcd a b * (q * b) := by
    rw [h3, ← Int.mul_assoc, ← hq]
  exact Int.eq_of_mul_eq_mul_left (show (Int.gcd a b : Int) ≠ 0 by omega) h4
def lcmE (a b : Int) : Int := if a < 1 ∨ b < 1 then 1 else if 1099511627776 < (Int.lcm a b : Int) then 2 else 0
def lcmV (a b : Int) : Int := if lcmE a b = 0 then Int.lcm a b else 0
theorem nLcm (a b : Int) (ha : I64 a) (hb : I64 b) (R : RO) :
    CallsR Try.prog 18 [.int .i64 a, .int .i64 b] R fun _ v => v = .tuple #[.int .i64 (lcmV a b), .int .i64 (lcmE a b)] := by
  refine callsT mix Try.func18 comp18 (by simp [Try.ntmps18]) ?_; simp only [go_sem, ↓reduceIte, Nat.reduceEqDiff, Nat.reduceAdd, Nat.reduceMul, Nat.reduceLeDiff, Nat.reduceLT, Nat.reduceBNe, reduceCtorEq, vc18, rs18]
  refine ⟨fun ha1 => ⟨fun hb1 => by simp [lcmV, lcmE, hb1], fun hb1 => ?_⟩, fun ha1 => by simp [lcmV, lcmE, ha1]⟩
  have h1 := gcd_le_left (a := a) b (by omega)
  have h2 := lcm_eq (a := a) (b := b) (by omega) (by omega)
  unfold I64 at *
  refine vcall (nGcd a b ha hb R) ?_
  rintro R1 v hle rfl
  rw [if_neg (by omega)]
  try simp only [go_sem, ↓reduceIte, Nat.reduceEqDiff, Nat.reduceAdd, Nat.reduceMul, Nat.reduceLeDiff, Nat.reduceLT, Nat.reduceBNe, reduceCtorEq]
  rw [tdiv_nonneg' (by omega) (by omega), tdiv_nonneg' (by omega) (by omega)]
  have h3 := Int.ediv_nonneg (show 0 ≤ a by omega) (show 0 ≤ (Int.gcd a b : Int) by omega)
  have h4 := Int.ediv_le_self (a := a) (Int.gcd a b) (by omega)
  have h5 := Int.ediv_nonneg (show (0 : Int) ≤ 1099511627776 by omega) (show 0 ≤ b by omega)
  have h6 := Int.ediv_le_self (a := 1099511627776) b (by omega)
  have h7 : 1099511627776 / b < a / (Int.gcd a b : Int) ↔ 1099511627776 < (Int.lcm a b : Int) := by
    rw [h2, Int.ediv_lt_iff_lt_mul (by omega)]
  refine ⟨by omega, _, W.in64 (by omega), by omega, _, W.in64 (by omega), fun h => ?_, fun h => ?_⟩
  · rw [h7] at h
    simp [lcmV, lcmE, ha1, hb1, h]
  · rw [h7] at h
    rw [← h2]
    refine ⟨_, W.in64 (by omega), ?_⟩
    simp [lcmV, lcmE, ha1, hb1, h]
end Go.Proofs.Ytlakekoekilbaaa
