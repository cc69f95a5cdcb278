/- Contracts of the reference of package number: FloorDiv, Mod, Gcd, Lcm; the fixed examples. -/
import Derived.Test.YtlakekoekilbaaaRk
namespace Go.Proofs.Ytlakekoekilbaaa
set_option linter.unusedSimpArgs false
set_option linter.unusedVariables false
open Go.RowKit Go.Sort Go.Proofs.Ytlakekoekilbaaa.Vc

theorem rFloorDiv (a b : Int) (hb : 1 ≤ b) (hb2 : I64 b) (ha : I64 a) (R : RO) : CallsR Try.prog 16 [.int .i64 a, .int .i64 b] R fun _ v => v = .int .i64 (a / b) := by
  refine callsT mix Try.func16 comp16 (by simp [Try.ntmps16]) ?_; simp only [go_sem, ↓reduceIte, Nat.reduceEqDiff, Nat.reduceAdd, Nat.reduceMul, Nat.reduceLeDiff, Nat.reduceLT, Nat.reduceBNe, reduceCtorEq, vc16, rs16]
  unfold I64 at *
  refine ⟨fun h => ⟨by omega, ?_⟩, fun h => ?_⟩
  · have := ediv_bd a b hb
    rw [tdiv_nonneg' h (by omega)]
    exact ⟨_, W.in64 (by omega), rfl⟩
  · refine ⟨_, W.in64 (by omega), by omega, ?_⟩
    have := ediv_bd (-1 - a) b hb
    rw [tdiv_nonneg' (by omega) (by omega)]
    refine ⟨_, W.in64 (by omega), _, W.in64 (by omega), ?_⟩
    have h1 := Int.mul_ediv_add_emod (-1 - a) b
    have h2 := Int.emod_nonneg (-1 - a) (show b ≠ 0 by omega)
    have h3 := Int.emod_lt_of_pos (-1 - a) (show 0 < b by omega)
    have h4 : a / b = -1 - (-1 - a) / b := by
      refine ((Int.ediv_emod_unique (r := b - 1 - (-1 - a) % b) (show 0 < b by omega)).2 ⟨?_, by omega, by omega⟩).1
      rw [Int.mul_sub, Int.mul_neg, Int.mul_one]
      omega
    rw [h4]
theorem rMod (a b : Int) (hb : 1 ≤ b) (hb2 : I64 b) (ha : I64 a) (R : RO) : CallsR Try.prog 17 [.int .i64 a, .int .i64 b] R fun _ v => v = .int .i64 (a % b) := by
  refine callsT mix Try.func17 comp17 (by simp [Try.ntmps17]) ?_; simp only [go_sem, ↓reduceIte, Nat.reduceEqDiff, Nat.reduceAdd, Nat.reduceMul, Nat.reduceLeDiff, Nat.reduceLT, Nat.reduceBNe, reduceCtorEq, vc17, rs17]
  refine vcall (rFloorDiv a b hb hb2 ha R) ?_
  rintro R1 v hle rfl
  try simp only [go_sem, ↓reduceIte, Nat.reduceEqDiff, Nat.reduceAdd, Nat.reduceMul, Nat.reduceLeDiff, Nat.reduceLT, Nat.reduceBNe, reduceCtorEq]
  have h1 := Int.mul_ediv_add_emod a b
  have h2 := Int.emod_nonneg a (show b ≠ 0 by omega)
  have h3 := Int.emod_lt_of_pos a (show 0 < b by omega)
  rw [Int.mul_comm] at h1
  obtain ⟨q, hq⟩ : ∃ q, q = a / b * b := ⟨_, rfl⟩
  rw [← hq] at h1 ⊢
  unfold I64 at *
  refine ⟨_, W.mk _ _, _, W.mk _ _, ?_⟩
  simp only [IntKind.wrap_i64]
  congr 1
  omega
theorem rGcd (a b : Int) (ha : I64 a) (hb : I64 b) (R : RO) :
    CallsR Try.prog 22 [.int .i64 a, .int .i64 b] R fun _ v => v = .int .i64 (if 9223372036854775807 < Int.gcd a b then 0 else Int.gcd a b) := by
  unfold I64 at *
  have fin : ∀ (env : Nat → SV) (R1 : RO), env 5 = .val (.int .u64 a.natAbs) → env 6 = .val (.int .u64 b.natAbs) → True := fun _ _ _ _ => trivial
  refine callsT mix Try.func22 comp22 (by simp [Try.ntmps22]) ?_; simp only [go_sem, ↓reduceIte, Nat.reduceEqDiff, Nat.reduceAdd, Nat.reduceMul, Nat.reduceLeDiff, Nat.reduceLT, Nat.reduceBNe, reduceCtorEq, vc22, rs22]
  refine ⟨_, W.mod64 _, _, W.mod64 _, fun h1 => ⟨_, W.mod64 _, fun h2 => ⟨_, W.mod64 _, ?_⟩, fun h2 => ?_⟩, fun h1 => ⟨fun h2 => ⟨_, W.mod64 _, ?_⟩, fun h2 => ?_⟩⟩
  all_goals
    refine vcLoop (Nat × Nat) (fun x => [(5, .val (.int .u64 x.1)), (6, .val (.int .u64 x.2))]) (fun _ => []) (fun x _ => Nat.gcd x.1 x.2 = Int.gcd a b ∧ x.1 ≤ 9223372036854775808 ∧ x.2 ≤ 9223372036854775808) (fun x => x.2) (a.natAbs, b.natAbs) ?_ rfl ?_ ?_
    · simp only [go_sem, ↓reduceIte, Nat.reduceEqDiff, Nat.reduceAdd, Nat.reduceMul, Nat.reduceLeDiff, Nat.reduceLT, Nat.reduceBNe, reduceCtorEq]
      refine ⟨?_, ?_⟩ <;> (congr 2; omega)
    · exact ⟨rfl, by omega, by omega⟩
    · rintro ⟨x, y⟩ env R' hle hv ⟨hg, hx, hy⟩
      simp only [go_sem] at hv
      obtain ⟨h5, h6⟩ := hv
      simp only [go_sem, ↓reduceIte, Nat.reduceEqDiff, Nat.reduceAdd, Nat.reduceMul, Nat.reduceLeDiff, Nat.reduceLT, Nat.reduceBNe, reduceCtorEq, h5, h6]
      refine ⟨fun h => ?_, fun h => ?_⟩
      · refine ⟨by omega, (y, x % y), Nat.mod_lt _ (by omega), ⟨rfl, ?_⟩, ?_, by omega, ?_⟩
        · rw [tmod_nonneg' (by omega)]; rfl
        · rw [← hg]; simp only; rw [Nat.gcd_comm y, ← Nat.gcd_rec, Nat.gcd_comm]
        · have := Nat.mod_lt x (show 0 < y by omega); simp only; omega
      · have hy0 : y = 0 := by omega
        subst hy0
        simp only [Nat.gcd_zero_right] at hg
        subst hg
        refine ⟨fun h => ?_, fun h => ⟨_, W.in64 (by omega), ?_⟩⟩
        · rw [if_pos (by omega)]
        · rw [if_neg (by omega)]
theorem rLcm (a b : Int) (ha : I64 a) (hb : I64 b) (R : RO) :
    CallsR Try.prog 19 [.int .i64 a, .int .i64 b] R fun _ v => v = .tuple #[.int .i64 (lcmV a b), .int .i64 (lcmE a b)] := by
  refine callsT mix Try.func19 comp19 (by simp [Try.ntmps19]) ?_; simp only [go_sem, ↓reduceIte, Nat.reduceEqDiff, Nat.reduceAdd, Nat.reduceMul, Nat.reduceLeDiff, Nat.reduceLT, Nat.reduceBNe, reduceCtorEq, vc19, rs19]
  refine ⟨fun ha1 => ⟨fun hb1 => by simp [lcmV, lcmE, hb1], fun hb1 => ?_⟩, fun ha1 => by simp [lcmV, lcmE, ha1]⟩
  have h1 := gcd_le_left (a := a) b (by omega)
  have h2 := lcm_eq (a := a) (b := b) (by omega) (by omega)
  unfold I64 at *
  refine vcall (rGcd a b ha hb R) ?_
  rintro R1 v hle rfl
  rw [if_neg (by omega)]
  try simp only [go_sem, ↓reduceIte, Nat.reduceEqDiff, Nat.reduceAdd, Nat.reduceMul, Nat.reduceLeDiff, Nat.reduceLT, Nat.reduceBNe, reduceCtorEq]
  rw [tdiv_nonneg' (by omega) (by omega), tdiv_nonneg' (by omega) (by omega)]
  have h3 := Int.ediv_nonneg (show 0 ≤ a by omega) (show 0 ≤ (Int.gcd a b : Int) by omega)
  have h4 := Int.ediv_le_self (a := a) (Int.gcd a b) (by omega)
  have h5 := Int.ediv_nonneg (show (0 : Int) ≤ 1099511627776 by omega) (show 0 ≤ b by omega)
  have h6 := Int.ediv_le_self (a := 1099511627776) b (by omega)
  have h7 : 1099511627776 / b < a / (Int.gcd a b : Int) ↔ 1099511627776 < (Int.lcm a b : Int) := by
    rw [h2, Int.ediv_lt_iff_lt_mul (by omega)]
  refine ⟨by omega, _, W.in64 (by omega), by omega, _, W.in64 (by omega), fun h => ?_, fun h => ?_⟩
  · rw [h7] at h
    simp [lcmV, lcmE, ha1, hb1, h]
  · rw [h7] at h
    rw [← h2]
    refine ⟨_, W.in64 (by omega), ?_⟩
    simp [lcmV, lcmE, ha1, hb1, h]
/-- The product modulo m for small moduli. -/
theorem timesS {n : Int} (hn : n ≤ 2147483648) : TimesC n := fun a b m ha hb hm _ R => nTimesS a b m ha hb (by omega) R
theorem solve_at {a m b n x l : Int} {v : Value} (h : SolveP a m b n v) (hm : 1 ≤ m) (hn : 1 ≤ n) (hl : (Int.lcm m n : Int) = l) (hlb : l ≤ 1099511627776) (hd : (Int.gcd m n : Int) ∣ b - a) (hu : ∀ y : Int, 0 ≤ y → y < l → m ∣ y - a → n ∣ y - b → y = x) : v = .tuple #[.int .i64 x, .int .i64 l, .int .i64 0] := by
  rcases h with ⟨h1, _⟩ | ⟨_, h1, _⟩ | ⟨_, _, h1, _⟩ | ⟨_, _, _, y, h1, h2, h3, h4, rfl⟩
  · exact absurd ⟨hm, hn⟩ h1
  · exact absurd hd h1
  · omega
  · rw [hl] at h2 ⊢
    rw [hu y h1 h2 h3 h4]
theorem solve_none {a m b n : Int} {v : Value} (h : SolveP a m b n v) (hm : 1 ≤ m) (hn : 1 ≤ n) (hd : ¬ (Int.gcd m n : Int) ∣ b - a) : v = .tuple #[.int .i64 0, .int .i64 0, .int .i64 4] := by
  rcases h with ⟨h1, _⟩ | ⟨_, _, h1⟩ | ⟨_, h1, _⟩ | ⟨_, h1, _⟩
  · exact absurd ⟨hm, hn⟩ h1
  · exact h1
  · exact absurd h1 hd
  · exact absurd h1 hd
theorem nSanity (R : RO) : CallsR Try.prog 13 [] R fun _ v => v = .bool true := by
  refine callsT mix Try.func13 comp13 (by simp [Try.ntmps13]) ?_; simp only [go_sem, ↓reduceIte, Nat.reduceEqDiff, Nat.reduceAdd, Nat.reduceMul, Nat.reduceLeDiff, Nat.reduceLT, Nat.reduceBNe, reduceCtorEq, vc13, rs13]
  refine vcall (nFloorDiv (-7) 3 (by decide) (by decide) R) ?_
  rintro R1 v hle rfl
  try simp only [go_sem, ↓reduceIte, Nat.reduceEqDiff, Nat.reduceAdd, Nat.reduceMul, Nat.reduceLeDiff, Nat.reduceLT, Nat.reduceBNe, reduceCtorEq, Int.reduceLE, Int.reduceLT, Int.reduceToNat, Int.cast_ofNat_Int, Int.reduceEq, Int.reduceNe]
  refine vcall (nMod (-7) 3 (by decide) (by decide) _) ?_
  rintro R2 v hle rfl
  try simp only [go_sem, ↓reduceIte, Nat.reduceEqDiff, Nat.reduceAdd, Nat.reduceMul, Nat.reduceLeDiff, Nat.reduceLT, Nat.reduceBNe, reduceCtorEq, Int.reduceLE, Int.reduceLT, Int.reduceToNat, Int.cast_ofNat_Int, Int.reduceEq, Int.reduceNe]
  refine vcall (nSolve 2 3 3 5 (by decide) (by decide) (by decide) (by decide) (timesS (by decide)) _) ?_
  rintro R3 v hle hv
  obtain rfl := solve_at (x := 8) (l := 15) hv (by decide) (by decide) (by decide +kernel) (by decide) (by rw [show Int.gcd 3 5 = 1 by decide +kernel]; exact Int.one_dvd _) (fun y h1 h2 h3 h4 => by omega)
  try simp only [go_sem, ↓reduceIte, Nat.reduceEqDiff, Nat.reduceAdd, Nat.reduceMul, Nat.reduceLeDiff, Nat.reduceLT, Nat.reduceBNe, reduceCtorEq, Int.reduceLE, Int.reduceLT, Int.reduceToNat, Int.cast_ofNat_Int, Int.reduceEq, Int.reduceNe]
  refine vcall (nSolve 1 4 2 6 (by decide) (by decide) (by decide) (by decide) (timesS (by decide)) _) ?_
  rintro R4 v hle hv
  obtain rfl := solve_none hv (by decide) (by decide) (by rw [show Int.gcd 4 6 = 2 by decide +kernel]; decide)
  try simp only [go_sem, ↓reduceIte, Nat.reduceEqDiff, Nat.reduceAdd, Nat.reduceMul, Nat.reduceLeDiff, Nat.reduceLT, Nat.reduceBNe, reduceCtorEq, Int.reduceLE, Int.reduceLT, Int.reduceToNat, Int.cast_ofNat_Int, Int.reduceEq, Int.reduceNe]
  refine vcall (nLcm 1099511627776 3 (by decide) (by decide) _) ?_
  rintro R5 v hle rfl
  rw [show lcmE 1099511627776 3 = 2 by decide +kernel, show lcmV 1099511627776 3 = 0 by decide +kernel]
  try simp only [go_sem, ↓reduceIte, Nat.reduceEqDiff, Nat.reduceAdd, Nat.reduceMul, Nat.reduceLeDiff, Nat.reduceLT, Nat.reduceBNe, reduceCtorEq, Int.reduceLE, Int.reduceLT, Int.reduceToNat, Int.cast_ofNat_Int, Int.reduceEq, Int.reduceNe]
  have q1 : (-7 : Int) / 3 = -3 := by decide
  have q2 : (-7 : Int) % 3 = 2 := by decide
  simp only [go_sem, ↓reduceIte, Nat.reduceEqDiff, Nat.reduceAdd, Nat.reduceMul, Nat.reduceLeDiff, Nat.reduceLT, Nat.reduceBNe, reduceCtorEq, q1, q2]
  refine vcall (nGcd (-12) 18 (by decide) (by decide) _) ?_
  rintro R6 v hle6 rfl
  rw [show Int.gcd (-12) 18 = 6 by decide +kernel]
  try simp only [go_sem, ↓reduceIte, Nat.reduceEqDiff, Nat.reduceAdd, Nat.reduceMul, Nat.reduceLeDiff, Nat.reduceLT, Nat.reduceBNe, reduceCtorEq, Int.reduceLE, Int.reduceLT, Int.reduceToNat, Int.cast_ofNat_Int, Int.reduceEq, Int.reduceNe]
  refine vlend fun β κ R7 hL => ⟨_, nRanks [5, 2, 5, -1] _ R7 (lend_ints (j := 0) (T := 3) (xs := [5, 2, 5, -1]) hL rfl) (by decide), ?_⟩
  rintro R8 v R9 hle8 ⟨hv1, hn1⟩ hle9 hfr
  have hi := ints_keep hv1 hn1 hfr
  try simp only [go_sem, ↓reduceIte, Nat.reduceEqDiff, Nat.reduceAdd, Nat.reduceMul, Nat.reduceLeDiff, Nat.reduceLT, Nat.reduceBNe, reduceCtorEq, Int.reduceLE, Int.reduceLT, Int.reduceToNat, Int.cast_ofNat_Int, Int.reduceEq, Int.reduceNe]
  have hrk : ([5, 2, 5, -1].map fun x => (rank [5, 2, 5, -1] x : Int)) = [2, 1, 2, 0] := by decide
  rw [hrk] at hi
  refine vlend fun β κ R10 hL => ⟨_, nSame [2, 1, 2, 0] [2, 1, 2, 0] v _ R10 (hi.mono hL.1) (lend_ints (j := 1) (T := 3) (xs := [2, 1, 2, 0]) hL rfl) (by decide), ?_⟩
  rintro R11 v R12 hle8 rfl hle9 hfr
  try simp only [go_sem, ↓reduceIte, Nat.reduceEqDiff, Nat.reduceAdd, Nat.reduceMul, Nat.reduceLeDiff, Nat.reduceLT, Nat.reduceBNe, reduceCtorEq, Int.reduceLE, Int.reduceLT, Int.reduceToNat, Int.cast_ofNat_Int, Int.reduceEq, Int.reduceNe]
end Go.Proofs.Ytlakekoekilbaaa
