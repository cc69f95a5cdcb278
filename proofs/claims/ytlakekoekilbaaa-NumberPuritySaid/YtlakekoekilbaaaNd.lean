/- Contracts of package number's functions: Solve. -/
import Derived.Test.YtlakekoekilbaaaNc
namespace Go.Proofs.Ytlakekoekilbaaa
set_option linter.unusedSimpArgs false
set_option linter.unusedVariables false
open Go.RowKit Go.Proofs.Ytlakekoekilbaaa.Vc

theorem nDiv64s (lo y : Int) (hl : 0 ≤ lo ∧ lo ≤ 18446744073709551615) (hy : 1 ≤ y) (R : RO) :
    CallsR Try.prog 52 [.int .u64 0, .int .u64 lo, .int .u64 y] R fun _ v => v = .tuple #[.int .u64 (lo / y), .int .u64 (lo % y)] := by
  refine callsT mix Try.func52 comp52 (by simp [Try.ntmps52]) ?_; simp only [go_sem, ↓reduceIte, Nat.reduceEqDiff, Nat.reduceAdd, Nat.reduceMul, Nat.reduceLeDiff, Nat.reduceLT, Nat.reduceBNe, reduceCtorEq, vc52, rs52]
  have h1 := Int.ediv_nonneg hl.1 (show 0 ≤ y by omega)
  have h2 := Int.ediv_le_self y hl.1
  rw [tdiv_nonneg' hl.1 (by omega), Int.tmod_eq_emod_of_nonneg hl.1]
  exact ⟨fun h => by omega, fun _ => ⟨fun h => by omega, fun _ => ⟨by omega, _, W.u64 (by omega), by omega, rfl⟩⟩⟩
theorem nRem64s (lo y : Int) (hl : 0 ≤ lo ∧ lo ≤ 18446744073709551615) (hy : 1 ≤ y) (R : RO) : CallsR Try.prog 47 [.int .u64 0, .int .u64 lo, .int .u64 y] R fun _ v => v = .int .u64 (lo % y) := by
  refine callsT mix Try.func47 comp47 (by simp [Try.ntmps47]) ?_; simp only [go_sem, ↓reduceIte, Nat.reduceEqDiff, Nat.reduceAdd, Nat.reduceMul, Nat.reduceLeDiff, Nat.reduceLT, Nat.reduceBNe, reduceCtorEq, vc47, rs47]
  refine ⟨by omega, ?_⟩
  rw [Int.zero_tmod]
  refine vcall (nDiv64s lo y hl hy R) ?_
  rintro R1 v hle rfl
  try simp only [go_sem, ↓reduceIte, Nat.reduceEqDiff, Nat.reduceAdd, Nat.reduceMul, Nat.reduceLeDiff, Nat.reduceLT, Nat.reduceBNe, reduceCtorEq]
theorem nTimesS (a b m : Int) (ha : 0 ≤ a ∧ a < m) (hb : 0 ≤ b ∧ b < m) (hm : m ≤ 2147483648) (R : RO) :
    CallsR Try.prog 39 [.int .i64 a, .int .i64 b, .int .i64 m] R fun _ v => v = .int .i64 (a * b % m) := by
  refine callsT mix Try.func39 comp39 (by simp [Try.ntmps39]) ?_; simp only [go_sem, ↓reduceIte, Nat.reduceEqDiff, Nat.reduceAdd, Nat.reduceMul, Nat.reduceLeDiff, Nat.reduceLT, Nat.reduceBNe, reduceCtorEq, vc39, rs39]
  refine ⟨_, W.u64 (by omega), _, W.u64 (by omega), ?_⟩
  have hab : 0 ≤ a * b := Int.mul_nonneg ha.1 hb.1
  have hab2 : a * b ≤ 2147483648 * 2147483648 := Int.mul_le_mul (by omega) (by omega) hb.1 (by decide)
  obtain ⟨x, rfl⟩ := Int.eq_ofNat_of_zero_le ha.1
  obtain ⟨y, rfl⟩ := Int.eq_ofNat_of_zero_le hb.1
  refine vcall (nMul64 x y (by omega) (by omega) R) ?_
  rintro R1 v hle rfl
  rw [mulN] at hab2
  rw [mulN, Nat.div_eq_of_lt (by omega), Nat.mod_eq_of_lt (by omega)]
  try simp only [go_sem, ↓reduceIte, Nat.reduceEqDiff, Nat.reduceAdd, Nat.reduceMul, Nat.reduceLeDiff, Nat.reduceLT, Nat.reduceBNe, reduceCtorEq]
  refine ⟨_, W.u64 (by omega), ?_⟩
  simp only [Int.natCast_zero]
  refine vcall (nRem64s ((x * y : Nat) : Int) m (by omega) (by omega) R1) ?_
  rintro R2 v hle2 rfl
  try simp only [go_sem, ↓reduceIte, Nat.reduceEqDiff, Nat.reduceAdd, Nat.reduceMul, Nat.reduceLeDiff, Nat.reduceLT, Nat.reduceBNe, reduceCtorEq]
  have h1 := Int.emod_nonneg ((x * y : Nat) : Int) (show m ≠ 0 by omega)
  have h2 := Int.emod_lt_of_pos ((x * y : Nat) : Int) (show 0 < m by omega)
  exact ⟨_, W.in64 (by omega), rfl⟩
/-- What the product modulo m is asked to be. -/
def TimesC (n : Int) : Prop := ∀ (a b m : Int), (0 ≤ a ∧ a < m) → (0 ≤ b ∧ b < m) → m ≤ n → m ≤ 1099511627776 → ∀ R : RO, CallsR Try.prog 39 [.int .i64 a, .int .i64 b, .int .i64 m] R fun _ v => v = .int .i64 (a * b % m)
def SolveP (a m b n : Int) (v : Value) : Prop :=
  (¬ (1 ≤ m ∧ 1 ≤ n) ∧ v = .tuple #[.int .i64 0, .int .i64 0, .int .i64 1]) ∨
  ((1 ≤ m ∧ 1 ≤ n) ∧ ¬ (Int.gcd m n : Int) ∣ b - a ∧ v = .tuple #[.int .i64 0, .int .i64 0, .int .i64 4]) ∨
  ((1 ≤ m ∧ 1 ≤ n) ∧ (Int.gcd m n : Int) ∣ b - a ∧ 1099511627776 < (Int.lcm m n : Int) ∧ v = .tuple #[.int .i64 0, .int .i64 0, .int .i64 2]) ∨
  ((1 ≤ m ∧ 1 ≤ n) ∧ (Int.gcd m n : Int) ∣ b - a ∧ (Int.lcm m n : Int) ≤ 1099511627776 ∧ ∃ x : Int, 0 ≤ x ∧ x < Int.lcm m n ∧ m ∣ x - a ∧ n ∣ x - b ∧ v = .tuple #[.int .i64 x, .int .i64 (Int.lcm m n), .int .i64 0])
theorem dvd_sub_emod (x n : Int) : n ∣ x - x % n := ⟨x / n, by have := Int.mul_ediv_add_emod x n; omega⟩
theorem solve_dvd {N M k D D' M' inv : Int} (h1 : N ∣ D' * inv - k) (h2 : N ∣ D - D') (h3 : N ∣ inv * M' - 1) (h4 : N ∣ M - M') : N ∣ M * k - D := by
  have e : M * k - D = M * inv * (D' - D) - M * (D' * inv - k) + D * ((inv * M' - 1) + inv * (M - M')) := by grind
  rw [e]
  refine Int.dvd_add (Int.dvd_sub (Int.dvd_mul_of_dvd_right ?_) (Int.dvd_mul_of_dvd_right h1)) (Int.dvd_mul_of_dvd_right (Int.dvd_add h3 (Int.dvd_mul_of_dvd_right h4)))
  have := Int.dvd_neg.2 h2
  rwa [Int.neg_sub] at this
theorem nSolve (a m b n : Int) (ha : I64 a) (hm : I64 m) (hb : I64 b) (hn : I64 n) (ht : TimesC n) (R : RO) :
    CallsR Try.prog 28 [.int .i64 a, .int .i64 m, .int .i64 b, .int .i64 n] R fun _ v => SolveP a m b n v := by
  refine callsT mix Try.func28 comp28 (by simp [Try.ntmps28]) ?_; simp only [go_sem, ↓reduceIte, Nat.reduceEqDiff, Nat.reduceAdd, Nat.reduceMul, Nat.reduceLeDiff, Nat.reduceLT, Nat.reduceBNe, reduceCtorEq, vc28, rs28]
  have bad : ¬ (1 ≤ m ∧ 1 ≤ n) → SolveP a m b n (.tuple #[.int .i64 0, .int .i64 0, .int .i64 1]) := fun h => .inl ⟨h, rfl⟩
  refine ⟨fun h1 => ⟨fun h2 => bad (by omega), fun h2 => ?_⟩, fun h1 => bad (by omega)⟩
  have hg := gcd_le_left (a := m) n (by omega)
  have hgn : (Int.gcd m n : Int) ≤ n := Int.le_of_dvd (by omega) (Int.gcd_dvd_right m n)
  unfold I64 at *
  refine vcall (nGcd m n hm hn R) ?_
  rintro R1 v hle rfl
  rw [if_neg (by omega)]
  obtain ⟨M, hM⟩ := Int.gcd_dvd_left m n
  obtain ⟨N, hN⟩ := Int.gcd_dvd_right m n
  have hlc := lcm_eq (a := m) (b := n) (by omega) (by omega)
  have hgc : ∀ d : Int, d ∣ m → d ∣ n → d ∣ (Int.gcd m n : Int) := fun d h1 h2 => Int.dvd_coe_gcd h1 h2
  have hb3 : ∀ x : Int, (Int.gcd m n : Int) ∣ (b % n - a % m) ↔ (Int.gcd m n : Int) ∣ b - a := by
    intro _
    have d1 := Int.dvd_trans (Int.gcd_dvd_right m n) (dvd_sub_emod b n)
    have d2 := Int.dvd_trans (Int.gcd_dvd_left m n) (dvd_sub_emod a m)
    have e : b - a = (b % n - a % m) + ((b - b % n) - (a - a % m)) := by omega
    rw [e]
    exact (Int.dvd_add_left (Int.dvd_sub d1 d2)).symm
  obtain ⟨g, hgg⟩ : ∃ g : Int, g = Int.gcd m n := ⟨_, rfl⟩
  try simp only [go_sem, ↓reduceIte, Nat.reduceEqDiff, Nat.reduceAdd, Nat.reduceMul, Nat.reduceLeDiff, Nat.reduceLT, Nat.reduceBNe, reduceCtorEq]
  refine vcall (nmod a m (by omega) (by unfold I64; omega) (by unfold I64; omega) _) ?_
  rintro R2 v hle rfl
  try simp only [go_sem, ↓reduceIte, Nat.reduceEqDiff, Nat.reduceAdd, Nat.reduceMul, Nat.reduceLeDiff, Nat.reduceLT, Nat.reduceBNe, reduceCtorEq]
  refine vcall (nmod b n (by omega) (by unfold I64; omega) (by unfold I64; omega) _) ?_
  rintro R3 v hle rfl
  have hr := Int.emod_nonneg a (show m ≠ 0 by omega)
  have hr2 := Int.emod_lt_of_pos a (show 0 < m by omega)
  have hs := Int.emod_nonneg b (show n ≠ 0 by omega)
  have hs2 := Int.emod_lt_of_pos b (show 0 < n by omega)
  try simp only [go_sem, ↓reduceIte, Nat.reduceEqDiff, Nat.reduceAdd, Nat.reduceMul, Nat.reduceLeDiff, Nat.reduceLT, Nat.reduceBNe, reduceCtorEq]
  refine ⟨_, W.in64 (by omega), by omega, fun hne => ?_, fun he => ?_⟩
  · exact .inr (.inl ⟨⟨by omega, by omega⟩, fun h => hne (Int.tmod_eq_zero_of_dvd ((hb3 0).2 h)), rfl⟩)
  have hdv := (hb3 0).1 (Int.dvd_of_tmod_eq_zero he)
  refine vcall (nLcm m n (by unfold I64; omega) (by unfold I64; omega) R3) ?_
  rintro R4 v hle rfl
  by_cases hL : 1099511627776 < (Int.lcm m n : Int)
  · have e1 : lcmE m n = 2 := by unfold lcmE; rw [if_neg (by omega), if_pos hL]
    have e2 : lcmV m n = 0 := by unfold lcmV; rw [if_neg (by omega)]
    rw [e1, e2]
    try simp only [go_sem, ↓reduceIte, Nat.reduceEqDiff, Nat.reduceAdd, Nat.reduceMul, Nat.reduceLeDiff, Nat.reduceLT, Nat.reduceBNe, reduceCtorEq, Int.reduceLE, Int.reduceLT, Int.reduceToNat, Int.cast_ofNat_Int, Int.reduceEq, Int.reduceNe]
    exact .inr (.inr (.inl ⟨⟨by omega, by omega⟩, hdv, hL, rfl⟩))
  have e1 : lcmE m n = 0 := by unfold lcmE; rw [if_neg (by omega), if_neg hL]
  have e2 : lcmV m n = Int.lcm m n := by unfold lcmV; rw [if_pos e1]
  rw [e1, e2]
  try simp only [go_sem, ↓reduceIte, Nat.reduceEqDiff, Nat.reduceAdd, Nat.reduceMul, Nat.reduceLeDiff, Nat.reduceLT, Nat.reduceBNe, reduceCtorEq, Int.reduceLE, Int.reduceLT, Int.reduceToNat, Int.cast_ofNat_Int, Int.reduceEq, Int.reduceNe]
  have hgdiv : ((Int.gcd m n : Nat) : Int) ≠ 0 := by omega
  have hNq : n.tdiv (Int.gcd m n) = N := by
    rw [tdiv_nonneg' (by omega) (by omega)]
    exact Int.ediv_eq_of_eq_mul_right hgdiv hN
  have hMq : m.tdiv (Int.gcd m n) = M := by
    rw [tdiv_nonneg' (by omega) (by omega)]
    exact Int.ediv_eq_of_eq_mul_right hgdiv hM
  obtain ⟨D, hD⟩ := Int.dvd_of_tmod_eq_zero he
  have hDq : (b % n - a % m).tdiv (Int.gcd m n) = D := by rw [hD]; exact Int.mul_tdiv_cancel_left D hgdiv
  rw [hNq, hMq]
  have hmg : m / (Int.gcd m n : Int) = M := Int.ediv_eq_of_eq_mul_right hgdiv hM
  rw [hmg] at hlc
  rw [← hgg] at hN hM hD hgdiv hg hgn hgc hDq
  rw [← hgg]
  have hN1 : 1 ≤ N ∧ N ≤ n := by
    have h3 : 1 ≤ N := by
      rcases Int.lt_or_le 0 N with h | h
      · omega
      · have := Int.mul_nonneg (show 0 ≤ g by omega) (show 0 ≤ -N by omega)
        rw [Int.mul_neg] at this; omega
    have := Int.mul_le_mul_of_nonneg_right (show 1 ≤ g by omega) (show 0 ≤ N by omega)
    omega
  have hM1 : 1 ≤ M ∧ M ≤ m := by
    have h3 : 1 ≤ M := by
      rcases Int.lt_or_le 0 M with h | h
      · omega
      · have := Int.mul_nonneg (show 0 ≤ g by omega) (show 0 ≤ -M by omega)
        rw [Int.mul_neg] at this; omega
    have := Int.mul_le_mul_of_nonneg_right (show 1 ≤ g by omega) (show 0 ≤ M by omega)
    omega
  have hMn : n ≤ M * n := by
    have := Int.mul_le_mul_of_nonneg_right hM1.1 (show 0 ≤ n by omega)
    omega
  have hDb : I64 D := by
    unfold I64
    rcases Int.lt_or_le D 0 with h | h
    · have := Int.mul_le_mul_of_nonneg_right (show 1 ≤ g by omega) (show 0 ≤ -D by omega)
      rw [Int.mul_neg, Int.mul_neg] at this; omega
    · have := Int.mul_le_mul_of_nonneg_right (show 1 ≤ g by omega) h
      omega
  have hcop : ∀ d : Int, d ∣ M % N → d ∣ N → d ∣ 1 := by
    intro d h3 h4
    have h5 : d ∣ M := by
      have := Int.dvd_add (Int.dvd_trans h4 (dvd_sub_emod M N)) h3
      rwa [Int.sub_add_cancel] at this
    have h6 : g * d ∣ g := hgc _ (by rw [hM]; exact Int.mul_dvd_mul_left g h5) (by rw [hN]; exact Int.mul_dvd_mul_left g h4)
    have h7 : g * d ∣ g * 1 := by rwa [Int.mul_one]
    exact Int.dvd_of_mul_dvd_mul_left (by omega) h7
  refine ⟨hgdiv, N, W.in64 (by omega), b % n - a % m, W.in64 (by omega), hgdiv, D, (by rw [hDq]; exact W.in64 hDb), hgdiv, M, W.in64 (by omega), ?_⟩
  refine vcall (nmod D N (by omega) (by unfold I64; omega) hDb _) ?_
  rintro R5 v hle rfl
  try simp only [go_sem, ↓reduceIte, Nat.reduceEqDiff, Nat.reduceAdd, Nat.reduceMul, Nat.reduceLeDiff, Nat.reduceLT, Nat.reduceBNe, reduceCtorEq]
  refine vcall (nmod M N (by omega) (by unfold I64; omega) (by unfold I64; omega) _) ?_
  rintro R6 v hle rfl
  try simp only [go_sem, ↓reduceIte, Nat.reduceEqDiff, Nat.reduceAdd, Nat.reduceMul, Nat.reduceLeDiff, Nat.reduceLT, Nat.reduceBNe, reduceCtorEq]
  have hM' := Int.emod_nonneg M (show N ≠ 0 by omega)
  have hM'2 := Int.emod_lt_of_pos M (show 0 < N by omega)
  refine vcall (nInverse (M % N) N hM' (by omega) (by omega) (by omega) hcop _) ?_
  rintro R7 v hle ⟨inv, rfl, hinv, hid⟩
  try simp only [go_sem, ↓reduceIte, Nat.reduceEqDiff, Nat.reduceAdd, Nat.reduceMul, Nat.reduceLeDiff, Nat.reduceLT, Nat.reduceBNe, reduceCtorEq]
  have hD' := Int.emod_nonneg D (show N ≠ 0 by omega)
  have hD'2 := Int.emod_lt_of_pos D (show 0 < N by omega)
  refine vcall (ht (D % N) inv N ⟨hD', hD'2⟩ hinv (by omega) (by omega) R7) ?_
  rintro R8 v hle rfl
  try simp only [go_sem, ↓reduceIte, Nat.reduceEqDiff, Nat.reduceAdd, Nat.reduceMul, Nat.reduceLeDiff, Nat.reduceLT, Nat.reduceBNe, reduceCtorEq]
  have hk := Int.emod_nonneg (D % N * inv) (show N ≠ 0 by omega)
  have hk2 := Int.emod_lt_of_pos (D % N * inv) (show 0 < N by omega)
  have hdk := dvd_sub_emod (D % N * inv) N
  generalize D % N * inv % N = k at *
  have hmN : m * N = M * n := by rw [hM, hN, Int.mul_comm g M, Int.mul_assoc]
  have hmk : m * k ≤ m * (N - 1) := Int.mul_le_mul_of_nonneg_left (by omega) (by omega)
  rw [Int.mul_sub, Int.mul_one, hmN] at hmk
  have hmk0 : 0 ≤ m * k := Int.mul_nonneg (by omega) hk
  refine ⟨_, W.in64 (by omega), _, W.in64 (by omega), .inr (.inr (.inr ⟨⟨by omega, by omega⟩, hdv, by omega, _, by omega, by omega, ?_, ?_, rfl⟩))⟩
  · have h1 := dvd_sub_emod a m
    have e : a % m + m * k - a = m * k - (a - a % m) := by omega
    rw [e]
    exact Int.dvd_sub (Int.dvd_mul_right m k) h1
  · have h1 := dvd_sub_emod b n
    have h2 := solve_dvd hdk (dvd_sub_emod D N) hid (dvd_sub_emod M N)
    have h3 : n ∣ g * (M * k - D) := by rw [hN]; exact Int.mul_dvd_mul_left g h2
    have e2 : g * (M * k - D) = m * k - (b % n - a % m) := by rw [Int.mul_sub, ← hD, ← Int.mul_assoc, ← hM]
    have e : a % m + m * k - b = g * (M * k - D) - (b - b % n) := by rw [e2]; omega
    rw [e]
    exact Int.dvd_sub h3 h1
end Go.Proofs.Ytlakekoekilbaaa
