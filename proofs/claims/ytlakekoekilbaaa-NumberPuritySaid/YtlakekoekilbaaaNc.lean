/- Contracts of package number's functions: inverse, and the words of 64 bits that a product takes. -/
import Derived.Lib.Mul64
import Derived.Laws.Bits64b
import Derived.Test.YtlakekoekilbaaaNb
namespace Go.Proofs.Ytlakekoekilbaaa
set_option linter.unusedSimpArgs false
set_option linter.unusedVariables false
open Go.RowKit Go.Proofs.Ytlakekoekilbaaa.Vc

theorem maskN (a : Nat) (ha : a < 18446744073709551616) : bits .and .u64 (a : Int) 4294967295 = ((a % 4294967296 : Nat) : Int) := by
  have h := bits_and_u64_nat a 4294967295 ha (by omega)
  have e : a &&& 4294967295 = a % 4294967296 := Nat.and_two_pow_sub_one_eq_mod a 32
  rw [e] at h
  exact h
theorem shrN (a : Nat) : (a : Int).fdiv (2 ^ (min (Int.toNat 32) IntKind.u64.bits)) = ((a / 4294967296 : Nat) : Int) := by
  show (a : Int).fdiv (2 ^ 32) = _
  rw [Int.fdiv_eq_ediv_of_nonneg _ (by decide)]
  omega
theorem mulN (a b : Nat) : (a : Int) * (b : Int) = ((a * b : Nat) : Int) := (Int.natCast_mul a b).symm
theorem addN (a b : Nat) : (a : Int) + (b : Int) = ((a + b : Nat) : Int) := (Int.natCast_add a b).symm
theorem W.nat {a : Nat} (h : a < 18446744073709551616) : W .u64 (a : Int) (a : Int) := W.u64 (by omega)
theorem W.natM (a : Nat) : W .u64 (a : Int) ((a % 18446744073709551616 : Nat) : Int) := by
  have := W.mod64 (a : Int)
  rwa [show ((a : Int) % 18446744073709551616) = ((a % 18446744073709551616 : Nat) : Int) by omega] at this
theorem nMul64 (x y : Nat) (hx : x < 18446744073709551616) (hy : y < 18446744073709551616) (R : RO) :
    CallsR Try.prog 46 [.int .u64 x, .int .u64 y] R fun _ v => v = .tuple #[.int .u64 ((x * y / 18446744073709551616 : Nat) : Int), .int .u64 ((x * y % 18446744073709551616 : Nat) : Int)] := by
  obtain ⟨bd, bt, bw, hhi⟩ := Lib.mul64_hi x y hx hy
  have ba := Lib.half_mul_le (a := x / 4294967296) (b := y / 4294967296) (by omega) (by omega)
  have bb := Lib.half_mul_le (a := x / 4294967296) (b := y % 4294967296) (by omega) (by omega)
  have bc := Lib.half_mul_le (a := x % 4294967296) (b := y / 4294967296) (by omega) (by omega)
  refine callsT mix Try.func46 comp46 (by simp [Try.ntmps46]) ?_; simp only [go_sem, ↓reduceIte, Nat.reduceEqDiff, Nat.reduceAdd, Nat.reduceMul, Nat.reduceLeDiff, Nat.reduceLT, Nat.reduceBNe, reduceCtorEq, vc46, rs46]
  have sh : ∀ a : Nat, (a : Int).fdiv (2 ^ min (Int.toNat 32) 64) = ((a / 4294967296 : Nat) : Int) := shrN
  simp only [maskN x hx, maskN y hy, sh, mulN]
  refine ⟨by decide, by decide, _, W.nat bd, _, W.nat (by omega), by decide, ?_⟩
  simp only [sh, addN]
  refine ⟨_, W.nat bt, by decide, _, W.nat (by omega), ?_⟩
  simp only [maskN _ bt, sh, addN]
  refine ⟨_, W.nat bw, _, W.nat (by omega), ?_⟩
  simp only [addN]
  refine ⟨_, W.nat (by omega), by decide, ?_⟩
  simp only [sh, addN]
  refine ⟨_, W.nat (by omega), _, W.natM _, ?_⟩
  rw [hhi]
/-- The invariant of the extended algorithm of Euclid. -/
structure Euc (a m x y s t : Int) : Prop where
  x0 : 0 ≤ x
  y0 : 0 ≤ y
  xb : x ≤ a ∨ x ≤ m
  yb : y ≤ m
  g : ∀ d : Int, d ∣ x → d ∣ y → d ∣ 1
  sx : m ∣ s * a - x
  ty : m ∣ t * a - y
  sb : -m ≤ s ∧ s ≤ m
  tb : -m ≤ t ∧ t ≤ m
  pm : (0 ≤ s ∧ t ≤ 0 ∧ s * y - t * x = m) ∨ (s ≤ 0 ∧ 0 ≤ t ∧ t * x - s * y = m)
theorem Euc.start {a m : Int} (ha : 0 ≤ a) (hm : 1 ≤ m) (hg : ∀ d : Int, d ∣ a → d ∣ m → d ∣ 1) : Euc a m a m 1 0 :=
  ⟨ha, by omega, .inl (Int.le_refl _), Int.le_refl _, hg, by simp, by simp, by omega, by omega, .inl ⟨by omega, by omega, by simp⟩⟩
theorem Euc.step {a m x y s t : Int} (h : Euc a m x y s t) (hm : 1 ≤ m) (hy : 1 ≤ y) : Euc a m y (x - x / y * y) t (s - x / y * t) ∧ (0 ≤ x / y ∧ x / y ≤ x ∧ 0 ≤ x / y * y ∧ x / y * y ≤ x) ∧ (x - x / y * y < y) ∧ (-m ≤ x / y * t ∧ x / y * t ≤ m) := by
  obtain ⟨x0, y0, xb, yb, g, sx, ty, sb, tb, pm⟩ := h
  have hq0 : 0 ≤ x / y := Int.ediv_nonneg x0 y0
  have hqx : x / y ≤ x := Int.ediv_le_self y x0
  have hr0 : 0 ≤ x % y := Int.emod_nonneg x (by omega)
  have hr1 : x % y < y := Int.emod_lt_of_pos x (by omega)
  have hr : x - x / y * y = x % y := by have := Int.mul_ediv_add_emod x y; rw [Int.mul_comm] at this; omega
  have hqy : 0 ≤ x / y * y := Int.mul_nonneg hq0 y0
  rw [hr]
  generalize hrr : x % y = r at *
  generalize x / y = q at *
  have hx : x = q * y + r := by omega
  have key : ∀ t : Int, t * x = t * q * y + t * r := by intro t; rw [hx, Int.mul_add, Int.mul_assoc]
  have hqt : q * t = t * q := Int.mul_comm q t
  refine ⟨⟨y0, hr0, .inr yb, by omega, fun d h1 h2 => g d ?_ h1, ty, ?_, tb, ?_, ?_⟩, ⟨hq0, hqx, hqy, by omega⟩, hr1, ?_⟩
  · rw [hx]; exact Int.dvd_add (Int.dvd_mul_of_dvd_right h1) h2
  · have e : (s - q * t) * a - r = (s * a - x) - q * (t * a - y) := by
      rw [hx, Int.sub_mul, Int.mul_sub, Int.mul_assoc]; omega
    rw [e]
    exact Int.dvd_sub sx (Int.dvd_mul_of_dvd_right ty)
  · rcases pm with ⟨h1, h2, h3⟩ | ⟨h1, h2, h3⟩
    · have k1 := key t
      have h4 : s * y - t * q * y - t * r = m := by omega
      have h5 : 0 ≤ -(t * r) := by have := Int.mul_nonneg (show 0 ≤ -t by omega) hr0; rw [Int.neg_mul] at this; omega
      have h6 : (s - q * t) * y = s * y - t * q * y := by rw [Int.sub_mul, hqt]
      have h7 : 0 ≤ -(q * t) := by have := Int.mul_nonneg hq0 (show 0 ≤ -t by omega); rw [Int.mul_neg] at this; omega
      have h8 : (s - q * t) * 1 ≤ (s - q * t) * y := Int.mul_le_mul_of_nonneg_left hy (by omega)
      omega
    · have k1 := key t
      have h4 : t * q * y + t * r - s * y = m := by omega
      have h5 : 0 ≤ t * r := Int.mul_nonneg h2 hr0
      have h6 : (q * t - s) * y = t * q * y - s * y := by rw [Int.sub_mul, hqt]
      have h7 : 0 ≤ q * t := Int.mul_nonneg hq0 h2
      have h8 : (q * t - s) * 1 ≤ (q * t - s) * y := Int.mul_le_mul_of_nonneg_left hy (by omega)
      omega
  · rcases pm with ⟨h1, h2, h3⟩ | ⟨h1, h2, h3⟩
    · have k1 := key t
      have h6 : (s - q * t) * y = s * y - t * q * y := by rw [Int.sub_mul, hqt]
      have h7 : 0 ≤ -(q * t) := by have := Int.mul_nonneg hq0 (show 0 ≤ -t by omega); rw [Int.mul_neg] at this; omega
      exact .inr ⟨h2, by omega, by omega⟩
    · have k1 := key t
      have h6 : (s - q * t) * y = s * y - t * q * y := by rw [Int.sub_mul, hqt]
      have h7 : 0 ≤ q * t := Int.mul_nonneg hq0 h2
      exact .inl ⟨h2, by omega, by omega⟩
  · rcases pm with ⟨h1, h2, h3⟩ | ⟨h1, h2, h3⟩
    · have k1 := key t
      have h5 : 0 ≤ -(t * r) := by have := Int.mul_nonneg (show 0 ≤ -t by omega) hr0; rw [Int.neg_mul] at this; omega
      have h6 : (s - q * t) * y = s * y - t * q * y := by rw [Int.sub_mul, hqt]
      have h7 : 0 ≤ -(q * t) := by have := Int.mul_nonneg hq0 (show 0 ≤ -t by omega); rw [Int.mul_neg] at this; omega
      have h8 : (s - q * t) * 1 ≤ (s - q * t) * y := Int.mul_le_mul_of_nonneg_left hy (by omega)
      omega
    · have k1 := key t
      have h5 : 0 ≤ t * r := Int.mul_nonneg h2 hr0
      have h6 : (q * t - s) * y = t * q * y - s * y := by rw [Int.sub_mul, hqt]
      have h7 : 0 ≤ q * t := Int.mul_nonneg hq0 h2
      have h8 : (q * t - s) * 1 ≤ (q * t - s) * y := Int.mul_le_mul_of_nonneg_left hy (by omega)
      omega
theorem nInverse (a m : Int) (ha : 0 ≤ a) (hm : 1 ≤ m) (ham : a ≤ m) (hmb : m ≤ 1099511627776) (hg : ∀ d : Int, d ∣ a → d ∣ m → d ∣ 1) (R : RO) :
    CallsR Try.prog 40 [.int .i64 a, .int .i64 m] R fun _ v => ∃ r, v = .int .i64 r ∧ (0 ≤ r ∧ r < m) ∧ m ∣ r * a - 1 := by
  refine callsT mix Try.func40 comp40 (by simp [Try.ntmps40]) ?_; simp only [go_sem, ↓reduceIte, Nat.reduceEqDiff, Nat.reduceAdd, Nat.reduceMul, Nat.reduceLeDiff, Nat.reduceLT, Nat.reduceBNe, reduceCtorEq, vc40, rs40]
  refine vcLoop (Int × Int × Int × Int) (fun x => [(5, .val (.int .i64 x.1)), (6, .val (.int .i64 x.2.1)), (7, .val (.int .i64 x.2.2.1)), (8, .val (.int .i64 x.2.2.2)), (1, .val (.int .i64 m))])
    (fun _ => []) (fun x _ => Euc a m x.1 x.2.1 x.2.2.1 x.2.2.2) (fun x => x.2.1.toNat) (a, m, 1, 0) ?_ rfl ?_ ?_
  · (try simp only [go_sem, ↓reduceIte, Nat.reduceEqDiff, Nat.reduceAdd, Nat.reduceMul, Nat.reduceLeDiff, Nat.reduceLT, Nat.reduceBNe, reduceCtorEq]) <;> (repeat' (first | rfl | trivial | constructor | (intro h; exact absurd rfl h)))
  · exact Euc.start ha hm hg
  rintro ⟨x, y, s, t⟩ env R1 hle hE hk
  dsimp only at hk
  (simp only [go_sem] at hE; obtain ⟨e5, e6, e7, e8, e1⟩ := hE; simp only [go_sem, ↓reduceIte, Nat.reduceEqDiff, Nat.reduceAdd, Nat.reduceMul, Nat.reduceLeDiff, Nat.reduceLT, Nat.reduceBNe, reduceCtorEq, e5, e6, e7, e8, e1]; dsimp only at *)
  refine ⟨fun hy => ?_, fun hy => ?_⟩
  · have hy1 : 1 ≤ y := by have := hk.y0; omega
    obtain ⟨hN, hq, hlt, hqt⟩ := hk.step hm hy1
    have h1 := hk.x0
    have h2 := hk.xb
    have h3 := hk.yb
    have h4 := hN.tb
    rw [tdiv_nonneg' hk.x0 hk.y0]
    exact ⟨hy, _, W.in64 (by omega), _, W.in64 (by omega), _, W.in64 (by omega), _, W.in64 (by omega), _, W.in64 (by omega), (y, x - x / y * y, t, s - x / y * t), by have := hN.y0; dsimp only; omega, ⟨rfl, rfl, rfl, rfl⟩, hN⟩
  · subst hy
    have hx1 : x = 1 := by
      have h1 := hk.g x (Int.dvd_refl x) (Int.dvd_zero x)
      have h2 := Int.le_of_dvd (by decide) h1
      have h3 := hk.x0
      rcases Int.lt_or_le 0 x with h | h
      · omega
      · have : x = 0 := by omega
        subst this
        have := Int.zero_dvd.1 h1
        omega
    subst hx1
    have hs := hk.sb
    refine vcall (nmod s m (by omega) (by unfold I64; omega) (by unfold I64; omega) _) ?_
    rintro R2 v hle2 rfl
    try simp only [go_sem, ↓reduceIte, Nat.reduceEqDiff, Nat.reduceAdd, Nat.reduceMul, Nat.reduceLeDiff, Nat.reduceLT, Nat.reduceBNe, reduceCtorEq]
    refine ⟨s % m, rfl, ⟨Int.emod_nonneg _ (by omega), Int.emod_lt_of_pos _ (by omega)⟩, ?_⟩
    have e : s % m * a - 1 = (s * a - 1) - m * (s / m * a) := by
      have := Int.mul_ediv_add_emod s m
      have h5 : s % m = s - m * (s / m) := by omega
      rw [h5, Int.sub_mul, Int.mul_assoc]
      omega
    rw [e]
    exact Int.dvd_sub hk.sx (Int.dvd_mul_right m _)
end Go.Proofs.Ytlakekoekilbaaa
