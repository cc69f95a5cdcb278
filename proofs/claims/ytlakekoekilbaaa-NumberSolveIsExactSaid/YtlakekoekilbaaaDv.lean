/- Contracts: bits.Div64 at whatever numbers; the product modulo m; Solve for whatever moduli; the law SolveIsExact. -/
import Derived.Shelf.Strconv.Itoa0
import Derived.Ground.NamesProg
import Derived.Lib.ItoaNum
import Derived.Test.YtlakekoekilbaaaLn3
namespace Go.Proofs.Ytlakekoekilbaaa
set_option linter.unusedSimpArgs false
set_option linter.unusedVariables false
open Go.RowKit Go.Sort Go.Shelf Go.Proofs.Ytlakekoekilbaaa.Vc

def Try.len64_ren : Go.Shelf.Ren := ⟨fun | 129 => 62 | n => n, fun | 53 => 47 | 3 => 3 | 4 => 4 | 46 => 60 | 5 => 5 | 9 => 9 | n => n, fun | n => n⟩
theorem Try.len64 : Go.Proofs.Lays.n129 Try.prog Try.len64_ren := {
  mixed := by kernel_rfl
  f129 := Try.func62.trans (congrArg some (by kernel_rfl))
  t3 := Try.underlying3
  a3 := Try.isAgg3
  z3 := Try.sizeOf3
  v3 := Try.zeroValue3
  t4 := Try.underlying4
  a4 := Try.isAgg4
  z4 := Try.sizeOf4
  v4 := Try.zeroValue4
  t5 := Try.underlying5
  a5 := Try.isAgg5
  z5 := Try.sizeOf5
  v5 := Try.zeroValue5
  t9 := Try.underlying9
  a9 := Try.isAgg9
  z9 := Try.sizeOf9
  v9 := Try.zeroValue9
  t46 := Try.underlying60
  a46 := Try.isAgg60
  z46 := Try.sizeOf60
  v46 := Try.zeroValue60
  t53 := Try.underlying47
  a53 := Try.isAgg47
  z53 := Try.sizeOf47
  v53 := Try.zeroValue47 }
theorem nLen64 (x : Nat) (hx : x < 18446744073709551616) (R : RO) : CallsR Try.prog 62 [.int .u64 x] R fun _ v => v = .int .i64 (Lib.bitLen x) := by
  intro w hR
  refine Calls.mono (Any.bits_Len64 Try.len64 x w (by omega) (by omega)) ?_
  rintro e w' ⟨rfl, rfl⟩
  exact ⟨_, R, rfl, RO.le_refl R, fun a v ha => ⟨hR a v ha, .inl ha⟩, Below.refl _ _, by simp⟩
theorem nLead (x : Nat) (h0 : x ≠ 0) (hx : x < 18446744073709551616) (R : RO) : CallsR Try.prog 63 [.int .u64 x] R fun _ v => ∃ s : Nat, v = .int .i64 s ∧ s ≤ 63 ∧ 9223372036854775808 ≤ x * 2 ^ s ∧ x * 2 ^ s < 18446744073709551616 := by
  refine callsT mix Try.func63 comp63 (by simp [Try.ntmps63]) ?_; simp only [go_sem, ↓reduceIte, Nat.reduceEqDiff, Nat.reduceAdd, Nat.reduceMul, Nat.reduceLeDiff, Nat.reduceLT, Nat.reduceBNe, reduceCtorEq, vc63, rs63]
  refine vcall (nLen64 x hx R) ?_
  rintro R1 v hle rfl
  try simp only [go_sem, ↓reduceIte, Nat.reduceEqDiff, Nat.reduceAdd, Nat.reduceMul, Nat.reduceLeDiff, Nat.reduceLT, Nat.reduceBNe, reduceCtorEq, Int.reduceLE, Int.reduceLT, Int.reduceToNat, Int.cast_ofNat_Int, Int.reduceEq, Int.reduceNe]
  obtain ⟨h1, h2, h3⟩ := Lib.bitLenAux_bounds 64 x (by omega) h0
  have h4 : Lib.bitLen x ≤ 64 := Lib.bitLen_le x 64 (Nat.le_refl _) (by omega)
  have e : Lib.bitLenAux 64 x = Lib.bitLen x := rfl
  rw [e] at h1 h2 h3
  generalize Lib.bitLen x = L at *
  refine ⟨_, W.in64 (by omega), 64 - L, by congr 1; omega, by omega, ?_, ?_⟩
  · have e1 : (9223372036854775808 : Nat) = 2 ^ (L - 1) * 2 ^ (64 - L) := by rw [← Nat.pow_add, show L - 1 + (64 - L) = 63 by omega]
    rw [e1]
    exact Nat.mul_le_mul_right _ h2
  · have e1 : (18446744073709551616 : Nat) = 2 ^ L * 2 ^ (64 - L) := by rw [← Nat.pow_add, show L + (64 - L) = 64 by omega]
    rw [e1]
    exact Nat.mul_lt_mul_of_pos_right h3 (Nat.pow_pos (by decide))
/-! ### One digit of the quotient -/
structure Dig (A u Y1 Y0 Y : Nat) : Prop where
  y : Y = Y1 * 4294967296 + Y0
  y1 : 2147483648 ≤ Y1 ∧ Y1 < 4294967296
  y0 : Y0 < 4294967296
  a : A < Y
  u : u < 4294967296
theorem Dig.lt {A u Y1 Y0 Y : Nat} (h : Dig A u Y1 Y0 Y) : (A * 4294967296 + u) / Y < 4294967296 := by
  have h1 := h.a
  have h2 := h.u
  rw [Nat.div_lt_iff_lt_mul (by omega)]
  have : (A + 1) * 4294967296 ≤ Y * 4294967296 := Nat.mul_le_mul_right _ h1
  rw [Nat.mul_comm 4294967296 Y]
  omega
theorem Dig.start {A u Y1 Y0 Y : Nat} (h : Dig A u Y1 Y0 Y) : (A * 4294967296 + u) / Y ≤ A / Y1 ∧ A / Y1 ≤ 4294967297 := by
  obtain ⟨hy, ⟨ha, hb⟩, hy0, hA, hu⟩ := h
  constructor
  · rw [Nat.le_div_iff_mul_le (by omega)]
    have h1 := Nat.div_mul_le_self (A * 4294967296 + u) Y
    generalize (A * 4294967296 + u) / Y = q at *
    have h2 : q * Y = q * Y1 * 4294967296 + q * Y0 := by rw [hy, Nat.mul_add, Nat.mul_assoc]
    omega
  · have : A / Y1 < 4294967298 := by
      rw [Nat.div_lt_iff_lt_mul (by omega)]
      omega
    omega
theorem Dig.fit {A u Y1 Y0 Y q1 : Nat} (h : Dig A u Y1 Y0 Y) (h1 : q1 * Y1 ≤ A) (h2 : q1 * Y0 ≤ 4294967296 * (A - q1 * Y1) + u) : q1 ≤ (A * 4294967296 + u) / Y := by
  obtain ⟨hy, ⟨ha, hb⟩, hy0, hA, hu⟩ := h
  rw [Nat.le_div_iff_mul_le (by omega)]
  have h3 : q1 * Y = q1 * Y1 * 4294967296 + q1 * Y0 := by rw [hy, Nat.mul_add, Nat.mul_assoc]
  omega
theorem Dig.over {A u Y1 Y0 Y q1 : Nat} (h : Dig A u Y1 Y0 Y) (h1 : q1 * Y1 ≤ A) (h2 : 4294967296 * (A - q1 * Y1) + u < q1 * Y0) : (A * 4294967296 + u) / Y < q1 := by
  obtain ⟨hy, ⟨ha, hb⟩, hy0, hA, hu⟩ := h
  rw [Nat.div_lt_iff_lt_mul (by omega)]
  have h3 : q1 * Y = q1 * Y1 * 4294967296 + q1 * Y0 := by rw [hy, Nat.mul_add, Nat.mul_assoc]
  omega
theorem Dig.rest {A u Y1 Y0 Y q : Nat} (h : Dig A u Y1 Y0 Y) (hq : q = (A * 4294967296 + u) / Y) : q * Y ≤ A * 4294967296 + u ∧ A * 4294967296 + u - q * Y < Y := by
  have h0 := h.a
  subst hq
  have h1 := Nat.div_mul_le_self (A * 4294967296 + u) Y
  have h2 := Nat.div_add_mod (A * 4294967296 + u) Y
  have h3 := Nat.mod_lt (A * 4294967296 + u) (show 0 < Y by omega)
  rw [Nat.mul_comm] at h2
  omega
/-- What a digit's loop keeps. -/
def DigI (A u Y1 Y q1 : Nat) : Prop := (A * 4294967296 + u) / Y ≤ q1 ∧ q1 * Y1 ≤ A ∧ q1 ≤ 4294967297 ∧ A - q1 * Y1 < 4294967296
theorem Dig.stop {A u Y1 Y0 Y p : Nat} (h : Dig A u Y1 Y0 Y) (hI : DigI A u Y1 Y (p + 1)) (hq : (A * 4294967296 + u) / Y < p + 1) (hb : 4294967296 ≤ A - (p + 1) * Y1 + Y1) : p = (A * 4294967296 + u) / Y := by
  obtain ⟨k1, k2, k3, k4⟩ := hI
  rw [Nat.add_mul, Nat.one_mul] at *
  have h4 : p * Y0 ≤ 4294967296 * 4294967295 := Nat.mul_le_mul (by omega) (by have := h.y0; omega)
  have := h.fit (q1 := p) (by omega) (by omega)
  omega
theorem Dig.go {A u Y1 Y0 Y p : Nat} (_h : Dig A u Y1 Y0 Y) (hI : DigI A u Y1 Y (p + 1)) (hq : (A * 4294967296 + u) / Y < p + 1) (hb : ¬ 4294967296 ≤ A - (p + 1) * Y1 + Y1) : DigI A u Y1 Y p ∧ A - (p + 1) * Y1 + Y1 = A - p * Y1 := by
  obtain ⟨k1, k2, k3, k4⟩ := hI
  rw [Nat.add_mul, Nat.one_mul] at *
  exact ⟨⟨by omega, by omega, by omega, by omega⟩, by omega⟩
theorem Dig.at {A u Y1 Y0 Y q : Nat} (h : Dig A u Y1 Y0 Y) (hI : DigI A u Y1 Y q) (hq : ¬ 4294967296 ≤ q) (hf : ¬ 4294967296 * (A - q * Y1) + u < q * Y0) : q = (A * 4294967296 + u) / Y := by
  obtain ⟨k1, k2, k3, k4⟩ := hI
  have := h.fit k2 (by omega)
  omega
theorem orN (a b k : Nat) (hb : b < 2 ^ k) (h : 2 ^ k * a + b < 18446744073709551616) : bits .or .u64 ((2 ^ k * a : Nat) : Int) (b : Int) = ((2 ^ k * a + b : Nat) : Int) := by
  have h1 := bits_or_u64_nat (2 ^ k * a) b (by omega) (by omega)
  rw [Nat.two_pow_add_eq_or_of_lt hb]
  exact h1
theorem shlK (a k : Nat) : (a : Int) * 2 ^ k = ((a * 2 ^ k : Nat) : Int) := by push_cast; rfl
theorem shrK (a k : Nat) : (a : Int).fdiv (2 ^ k) = ((a / 2 ^ k : Nat) : Int) := by
  rw [Int.fdiv_eq_ediv_of_nonneg _ (Int.le_of_lt (Int.pow_pos (by decide)))]
  push_cast
  rfl
theorem minK {k : Nat} (h : k ≤ 64) : min (Int.toNat (k : Int)) 64 = k := by rw [Int.toNat_natCast]; omega
theorem W.natMod (a : Nat) : W .u64 (a : Int) ((a % 18446744073709551616 : Nat) : Int) := W.natM a
theorem W.u64p {a b : Int} (h : a = b ∧ 0 ≤ b ∧ b ≤ 18446744073709551615) : W .u64 a b := by obtain ⟨rfl, h1⟩ := h; exact W.u64 h1
theorem shr32 (a : Nat) : (a : Int).fdiv (2 ^ min (Int.toNat 32) 64) = ((a / 4294967296 : Nat) : Int) := shrN a
theorem divfin {N y s q r : Nat} (h : N * 2 ^ s = q * (y * 2 ^ s) + r) (hr : r < y * 2 ^ s) : q = N / y ∧ r / 2 ^ s = N % y := by
  have hP : 0 < 2 ^ s := Nat.pow_pos (by decide)
  have hy : 0 < y := by
    rcases Nat.eq_zero_or_pos y with h0 | h0
    · subst h0; simp at hr
    · exact h0
  have h1 : q * y ≤ N := by
    refine Nat.le_of_mul_le_mul_right (c := 2 ^ s) ?_ hP
    rw [Nat.mul_assoc]; omega
  obtain ⟨t, rfl⟩ := Nat.exists_eq_add_of_le h1
  have h2 : r = t * 2 ^ s := by
    rw [Nat.add_mul, Nat.mul_assoc] at h
    omega
  subst h2
  have h3 : t < y := Nat.lt_of_mul_lt_mul_right hr
  constructor
  · rw [Nat.mul_comm q y, Nat.mul_add_div hy, Nat.div_eq_of_lt h3, Nat.add_zero]
  · rw [Nat.mul_div_cancel _ hP, Nat.mul_comm q y, Nat.mul_add_mod, Nat.mod_eq_of_lt h3]
theorem lo_parts {lo s : Nat} (hs : s ≤ 63) (hlo : lo < 18446744073709551616) : lo * 2 ^ s = lo / 2 ^ (64 - s) * 18446744073709551616 + lo * 2 ^ s % 18446744073709551616 := by
  have hM : (18446744073709551616 : Nat) = 2 ^ s * 2 ^ (64 - s) := by rw [← Nat.pow_add, show s + (64 - s) = 64 by omega]
  have h1 : lo * 2 ^ s / 18446744073709551616 = lo / 2 ^ (64 - s) := by
    rw [hM, Nat.mul_comm lo, Nat.mul_div_mul_left _ _ (Nat.pow_pos (by decide))]
  have := Nat.div_add_mod (lo * 2 ^ s) 18446744073709551616
  rw [h1, Nat.mul_comm] at this
  exact this.symm
set_option maxRecDepth 100000 in
set_option maxHeartbeats 2000000 in
theorem nDiv64 (hi lo y : Nat) (h0 : hi ≠ 0) (hy : hi < y) (hy2 : y < 18446744073709551616) (hlo : lo < 18446744073709551616) (R : RO) :
    CallsR Try.prog 52 [.int .u64 hi, .int .u64 lo, .int .u64 y] R fun _ v => v = .tuple #[.int .u64 (((hi * 18446744073709551616 + lo) / y : Nat) : Int), .int .u64 (((hi * 18446744073709551616 + lo) % y : Nat) : Int)] := by
  refine callsT mix Try.func52 comp52 (by simp [Try.ntmps52]) ?_; simp only [go_sem, ↓reduceIte, Nat.reduceEqDiff, Nat.reduceAdd, Nat.reduceMul, Nat.reduceLeDiff, Nat.reduceLT, Nat.reduceBNe, reduceCtorEq, vc52, rs52]
  refine ⟨fun h => by omega, fun _ => ⟨fun h => by omega, fun _ => ⟨fun h => by omega, fun _ => ?_⟩⟩⟩
  refine vcall (nLead y (by omega) hy2 R) ?_
  rintro R1 v hle ⟨s, rfl, hs, hY1, hY2⟩
  try simp only [go_sem, ↓reduceIte, Nat.reduceEqDiff, Nat.reduceAdd, Nat.reduceMul, Nat.reduceLeDiff, Nat.reduceLT, Nat.reduceBNe, reduceCtorEq]
  have hM : (18446744073709551616 : Nat) = 2 ^ s * 2 ^ (64 - s) := by rw [← Nat.pow_add, show s + (64 - s) = 64 by omega]
  have hP : 0 < 2 ^ s := Nat.pow_pos (by decide)
  have hP2 : 0 < 2 ^ (64 - s) := Nat.pow_pos (by decide)
  have hlt2 : lo / 2 ^ (64 - s) < 2 ^ s := by rw [Nat.div_lt_iff_lt_mul hP2]; omega
  have hhi : hi * 2 ^ s + 2 ^ s ≤ y * 2 ^ s := by
    have := Nat.mul_le_mul_right (2 ^ s) (show hi + 1 ≤ y by omega)
    rw [Nat.add_mul, Nat.one_mul] at this
    exact this
  have hor := orN hi (lo / 2 ^ (64 - s)) s hlt2 (by rw [Nat.mul_comm (2 ^ s) hi]; omega)
  rw [Nat.mul_comm (2 ^ s) hi] at hor
  obtain ⟨Y, hY⟩ : ∃ Y, Y = y * 2 ^ s := ⟨_, rfl⟩
  obtain ⟨A, hA⟩ : ∃ A, A = hi * 2 ^ s + lo / 2 ^ (64 - s) := ⟨_, rfl⟩
  obtain ⟨U, hU⟩ : ∃ U, U = lo * 2 ^ s % 18446744073709551616 := ⟨_, rfl⟩
  have hD1 : Dig A (U / 4294967296) (Y / 4294967296) (Y % 4294967296) Y := ⟨by omega, by omega, by omega, by omega, by omega⟩
  have c32 : (2 : Int) ^ min (Int.toNat 32) 64 = 2 ^ 32 := rfl
  refine ⟨_, W.nat (by omega), by omega, ?_⟩
  rw [minK (show s ≤ 64 by omega), shlK, shlK, shlK, ← hY]
  refine ⟨_, W.nat (by omega), by decide, by omega, _, W.nat (by omega), ?_⟩
  rw [show ((64 : Int) - (s : Int)) = ((64 - s : Nat) : Int) by omega]
  refine ⟨_, W.nat (by omega), by omega, by omega, ?_⟩
  rw [minK (show 64 - s ≤ 64 by omega), shrK lo (64 - s), hor, ← hA, c32, shrK Y 32, show (2 ^ 32 : Nat) = 4294967296 by decide]
  refine ⟨_, W.natMod _, by decide, by omega, ?_⟩
  rw [← hU, tdiv_nonneg' (by omega) (by omega), ← Int.natCast_ediv]
  obtain ⟨hq1, hq2⟩ := hD1.start
  have hq3 := Nat.div_mul_le_self A (Y / 4294967296)
  have hq4 := Nat.mod_lt A (show 0 < Y / 4294967296 by omega)
  have hq5 := Nat.div_add_mod A (Y / 4294967296)
  rw [Nat.mul_comm] at hq5
  refine ⟨_, W.nat (by omega), ?_⟩
  rw [mulN]
  refine ⟨_, W.nat (by omega), ?_⟩
  rw [show (A : Int) - ((A / (Y / 4294967296) * (Y / 4294967296) : Nat) : Int) = ((A - A / (Y / 4294967296) * (Y / 4294967296) : Nat) : Int) by omega]
  refine ⟨_, W.nat (by omega), ?_⟩
  have hU2 : U < 18446744073709551616 := by omega
  obtain ⟨Y1, hy1⟩ : ∃ Y1, Y1 = Y / 4294967296 := ⟨_, rfl⟩
  obtain ⟨u1, hu1⟩ : ∃ u1, u1 = U / 4294967296 := ⟨_, rfl⟩
  obtain ⟨u0, hu0⟩ : ∃ u0, u0 = U % 4294967296 := ⟨_, rfl⟩
  obtain ⟨Y0, hy0⟩ : ∃ Y0, Y0 = Y % 4294967296 := ⟨_, rfl⟩
  have hYb : Y < 18446744073709551616 := by omega
  have hsu : (U : Int).fdiv (2 ^ 32) = ((U / 4294967296 : Nat) : Int) := shrN U
  simp only [maskN Y hYb, maskN U hU2, hsu]
  rw [← hy1, ← hu1, ← hy0] at hD1
  rw [← hy1] at hq1 hq2 hq3 hq4 hq5
  rw [← hu1] at hq1
  simp only [← hy1, ← hu1, ← hy0, ← hu0]
  refine vcLoop Nat (fun q => [(15, .val (.int .u64 q)), (16, .val (.int .u64 (A - q * Y1 : Nat))), (9, .val (.int .u64 Y1)), (10, .val (.int .u64 Y0)), (13, .val (.int .u64 u1)), (14, .val (.int .u64 u0)), (11, .val (.int .u64 A)), (2, .val (.int .u64 Y)), (8, .val (.int .u64 s))]) (fun _ => [])
    (fun q _ => DigI A u1 Y1 Y q) (fun q => q) (A / Y1) ?_ rfl ?_ ?_
  · (try simp only [go_sem, ↓reduceIte, Nat.reduceEqDiff, Nat.reduceAdd, Nat.reduceMul, Nat.reduceLeDiff, Nat.reduceLT, Nat.reduceBNe, reduceCtorEq]) <;> (repeat' (first | rfl | trivial | constructor | (intro h; exact absurd rfl h)))
  · exact ⟨hq1, hq3, hq2, by have := hD1.y1; omega⟩
  rintro q env R2 hle2 hE ⟨k1, k2, k3, k4⟩
  (simp only [go_sem] at hE; obtain ⟨e15, e16, e9, e10, e13, e14, e11, e2, e8⟩ := hE; simp only [go_sem, ↓reduceIte, Nat.reduceEqDiff, Nat.reduceAdd, Nat.reduceMul, Nat.reduceLeDiff, Nat.reduceLT, Nat.reduceBNe, reduceCtorEq, e15, e16, e9, e10, e13, e14, e11, e2, e8]; dsimp only at *)
  have hdy := hD1.y1
  have hdu := hD1.u
  have hdl := hD1.lt
  have hqy0 : q < 4294967296 → q * Y0 ≤ 4294967295 * 4294967295 := fun h => Nat.mul_le_mul (by omega) (by have := hD1.y0; omega)
  have hI : DigI A u1 Y1 Y q := ⟨k1, k2, k3, k4⟩
  obtain ⟨rh, hrh⟩ : ∃ rh, rh = A - q * Y1 := ⟨_, rfl⟩
  obtain ⟨qy, hqy⟩ : ∃ qy, qy = q * Y0 := ⟨_, rfl⟩
  rw [← hqy] at hqy0
  rw [← hrh] at k4
  rw [mulN, ← hrh, ← hqy]
  by_cases hq : (A * 4294967296 + u1) / Y < q
  case' pos =>
    have hq1' : 0 < q := Nat.lt_of_le_of_lt (Nat.zero_le _) hq
    have stop : 4294967296 ≤ rh + Y1 → ∀ p, q = p + 1 → p = (A * 4294967296 + u1) / Y := fun h p e => by subst e hrh; exact hD1.stop hI hq h
    have go : ¬ 4294967296 ≤ rh + Y1 → ∀ p, q = p + 1 → DigI A u1 Y1 Y p ∧ rh + Y1 = A - p * Y1 := fun h p e => by subst e hrh; exact hD1.go hI hq h
    obtain ⟨p, hp⟩ : ∃ p, q = p + 1 := ⟨q - 1, by omega⟩
    refine ⟨fun hlt => ⟨_, W.nat (by have := hqy0 (by omega); omega), _, W.u64 (by omega), _, W.u64 (by omega), fun hov => ⟨p, W.u64p (by omega), _, W.u64 (by omega), fun hb => ?ea, fun hb => ⟨p, by omega, ⟨rfl, by rw [addN, (go (by omega) p hp).2]⟩, (go (by omega) p hp).1⟩⟩,
        fun hfit => absurd (hD1.at hI (by omega) (fun h => hfit (by rw [← hrh, ← hqy] at h; omega))) (by omega)⟩,
      fun hge => ⟨p, W.u64p (by omega), _, W.u64 (by omega), fun hb => ?eb, fun hb => ⟨p, by omega, ⟨rfl, by rw [addN, (go (by omega) p hp).2]⟩, (go (by omega) p hp).1⟩⟩⟩
    case' ea => have hQ := stop (by omega) p hp
    case' eb => have hQ := stop (by omega) p hp
  case' neg =>
    have hQ : q = (A * 4294967296 + u1) / Y := Nat.le_antisymm (Nat.le_of_not_lt hq) k1
    have hlt' : q < 4294967296 := by rw [hQ]; exact hdl
    refine ⟨fun hlt => ⟨_, W.nat (by have := hqy0 (by omega); omega), _, W.u64 (by omega), _, W.u64 (by omega), fun hov => absurd (hD1.over k2 (by rw [← hrh, ← hqy]; omega)) hq, fun _ => ?ec⟩, fun hge => absurd hge (by omega)⟩
    obtain ⟨p, hp⟩ : ∃ p, p = q := ⟨q, rfl⟩
    rw [← hp] at hQ ⊢
  all_goals
    obtain ⟨hr1, hr2⟩ := hD1.rest hQ
    obtain ⟨r1, hr⟩ : ∃ r1, r1 = A * 4294967296 + u1 - p * Y := ⟨_, rfl⟩
    rw [← hr] at hr2
    have hD2 : Dig r1 u0 Y1 Y0 Y := ⟨hD1.y, hD1.y1, hD1.y0, hr2, by omega⟩
    have hpB : p < 4294967296 := by rw [hQ]; exact hdl
    clear hq hI hrh hqy hqy0 k1 k2 k3 k4
    rw [mulN]
    obtain ⟨hq1, hq2⟩ := hD2.start
    have hq3 := Nat.div_mul_le_self r1 Y1
    have hq4 := Nat.mod_lt r1 (show 0 < Y1 by omega)
    have hq5 := Nat.div_add_mod r1 Y1
    rw [Nat.mul_comm] at hq5
    refine ⟨_, W.mod64 _, _, W.mod64 _, _, W.mod64 _, r1, (by unfold W; rw [IntKind.wrap_u64]; omega), by omega, ?_⟩
    rw [tdiv_nonneg' (by omega) (by omega), ← Int.natCast_ediv]
    refine ⟨_, W.nat (by omega), ?_⟩
    rw [mulN]
    refine ⟨_, W.nat (by omega), (r1 - r1 / Y1 * Y1 : Nat), W.u64p (by omega), ?_⟩
    refine vcLoop Nat (fun q => [(18, .val (.int .u64 q)), (16, .val (.int .u64 (r1 - q * Y1 : Nat))), (9, .val (.int .u64 Y1)), (10, .val (.int .u64 Y0)), (14, .val (.int .u64 u0)), (17, .val (.int .u64 r1)), (15, .val (.int .u64 p)), (2, .val (.int .u64 Y)), (8, .val (.int .u64 s))]) (fun _ => [])
      (fun q _ => DigI r1 u0 Y1 Y q) (fun q => q) (r1 / Y1) ?_ rfl ?_ ?_
    · try simp only [go_sem, ↓reduceIte, Nat.reduceEqDiff, Nat.reduceAdd, Nat.reduceMul, Nat.reduceLeDiff, Nat.reduceLT, Nat.reduceBNe, reduceCtorEq, e9, e10, e14, e2, e8]
      first
        | done
        | (rw [hp]; exact e15)
    · exact ⟨hq1, hq3, hq2, by omega⟩
    rintro q env R3 hle3 hE ⟨k1, k2, k3, k4⟩
    (simp only [go_sem] at hE; obtain ⟨e18, e16, e9, e10, e14, e17, e15, e2, e8⟩ := hE; simp only [go_sem, ↓reduceIte, Nat.reduceEqDiff, Nat.reduceAdd, Nat.reduceMul, Nat.reduceLeDiff, Nat.reduceLT, Nat.reduceBNe, reduceCtorEq, e18, e16, e9, e10, e14, e17, e15, e2, e8]; dsimp only at *)
    have hdl2 := hD2.lt
    have hdu2 := hD2.u
    have hqy0 : q < 4294967296 → q * Y0 ≤ 4294967295 * 4294967295 := fun h => Nat.mul_le_mul (by omega) (by have := hD1.y0; omega)
    have hI : DigI r1 u0 Y1 Y q := ⟨k1, k2, k3, k4⟩
    obtain ⟨rh, hrh⟩ : ∃ rh, rh = r1 - q * Y1 := ⟨_, rfl⟩
    obtain ⟨qy, hqy⟩ : ∃ qy, qy = q * Y0 := ⟨_, rfl⟩
    rw [← hqy] at hqy0
    rw [← hrh] at k4
    rw [mulN, ← hrh, ← hqy]
    by_cases hq : (r1 * 4294967296 + u0) / Y < q
    case' pos =>
      have hq1' : 0 < q := Nat.lt_of_le_of_lt (Nat.zero_le _) hq
      have stop : 4294967296 ≤ rh + Y1 → ∀ p, q = p + 1 → p = (r1 * 4294967296 + u0) / Y := fun h p e => by subst e hrh; exact hD2.stop hI hq h
      have go : ¬ 4294967296 ≤ rh + Y1 → ∀ p, q = p + 1 → DigI r1 u0 Y1 Y p ∧ rh + Y1 = r1 - p * Y1 := fun h p e => by subst e hrh; exact hD2.go hI hq h
      obtain ⟨p2, hp2⟩ : ∃ p, q = p + 1 := ⟨q - 1, by omega⟩
      refine ⟨fun hlt => ⟨_, W.nat (by have := hqy0 (by omega); omega), _, W.u64 (by omega), _, W.u64 (by omega), fun hov => ⟨p2, W.u64p (by omega), _, W.u64 (by omega), fun hb => ?_, fun hb => ⟨p2, by omega, ⟨rfl, by rw [addN, (go (by omega) p2 hp2).2]⟩, (go (by omega) p2 hp2).1⟩⟩,
          fun hfit => absurd (hD2.at hI (by omega) (fun h => hfit (by rw [← hrh, ← hqy] at h; omega))) (by omega)⟩,
        fun hge => ⟨p2, W.u64p (by omega), _, W.u64 (by omega), fun hb => ?_, fun hb => ⟨p2, by omega, ⟨rfl, by rw [addN, (go (by omega) p2 hp2).2]⟩, (go (by omega) p2 hp2).1⟩⟩⟩
      all_goals have hQ2 := stop (by omega) p2 hp2
    case' neg =>
      have hQ2 : q = (r1 * 4294967296 + u0) / Y := Nat.le_antisymm (Nat.le_of_not_lt hq) k1
      have hlt' : q < 4294967296 := by rw [hQ2]; exact hdl2
      refine ⟨fun hlt => ⟨_, W.nat (by have := hqy0 (by omega); omega), _, W.u64 (by omega), _, W.u64 (by omega), fun hov => absurd (hD2.over k2 (by rw [← hrh, ← hqy]; omega)) hq, fun _ => ?_⟩, fun hge => absurd hge (by omega)⟩
      obtain ⟨p2, hp2⟩ : ∃ p, p = q := ⟨q, rfl⟩
      rw [← hp2] at hQ2 ⊢
  all_goals
    have hp2B : p2 < 4294967296 := by rw [hQ2]; exact hdl2
    obtain ⟨hs1, hs2⟩ := hD2.rest hQ2
    obtain ⟨r2, hr2'⟩ : ∃ r2, r2 = r1 * 4294967296 + u0 - p2 * Y := ⟨_, rfl⟩
    rw [← hr2'] at hs2
    have hlp := lo_parts hs hlo
    have hN : (hi * 18446744073709551616 + lo) * 2 ^ s = (p * 4294967296 + p2) * (y * 2 ^ s) + r2 := by
      rw [← hY, Nat.add_mul, Nat.add_mul, Nat.mul_right_comm, Nat.mul_right_comm p]
      omega
    obtain ⟨f1, f2⟩ := divfin hN (by rw [← hY]; exact hs2)
    refine ⟨_, W.u64 (by omega), (p * 4294967296 + p2 : Nat), W.u64p (by omega), _, W.mod64 _, _, W.mod64 _, _, (by rw [mulN]; exact W.mod64 _), r2, (by unfold W; rw [IntKind.wrap_u64]; omega), ?_⟩
    rw [show min s 64 = s by omega, shrK r2 s, f1, f2]
theorem nDiv64A (hi lo y : Nat) (hy : hi < y) (hy2 : y < 18446744073709551616) (hlo : lo < 18446744073709551616) (R : RO) :
    CallsR Try.prog 52 [.int .u64 hi, .int .u64 lo, .int .u64 y] R fun _ v => v = .tuple #[.int .u64 (((hi * 18446744073709551616 + lo) / y : Nat) : Int), .int .u64 (((hi * 18446744073709551616 + lo) % y : Nat) : Int)] := by
  by_cases h0 : hi = 0
  · subst h0
    have := nDiv64s lo y (by omega) (by omega) R
    simpa using this
  · exact nDiv64 hi lo y h0 hy hy2 hlo R
theorem nTimes : TimesC 9223372036854775807 := by
  intro a b m ha hb _ hm R
  obtain ⟨x, rfl⟩ := Int.eq_ofNat_of_zero_le ha.1
  obtain ⟨y, rfl⟩ := Int.eq_ofNat_of_zero_le hb.1
  obtain ⟨k, rfl⟩ := Int.eq_ofNat_of_zero_le (show 0 ≤ m by omega)
  have hk0 : 0 < k := by omega
  refine callsT mix Try.func39 comp39 (by simp [Try.ntmps39]) ?_; simp only [go_sem, ↓reduceIte, Nat.reduceEqDiff, Nat.reduceAdd, Nat.reduceMul, Nat.reduceLeDiff, Nat.reduceLT, Nat.reduceBNe, reduceCtorEq, vc39, rs39]
  refine ⟨_, W.u64 (by omega), _, W.u64 (by omega), ?_⟩
  refine vcall (nMul64 x y (by omega) (by omega) R) ?_
  rintro R1 v hle rfl
  try simp only [go_sem, ↓reduceIte, Nat.reduceEqDiff, Nat.reduceAdd, Nat.reduceMul, Nat.reduceLeDiff, Nat.reduceLT, Nat.reduceBNe, reduceCtorEq]
  refine ⟨_, W.u64 (by omega), ?_⟩
  obtain ⟨N, hN⟩ : ∃ N, N = x * y := ⟨_, rfl⟩
  have hxy : x * y < 18446744073709551616 * k := by
    rw [Nat.mul_comm 18446744073709551616 k]
    exact Nat.mul_lt_mul'' (by omega) (by omega)
  rw [← hN] at hxy ⊢
  have hR : CallsR Try.prog 47 [.int .u64 ((N / 18446744073709551616 : Nat) : Int), .int .u64 ((N % 18446744073709551616 : Nat) : Int), .int .u64 (k : Int)] R1 fun _ v => v = .int .u64 ((N % k : Nat) : Int) := by
    refine callsT mix Try.func47 comp47 (by simp [Try.ntmps47]) ?_; simp only [go_sem, ↓reduceIte, Nat.reduceEqDiff, Nat.reduceAdd, Nat.reduceMul, Nat.reduceLeDiff, Nat.reduceLT, Nat.reduceBNe, reduceCtorEq, vc47, rs47]
    refine ⟨by omega, ?_⟩
    rw [tmod_nonneg' (by omega), ← Int.natCast_emod, Nat.mod_eq_of_lt (show N / 18446744073709551616 < k by rw [Nat.div_lt_iff_lt_mul (by decide), Nat.mul_comm]; exact hxy)]
    refine vcall (nDiv64A (N / 18446744073709551616) (N % 18446744073709551616) k (by rw [Nat.div_lt_iff_lt_mul (by decide), Nat.mul_comm]; exact hxy) (by omega) (by omega) R1) ?_
    rintro R2 v hle rfl
    try simp only [go_sem, ↓reduceIte, Nat.reduceEqDiff, Nat.reduceAdd, Nat.reduceMul, Nat.reduceLeDiff, Nat.reduceLT, Nat.reduceBNe, reduceCtorEq]
    rw [show N / 18446744073709551616 * 18446744073709551616 + N % 18446744073709551616 = N by omega]
  refine vcall hR ?_
  rintro R2 v hle2 rfl
  try simp only [go_sem, ↓reduceIte, Nat.reduceEqDiff, Nat.reduceAdd, Nat.reduceMul, Nat.reduceLeDiff, Nat.reduceLT, Nat.reduceBNe, reduceCtorEq]
  have hlt := Nat.mod_lt N hk0
  refine ⟨_, W.in64 (by omega), ?_⟩
  rw [mulN, ← hN]
  rfl
end Go.Proofs.Ytlakekoekilbaaa
