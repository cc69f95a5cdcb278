/- Laws of package number, as contracts of the statements' functions: two congruences with small moduli. -/
import Derived.Test.YtlakekoekilbaaaLn2
namespace Go.Proofs.Ytlakekoekilbaaa
set_option linter.unusedSimpArgs false
set_option linter.unusedVariables false
open Go.RowKit Go.Sort Go.Proofs.Ytlakekoekilbaaa.Vc

theorem euc_inv {a m : Int} (hm : 1 ≤ m) : ∀ (f : Nat) {x y s t : Int}, y.toNat ≤ f → Euc a m x y s t → ∃ r : Int, m ∣ r * a - 1
  | f, x, y, s, t, hf, h => by
    by_cases hy : y = 0
    · subst hy
      have hx1 : x = 1 := by
        have h1 := h.g x (Int.dvd_refl x) (Int.dvd_zero x)
        have h2 := Int.le_of_dvd (by decide) h1
        have h3 := h.x0
        rcases Int.lt_or_le 0 x with h | h
        · omega
        · have : x = 0 := by omega
          subst this
          have := Int.zero_dvd.1 h1
          omega
      subst hx1
      exact ⟨s, h.sx⟩
    · have hy0 := h.y0
      obtain ⟨hN, _, hlt, _⟩ := h.step hm (by omega)
      have := hN.y0
      match f, hf with
      | 0, hf => omega
      | f + 1, hf => exact euc_inv hm f (by omega) hN
theorem gcd_parts {m n : Int} (hm : 1 ≤ m) (hn : 1 ≤ n) : ∃ g M N : Int, g = Int.gcd m n ∧ 1 ≤ g ∧ m = g * M ∧ n = g * N ∧ 1 ≤ M ∧ 1 ≤ N ∧ (∀ d : Int, d ∣ M → d ∣ N → d ∣ 1) ∧ (Int.lcm m n : Int) = M * n ∧ (Int.lcm m n : Int) = m * N := by
  have hg := gcd_le_left (a := m) n hm
  obtain ⟨M, hM⟩ := Int.gcd_dvd_left m n
  obtain ⟨N, hN⟩ := Int.gcd_dvd_right m n
  have hlc := lcm_eq hm hn
  have hgc : ∀ d : Int, d ∣ m → d ∣ n → d ∣ (Int.gcd m n : Int) := fun d h1 h2 => Int.dvd_coe_gcd h1 h2
  have hmg : m / (Int.gcd m n : Int) = M := Int.ediv_eq_of_eq_mul_right (by omega) hM
  rw [hmg] at hlc
  refine ⟨Int.gcd m n, M, N, rfl, hg.1, hM, hN, ?_, ?_, fun d h3 h4 => ?_, hlc, ?_⟩
  · rcases Int.lt_or_le 0 M with h | h
    · omega
    · have := Int.mul_nonneg (show 0 ≤ (Int.gcd m n : Int) by omega) (show 0 ≤ -M by omega)
      rw [Int.mul_neg] at this; omega
  · rcases Int.lt_or_le 0 N with h | h
    · omega
    · have := Int.mul_nonneg (show 0 ≤ (Int.gcd m n : Int) by omega) (show 0 ≤ -N by omega)
      rw [Int.mul_neg] at this; omega
  · obtain ⟨g, hgg⟩ : ∃ g : Int, g = Int.gcd m n := ⟨_, rfl⟩
    rw [← hgg] at hM hN hgc hg
    have h6 : g * d ∣ g := hgc _ (by rw [hM]; exact Int.mul_dvd_mul_left g h3) (by rw [hN]; exact Int.mul_dvd_mul_left g h4)
    have h7 : g * d ∣ g * 1 := by rwa [Int.mul_one]
    exact Int.dvd_of_mul_dvd_mul_left (by omega) h7
  · obtain ⟨g, hgg⟩ : ∃ g : Int, g = Int.gcd m n := ⟨_, rfl⟩
    rw [hlc]
    rw [← hgg] at hM hN
    calc M * n = M * (g * N) := by rw [← hN]
      _ = (g * M) * N := by rw [← Int.mul_assoc, Int.mul_comm M g]
      _ = m * N := by rw [← hM]
theorem solve_exists {a m b n : Int} (hm : 1 ≤ m) (hn : 1 ≤ n) (hd : (Int.gcd m n : Int) ∣ b - a) : ∃ x : Int, 0 ≤ x ∧ x < Int.lcm m n ∧ m ∣ x - a ∧ n ∣ x - b := by
  obtain ⟨g, M, N, hg, hg1, hM, hN, hM1, hN1, hco, hl1, hl2⟩ := gcd_parts hm hn
  rw [← hg] at hd
  obtain ⟨D, hD⟩ := hd
  obtain ⟨inv, hinv⟩ := euc_inv (a := M) (m := N) hN1 N.toNat (Nat.le_refl _) (Euc.start (by omega) hN1 hco)
  have hL : 1 ≤ (Int.lcm m n : Int) := by
    have := Int.mul_le_mul_of_nonneg_right hM1 (show 0 ≤ n by omega)
    omega
  have hdx : ∀ x0 : Int, (Int.lcm m n : Int) ∣ x0 - x0 % (Int.lcm m n : Int) := fun x0 => dvd_sub_emod x0 _
  have key1 : m ∣ (a + m * (D * inv)) - a := ⟨D * inv, by omega⟩
  have key2 : n ∣ (a + m * (D * inv)) - b := by
    obtain ⟨q, hq⟩ := hinv
    refine ⟨D * q, ?_⟩
    have e1 : m * (D * inv) = g * (D * (inv * M)) := by rw [hM]; grind
    have e2 : inv * M = N * q + 1 := by omega
    have e3 : n * (D * q) = g * (D * (N * q)) := by rw [hN]; grind
    have e4 : g * (D * (inv * M)) = g * (D * (N * q)) + g * D := by rw [e2]; grind
    omega
  refine ⟨(a + m * (D * inv)) % (Int.lcm m n : Int), Int.emod_nonneg _ (by omega), Int.emod_lt_of_pos _ (by omega), ?_, ?_⟩
  · have h1 := Int.dvd_trans (Int.dvd_lcm_left m n) (hdx (a + m * (D * inv)))
    have := Int.dvd_sub key1 h1
    rwa [show a + m * (D * inv) - a - (a + m * (D * inv) - (a + m * (D * inv)) % (Int.lcm m n : Int)) = (a + m * (D * inv)) % (Int.lcm m n : Int) - a by omega] at this
  · have h1 := Int.dvd_trans (Int.dvd_lcm_right m n) (hdx (a + m * (D * inv)))
    have := Int.dvd_sub key2 h1
    rwa [show a + m * (D * inv) - b - (a + m * (D * inv) - (a + m * (D * inv)) % (Int.lcm m n : Int)) = (a + m * (D * inv)) % (Int.lcm m n : Int) - b by omega] at this
theorem solve_one {a m b n x y : Int} (h1 : 0 ≤ x ∧ x < Int.lcm m n) (h2 : 0 ≤ y ∧ y < Int.lcm m n) (hx : m ∣ x - a) (hx2 : n ∣ x - b) (hy : m ∣ y - a) (hy2 : n ∣ y - b) : x = y := by
  have d1 : m ∣ x - y := by have := Int.dvd_sub hx hy; rwa [show x - a - (y - a) = x - y by omega] at this
  have d2 : n ∣ x - y := by have := Int.dvd_sub hx2 hy2; rwa [show x - b - (y - b) = x - y by omega] at this
  have d3 : (Int.lcm m n : Int) ∣ x - y := Int.coe_lcm_dvd d1 d2
  rcases Int.lt_trichotomy x y with h | h | h
  · have := Int.le_of_dvd (show 0 < y - x by omega) (by have := Int.dvd_neg.2 d3; rwa [Int.neg_sub] at this)
    omega
  · exact h
  · have := Int.le_of_dvd (show 0 < x - y by omega) d3
    omega
theorem SolveP.one {a m b n : Int} {v w : Value} (h : SolveP a m b n v) (k : SolveP a m b n w) : v = w := by
  rcases h with ⟨h1, rfl⟩ | ⟨h0, h1, rfl⟩ | ⟨h0, h1, h2, rfl⟩ | ⟨h0, h1, h2, x, h3, h4, h5, h6, rfl⟩ <;>
  rcases k with ⟨k1, rfl⟩ | ⟨k0, k1, rfl⟩ | ⟨k0, k1, k2, rfl⟩ | ⟨k0, k1, k2, y, k3, k4, k5, k6, rfl⟩ <;> first
    | rfl
    | (exfalso; first | exact h1 k0 | exact k1 h0 | exact h1 k1 | exact k1 h1 | omega)
    | (rw [solve_one ⟨h3, h4⟩ ⟨k3, k4⟩ h5 h6 k5 k6])
theorem SolveP.form {a m b n : Int} {v : Value} (h : SolveP a m b n v) : ∃ x l e : Int, v = .tuple #[.int .i64 x, .int .i64 l, .int .i64 e] := by
  rcases h with ⟨_, rfl⟩ | ⟨_, _, rfl⟩ | ⟨_, _, _, rfl⟩ | ⟨_, _, _, x, _, _, _, _, rfl⟩
  all_goals exact ⟨_, _, _, rfl⟩
theorem emod_eq_iff (a b g : Int) : a % g = b % g ↔ g ∣ b - a := by
  rw [eq_comm]
  exact Int.emod_eq_emod_iff_emod_sub_eq_zero.trans ⟨fun h => Int.dvd_of_emod_eq_zero h, fun h => Int.emod_eq_zero_of_dvd h⟩
theorem rSolve (a b m n : Int) (ha : I64 a) (hb : I64 b) (hm : 0 ≤ m ∧ m ≤ 65535) (hn : 0 ≤ n ∧ n ≤ 65535) (R : RO) : CallsR Try.prog 29 [.agg #[.int .i64 a, .int .i64 b], .agg #[.int .i64 m, .int .i64 n]] R fun _ v => SolveP a m b n v := by
  have hmI : I64 m := by unfold I64; omega
  have hnI : I64 n := by unfold I64; omega
  refine callsT mix Try.func29 comp29 (by simp [Try.ntmps29]) ?_; simp only [go_sem, ↓reduceIte, Nat.reduceEqDiff, Nat.reduceAdd, Nat.reduceMul, Nat.reduceLeDiff, Nat.reduceLT, Nat.reduceBNe, reduceCtorEq, vc29, rs29]
  try simp only [go_sem, ↓reduceIte, Nat.reduceEqDiff, Nat.reduceAdd, Nat.reduceMul, Nat.reduceLeDiff, Nat.reduceLT, Nat.reduceBNe, reduceCtorEq, Int.reduceLE, Int.reduceLT, Int.reduceToNat, Int.cast_ofNat_Int, Int.reduceEq, Int.reduceNe]
  have bad : ¬ (1 ≤ m ∧ 1 ≤ n) → SolveP a m b n (.tuple #[.int .i64 0, .int .i64 0, .int .i64 1]) := fun h => .inl ⟨h, rfl⟩
  refine ⟨fun h1 => ⟨fun h2 => bad (by omega), fun h2 => ?_⟩, fun h1 => bad (by omega)⟩
  have hm1 : 1 ≤ m := by omega
  have hn1 : 1 ≤ n := by omega
  refine vcall (rGcdV m n hmI hnI R) ?_
  rintro R1 v hle1 rfl
  have hg := gcdV_eq hmI hnI (by omega) (by omega) (by omega)
  have hgl := gcd_le_left (a := m) n hm1
  rw [hg.1]
  try simp only [go_sem, ↓reduceIte, Nat.reduceEqDiff, Nat.reduceAdd, Nat.reduceMul, Nat.reduceLeDiff, Nat.reduceLT, Nat.reduceBNe, reduceCtorEq, Int.reduceLE, Int.reduceLT, Int.reduceToNat, Int.cast_ofNat_Int, Int.reduceEq, Int.reduceNe]
  refine vcall (rMod a _ hgl.1 (by unfold I64; omega) ha _) ?_
  rintro R2 v hle2 rfl
  try simp only [go_sem, ↓reduceIte, Nat.reduceEqDiff, Nat.reduceAdd, Nat.reduceMul, Nat.reduceLeDiff, Nat.reduceLT, Nat.reduceBNe, reduceCtorEq, Int.reduceLE, Int.reduceLT, Int.reduceToNat, Int.cast_ofNat_Int, Int.reduceEq, Int.reduceNe]
  refine vcall (rMod b _ hgl.1 (by unfold I64; omega) hb _) ?_
  rintro R3 v hle3 rfl
  try simp only [go_sem, ↓reduceIte, Nat.reduceEqDiff, Nat.reduceAdd, Nat.reduceMul, Nat.reduceLeDiff, Nat.reduceLT, Nat.reduceBNe, reduceCtorEq, Int.reduceLE, Int.reduceLT, Int.reduceToNat, Int.cast_ofNat_Int, Int.reduceEq, Int.reduceNe]
  refine ⟨fun hne => ?_, fun he => ?_⟩
  · exact .inr (.inl ⟨⟨hm1, hn1⟩, fun h => hne ((emod_eq_iff a b _).2 h), rfl⟩)
  have hd := (emod_eq_iff a b _).1 (by first | exact he | exact Classical.not_not.1 he)
  refine vcall (rLcm m n hmI hnI _) ?_
  rintro R4 v hle4 rfl
  obtain ⟨s, hs0, hs1, hs2, hs3⟩ := solve_exists hm1 hn1 hd
  obtain ⟨g, M, N, hgg, hg1, hM, hN, hM1, hN1, hco, hl1, hl2⟩ := gcd_parts hm1 hn1
  have hLb : (Int.lcm m n : Int) ≤ 65535 * 65535 := by
    rw [hl1]
    have hMm : M ≤ m := by
      have := Int.mul_le_mul_of_nonneg_right hg1 (show 0 ≤ M by omega)
      omega
    exact Int.mul_le_mul (by omega) (by omega) (by omega) (by omega)
  have e1 : lcmE m n = 0 := by unfold lcmE; rw [if_neg (by omega), if_neg (by omega)]
  have e2 : lcmV m n = Int.lcm m n := by unfold lcmV; rw [if_pos e1]
  rw [e1, e2]
  try simp only [go_sem, ↓reduceIte, Nat.reduceEqDiff, Nat.reduceAdd, Nat.reduceMul, Nat.reduceLeDiff, Nat.reduceLT, Nat.reduceBNe, reduceCtorEq, Int.reduceLE, Int.reduceLT, Int.reduceToNat, Int.cast_ofNat_Int, Int.reduceEq, Int.reduceNe]
  refine vcall (rMod a m hm1 hmI ha _) ?_
  rintro R5 v hle5 rfl
  try simp only [go_sem, ↓reduceIte, Nat.reduceEqDiff, Nat.reduceAdd, Nat.reduceMul, Nat.reduceLeDiff, Nat.reduceLT, Nat.reduceBNe, reduceCtorEq, Int.reduceLE, Int.reduceLT, Int.reduceToNat, Int.cast_ofNat_Int, Int.reduceEq, Int.reduceNe]
  have hr := Int.emod_nonneg a (show m ≠ 0 by omega)
  have hr2 := Int.emod_lt_of_pos a (show 0 < m by omega)
  obtain ⟨K, hK⟩ : m ∣ s - a % m := by
    have := Int.dvd_add hs2 (dvd_sub_emod a m)
    rwa [show s - a + (a - a % m) = s - a % m by omega] at this
  have hK0 : 0 ≤ K := by
    rcases Int.lt_or_le K 0 with h | h
    · have := Int.mul_le_mul_of_nonneg_left (show K ≤ -1 by omega) (show 0 ≤ m by omega)
      rw [Int.mul_neg, Int.mul_one] at this
      omega
    · exact h
  refine vcLoop (Nat × Int) (fun y => [(10, .val (.int .i64 y.2)), (8, .val (.int .i64 (Int.lcm m n))), (2, .loc 0 0), (3, .loc 1 0)]) (fun _ => [.box [.val (.int .i64 a), .val (.int .i64 b)], .box [.val (.int .i64 m), .val (.int .i64 n)]])
    (fun y _ => (y.1 : Int) ≤ K ∧ y.2 = a % m + m * y.1) (fun y => K.toNat - y.1) (0, a % m) ?_ rfl ?_ ?_
  · (try simp only [go_sem, ↓reduceIte, Nat.reduceEqDiff, Nat.reduceAdd, Nat.reduceMul, Nat.reduceLeDiff, Nat.reduceLT, Nat.reduceBNe, reduceCtorEq]) <;> (repeat' (first | rfl | trivial | constructor | (intro h; exact absurd rfl h)))
  · exact ⟨hK0, by simp⟩
  rintro ⟨k, x⟩ env R6 hle6 hE ⟨hk, hx⟩
  dsimp only at hk hx
  (simp only [go_sem] at hE; obtain ⟨e10, e8, e2, e3⟩ := hE; simp only [go_sem, ↓reduceIte, Nat.reduceEqDiff, Nat.reduceAdd, Nat.reduceMul, Nat.reduceLeDiff, Nat.reduceLT, Nat.reduceBNe, reduceCtorEq, e10, e8, e2, e3]; dsimp only at *)
  try simp only [go_sem, ↓reduceIte, Nat.reduceEqDiff, Nat.reduceAdd, Nat.reduceMul, Nat.reduceLeDiff, Nat.reduceLT, Nat.reduceBNe, reduceCtorEq, Int.reduceLE, Int.reduceLT, Int.reduceToNat, Int.cast_ofNat_Int, Int.reduceEq, Int.reduceNe, e10, e8, e2, e3]
  have hmk0 : 0 ≤ m * k := Int.mul_nonneg (by omega) (by omega)
  have hmk : m * k ≤ m * K := Int.mul_le_mul_of_nonneg_left hk (by omega)
  refine vcall (rMod x n hn1 hnI (by unfold I64; omega) _) ?_
  rintro R7 v hle7 rfl
  try simp only [go_sem, ↓reduceIte, Nat.reduceEqDiff, Nat.reduceAdd, Nat.reduceMul, Nat.reduceLeDiff, Nat.reduceLT, Nat.reduceBNe, reduceCtorEq, Int.reduceLE, Int.reduceLT, Int.reduceToNat, Int.cast_ofNat_Int, Int.reduceEq, Int.reduceNe, e10, e8, e2, e3]
  refine vcall (rMod b n hn1 hnI hb _) ?_
  rintro R8 v hle8 rfl
  try simp only [go_sem, ↓reduceIte, Nat.reduceEqDiff, Nat.reduceAdd, Nat.reduceMul, Nat.reduceLeDiff, Nat.reduceLT, Nat.reduceBNe, reduceCtorEq, Int.reduceLE, Int.reduceLT, Int.reduceToNat, Int.cast_ofNat_Int, Int.reduceEq, Int.reduceNe, e10, e8, e2, e3]
  refine ⟨fun hne => ?_, fun heq => ?_⟩
  · have hkK : (k : Int) < K := by
      rcases Int.lt_or_le k K with h | h
      · exact h
      · exfalso
        have e : (k : Int) = K := by omega
        have : x = s := by rw [hx, e]; omega
        subst this
        exact hne ((emod_eq_iff _ _ n).2 (by have := Int.dvd_neg.2 hs3; rwa [Int.neg_sub] at this))
    have hstep : m * ((k : Int) + 1) ≤ m * K := Int.mul_le_mul_of_nonneg_left (by omega) (by omega)
    rw [Int.mul_add, Int.mul_one] at hstep
    refine ⟨_, W.in64 (by omega), (k + 1, x + m), by dsimp only; omega, rfl, by dsimp only; omega, ?_⟩
    dsimp only
    rw [hx, Int.natCast_add, Int.mul_add]
    omega
  · refine .inr (.inr (.inr ⟨⟨hm1, hn1⟩, hd, by omega, x, by omega, by omega, ?_, ?_, rfl⟩))
    · have h1 := dvd_sub_emod a m
      have h3 := Int.dvd_sub (Int.dvd_mul_right m k) h1
      rwa [show m * (k : Int) - (a - a % m) = x - a by omega] at h3
    · have := (emod_eq_iff x b n).1 heq
      have := Int.dvd_neg.2 this
      rwa [Int.neg_sub] at this
theorem lSolveMatches (a b m n : Int) (ha : I64 a) (hb : I64 b) (hm : 0 ≤ m ∧ m ≤ 65535) (hn : 0 ≤ n ∧ n ≤ 65535) (R : RO) : CallsR Try.prog 4 [.agg #[.int .i64 a, .int .i64 b], .int .u16 m, .int .u16 n] R fun _ v => v = .bool true := by
  have hmI : I64 m := by unfold I64; omega
  have hnI : I64 n := by unfold I64; omega
  refine callsT mix Try.func4 comp4 (by simp [Try.ntmps4]) ?_; simp only [go_sem, ↓reduceIte, Nat.reduceEqDiff, Nat.reduceAdd, Nat.reduceMul, Nat.reduceLeDiff, Nat.reduceLT, Nat.reduceBNe, reduceCtorEq, vc4, rs4]
  refine vcall (nSanity R) ?_
  rintro R1 v hle1 rfl
  try simp only [go_sem, ↓reduceIte, Nat.reduceEqDiff, Nat.reduceAdd, Nat.reduceMul, Nat.reduceLeDiff, Nat.reduceLT, Nat.reduceBNe, reduceCtorEq, Int.reduceLE, Int.reduceLT, Int.reduceToNat, Int.cast_ofNat_Int, Int.reduceEq, Int.reduceNe]
  refine ⟨_, W.in64 (by omega), _, W.in64 (by omega), vcall (nSolve a m b n ha hmI hb hnI (timesS (by omega)) _) ?_⟩
  rintro R2 v hle2 hv
  obtain ⟨x, l, e, rfl⟩ := hv.form
  try simp only [go_sem, ↓reduceIte, Nat.reduceEqDiff, Nat.reduceAdd, Nat.reduceMul, Nat.reduceLeDiff, Nat.reduceLT, Nat.reduceBNe, reduceCtorEq, Int.reduceLE, Int.reduceLT, Int.reduceToNat, Int.cast_ofNat_Int, Int.reduceEq, Int.reduceNe]
  refine ⟨_, W.in64 (by omega), _, W.in64 (by omega), vcall (rSolve a b m n ha hb hm hn _) ?_⟩
  rintro R3 v hle3 hw
  obtain rfl := hv.one hw
  try simp only [go_sem, ↓reduceIte, Nat.reduceEqDiff, Nat.reduceAdd, Nat.reduceMul, Nat.reduceLeDiff, Nat.reduceLT, Nat.reduceBNe, reduceCtorEq, Int.reduceLE, Int.reduceLT, Int.reduceToNat, Int.cast_ofNat_Int, Int.reduceEq, Int.reduceNe]
/-- The result of Solve, where the moduli are small: no error but that there is none. -/
theorem SolveP.ok {a m b n : Int} {v : Value} (h : SolveP a m b n v) (hm : 1 ≤ m) (hn : 1 ≤ n) (hl : (Int.lcm m n : Int) ≤ 1099511627776) :
    (¬ (Int.gcd m n : Int) ∣ b - a ∧ v = .tuple #[.int .i64 0, .int .i64 0, .int .i64 4]) ∨
    ((Int.gcd m n : Int) ∣ b - a ∧ ∃ x : Int, 0 ≤ x ∧ x < Int.lcm m n ∧ m ∣ x - a ∧ n ∣ x - b ∧ v = .tuple #[.int .i64 x, .int .i64 (Int.lcm m n), .int .i64 0]) := by
  rcases h with ⟨h1, rfl⟩ | ⟨h0, h1, rfl⟩ | ⟨h0, h1, h2, rfl⟩ | ⟨h0, h1, h2, x, h3, h4, h5, h6, rfl⟩
  · exact absurd ⟨hm, hn⟩ h1
  · exact .inl ⟨h1, rfl⟩
  · omega
  · exact .inr ⟨h1, x, h3, h4, h5, h6, rfl⟩
theorem lcm_le {m n c d : Int} (hm : 1 ≤ m ∧ m ≤ c) (hn : 1 ≤ n ∧ n ≤ d) : 1 ≤ (Int.lcm m n : Int) ∧ (Int.lcm m n : Int) ≤ c * d := by
  obtain ⟨g, M, N, hgg, hg1, hM, hN, hM1, hN1, hco, hl1, hl2⟩ := gcd_parts hm.1 hn.1
  rw [hl1]
  have hMm : M ≤ m := by
    have := Int.mul_le_mul_of_nonneg_right hg1 (show 0 ≤ M by omega)
    omega
  have := Int.mul_le_mul_of_nonneg_right hM1 (show 0 ≤ n by omega)
  exact ⟨by omega, Int.mul_le_mul (by omega) (by omega) (by omega) (by omega)⟩
theorem lFinds (x m n : Int) (hx : I64 x) (hm : 0 ≤ m ∧ m ≤ 4294967295) (hn : 0 ≤ n ∧ n ≤ 4294967295) (R : RO) : CallsR Try.prog 10 [.int .i64 x, .int .u32 m, .int .u32 n] R fun _ v => v = .bool true := by
  refine callsT mix Try.func10 comp10 (by simp [Try.ntmps10]) ?_; simp only [go_sem, ↓reduceIte, Nat.reduceEqDiff, Nat.reduceAdd, Nat.reduceMul, Nat.reduceLeDiff, Nat.reduceLT, Nat.reduceBNe, reduceCtorEq, vc10, rs10]
  refine vcall (nSanity R) ?_
  rintro R1 v hle1 rfl
  try simp only [go_sem, ↓reduceIte, Nat.reduceEqDiff, Nat.reduceAdd, Nat.reduceMul, Nat.reduceLeDiff, Nat.reduceLT, Nat.reduceBNe, reduceCtorEq, Int.reduceLE, Int.reduceLT, Int.reduceToNat, Int.cast_ofNat_Int, Int.reduceEq, Int.reduceNe]
  rw [tmod_nonneg' hm.1, tmod_nonneg' hn.1]
  have hm2 : 0 ≤ m % 1048576 ∧ m % 1048576 < 1048576 := by omega
  have hn2 : 0 ≤ n % 1048576 ∧ n % 1048576 < 1048576 := by omega
  generalize m % 1048576 = p at *
  generalize n % 1048576 = q at *
  refine ⟨_, W.in64 (by omega), _, W.in64 (by omega), _, W.in64 (by omega), _, W.in64 (by omega), ?_⟩
  refine vcall (nSolve x (p + 1) x (q + 1) hx (by unfold I64; omega) hx (by unfold I64; omega) (timesS (by omega)) _) ?_
  rintro R2 v hle2 hv
  have hl := lcm_le (m := p + 1) (n := q + 1) (c := 1048576) (d := 1048576) (by omega) (by omega)
  rcases hv.ok (by omega) (by omega) (by omega) with ⟨h1, _⟩ | ⟨_, y, h3, h4, h5, h6, rfl⟩
  · exact absurd (by simp) h1
  try simp only [go_sem, ↓reduceIte, Nat.reduceEqDiff, Nat.reduceAdd, Nat.reduceMul, Nat.reduceLeDiff, Nat.reduceLT, Nat.reduceBNe, reduceCtorEq, Int.reduceLE, Int.reduceLT, Int.reduceToNat, Int.cast_ofNat_Int, Int.reduceEq, Int.reduceNe]
  refine ⟨fun h => by omega, fun _ => ?_⟩
  refine vcall (nMod x _ (by unfold I64; omega) hx _) ?_
  rintro R3 v hle3 rfl
  rw [if_neg (by omega), if_neg (by omega)]
  have hy : y = x % (Int.lcm (p + 1) (q + 1) : Int) := by
    have e1 := Int.emod_nonneg x (show (Int.lcm (p + 1) (q + 1) : Int) ≠ 0 by omega)
    have e2 := Int.emod_lt_of_pos x (show 0 < (Int.lcm (p + 1) (q + 1) : Int) by omega)
    have e3 := dvd_sub_emod x (Int.lcm (p + 1) (q + 1))
    refine solve_one ⟨h3, h4⟩ ⟨e1, e2⟩ h5 h6 ?_ ?_
    · have := Int.dvd_neg.2 (Int.dvd_trans (Int.dvd_lcm_left (p + 1) (q + 1)) e3); rwa [Int.neg_sub] at this
    · have := Int.dvd_neg.2 (Int.dvd_trans (Int.dvd_lcm_right (p + 1) (q + 1)) e3); rwa [Int.neg_sub] at this
  try simp only [go_sem, ↓reduceIte, Nat.reduceEqDiff, Nat.reduceAdd, Nat.reduceMul, Nat.reduceLeDiff, Nat.reduceLT, Nat.reduceBNe, reduceCtorEq, Int.reduceLE, Int.reduceLT, Int.reduceToNat, Int.cast_ofNat_Int, Int.reduceEq, Int.reduceNe]
  exact fun h => absurd hy h
/-- Three congruences together. -/
def Three (a b c p q r z : Int) : Prop := p ∣ z - a ∧ q ∣ z - b ∧ r ∣ z - c
def ThreeP (a b c p q r : Int) (v : Value) : Prop :=
  ((¬ ∃ z, Three a b c p q r z) ∧ v = .tuple #[.int .i64 0, .int .i64 0, .int .i64 4]) ∨
  (∃ z, Three a b c p q r z ∧ 0 ≤ z ∧ z < Int.lcm (Int.lcm p q) r ∧ v = .tuple #[.int .i64 z, .int .i64 (Int.lcm (Int.lcm p q) r), .int .i64 0])
theorem ThreeP.one {a b c p q r : Int} {v w : Value} (h : ThreeP a b c p q r v) (k : ThreeP a b c p q r w) : v = w := by
  rcases h with ⟨h1, rfl⟩ | ⟨z, h1, h2, h3, rfl⟩ <;> rcases k with ⟨k1, rfl⟩ | ⟨y, k1, k2, k3, rfl⟩
  · rfl
  · exact absurd ⟨y, k1⟩ h1
  · exact absurd ⟨z, h1⟩ k1
  · have d1 : (Int.lcm (Int.lcm p q) r : Int) ∣ z - y := by
      refine Int.coe_lcm_dvd (Int.coe_lcm_dvd ?_ ?_) ?_
      · have := Int.dvd_sub h1.1 k1.1; rwa [show z - a - (y - a) = z - y by omega] at this
      · have := Int.dvd_sub h1.2.1 k1.2.1; rwa [show z - b - (y - b) = z - y by omega] at this
      · have := Int.dvd_sub h1.2.2 k1.2.2; rwa [show z - c - (y - c) = z - y by omega] at this
    have : z = y := by
      rcases Int.lt_trichotomy z y with h | h | h
      · have := Int.le_of_dvd (show 0 < y - z by omega) (by have := Int.dvd_neg.2 d1; rwa [Int.neg_sub] at this)
        omega
      · exact h
      · have := Int.le_of_dvd (show 0 < z - y by omega) d1
        omega
    rw [this]
theorem not_two {a b p q : Int} (h : ¬ (Int.gcd p q : Int) ∣ b - a) (z : Int) (h1 : p ∣ z - a) (h2 : q ∣ z - b) : False := by
  have := Int.dvd_sub (Int.dvd_trans (Int.gcd_dvd_left p q) h1) (Int.dvd_trans (Int.gcd_dvd_right p q) h2)
  rw [show z - a - (z - b) = b - a by omega] at this
  exact h this
theorem three_left {a b c p q r x : Int} {v : Value} (hp : 1 ≤ p) (hq : 1 ≤ q) (hr : 1 ≤ r) (hl : 1 ≤ (Int.lcm p q : Int)) (h1 : p ∣ x - a) (h2 : q ∣ x - b) (hL : (Int.lcm (Int.lcm p q) r : Int) ≤ 1099511627776) (h : SolveP x (Int.lcm p q) c r v) : ThreeP a b c p q r v := by
  rcases h.ok hl hr hL with ⟨k1, rfl⟩ | ⟨_, z, k1, k2, k3, k4, rfl⟩
  · refine .inl ⟨fun ⟨z, z1, z2, z3⟩ => not_two k1 z (Int.coe_lcm_dvd ?_ ?_) z3, rfl⟩
    · have := Int.dvd_sub z1 h1; rwa [show z - a - (x - a) = z - x by omega] at this
    · have := Int.dvd_sub z2 h2; rwa [show z - b - (x - b) = z - x by omega] at this
  · refine .inr ⟨z, ⟨?_, ?_, k4⟩, k1, k2, rfl⟩
    · have := Int.dvd_add (Int.dvd_trans (Int.dvd_lcm_left p q) k3) h1; rwa [show z - x + (x - a) = z - a by omega] at this
    · have := Int.dvd_add (Int.dvd_trans (Int.dvd_lcm_right p q) k3) h2; rwa [show z - x + (x - b) = z - b by omega] at this
theorem three_right {a b c p q r y : Int} {v : Value} (hp : 1 ≤ p) (hq : 1 ≤ q) (hr : 1 ≤ r) (hl : 1 ≤ (Int.lcm q r : Int)) (h1 : q ∣ y - b) (h2 : r ∣ y - c) (hL : (Int.lcm (Int.lcm p q) r : Int) ≤ 1099511627776) (h : SolveP a p y (Int.lcm q r) v) : ThreeP a b c p q r v := by
  have hLL : (Int.lcm p (Int.lcm q r : Int) : Int) = (Int.lcm (Int.lcm p q) r : Int) := by rw [Int.lcm_assoc]
  rcases h.ok hp hl (by omega) with ⟨k1, rfl⟩ | ⟨_, z, k1, k2, k3, k4, rfl⟩
  · refine .inl ⟨fun ⟨z, z1, z2, z3⟩ => not_two k1 z z1 (Int.coe_lcm_dvd ?_ ?_), rfl⟩
    · have := Int.dvd_sub z2 h1; rwa [show z - b - (y - b) = z - y by omega] at this
    · have := Int.dvd_sub z3 h2; rwa [show z - c - (y - c) = z - y by omega] at this
  · refine .inr ⟨z, ⟨k3, ?_, ?_⟩, k1, by omega, by rw [hLL]⟩
    · have := Int.dvd_add (Int.dvd_trans (Int.dvd_lcm_left q r) k4) h1; rwa [show z - y + (y - b) = z - b by omega] at this
    · have := Int.dvd_add (Int.dvd_trans (Int.dvd_lcm_right q r) k4) h2; rwa [show z - y + (y - c) = z - c by omega] at this
theorem lThree (a b c p q r : Int) (ha : I64 a) (hb : I64 b) (hc : I64 c) (hp : 0 ≤ p ∧ p ≤ 255) (hq : 0 ≤ q ∧ q ≤ 255) (hr : 0 ≤ r ∧ r ≤ 255) (R : RO) : CallsR Try.prog 9 [.agg #[.int .i64 a, .int .i64 b, .int .i64 c], .agg #[.int .u8 p, .int .u8 q, .int .u8 r]] R fun _ v => v = .bool true := by
  refine callsT mix Try.func9 comp9 (by simp [Try.ntmps9]) ?_; simp only [go_sem, ↓reduceIte, Nat.reduceEqDiff, Nat.reduceAdd, Nat.reduceMul, Nat.reduceLeDiff, Nat.reduceLT, Nat.reduceBNe, reduceCtorEq, vc9, rs9]
  try simp only [go_sem, ↓reduceIte, Nat.reduceEqDiff, Nat.reduceAdd, Nat.reduceMul, Nat.reduceLeDiff, Nat.reduceLT, Nat.reduceBNe, reduceCtorEq, Int.reduceLE, Int.reduceLT, Int.reduceToNat, Int.cast_ofNat_Int, Int.reduceEq, Int.reduceNe]
  refine vcall (nSanity R) ?_
  rintro R1 v hle1 rfl
  try simp only [go_sem, ↓reduceIte, Nat.reduceEqDiff, Nat.reduceAdd, Nat.reduceMul, Nat.reduceLeDiff, Nat.reduceLT, Nat.reduceBNe, reduceCtorEq, Int.reduceLE, Int.reduceLT, Int.reduceToNat, Int.cast_ofNat_Int, Int.reduceEq, Int.reduceNe]
  refine ⟨_, W.in64 (by omega), _, W.in64 (by omega), _, W.in64 (by omega), _, W.in64 (by omega), _, W.in64 (by omega), _, W.in64 (by omega), ?_⟩
  have hl1 := lcm_le (m := p + 1) (n := q + 1) (c := 256) (d := 256) (by omega) (by omega)
  have hl2 := lcm_le (m := q + 1) (n := r + 1) (c := 256) (d := 256) (by omega) (by omega)
  have hl3 := lcm_le (m := Int.lcm (p + 1) (q + 1)) (n := r + 1) (c := 65536) (d := 256) (by omega) (by omega)
  refine vcall (nSolve a (p + 1) b (q + 1) ha (by unfold I64; omega) hb (by unfold I64; omega) (timesS (by omega)) _) ?_
  rintro R2 v hle2 hv
  have none1 : ¬ (Int.gcd (p + 1) (q + 1) : Int) ∣ b - a → ThreeP a b c (p + 1) (q + 1) (r + 1) (.tuple #[.int .i64 0, .int .i64 0, .int .i64 4]) := fun h => .inl ⟨fun ⟨z, z1, z2, z3⟩ => not_two h z z1 z2, rfl⟩
  have none2 : ¬ (Int.gcd (q + 1) (r + 1) : Int) ∣ c - b → ThreeP a b c (p + 1) (q + 1) (r + 1) (.tuple #[.int .i64 0, .int .i64 0, .int .i64 4]) := fun h => .inl ⟨fun ⟨z, z1, z2, z3⟩ => not_two h z z2 z3, rfl⟩
  rcases hv.ok (by omega) (by omega) (by omega) with ⟨n1, rfl⟩ | ⟨_, x, x1, x2, x3, x4, rfl⟩
  all_goals
    try simp only [go_sem, ↓reduceIte, Nat.reduceEqDiff, Nat.reduceAdd, Nat.reduceMul, Nat.reduceLeDiff, Nat.reduceLT, Nat.reduceBNe, reduceCtorEq, Int.reduceLE, Int.reduceLT, Int.reduceToNat, Int.cast_ofNat_Int, Int.reduceEq, Int.reduceNe]
    refine vcall (nSolve b (q + 1) c (r + 1) hb (by unfold I64; omega) hc (by unfold I64; omega) (timesS (by omega)) _) ?_
    rintro R3 w hle3 hw
    rcases hw.ok (by omega) (by omega) (by omega) with ⟨n2, rfl⟩ | ⟨_, y, y1, y2, y3, y4, rfl⟩
  all_goals try simp only [go_sem, ↓reduceIte, Nat.reduceEqDiff, Nat.reduceAdd, Nat.reduceMul, Nat.reduceLeDiff, Nat.reduceLT, Nat.reduceBNe, reduceCtorEq, Int.reduceLE, Int.reduceLT, Int.reduceToNat, Int.cast_ofNat_Int, Int.reduceEq, Int.reduceNe]
  · refine vcall (nSolve a (p + 1) y _ ha (by unfold I64; omega) (by unfold I64; omega) (by unfold I64; omega) (timesS (by omega)) _) ?_
    rintro R4 u hle4 hu
    obtain rfl := (none1 n1).one (three_right (by omega) (by omega) (by omega) (by omega) y3 y4 (by omega) hu)
    try simp only [go_sem, ↓reduceIte, Nat.reduceEqDiff, Nat.reduceAdd, Nat.reduceMul, Nat.reduceLeDiff, Nat.reduceLT, Nat.reduceBNe, reduceCtorEq, Int.reduceLE, Int.reduceLT, Int.reduceToNat, Int.cast_ofNat_Int, Int.reduceEq, Int.reduceNe]
  · refine vcall (nSolve x _ c (r + 1) (by unfold I64; omega) (by unfold I64; omega) hc (by unfold I64; omega) (timesS (by omega)) _) ?_
    rintro R4 u hle4 hu
    obtain rfl := (none2 n2).one (three_left (by omega) (by omega) (by omega) (by omega) x3 x4 (by omega) hu)
    try simp only [go_sem, ↓reduceIte, Nat.reduceEqDiff, Nat.reduceAdd, Nat.reduceMul, Nat.reduceLeDiff, Nat.reduceLT, Nat.reduceBNe, reduceCtorEq, Int.reduceLE, Int.reduceLT, Int.reduceToNat, Int.cast_ofNat_Int, Int.reduceEq, Int.reduceNe]
  · refine vcall (nSolve x _ c (r + 1) (by unfold I64; omega) (by unfold I64; omega) hc (by unfold I64; omega) (timesS (by omega)) _) ?_
    rintro R4 u hle4 hu
    obtain ⟨i, j, k, rfl⟩ := hu.form
    try simp only [go_sem, ↓reduceIte, Nat.reduceEqDiff, Nat.reduceAdd, Nat.reduceMul, Nat.reduceLeDiff, Nat.reduceLT, Nat.reduceBNe, reduceCtorEq, Int.reduceLE, Int.reduceLT, Int.reduceToNat, Int.cast_ofNat_Int, Int.reduceEq, Int.reduceNe]
    refine vcall (nSolve a (p + 1) y _ ha (by unfold I64; omega) (by unfold I64; omega) (by unfold I64; omega) (timesS (by omega)) _) ?_
    rintro R5 t hle5 ht
    obtain rfl := (three_left (by omega) (by omega) (by omega) (by omega) x3 x4 (by omega) hu).one (three_right (by omega) (by omega) (by omega) (by omega) y3 y4 (by omega) ht)
    try simp only [go_sem, ↓reduceIte, Nat.reduceEqDiff, Nat.reduceAdd, Nat.reduceMul, Nat.reduceLeDiff, Nat.reduceLT, Nat.reduceBNe, reduceCtorEq, Int.reduceLE, Int.reduceLT, Int.reduceToNat, Int.cast_ofNat_Int, Int.reduceEq, Int.reduceNe]
end Go.Proofs.Ytlakekoekilbaaa
