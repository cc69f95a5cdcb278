/- The law CivilRepeats, out of the contracts. -/
import Derived.Test.YtpbnjoopgignoaaLe
namespace Go.Proofs.Ytpbnjoopgignoaa
set_option linter.unusedSimpArgs false
set_option linter.unusedVariables false
open Go.RowKit Go.Proofs.Ytpbnjoopgignoaa.Vc

theorem lRepeats (c : Cal) (sm sr : Value) (R : RO) (h : CalIn R c sm sr) (y m d : Int) (hy : I64 y) (hm : I64 m) (hd : I64 d) (x : Int) (hx : I64 x) :
    CallsR Try.prog 8 [cv c sm sr, dv y m d, .int .i64 x] R fun _ v => v = .bool true := by
  obtain ⟨a0, b0, p0, q0, rfl, rfl⟩ := h.form
  refine callsT mix Try.func8 comp8 (by simp [Try.ntmps8]) ?_; simp only [go_sem, ↓reduceIte, Nat.reduceEqDiff, Nat.reduceAdd, Nat.reduceMul, Nat.reduceLeDiff, Nat.reduceLT, Nat.reduceBNe, reduceCtorEq, vc8, rs8]
  refine vcall (lSanity R) ?_
  rintro R1 v hle rfl
  replace h := h.mono hle
  try simp only [go_sem, ↓reduceIte, Nat.reduceEqDiff, Nat.reduceAdd, Nat.reduceMul, Nat.reduceLeDiff, Nat.reduceLT, Nat.reduceBNe, reduceCtorEq, Int.reduceLE, Int.reduceLT, Int.reduceToNat, Int.cast_ofNat_Int, Int.reduceEq, Int.reduceNe]
  refine vcall (rMade c _ _ R1 h) ?_
  rintro R2 v hle ⟨sm, sr, rfl, hm'⟩
  have hv := c.made_valid
  have hp12 := Int.le_of_dvd (by decide) c.made_per
  have hep := c.made_epoch
  have hfb := hv.first_bd (y := 10000) (by omega) (by omega)
  generalize c.made = C at *
  have hp1 := hv.per.2.1.1
  have hdb := hv.days_bd
  obtain ⟨a, b, p, q, rfl, rfl⟩ := hm'.form
  try simp only [go_sem, ↓reduceIte, Nat.reduceEqDiff, Nat.reduceAdd, Nat.reduceMul, Nat.reduceLeDiff, Nat.reduceLT, Nat.reduceBNe, reduceCtorEq, Int.reduceLE, Int.reduceLT, Int.reduceToNat, Int.cast_ofNat_Int, Int.reduceEq, Int.reduceNe]
  refine vcall (pCycle C _ _ R2 hm') ?_
  rintro R3 v hle rfl
  replace hm' := hm'.mono hle
  rw [cycA, if_pos hv]
  try simp only [go_sem, ↓reduceIte, Nat.reduceEqDiff, Nat.reduceAdd, Nat.reduceMul, Nat.reduceLeDiff, Nat.reduceLT, Nat.reduceBNe, reduceCtorEq, Int.reduceLE, Int.reduceLT, Int.reduceToNat, Int.cast_ofNat_Int, Int.reduceEq, Int.reduceNe]
  refine ⟨fun _ => ⟨fun h => by omega, fun _ => ?_⟩, fun h => by omega⟩
  refine vcall (rMod x 100 (by omega) (by decide) hx R3) ?_
  rintro R4 v hle2 rfl
  replace hm' := hm'.mono hle2
  have hk : 0 ≤ x % 100 ∧ x % 100 < 100 := by omega
  generalize x % 100 = k at *
  try simp only [go_sem, ↓reduceIte, Nat.reduceEqDiff, Nat.reduceAdd, Nat.reduceMul, Nat.reduceLeDiff, Nat.reduceLT, Nat.reduceBNe, reduceCtorEq, Int.reduceLE, Int.reduceLT, Int.reduceToNat, Int.cast_ofNat_Int, Int.reduceEq, Int.reduceNe]
  refine vcall (rMod y 8000 (by omega) (by decide) hy R4) ?_
  rintro R5 v hle2 rfl
  replace hm' := hm'.mono hle2
  have hY : 0 ≤ y % 8000 ∧ y % 8000 < 8000 := by omega
  generalize y % 8000 = z at *
  try simp only [go_sem, ↓reduceIte, Nat.reduceEqDiff, Nat.reduceAdd, Nat.reduceMul, Nat.reduceLeDiff, Nat.reduceLT, Nat.reduceBNe, reduceCtorEq, Int.reduceLE, Int.reduceLT, Int.reduceToNat, Int.cast_ofNat_Int, Int.reduceEq, Int.reduceNe]
  refine ⟨_, W.in64 (by omega), ?_⟩
  have hY : 1 ≤ 1 + z ∧ 1 + z ≤ 8000 := by omega
  generalize 1 + z = Y at *
  have hkp : 0 ≤ k * C.per ∧ k * C.per ≤ 99 * 12 := ⟨Int.mul_nonneg (by omega) (by omega), Int.mul_le_mul (by omega) hp12 (by omega) (by omega)⟩
  have hkd : 0 ≤ k * C.days ∧ k * C.days ≤ 99 * 262400 := ⟨Int.mul_nonneg (by omega) (by omega), Int.mul_le_mul (by omega) (by omega) (by omega) (by omega)⟩
  try simp only [go_sem, ↓reduceIte, Nat.reduceEqDiff, Nat.reduceAdd, Nat.reduceMul, Nat.reduceLeDiff, Nat.reduceLT, Nat.reduceBNe, reduceCtorEq, Int.reduceLE, Int.reduceLT, Int.reduceToNat, Int.cast_ofNat_Int, Int.reduceEq, Int.reduceNe]
  refine ⟨_, W.in64 (by omega), _, W.in64 (by omega), ?_⟩
  try simp only [go_sem, ↓reduceIte, Nat.reduceEqDiff, Nat.reduceAdd, Nat.reduceMul, Nat.reduceLeDiff, Nat.reduceLT, Nat.reduceBNe, reduceCtorEq, Int.reduceLE, Int.reduceLT, Int.reduceToNat, Int.cast_ofNat_Int, Int.reduceEq, Int.reduceNe]
  have hEE := dayE_per hv Y k m d (by omega) (by omega)
  have hVV := dayV_per hv Y k m d (by omega) (by omega)
  have hLL := leapA_per hv Y k
  have hL2 := leapA_per hv Y (-10000)
  refine vcall (pDayOf C _ _ _ hm' Y m d (by unfold I64; omega) hm hd) ?_
  rintro R6 v hle2 rfl
  replace hm' := hm'.mono hle2
  try simp only [go_sem, ↓reduceIte, Nat.reduceEqDiff, Nat.reduceAdd, Nat.reduceMul, Nat.reduceLeDiff, Nat.reduceLT, Nat.reduceBNe, reduceCtorEq, Int.reduceLE, Int.reduceLT, Int.reduceToNat, Int.cast_ofNat_Int, Int.reduceEq, Int.reduceNe]
  refine vcall (pDayOf C _ _ _ hm' (Y + k * C.per) m d (by unfold I64; omega) hm hd) ?_
  rintro R7 v hle2 rfl
  replace hm' := hm'.mono hle2
  rw [hEE]
  try simp only [go_sem, ↓reduceIte, Nat.reduceEqDiff, Nat.reduceAdd, Nat.reduceMul, Nat.reduceLeDiff, Nat.reduceLT, Nat.reduceBNe, reduceCtorEq, Int.reduceLE, Int.reduceLT, Int.reduceToNat, Int.cast_ofNat_Int, Int.reduceEq, Int.reduceNe]
  refine vcall (pLeap C _ _ _ hm' Y (by unfold I64; omega)) ?_
  rintro R8 v hle2 rfl
  replace hm' := hm'.mono hle2
  try simp only [go_sem, ↓reduceIte, Nat.reduceEqDiff, Nat.reduceAdd, Nat.reduceMul, Nat.reduceLeDiff, Nat.reduceLT, Nat.reduceBNe, reduceCtorEq, Int.reduceLE, Int.reduceLT, Int.reduceToNat, Int.cast_ofNat_Int, Int.reduceEq, Int.reduceNe]
  refine vcall (pLeap C _ _ _ hm' (Y + k * C.per) (by unfold I64; omega)) ?_
  rintro R9 v hle2 rfl
  replace hm' := hm'.mono hle2
  rw [hLL]
  try simp only [go_sem, ↓reduceIte, Nat.reduceEqDiff, Nat.reduceAdd, Nat.reduceMul, Nat.reduceLeDiff, Nat.reduceLT, Nat.reduceBNe, reduceCtorEq, bne_self_eq_false]
  refine ⟨_, W.in64 (by omega), _, W.in64 (by omega), ?_⟩
  try simp only [go_sem, ↓reduceIte, Nat.reduceEqDiff, Nat.reduceAdd, Nat.reduceMul, Nat.reduceLeDiff, Nat.reduceLT, Nat.reduceBNe, reduceCtorEq, Int.reduceLE, Int.reduceLT, Int.reduceToNat, Int.cast_ofNat_Int, Int.reduceEq, Int.reduceNe]
  refine vcall (pLeap C _ _ _ hm' Y (by unfold I64; omega)) ?_
  rintro R10 v hle2 rfl
  replace hm' := hm'.mono hle2
  try simp only [go_sem, ↓reduceIte, Nat.reduceEqDiff, Nat.reduceAdd, Nat.reduceMul, Nat.reduceLeDiff, Nat.reduceLT, Nat.reduceBNe, reduceCtorEq, Int.reduceLE, Int.reduceLT, Int.reduceToNat, Int.cast_ofNat_Int, Int.reduceEq, Int.reduceNe]
  rw [show Y - 10000 * C.per = Y + -10000 * C.per by omega]
  refine vcall (pLeap C _ _ _ hm' (Y + -10000 * C.per) (by unfold I64; omega)) ?_
  rintro R11 v hle2 rfl
  rw [hL2]
  try simp only [go_sem, ↓reduceIte, Nat.reduceEqDiff, Nat.reduceAdd, Nat.reduceMul, Nat.reduceLeDiff, Nat.reduceLT, Nat.reduceBNe, reduceCtorEq, bne_self_eq_false]
  intro he
  have hrg := (isDay_of hv he).1.range hv
  exact ⟨_, W.in64 (by omega), _, W.in64 (by omega), fun h => absurd (hVV he) h⟩
end Go.Proofs.Ytpbnjoopgignoaa
