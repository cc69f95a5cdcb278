/- The law CivilJulian, out of the contracts. -/
import Derived.Test.YtpbnjoopgignoaaLd
import Derived.Test.YtpbnjoopgignoaaNa
namespace Go.Proofs.Ytpbnjoopgignoaa
set_option linter.unusedSimpArgs false
set_option linter.unusedVariables false
open Go.RowKit Go.Proofs.Ytpbnjoopgignoaa.Vc

theorem greg_leap (y : Int) : leapOf greg.rules y = decide (y % 400 = 0 ∨ (y % 4 = 0 ∧ ¬ y % 100 = 0)) := by
  simp only [leapOf, greg, List.foldl_cons, List.foldl_nil]
  by_cases h4 : y % 4 = 0 <;> by_cases h1 : y % 100 = 0 <;> by_cases h2 : y % 400 = 0 <;> simp [h4, h1, h2]
theorem jul_leap (y : Int) : leapOf jul.rules y = decide (y % 4 = 0) := by
  simp only [leapOf, jul, List.foldl_cons, List.foldl_nil]
  by_cases h4 : y % 4 = 0 <;> simp [h4]
theorem greg_ylen (y : Int) : greg.ylen y = 365 + if y % 400 = 0 ∨ (y % 4 = 0 ∧ ¬ y % 100 = 0) then 1 else 0 := by
  rw [greg_valid.ylen_eq, greg_leap]
  have : greg.common = 365 := by kernel_rfl
  rw [this]
  simp
theorem jul_ylen (y : Int) : jul.ylen y = 365 + if y % 4 = 0 then 1 else 0 := by
  rw [jul_valid.ylen_eq, jul_leap]
  have : jul.common = 365 := by kernel_rfl
  rw [this]
  simp
theorem julStep (k : Int) : (k / 100 - k / 400 : Int) = (k - 1) / 100 - (k - 1) / 400 + (if k % 4 = 0 then 1 else 0) - (if k % 400 = 0 ∨ (k % 4 = 0 ∧ ¬ k % 100 = 0) then 1 else 0) := by
  by_cases h1 : k % 100 = 0
  · have h4 : k % 4 = 0 := by omega
    by_cases h2 : k % 400 = 0
    · rw [if_pos h4, if_pos (.inl h2)]; omega
    · rw [if_pos h4, if_neg (by omega)]; omega
  · have h2 : ¬ k % 400 = 0 := by omega
    have e1 : (k - 1) / 100 = k / 100 := by omega
    have e2 : (k - 1) / 400 = k / 400 := by omega
    by_cases h4 : k % 4 = 0
    · rw [if_pos h4, if_pos (.inr ⟨h4, h1⟩)]; omega
    · rw [if_neg h4, if_neg (by omega)]; omega
theorem jul_greg : ∀ n : Nat, jul.first (1 + n) - greg.first (1 + n) = (n : Int) / 100 - n / 400 - 2
  | 0 => by
    rw [show (1 : Int) + ((0 : Nat) : Int) = 1 by rfl, jul_valid.first_one, greg_valid.first_one]
    rfl
  | n + 1 => by
    have ih := jul_greg n
    have hj := jul_valid.first_succ (1 + n)
    have hg := greg_valid.first_succ (1 + n)
    rw [jul_ylen] at hj
    rw [greg_ylen] at hg
    have hs := julStep (1 + n)
    rw [show (1 : Int) + ((n + 1 : Nat) : Int) = 1 + n + 1 by omega, hj, hg, show ((n + 1 : Nat) : Int) = 1 + n by omega]
    rw [show (1 + n - 1 : Int) = n by omega] at hs
    clear hj hg
    omega
theorem march (c : Cal) (hv : c.valid) (y : Int) (hy : 1 ≤ y ∧ y ≤ 9999) (hl : 3 ≤ c.months.length) (h0 : c.months.getD 0 0 = 31) (h1 : c.months.getD 1 0 = 28) (hlp : c.leap = 1) :
    dayE c y 3 1 = 0 ∧ dayV c y 3 1 = c.first y + 59 + if leapOf c.rules y = true then 1 else 0 := by
  have hE : dayE c y 3 1 = 0 := by
    refine (dayE_iff hv _ _ _).2 ⟨hy, by omega, by omega, by omega, ?_⟩
    exact (hv.mlen_bd y (show 2 < c.months.length by omega)).1
  refine ⟨hE, ?_⟩
  rw [dayV, if_pos hE]
  have : c.beg y (3 - 1 : Int).toNat = c.first y + (c.mlen y 0 + c.mlen y 1) := by
    show c.beg y 2 = _
    unfold Cal.beg
    simp only [sumTo]
    omega
  rw [this]
  unfold Cal.mlen
  rw [h0, h1, hlp]
  simp only [Int.natCast_one, Int.natCast_zero, true_and]
  rw [if_neg (by omega)]
  omega
theorem lJulian (x : Int) (hx : I64 x) (R : RO) : CallsR Try.prog 11 [.int .i64 x] R fun _ v => v = .bool true := by
  refine callsT mix Try.func11 comp11 (by simp [Try.ntmps11]) ?_; simp only [go_sem, ↓reduceIte, Nat.reduceEqDiff, Nat.reduceAdd, Nat.reduceMul, Nat.reduceLeDiff, Nat.reduceLT, Nat.reduceBNe, reduceCtorEq, vc11, rs11]
  refine vcall (lSanity R) ?_
  rintro R1 v hle rfl
  try simp only [go_sem, ↓reduceIte, Nat.reduceEqDiff, Nat.reduceAdd, Nat.reduceMul, Nat.reduceLeDiff, Nat.reduceLT, Nat.reduceBNe, reduceCtorEq, Int.reduceLE, Int.reduceLT, Int.reduceToNat, Int.cast_ofNat_Int, Int.reduceEq, Int.reduceNe]
  refine vcall (rMod x 9999 (by omega) (by decide) hx R1) ?_
  rintro R2 v hle rfl
  have h1 : 0 ≤ x % 9999 ∧ x % 9999 < 9999 := by omega
  generalize x % 9999 = y at *
  try simp only [go_sem, ↓reduceIte, Nat.reduceEqDiff, Nat.reduceAdd, Nat.reduceMul, Nat.reduceLeDiff, Nat.reduceLT, Nat.reduceBNe, reduceCtorEq, Int.reduceLE, Int.reduceLT, Int.reduceToNat, Int.cast_ofNat_Int, Int.reduceEq, Int.reduceNe]
  refine ⟨_, W.in64 (by omega), ?_⟩
  refine vcall (pKnown 0 _) ?_
  rintro R3 v hle hk
  obtain ⟨a, b, d, e, rfl, hg⟩ := hk.form
  try simp only [go_sem, ↓reduceIte, Nat.reduceEqDiff, Nat.reduceAdd, Nat.reduceMul, Nat.reduceLeDiff, Nat.reduceLT, Nat.reduceBNe, reduceCtorEq, Int.reduceLE, Int.reduceLT, Int.reduceToNat, Int.cast_ofNat_Int, Int.reduceEq, Int.reduceNe]
  refine vcall (pKnown 1 _) ?_
  rintro R4 v hle hk
  replace hg := hg.mono hle
  obtain ⟨a', b', d', e', rfl, hj⟩ := hk.form
  try simp only [go_sem, ↓reduceIte, Nat.reduceEqDiff, Nat.reduceAdd, Nat.reduceMul, Nat.reduceLeDiff, Nat.reduceLT, Nat.reduceBNe, reduceCtorEq, Int.reduceLE, Int.reduceLT, Int.reduceToNat, Int.cast_ofNat_Int, Int.reduceEq, Int.reduceNe]
  have hG := march greg greg_valid (1 + y) (by omega) (by decide) (by rfl) (by rfl) rfl
  have hJ := march jul jul_valid (1 + y) (by omega) (by decide) (by rfl) (by rfl) rfl
  have hGb := greg_valid.first_bd (y := 1 + y) (by omega) (by omega)
  have hJb := jul_valid.first_bd (y := 1 + y) (by omega) (by omega)
  have eg : greg.epoch = 7 := rfl
  have ej : jul.epoch = 5 := rfl
  have hd := jul_greg y.toNat
  rw [show ((y.toNat : Nat) : Int) = y by omega] at hd
  have hs := julStep (1 + y)
  rw [show (1 + y - 1 : Int) = y by omega] at hs
  rw [greg_leap] at hG
  rw [jul_leap] at hJ
  simp only [decide_eq_true_eq] at hG hJ
  have hfin : dayV jul (1 + y) 3 1 - dayV greg (1 + y) 3 1 = (1 + y) / 100 - (1 + y) / 400 - 2 := by rw [hG.2, hJ.2]; omega
  have hgb : 0 ≤ dayV greg (1 + y) 3 1 ∧ dayV greg (1 + y) 3 1 ≤ 7800000 := by rw [hG.2]; split <;> omega
  have hjb : 0 ≤ dayV jul (1 + y) 3 1 ∧ dayV jul (1 + y) 3 1 ≤ 7800000 := by rw [hJ.2]; split <;> omega
  refine vcall (pDayOf greg _ _ _ hg (1 + y) 3 1 (by unfold I64; omega) (by decide) (by decide)) ?_
  rintro R5 v hle rfl
  replace hj := hj.mono hle
  rw [hG.1]
  try simp only [go_sem, ↓reduceIte, Nat.reduceEqDiff, Nat.reduceAdd, Nat.reduceMul, Nat.reduceLeDiff, Nat.reduceLT, Nat.reduceBNe, reduceCtorEq, Int.reduceLE, Int.reduceLT, Int.reduceToNat, Int.cast_ofNat_Int, Int.reduceEq, Int.reduceNe]
  refine vcall (pDayOf jul _ _ _ hj (1 + y) 3 1 (by unfold I64; omega) (by decide) (by decide)) ?_
  rintro R6 v hle rfl
  rw [hJ.1]
  try simp only [go_sem, ↓reduceIte, Nat.reduceEqDiff, Nat.reduceAdd, Nat.reduceMul, Nat.reduceLeDiff, Nat.reduceLT, Nat.reduceBNe, reduceCtorEq, Int.reduceLE, Int.reduceLT, Int.reduceToNat, Int.cast_ofNat_Int, Int.reduceEq, Int.reduceNe]
  refine vcall (nFloorDiv (1 + y) 100 (by decide) (by unfold I64; omega) _) ?_
  rintro R7 v hle rfl
  rw [if_neg (by omega), if_neg (by omega)]
  try simp only [go_sem, ↓reduceIte, Nat.reduceEqDiff, Nat.reduceAdd, Nat.reduceMul, Nat.reduceLeDiff, Nat.reduceLT, Nat.reduceBNe, reduceCtorEq, Int.reduceLE, Int.reduceLT, Int.reduceToNat, Int.cast_ofNat_Int, Int.reduceEq, Int.reduceNe]
  refine vcall (nFloorDiv (1 + y) 400 (by decide) (by unfold I64; omega) _) ?_
  rintro R8 v hle rfl
  rw [if_neg (by omega), if_neg (by omega)]
  try simp only [go_sem, ↓reduceIte, Nat.reduceEqDiff, Nat.reduceAdd, Nat.reduceMul, Nat.reduceLeDiff, Nat.reduceLT, Nat.reduceBNe, reduceCtorEq, Int.reduceLE, Int.reduceLT, Int.reduceToNat, Int.cast_ofNat_Int, Int.reduceEq, Int.reduceNe]
  exact ⟨fun _ => ⟨fun _ => ⟨_, W.in64 (by omega), _, W.in64 (by omega), _, W.in64 (by omega), fun h => absurd hfin h⟩, fun h => absurd rfl h⟩, fun h => absurd rfl h⟩
end Go.Proofs.Ytpbnjoopgignoaa
