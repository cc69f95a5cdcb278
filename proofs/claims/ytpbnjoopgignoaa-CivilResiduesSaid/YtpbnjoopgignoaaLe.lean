/- The law CivilSuccessor, out of the contracts. -/
import Derived.Test.YtpbnjoopgignoaaLd
namespace Go.Proofs.Ytpbnjoopgignoaa
set_option linter.unusedSimpArgs false
set_option linter.unusedVariables false
open Go.RowKit Go.Proofs.Ytpbnjoopgignoaa.Vc

theorem Cal.valid.long {c : Cal} (hv : c.valid) : c.epoch + 9999 ≤ c.first 10000 := by
  have h := (hv.first_add 1 9999).1
  simp only [Int.cast_ofNat_Int, Int.reduceAdd] at h
  have := hv.first_one
  omega
theorem lSuccessor (c : Cal) (sm sr : Value) (R : RO) (h : CalIn R c sm sr) (at' : Int) (hat : I64 at') :
    CallsR Try.prog 6 [cv c sm sr, .int .i64 at'] R fun _ v => v = .bool true := by
  obtain ⟨a, b, p, q, rfl, rfl⟩ := h.form
  refine callsT mix Try.func6 comp6 (by simp [Try.ntmps6]) ?_; simp only [go_sem, ↓reduceIte, Nat.reduceEqDiff, Nat.reduceAdd, Nat.reduceMul, Nat.reduceLeDiff, Nat.reduceLT, Nat.reduceBNe, reduceCtorEq, vc6, rs6]
  refine vcall (lSanity R) ?_
  rintro R1 v hle rfl
  replace h := h.mono hle
  try simp only [go_sem, ↓reduceIte, Nat.reduceEqDiff, Nat.reduceAdd, Nat.reduceMul, Nat.reduceLeDiff, Nat.reduceLT, Nat.reduceBNe, reduceCtorEq, Int.reduceLE, Int.reduceLT, Int.reduceToNat, Int.cast_ofNat_Int, Int.reduceEq, Int.reduceNe]
  refine vcall (rMade c _ _ R1 h) ?_
  rintro R2 v hle ⟨sm, sr, rfl, hm'⟩
  clear h
  have hv := c.made_valid
  have hfb := hv.first_bd (y := 10000) (by omega) (by omega)
  have hep := c.made_epoch
  generalize c.made = C at *
  obtain ⟨a, b, p, q, rfl, rfl⟩ := hm'.form
  try simp only [go_sem, ↓reduceIte, Nat.reduceEqDiff, Nat.reduceAdd, Nat.reduceMul, Nat.reduceLeDiff, Nat.reduceLT, Nat.reduceBNe, reduceCtorEq, Int.reduceLE, Int.reduceLT, Int.reduceToNat, Int.cast_ofNat_Int, Int.reduceEq, Int.reduceNe]
  refine vcall (lBounds C hv _ _ R2 hm') ?_
  rintro R3 v hle rfl
  replace hm' := hm'.mono hle
  have hlong := hv.long
  try simp only [go_sem, ↓reduceIte, Nat.reduceEqDiff, Nat.reduceAdd, Nat.reduceMul, Nat.reduceLeDiff, Nat.reduceLT, Nat.reduceBNe, reduceCtorEq, Int.reduceLE, Int.reduceLT, Int.reduceToNat, Int.cast_ofNat_Int, Int.reduceEq, Int.reduceNe]
  have hD : 9998 ≤ C.first 10000 - 1 - C.epoch ∧ C.first 10000 - 1 - C.epoch ≤ 7700000 := by omega
  refine ⟨_, W.in64 (by omega), fun h => by omega, fun _ => ⟨_, W.in64 (by omega), ?_⟩⟩
  refine vcall (rMod at' (C.first 10000 - 1 - C.epoch) (by omega) (by unfold I64; omega) hat R3) ?_
  rintro R4 v hle rfl
  replace hm' := hm'.mono hle
  have hx : 0 ≤ at' % (C.first 10000 - 1 - C.epoch) ∧ at' % (C.first 10000 - 1 - C.epoch) < C.first 10000 - 1 - C.epoch := ⟨Int.emod_nonneg _ (by omega), Int.emod_lt_of_pos _ (by omega)⟩
  generalize at' % (C.first 10000 - 1 - C.epoch) = x at *
  try simp only [go_sem, ↓reduceIte, Nat.reduceEqDiff, Nat.reduceAdd, Nat.reduceMul, Nat.reduceLeDiff, Nat.reduceLT, Nat.reduceBNe, reduceCtorEq, Int.reduceLE, Int.reduceLT, Int.reduceToNat, Int.cast_ofNat_Int, Int.reduceEq, Int.reduceNe]
  refine ⟨_, W.in64 (by omega), ?_⟩
  refine vcall (pDateOf C _ _ _ hm' (C.epoch + x) (by unfold I64; omega)) ?_
  rintro R5 v hle hv'
  replace hm' := hm'.mono hle
  obtain ⟨y, m, d, hI, rfl⟩ := hv'.in hv (by omega)
  try simp only [go_sem, ↓reduceIte, Nat.reduceEqDiff, Nat.reduceAdd, Nat.reduceMul, Nat.reduceLeDiff, Nat.reduceLT, Nat.reduceBNe, reduceCtorEq, Int.reduceLE, Int.reduceLT, Int.reduceToNat, Int.cast_ofNat_Int, Int.reduceEq, Int.reduceNe]
  refine ⟨_, W.in64 (by omega), ?_⟩
  refine vcall (pDateOf C _ _ _ hm' (C.epoch + x + 1) (by unfold I64; omega)) ?_
  rintro R6 v hle hv''
  replace hm' := hm'.mono hle
  have hnx := hI.next hv (by omega)
  have hmb := hv.mlen_bd y hI.mlt
  have hml := hv.2.1
  have hy1 := hI.y1
  have hy2 := hI.y2
  have hd1 := hI.d1
  have hd2 := hI.d2
  have hmlt := hI.mlt
  have hML := mlenA_at hv y hI.mlt
  have hdt := fun (y' : Int) (m' : Nat) (d' : Int) (hI' : C.IsDay y' m' d' (C.epoch + x + 1)) (M : Int) (hM : (m' : Int) + 1 = M) => hv''.at hv (by omega) hI' hM
  obtain ⟨y', m', d', hI', rfl⟩ := hv''.in hv (by omega)
  try simp only [go_sem, ↓reduceIte, Nat.reduceEqDiff, Nat.reduceAdd, Nat.reduceMul, Nat.reduceLeDiff, Nat.reduceLT, Nat.reduceBNe, reduceCtorEq, Int.reduceLE, Int.reduceLT, Int.reduceToNat, Int.cast_ofNat_Int, Int.reduceEq, Int.reduceNe]
  refine ⟨_, W.in64 (by omega), ?_⟩
  try simp only [go_sem, ↓reduceIte, Nat.reduceEqDiff, Nat.reduceAdd, Nat.reduceMul, Nat.reduceLeDiff, Nat.reduceLT, Nat.reduceBNe, reduceCtorEq, Int.reduceLE, Int.reduceLT, Int.reduceToNat, Int.cast_ofNat_Int, Int.reduceEq, Int.reduceNe]
  refine vcall (pMonthLength C _ _ _ hm' y (m + 1) (by unfold I64; omega)) ?_
  rintro R7 v hle rfl
  rw [hML]
  try simp only [go_sem, ↓reduceIte, Nat.reduceEqDiff, Nat.reduceAdd, Nat.reduceMul, Nat.reduceLeDiff, Nat.reduceLT, Nat.reduceBNe, reduceCtorEq, Int.reduceLE, Int.reduceLT, Int.reduceToNat, Int.cast_ofNat_Int, Int.reduceEq, Int.reduceNe]
  rcases hnx with ⟨hlt, hN⟩ | ⟨he, hlt, hN⟩ | ⟨he, hlt, hN⟩
  case' inl =>
    obtain ⟨rfl, rfl, rfl⟩ := hI'.unique hv hN
    refine ⟨fun h => by omega, fun _ => ⟨fun h => by omega, fun _ => ?_⟩⟩
    try simp only [go_sem, ↓reduceIte, Nat.reduceEqDiff, Nat.reduceAdd, Nat.reduceMul, Nat.reduceLeDiff, Nat.reduceLT, Nat.reduceBNe, reduceCtorEq, and_self]
  case' inr.inl =>
    obtain ⟨rfl, rfl, rfl⟩ := hI'.unique hv hN
    refine ⟨fun _ => ⟨_, W.in64 (by omega), fun h => by omega, fun _ => ?_⟩, fun h => by omega⟩
    try simp only [go_sem, ↓reduceIte, Nat.reduceEqDiff, Nat.reduceAdd, Nat.reduceMul, Nat.reduceLeDiff, Nat.reduceLT, Nat.reduceBNe, reduceCtorEq, and_self, Int.natCast_add, Int.cast_ofNat_Int]
  case' inr.inr =>
    obtain ⟨rfl, rfl, rfl⟩ := hI'.unique hv hN
    refine ⟨fun _ => ⟨_, W.in64 (by omega), fun _ => ⟨_, W.in64 (by omega), ?_⟩, fun h => by omega⟩, fun h => by omega⟩
    try simp only [go_sem, ↓reduceIte, Nat.reduceEqDiff, Nat.reduceAdd, Nat.reduceMul, Nat.reduceLeDiff, Nat.reduceLT, Nat.reduceBNe, reduceCtorEq, and_self, Int.natCast_zero, Int.reduceAdd]
  all_goals
    refine ⟨_, W.in64 (by omega), ?_⟩
    refine vcall (cWeekday (C.epoch + x + 1) (by unfold I64; omega) _) ?_
    rintro R8 v hle rfl
    try simp only [go_sem, ↓reduceIte, Nat.reduceEqDiff, Nat.reduceAdd, Nat.reduceMul, Nat.reduceLeDiff, Nat.reduceLT, Nat.reduceBNe, reduceCtorEq, Int.reduceLE, Int.reduceLT, Int.reduceToNat, Int.cast_ofNat_Int, Int.reduceEq, Int.reduceNe]
    refine vcall (cWeekday (C.epoch + x) (by unfold I64; omega) _) ?_
    rintro R9 v hle rfl
    try simp only [go_sem, ↓reduceIte, Nat.reduceEqDiff, Nat.reduceAdd, Nat.reduceMul, Nat.reduceLeDiff, Nat.reduceLT, Nat.reduceBNe, reduceCtorEq, Int.reduceLE, Int.reduceLT, Int.reduceToNat, Int.cast_ofNat_Int, Int.reduceEq, Int.reduceNe]
    refine ⟨_, W.in64 (by omega), fun h => absurd ?_ h⟩
    rw [Int.tmod_eq_emod_of_nonneg (by omega)]
    omega
end Go.Proofs.Ytpbnjoopgignoaa
