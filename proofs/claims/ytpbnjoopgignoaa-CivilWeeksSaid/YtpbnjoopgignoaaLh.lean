/- The law CivilWeeks, out of the contracts. -/
import Derived.Test.YtpbnjoopgignoaaLe
namespace Go.Proofs.Ytpbnjoopgignoaa
set_option linter.unusedSimpArgs false
set_option linter.unusedVariables false
open Go.RowKit Go.Proofs.Ytpbnjoopgignoaa.Vc

theorem thu_mod (day i : Int) (hi : 0 ≤ i ∧ i < 7) : thu (day - day % 7 + i) = thu day := by
  unfold thu
  omega
theorem WeekOfP.in {c : Cal} {day : Int} {v : Value} (hv : c.valid) (h : WeekOfP c day v) (hr : c.epoch ≤ thu day ∧ thu day < c.first 10000) :
    ∃ (y : Int) (m : Nat) (d : Int), c.IsDay y m d (thu day) ∧ v = .tuple #[.int .i64 y, .int .i64 ((thu day - c.first y) / 7 + 1), .int .i64 0] := by
  rcases h with ⟨a, rfl⟩ | ⟨a, b, rfl⟩ | ⟨a, b, y, m, d, h, rfl⟩
  · exact absurd hv a
  · exact absurd hr b
  · exact ⟨y, m, d, h, rfl⟩
theorem lWeeks (c : Cal) (sm sr : Value) (R : RO) (h : CalIn R c sm sr) (at' : Int) (hat : I64 at') :
    CallsR Try.prog 9 [cv c sm sr, .int .i64 at'] R fun _ v => v = .bool true := by
  obtain ⟨a0, b0, p0, q0, rfl, rfl⟩ := h.form
  refine callsT mix Try.func9 comp9 (by simp [Try.ntmps9]) ?_; simp only [go_sem, ↓reduceIte, Nat.reduceEqDiff, Nat.reduceAdd, Nat.reduceMul, Nat.reduceLeDiff, Nat.reduceLT, Nat.reduceBNe, reduceCtorEq, vc9, rs9]
  refine vcall (lSanity R) ?_
  rintro R1 v hle rfl
  replace h := h.mono hle
  try simp only [go_sem, ↓reduceIte, Nat.reduceEqDiff, Nat.reduceAdd, Nat.reduceMul, Nat.reduceLeDiff, Nat.reduceLT, Nat.reduceBNe, reduceCtorEq, Int.reduceLE, Int.reduceLT, Int.reduceToNat, Int.cast_ofNat_Int, Int.reduceEq, Int.reduceNe]
  refine vcall (rMade c _ _ R1 h) ?_
  rintro R2 v hle ⟨sm, sr, rfl, hm'⟩
  have hv := c.made_valid
  have hfb := hv.first_bd (y := 10000) (by omega) (by omega)
  have hep := c.made_epoch
  have hyl := c.made_ylen
  generalize c.made = C at *
  obtain ⟨a, b, p, q, rfl, rfl⟩ := hm'.form
  try simp only [go_sem, ↓reduceIte, Nat.reduceEqDiff, Nat.reduceAdd, Nat.reduceMul, Nat.reduceLeDiff, Nat.reduceLT, Nat.reduceBNe, reduceCtorEq, Int.reduceLE, Int.reduceLT, Int.reduceToNat, Int.cast_ofNat_Int, Int.reduceEq, Int.reduceNe]
  refine vcall (lBounds C hv _ _ R2 hm') ?_
  rintro R3 v hle rfl
  replace hm' := hm'.mono hle
  have hlong := hv.long
  try simp only [go_sem, ↓reduceIte, Nat.reduceEqDiff, Nat.reduceAdd, Nat.reduceMul, Nat.reduceLeDiff, Nat.reduceLT, Nat.reduceBNe, reduceCtorEq, Int.reduceLE, Int.reduceLT, Int.reduceToNat, Int.cast_ofNat_Int, Int.reduceEq, Int.reduceNe]
  refine ⟨_, W.in64 (by omega), fun h => by omega, fun _ => ⟨_, W.in64 (by omega), _, W.in64 (by omega), _, W.in64 (by omega), ?_⟩⟩
  try simp only [go_sem, ↓reduceIte, Nat.reduceEqDiff, Nat.reduceAdd, Nat.reduceMul, Nat.reduceLeDiff, Nat.reduceLT, Nat.reduceBNe, reduceCtorEq, Int.reduceLE, Int.reduceLT, Int.reduceToNat, Int.cast_ofNat_Int, Int.reduceEq, Int.reduceNe]
  have hM : 0 < C.first 10000 - 1 - C.epoch - 9 := by omega
  refine vcall (rMod at' (C.first 10000 - 1 - C.epoch - 9) (by omega) (by unfold I64; omega) hat R3) ?_
  rintro R4 v hle rfl
  replace hm' := hm'.mono hle
  have hx : 0 ≤ at' % (C.first 10000 - 1 - C.epoch - 9) ∧ at' % (C.first 10000 - 1 - C.epoch - 9) < C.first 10000 - 1 - C.epoch - 9 := ⟨Int.emod_nonneg _ (by omega), Int.emod_lt_of_pos _ (by omega)⟩
  generalize at' % (C.first 10000 - 1 - C.epoch - 9) = x at *
  try simp only [go_sem, ↓reduceIte, Nat.reduceEqDiff, Nat.reduceAdd, Nat.reduceMul, Nat.reduceLeDiff, Nat.reduceLT, Nat.reduceBNe, reduceCtorEq, Int.reduceLE, Int.reduceLT, Int.reduceToNat, Int.cast_ofNat_Int, Int.reduceEq, Int.reduceNe]
  refine ⟨_, W.in64 (by omega), ?_⟩
  try simp only [go_sem, ↓reduceIte, Nat.reduceEqDiff, Nat.reduceAdd, Nat.reduceMul, Nat.reduceLeDiff, Nat.reduceLT, Nat.reduceBNe, reduceCtorEq, Int.reduceLE, Int.reduceLT, Int.reduceToNat, Int.cast_ofNat_Int, Int.reduceEq, Int.reduceNe]
  have hD : C.epoch + 3 ≤ C.epoch + 3 + x ∧ C.epoch + 3 + x < C.first 10000 - 7 := by omega
  generalize C.epoch + 3 + x = D at *
  refine vcall (cWeekday D (by unfold I64; omega) _) ?_
  rintro R5 v hle rfl
  replace hm' := hm'.mono hle
  try simp only [go_sem, ↓reduceIte, Nat.reduceEqDiff, Nat.reduceAdd, Nat.reduceMul, Nat.reduceLeDiff, Nat.reduceLT, Nat.reduceBNe, reduceCtorEq, Int.reduceLE, Int.reduceLT, Int.reduceToNat, Int.cast_ofNat_Int, Int.reduceEq, Int.reduceNe]
  refine ⟨_, W.in64 (by omega), ?_⟩
  try simp only [go_sem, ↓reduceIte, Nat.reduceEqDiff, Nat.reduceAdd, Nat.reduceMul, Nat.reduceLeDiff, Nat.reduceLT, Nat.reduceBNe, reduceCtorEq, Int.reduceLE, Int.reduceLT, Int.reduceToNat, Int.cast_ofNat_Int, Int.reduceEq, Int.reduceNe]
  have hth : thu D = D - D % 7 + 3 := rfl
  have hrg : C.epoch ≤ thu D ∧ thu D < C.first 10000 := by omega
  refine vcall (pWeekOf C _ _ _ hm' D (by unfold I64; omega)) ?_
  rintro R6 v hle hw
  replace hm' := hm'.mono hle
  obtain ⟨y, m, d, hI, rfl⟩ := hw.in hv hrg
  have hIy := hI.year hv
  have hyy := hyl y
  have hy1 := hI.y1
  have hy2 := hI.y2
  have hnn : 1 ≤ (thu D - C.first y) / 7 + 1 ∧ (thu D - C.first y) / 7 + 1 ≤ 4 := by omega
  have hn7 : C.first y ≤ thu D - 7 * ((thu D - C.first y) / 7) ∧ thu D - 7 * ((thu D - C.first y) / 7) - 7 < C.first y := by omega
  generalize hq : (thu D - C.first y) / 7 = n at *
  try simp only [go_sem, ↓reduceIte, Nat.reduceEqDiff, Nat.reduceAdd, Nat.reduceMul, Nat.reduceLeDiff, Nat.reduceLT, Nat.reduceBNe, reduceCtorEq, Int.reduceLE, Int.reduceLT, Int.reduceToNat, Int.cast_ofNat_Int, Int.reduceEq, Int.reduceNe]
  refine vcLoop Nat (fun i => [(15, .val (.int .i64 i)), (11, .val (.int .i64 (D - D % 7))), (6, .loc 1 0), (12, .val (.int .i64 y)), (13, .val (.int .i64 (n + 1))), (14, .val (.int .i64 0)), (5, .val (.bool true))])
    (fun i => [.box [.val (.int .i64 c.epoch), .val (.slice a0 c.months.length b0), .val (.int .i64 c.leap), .val (.slice p0 c.rules.length q0)], .box [.val (.int .i64 C.epoch), .val (.slice a C.months.length b), .val (.int .i64 C.leap), .val (.slice p C.rules.length q)]])
    (fun i _ => i ≤ 7) (fun i => 7 - i) 0 ?_ rfl ?_ ?_
  · (try simp only [go_sem, ↓reduceIte, Nat.reduceEqDiff, Nat.reduceAdd, Nat.reduceMul, Nat.reduceLeDiff, Nat.reduceLT, Nat.reduceBNe, reduceCtorEq]) <;> (repeat' (first | rfl | trivial | constructor | (intro h; exact absurd rfl h)))
  · omega
  rintro i env R7 hle7 hE hi
  replace hm' := hm'.mono hle7
  (simp only [go_sem] at hE; obtain ⟨e15, e11, e6, e12, e13, e14, e5⟩ := hE; simp only [go_sem, ↓reduceIte, Nat.reduceEqDiff, Nat.reduceAdd, Nat.reduceMul, Nat.reduceLeDiff, Nat.reduceLT, Nat.reduceBNe, reduceCtorEq, e15, e11, e6, e12, e13, e14, e5]; dsimp only at *)
  refine ⟨fun hlt => ⟨_, W.in64 (by omega), ?_⟩, fun hge => ?_⟩
  · have hti := thu_mod D i (by omega)
    refine vcall (pWeekOf C _ _ _ hm' (D - D % 7 + i) (by unfold I64; omega)) ?_
    rintro R8 v hle hw'
    replace hm' := hm'.mono hle
    obtain rfl := hw'.at hv (by rw [hti]; exact hrg) (by rw [hti]; exact hI)
    rw [hti, hq]
    try simp only [go_sem, ↓reduceIte, Nat.reduceEqDiff, Nat.reduceAdd, Nat.reduceMul, Nat.reduceLeDiff, Nat.reduceLT, Nat.reduceBNe, reduceCtorEq, e15, e11, e6, e12, e13, e14, e5]
    exact ⟨_, W.in64 (by omega), i + 1, by omega, rfl, by omega⟩
  · obtain rfl : i = 7 := by omega
    refine ⟨_, W.in64 (by omega), ?_⟩
    rw [← hth]
    refine vcall (pDateOf C _ _ _ hm' (thu D) (by unfold I64; omega)) ?_
    rintro R8 v hle hd'
    replace hm' := hm'.mono hle
    obtain rfl := hd'.at hv hrg hI rfl
    try simp only [go_sem, ↓reduceIte, Nat.reduceEqDiff, Nat.reduceAdd, Nat.reduceMul, Nat.reduceLeDiff, Nat.reduceLT, Nat.reduceBNe, reduceCtorEq, e15, e11, e6, e12, e13, e14, e5]
    refine ⟨fun _ => ⟨fun h => by omega, fun _ => ⟨_, W.in64 (by omega), _, W.in64 (by omega), _, W.in64 (by omega), _, W.in64 (by omega), ?_⟩⟩, fun h => by omega⟩
    rw [← hth, show thu D - 7 * (n + 1 - 1) = thu D - 7 * n by omega]
    have hf1 := hv.first_bd (y := y) (by omega) (by omega)
    refine vcall (pDateOf C _ _ _ hm' (thu D - 7 * n) (by unfold I64; omega)) ?_
    rintro R9 v hle hd1
    replace hm' := hm'.mono hle
    obtain ⟨y1, m1, d1, hI1, rfl⟩ := hd1.in hv (by omega)
    obtain rfl := year_eq hv (hI1.year hv) (show C.first y ≤ thu D - 7 * n ∧ thu D - 7 * n < C.first y + C.ylen y by omega)
    try simp only [go_sem, ↓reduceIte, Nat.reduceEqDiff, Nat.reduceAdd, Nat.reduceMul, Nat.reduceLeDiff, Nat.reduceLT, Nat.reduceBNe, reduceCtorEq, e15, e11, e6, e12, e13, e14, e5]
    refine ⟨_, W.in64 (by omega), _, W.in64 (by omega), _, W.in64 (by omega), ?_⟩
    rw [← hth]
    refine vcall (pDateOf C _ _ _ hm' (thu D - 7 * (n + 1)) (by unfold I64; omega)) ?_
    rintro R10 v hle hd2
    by_cases hr2 : C.epoch ≤ thu D - 7 * (n + 1)
    · obtain ⟨y2, m2, d2, hI2, rfl⟩ := hd2.in hv (by omega)
      have h2 := hI2.year hv
      try simp only [go_sem, ↓reduceIte, Nat.reduceEqDiff, Nat.reduceAdd, Nat.reduceMul, Nat.reduceLeDiff, Nat.reduceLT, Nat.reduceBNe, reduceCtorEq, e15, e11, e6, e12, e13, e14, e5]
      intro h
      exfalso
      rcases Int.lt_trichotomy y1 y2 with hlt | rfl | hlt
      · have := hv.first_lt hlt; omega
      · omega
      · exact h hlt
    · obtain rfl := hd2.out hv (by omega)
      try simp only [go_sem, ↓reduceIte, Nat.reduceEqDiff, Nat.reduceAdd, Nat.reduceMul, Nat.reduceLeDiff, Nat.reduceLT, Nat.reduceBNe, reduceCtorEq, e15, e11, e6, e12, e13, e14, e5, Int.reduceEq, Int.reduceNe]
end Go.Proofs.Ytpbnjoopgignoaa
