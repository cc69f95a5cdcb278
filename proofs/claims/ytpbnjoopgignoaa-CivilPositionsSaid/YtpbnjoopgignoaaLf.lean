/- The law CivilLengths, out of the contracts. -/
import Derived.Test.YtpbnjoopgignoaaLe
namespace Go.Proofs.Ytpbnjoopgignoaa
set_option linter.unusedSimpArgs false
set_option linter.unusedVariables false
open Go.RowKit Go.Proofs.Ytpbnjoopgignoaa.Vc

theorem dayV_first {c : Cal} (hv : c.valid) {y : Int} (hy : 1 ≤ y ∧ y ≤ 9999) {m : Nat} (hm : m < c.months.length) : dayE c y (m + 1) 1 = 0 ∧ dayV c y (m + 1) 1 = c.beg y m :=
  dayV_of hv ⟨hy.1, hy.2, hm, by omega, (hv.mlen_bd y hm).1, by omega⟩
theorem lLengths (c : Cal) (sm sr : Value) (R : RO) (h : CalIn R c sm sr) (at' : Int) (hat : I64 at') :
    CallsR Try.prog 7 [cv c sm sr, .int .i64 at'] R fun _ v => v = .bool true := by
  obtain ⟨a0, b0, p0, q0, rfl, rfl⟩ := h.form
  have hraw : I64 c.epoch := h.e
  refine callsT mix Try.func7 comp7 (by simp [Try.ntmps7]) ?_; simp only [go_sem, ↓reduceIte, Nat.reduceEqDiff, Nat.reduceAdd, Nat.reduceMul, Nat.reduceLeDiff, Nat.reduceLT, Nat.reduceBNe, reduceCtorEq, vc7, rs7]
  refine vcall (lSanity R) ?_
  rintro R1 v hle rfl
  replace h := h.mono hle
  try simp only [go_sem, ↓reduceIte, Nat.reduceEqDiff, Nat.reduceAdd, Nat.reduceMul, Nat.reduceLeDiff, Nat.reduceLT, Nat.reduceBNe, reduceCtorEq, Int.reduceLE, Int.reduceLT, Int.reduceToNat, Int.cast_ofNat_Int, Int.reduceEq, Int.reduceNe]
  refine vcall (rMade c _ _ R1 h) ?_
  rintro R2 v hle ⟨sm, sr, rfl, hm'⟩
  have hv := c.made_valid
  have hfb := hv.first_bd (y := 10000) (by omega) (by omega)
  have hep := c.made_epoch
  generalize c.made = C at *
  obtain ⟨am, cm, rfl, hcm, hfm⟩ := hm'.m.form
  obtain ⟨ar, cr, rfl, hcr, hfr⟩ := hm'.r.form
  have hml := hv.2.1
  try simp only [go_sem, ↓reduceIte, Nat.reduceEqDiff, Nat.reduceAdd, Nat.reduceMul, Nat.reduceLeDiff, Nat.reduceLT, Nat.reduceBNe, reduceCtorEq, Int.reduceLE, Int.reduceLT, Int.reduceToNat, Int.cast_ofNat_Int, Int.reduceEq, Int.reduceNe]
  refine vcall (rMod at' 9998 (by omega) (by decide) hat R2) ?_
  rintro R3 v hle2 rfl
  replace hm' := hm'.mono hle2
  have hx : 0 ≤ at' % 9998 ∧ at' % 9998 < 9998 := by omega
  generalize at' % 9998 = x at *
  try simp only [go_sem, ↓reduceIte, Nat.reduceEqDiff, Nat.reduceAdd, Nat.reduceMul, Nat.reduceLeDiff, Nat.reduceLT, Nat.reduceBNe, reduceCtorEq, Int.reduceLE, Int.reduceLT, Int.reduceToNat, Int.cast_ofNat_Int, Int.reduceEq, Int.reduceNe]
  refine ⟨_, W.in64 (by omega), ?_⟩
  try simp only [go_sem, ↓reduceIte, Nat.reduceEqDiff, Nat.reduceAdd, Nat.reduceMul, Nat.reduceLeDiff, Nat.reduceLT, Nat.reduceBNe, reduceCtorEq, Int.reduceLE, Int.reduceLT, Int.reduceToNat, Int.cast_ofNat_Int, Int.reduceEq, Int.reduceNe]
  have hy : 1 ≤ 1 + x ∧ 1 + x ≤ 9998 := by omega
  generalize 1 + x = y at *
  clear hx
  have hfy := hv.first_bd (y := y) (by omega) (by omega)
  have h11 := dayV_first hv (y := y) (m := 0) (by omega) (by omega)
  simp only [Int.natCast_zero, Int.zero_add, C.beg_zero] at h11
  refine vcall (pDayOf C _ _ _ hm' y 1 1 (by unfold I64; omega) (by decide) (by decide)) ?_
  rintro R4 v hle4 rfl
  replace hm' := hm'.mono hle4
  rw [h11.1, h11.2]
  try simp only [go_sem, ↓reduceIte, Nat.reduceEqDiff, Nat.reduceAdd, Nat.reduceMul, Nat.reduceLeDiff, Nat.reduceLT, Nat.reduceBNe, reduceCtorEq, Int.reduceLE, Int.reduceLT, Int.reduceToNat, Int.cast_ofNat_Int, Int.reduceEq, Int.reduceNe]
  refine vcLoop Nat (fun k => [(12, .val (.int .i64 (k + 1 : Int))), (10, .val (.int .i64 (C.beg y k))), (11, .val (.int .i64 (sumTo (fun i => C.months.getD i 0) k))), (6, .loc 1 0), (7, .val (.int .i64 y)), (8, .val (.int .i64 (C.first y))), (9, .val (.int .i64 0)), (5, .val (.bool true))])
    (fun k => [.box [.val (.int .i64 c.epoch), .val (.slice a0 c.months.length b0), .val (.int .i64 c.leap), .val (.slice p0 c.rules.length q0)], .box [.val (.int .i64 C.epoch), .val (.slice am C.months.length cm), .val (.int .i64 C.leap), .val (.slice ar C.rules.length cr)]])
    (fun k _ => k ≤ C.months.length) (fun k => C.months.length - k) 0 ?_ rfl ?_ ?_
  · rw [C.beg_zero]; (try simp only [go_sem, ↓reduceIte, Nat.reduceEqDiff, Nat.reduceAdd, Nat.reduceMul, Nat.reduceLeDiff, Nat.reduceLT, Nat.reduceBNe, reduceCtorEq]) <;> (repeat' (first | rfl | trivial | constructor | (intro h; exact absurd rfl h)))
  · omega
  · rintro k env R5 hle5 hE hk
    replace hm' := hm'.mono hle5
    (simp only [go_sem] at hE; obtain ⟨e12, e10, e11, e6, e7, e8, e9, e5⟩ := hE; simp only [go_sem, ↓reduceIte, Nat.reduceEqDiff, Nat.reduceAdd, Nat.reduceMul, Nat.reduceLeDiff, Nat.reduceLT, Nat.reduceBNe, reduceCtorEq, e12, e10, e11, e6, e7, e8, e9, e5]; dsimp only at *)
    refine ⟨fun hlt => ?_, fun hge => ?_⟩
    · have hlt' : k < C.months.length := by omega
      have hD := dayV_first hv (y := y) (m := k) (by omega) hlt'
      have hmb := hv.mlen_bd y hlt'
      have hML := mlenA_at hv y hlt'
      have hsu := C.beg_succ y k
      have hyb : C.beg y k + C.mlen y k ≤ C.first y + C.ylen y := by
        have := C.beg_all y
        have h2 := sumTo_mono (f := C.mlen y) (fun i => Cal.mlen_nonneg hv y i) (show k + 1 ≤ C.months.length by omega)
        have h3 : C.beg y (k + 1) = C.first y + sumTo (C.mlen y) (k + 1) := rfl
        have h4 : C.ylen y = sumTo (C.mlen y) C.months.length := rfl
        omega
      have hb0 : C.first y ≤ C.beg y k := by
        have h2 := sumTo_mono (f := C.mlen y) (fun i => Cal.mlen_nonneg hv y i) (show 0 ≤ k by omega)
        have h3 : C.beg y k = C.first y + sumTo (C.mlen y) k := rfl
        simp only [sumTo] at h2
        omega
      have hyl := hv.ylen_bd y
      refine vcall (pDayOf C _ _ _ hm' y (k + 1) 1 (by unfold I64; omega) (by unfold I64; omega) (by decide)) ?_
      rintro R6 v hle6 rfl
      replace hm' := hm'.mono hle6
      rw [hD.1, hD.2]
      try simp only [go_sem, ↓reduceIte, Nat.reduceEqDiff, Nat.reduceAdd, Nat.reduceMul, Nat.reduceLeDiff, Nat.reduceLT, Nat.reduceBNe, reduceCtorEq, e12, e10, e11, e6, e7, e8, e9, e5]
      refine vcall (pMonthLength C _ _ _ hm' y (k + 1) (by unfold I64; omega)) ?_
      rintro R7 v hle7 rfl
      replace hm' := hm'.mono hle7
      rw [hML]
      try simp only [go_sem, ↓reduceIte, Nat.reduceEqDiff, Nat.reduceAdd, Nat.reduceMul, Nat.reduceLeDiff, Nat.reduceLT, Nat.reduceBNe, reduceCtorEq, e12, e10, e11, e6, e7, e8, e9, e5]
      have hs := sumTo_bd (f := fun i => C.months.getD i 0) (a := 0) (b := 40) k (fun i hi => by
        have hi' : i < C.months.length := by omega
        have := hv.2.2.2.2.2.1 _ (List.getElem_mem hi')
        simp only [List.getD_eq_getElem?_getD, List.getElem?_eq_getElem hi', Option.getD_some]
        omega)
      have hin := hv.2.2.2.2.2.1 _ (List.getElem_mem hlt')
      refine ⟨_, W.in64 (by omega), _, W.in64 (by omega), by omega, by omega, ?_⟩
      rw [show ((k : Int) + 1 - 1).toNat = k by omega]
      obtain ⟨ad, had, hR⟩ := hfm k hlt'
      refine vat ad had ?_
      try simp only [go_sem, ↓reduceIte, Nat.reduceEqDiff, Nat.reduceAdd, Nat.reduceMul, Nat.reduceLeDiff, Nat.reduceLT, Nat.reduceBNe, reduceCtorEq]
      refine vload _ (hle7 _ _ (hle6 _ _ (hle5 _ _ (hle4 _ _ (hle2 _ _ hR))))) ?_
      try simp only [go_sem, ↓reduceIte, Nat.reduceEqDiff, Nat.reduceAdd, Nat.reduceMul, Nat.reduceLeDiff, Nat.reduceLT, Nat.reduceBNe, reduceCtorEq, e12, e10, e11, e6, e7, e8, e9, e5]
      refine ⟨_, W.in64 (by omega), _, W.in64 (by omega), k + 1, by omega, ?_⟩
      try simp only [go_sem, ↓reduceIte, Nat.reduceEqDiff, Nat.reduceAdd, Nat.reduceMul, Nat.reduceLeDiff, Nat.reduceLT, Nat.reduceBNe, reduceCtorEq]
      refine ⟨⟨rfl, congrArg (fun z => SV.val (Value.int IntKind.i64 z)) hsu.symm, ?_⟩, by omega⟩
      simp only [sumTo, List.getD_eq_getElem?_getD, List.getElem?_eq_getElem hlt', Option.getD_some]
    · have : k = C.months.length := by omega
      subst this
      try simp only [go_sem, ↓reduceIte, Nat.reduceEqDiff, Nat.reduceAdd, Nat.reduceMul, Nat.reduceLeDiff, Nat.reduceLT, Nat.reduceBNe, reduceCtorEq, e12, e10, e11, e6, e7, e8, e9, e5]
      refine ⟨_, W.in64 (by omega), ?_⟩
      have hD := dayV_first hv (y := y + 1) (m := 0) (by omega) (by omega)
      simp only [Int.natCast_zero, Int.zero_add, C.beg_zero] at hD
      refine vcall (pDayOf C _ _ _ hm' (y + 1) 1 1 (by unfold I64; omega) (by decide) (by decide)) ?_
      rintro R6 v hle6 rfl
      replace hm' := hm'.mono hle6
      have hfs := hv.first_succ y
      have hba := C.beg_all y
      rw [hD.1, hD.2]
      rw [hba] at e10
      try simp only [go_sem, ↓reduceIte, Nat.reduceEqDiff, Nat.reduceAdd, Nat.reduceMul, Nat.reduceLeDiff, Nat.reduceLT, Nat.reduceBNe, reduceCtorEq, e12, e10, e11, e6, e7, e8, e9, e5]
      have hyl := hv.ylen_bd y
      have hye := hv.ylen_eq y
      have hcm : C.common = sumTo (fun i => C.months.getD i 0) C.months.length := rfl
      refine vcall (pLeap C _ _ _ hm' y (by unfold I64; omega)) ?_
      rintro R7 v hle7 rfl
      replace hm' := hm'.mono hle7
      have hlA : leapA C y = leapOf C.rules y := by simp [leapA, hv]
      have hyA : ylenA C y = C.ylen y := by rw [ylenA, if_pos hv]
      rw [hlA]
      cases hl : leapOf C.rules y
      · rw [hl, if_neg (by simp)] at hye
        try simp only [go_sem, ↓reduceIte, Nat.reduceEqDiff, Nat.reduceAdd, Nat.reduceMul, Nat.reduceLeDiff, Nat.reduceLT, Nat.reduceBNe, reduceCtorEq, e12, e10, e11, e6, e7, e8, e9, e5]
        refine ⟨fun _ => ?_, fun h => absurd hfs h⟩
        refine vcall (pYearLength C _ _ _ hm' y (by unfold I64; omega)) ?_
        rintro R8 v hle8 rfl
        rw [hyA]
        try simp only [go_sem, ↓reduceIte, Nat.reduceEqDiff, Nat.reduceAdd, Nat.reduceMul, Nat.reduceLeDiff, Nat.reduceLT, Nat.reduceBNe, reduceCtorEq, e12, e10, e11, e6, e7, e8, e9, e5]
        refine ⟨_, W.in64 (by omega), fun _ => ⟨_, W.in64 (by omega), fun h => absurd (by omega) h⟩, fun h => absurd (by omega) h⟩
      · rw [hl, if_pos rfl] at hye
        try simp only [go_sem, ↓reduceIte, Nat.reduceEqDiff, Nat.reduceAdd, Nat.reduceMul, Nat.reduceLeDiff, Nat.reduceLT, Nat.reduceBNe, reduceCtorEq, e12, e10, e11, e6, e7, e8, e9, e5]
        refine ⟨_, W.in64 (by omega), fun _ => ?_, fun h => absurd hfs h⟩
        refine vcall (pYearLength C _ _ _ hm' y (by unfold I64; omega)) ?_
        rintro R8 v hle8 rfl
        rw [hyA]
        try simp only [go_sem, ↓reduceIte, Nat.reduceEqDiff, Nat.reduceAdd, Nat.reduceMul, Nat.reduceLeDiff, Nat.reduceLT, Nat.reduceBNe, reduceCtorEq, e12, e10, e11, e6, e7, e8, e9, e5]
        refine ⟨_, W.in64 (by omega), fun _ => ⟨_, W.in64 (by omega), fun h => absurd (by omega) h⟩, fun h => absurd (by omega) h⟩
end Go.Proofs.Ytpbnjoopgignoaa
