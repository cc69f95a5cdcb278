/- The law CivilRoundTrip, out of the contracts. -/
import Derived.Test.YtpbnjoopgignoaaLc
namespace Go.Proofs.Ytpbnjoopgignoaa
set_option linter.unusedSimpArgs false
set_option linter.unusedVariables false
open Go.RowKit Go.Proofs.Ytpbnjoopgignoaa.Vc

theorem Cal.made_epoch (c : Cal) : 0 ≤ c.made.epoch ∧ c.made.epoch < 200 := by
  show 0 ≤ c.epoch % 200 ∧ c.epoch % 200 < 200
  omega
theorem DateOfP.in {c : Cal} {day : Int} {v : Value} (hv : c.valid) (h : DateOfP c day v) (hr : c.epoch ≤ day ∧ day < c.first 10000) : ∃ (y : Int) (m : Nat) (d : Int), c.IsDay y m d day ∧ v = .tuple #[dv y (m + 1) d, .int .i64 0] := by
  rcases h with ⟨a, rfl⟩ | ⟨a, b, rfl⟩ | ⟨a, b, y, m, d, h, rfl⟩
  · exact absurd hv a
  · exact absurd hr b
  · exact ⟨y, m, d, h, rfl⟩
theorem DateOfP.out {c : Cal} {day : Int} {v : Value} (hv : c.valid) (h : DateOfP c day v) (hr : ¬ (c.epoch ≤ day ∧ day < c.first 10000)) : v = .tuple #[dv 0 0 0, .int .i64 2] := by
  rcases h with ⟨a, rfl⟩ | ⟨a, b, rfl⟩ | ⟨a, b, y, m, d, h, rfl⟩
  · exact absurd hv a
  · rfl
  · exact absurd b hr
theorem lRoundTrip (c : Cal) (sm sr : Value) (R : RO) (h : CalIn R c sm sr) (y m d : Int) (hy : I64 y) (hm : I64 m) (hd : I64 d) (day : Int) (hday : I64 day) :
    CallsR Try.prog 5 [cv c sm sr, dv y m d, .int .i64 day] R fun _ v => v = .bool true := by
  obtain ⟨a, b, p, q, rfl, rfl⟩ := h.form
  refine callsT mix Try.func5 comp5 (by simp [Try.ntmps5]) ?_; simp only [go_sem, ↓reduceIte, Nat.reduceEqDiff, Nat.reduceAdd, Nat.reduceMul, Nat.reduceLeDiff, Nat.reduceLT, Nat.reduceBNe, reduceCtorEq, vc5, rs5]
  refine vcall (lSanity R) ?_
  rintro R1 v hle rfl
  replace h := h.mono hle
  try simp only [go_sem, ↓reduceIte, Nat.reduceEqDiff, Nat.reduceAdd, Nat.reduceMul, Nat.reduceLeDiff, Nat.reduceLT, Nat.reduceBNe, reduceCtorEq, Int.reduceLE, Int.reduceLT, Int.reduceToNat, Int.cast_ofNat_Int, Int.reduceEq, Int.reduceNe]
  refine vcall (rMade c _ _ R1 h) ?_
  rintro R2 v hle ⟨sm, sr, rfl, hm'⟩
  clear h
  have hv := c.made_valid
  have hfb := hv.first_bd (y := 10000) (by omega) (by omega)
  have hep := c.made_epoch
  generalize c.made = C at *
  obtain ⟨a, b, p, q, rfl, rfl⟩ := hm'.form
  try simp only [go_sem, ↓reduceIte, Nat.reduceEqDiff, Nat.reduceAdd, Nat.reduceMul, Nat.reduceLeDiff, Nat.reduceLT, Nat.reduceBNe, reduceCtorEq, Int.reduceLE, Int.reduceLT, Int.reduceToNat, Int.cast_ofNat_Int, Int.reduceEq, Int.reduceNe]
  refine vcall (lBounds C hv _ _ R2 hm') ?_
  rintro R3 v hle rfl
  replace hm' := hm'.mono hle
  try simp only [go_sem, ↓reduceIte, Nat.reduceEqDiff, Nat.reduceAdd, Nat.reduceMul, Nat.reduceLeDiff, Nat.reduceLT, Nat.reduceBNe, reduceCtorEq, Int.reduceLE, Int.reduceLT, Int.reduceToNat, Int.cast_ofNat_Int, Int.reduceEq, Int.reduceNe]
  have hE := dayE_iff hv y m d
  rw [has_iff hv] at hE
  by_cases h1 : 1 ≤ y
  case' neg =>
    have hN : dayE C y m d ≠ 0 := fun h => h1 (hE.1 h).1.1
    try simp only [go_sem, ↓reduceIte, Nat.reduceEqDiff, Nat.reduceAdd, Nat.reduceMul, Nat.reduceLeDiff, Nat.reduceLT, Nat.reduceBNe, reduceCtorEq, h1]
  case' pos =>
    by_cases h2 : y ≤ 9999
    case' neg =>
      have hN : dayE C y m d ≠ 0 := fun h => h2 (hE.1 h).1.2
      try simp only [go_sem, ↓reduceIte, Nat.reduceEqDiff, Nat.reduceAdd, Nat.reduceMul, Nat.reduceLeDiff, Nat.reduceLT, Nat.reduceBNe, reduceCtorEq, h1, h2]
    case' pos =>
      by_cases h3 : 1 ≤ d
      case' neg =>
        have hN : dayE C y m d ≠ 0 := fun h => h3 (hE.1 h).2.1
        try simp only [go_sem, ↓reduceIte, Nat.reduceEqDiff, Nat.reduceAdd, Nat.reduceMul, Nat.reduceLeDiff, Nat.reduceLT, Nat.reduceBNe, reduceCtorEq, h1, h2, h3]
      case' pos =>
        try simp only [go_sem, ↓reduceIte, Nat.reduceEqDiff, Nat.reduceAdd, Nat.reduceMul, Nat.reduceLeDiff, Nat.reduceLT, Nat.reduceBNe, reduceCtorEq, h1, h2, h3]
        refine vcall (pMonthLength C _ _ R3 hm' y m hy) ?_
        rintro R4 v hle rfl
        replace hm' := hm'.mono hle
        try simp only [go_sem, ↓reduceIte, Nat.reduceEqDiff, Nat.reduceAdd, Nat.reduceMul, Nat.reduceLeDiff, Nat.reduceLT, Nat.reduceBNe, reduceCtorEq, Int.reduceLE, Int.reduceLT, Int.reduceToNat, Int.cast_ofNat_Int, Int.reduceEq, Int.reduceNe]
        by_cases h4 : d ≤ mlenA C y m
        case' neg =>
          have hN : dayE C y m d ≠ 0 := fun h => h4 (hE.1 h).2.2
          try simp only [go_sem, ↓reduceIte, Nat.reduceEqDiff, Nat.reduceAdd, Nat.reduceMul, Nat.reduceLeDiff, Nat.reduceLT, Nat.reduceBNe, reduceCtorEq, h4]
        case' pos =>
          have hN : dayE C y m d = 0 := hE.2 ⟨⟨h1, h2⟩, h3, h4⟩
          try simp only [go_sem, ↓reduceIte, Nat.reduceEqDiff, Nat.reduceAdd, Nat.reduceMul, Nat.reduceLeDiff, Nat.reduceLT, Nat.reduceBNe, reduceCtorEq, h4]
  all_goals
    refine vcall (pDayOf C _ _ _ hm' y m d hy hm hd) ?_
    rintro R5 v hle rfl
    replace hm' := hm'.mono hle
    first | simp only [go_sem, ↓reduceIte, Nat.reduceEqDiff, Nat.reduceAdd, Nat.reduceMul, Nat.reduceLeDiff, Nat.reduceLT, Nat.reduceBNe, reduceCtorEq, hN, h4, bne_self_eq_false] | simp only [go_sem, ↓reduceIte, Nat.reduceEqDiff, Nat.reduceAdd, Nat.reduceMul, Nat.reduceLeDiff, Nat.reduceLT, Nat.reduceBNe, reduceCtorEq, hN, bne_self_eq_false]
  case' pos =>
    obtain ⟨hI, hM⟩ := isDay_of hv hN
    have hrg := hI.range hv
    refine vcall (pDateOf C _ _ _ hm' (dayV C y m d) (by unfold I64; omega)) ?_
    rintro R6 v hle hv'
    replace hm' := hm'.mono hle
    obtain rfl := hv'.at hv hrg hI hM
    try simp only [go_sem, ↓reduceIte, Nat.reduceEqDiff, Nat.reduceAdd, Nat.reduceMul, Nat.reduceLeDiff, Nat.reduceLT, Nat.reduceBNe, reduceCtorEq, Int.reduceLE, Int.reduceLT, Int.reduceToNat, Int.cast_ofNat_Int, Int.reduceEq, Int.reduceNe]
  all_goals
    refine vcall (pDateOf C _ _ _ hm' day hday) ?_
    rintro R7 v hle hv'
    replace hm' := hm'.mono hle
    by_cases hr : C.epoch ≤ day ∧ day < C.first 10000
    case' neg =>
      obtain rfl := hv'.out hv hr
      by_cases hr1 : C.epoch ≤ day
      case' neg => try simp only [go_sem, ↓reduceIte, Nat.reduceEqDiff, Nat.reduceAdd, Nat.reduceMul, Nat.reduceLeDiff, Nat.reduceLT, Nat.reduceBNe, reduceCtorEq, hr1, Int.reduceEq, Int.reduceNe, bne_self_eq_false]
      case' pos =>
        have hr2 : ¬ day ≤ C.first 10000 - 1 := by omega
        try simp only [go_sem, ↓reduceIte, Nat.reduceEqDiff, Nat.reduceAdd, Nat.reduceMul, Nat.reduceLeDiff, Nat.reduceLT, Nat.reduceBNe, reduceCtorEq, hr1, hr2, Int.reduceEq, Int.reduceNe, bne_self_eq_false]
    case' pos =>
      obtain ⟨y', m', d', hI', rfl⟩ := hv'.in hv hr
      have hr1 := hr.1
      have hr2 : day ≤ C.first 10000 - 1 := by omega
      try simp only [go_sem, ↓reduceIte, Nat.reduceEqDiff, Nat.reduceAdd, Nat.reduceMul, Nat.reduceLeDiff, Nat.reduceLT, Nat.reduceBNe, reduceCtorEq, hr1, hr2, Int.reduceEq, Int.reduceNe, bne_self_eq_false]
      have hI2 := dayV_of hv hI'
      refine vcall (pDayOf C _ _ _ hm' y' (m' + 1) d' (by have := hI'.y1; have := hI'.y2; unfold I64; omega) (by have := hI'.mlt; have := hv.2.1; unfold I64; omega) (by have := hI'.d1; have := hI'.d2; have := hv.mlen_bd y' hI'.mlt; unfold I64; omega)) ?_
      rintro R8 v hle rfl
      rw [hI2.1, hI2.2]
      try simp only [go_sem, ↓reduceIte, Nat.reduceEqDiff, Nat.reduceAdd, Nat.reduceMul, Nat.reduceLeDiff, Nat.reduceLT, Nat.reduceBNe, reduceCtorEq, Int.reduceLE, Int.reduceLT, Int.reduceToNat, Int.cast_ofNat_Int, Int.reduceEq, Int.reduceNe]
end Go.Proofs.Ytpbnjoopgignoaa
