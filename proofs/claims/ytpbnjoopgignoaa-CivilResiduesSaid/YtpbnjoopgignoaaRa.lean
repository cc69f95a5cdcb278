/- Contracts of the reference's functions: leap years, lengths, known calendars. -/
import Derived.Test.YtpbnjoopgignoaaCg
namespace Go.Proofs.Ytpbnjoopgignoaa
set_option linter.unusedSimpArgs false
set_option linter.unusedVariables false
open Go.RowKit Go.Proofs.Ytpbnjoopgignoaa.Vc

theorem rSolar (R : RO) : CallsR Try.prog 36 [] R fun R' v => MonthsIn R' v solarM := by
  refine callsT mix Try.func36 comp36 (by simp [Try.ntmps36]) ?_; simp only [go_sem, ↓reduceIte, Nat.reduceEqDiff, Nat.reduceAdd, Nat.reduceMul, Nat.reduceLeDiff, Nat.reduceLT, Nat.reduceBNe, reduceCtorEq, vc36, rs36]
  rintro b cap R1 hle hr hc -
  exact MonthsIn.row (ms := solarM) hr (by simp [solarM]; omega) (by decide) (by decide)
theorem rKnown (k : Int) (R : RO) : CallsR Try.prog 15 [.int .i64 k] R fun R' v => KnownP k R' v := by
  refine callsT mix Try.func15 comp15 (by simp [Try.ntmps15]) ?_; simp only [go_sem, ↓reduceIte, Nat.reduceEqDiff, Nat.reduceAdd, Nat.reduceMul, Nat.reduceLeDiff, Nat.reduceLT, Nat.reduceBNe, reduceCtorEq, vc15, rs15]
  refine ⟨?_, fun h0 => ⟨?_, fun h1 => ⟨?_, ?_⟩⟩⟩
  · rintro rfl
    refine vcall (rSolar R) ?_
    rintro R1 v hle hm
    try simp only [go_sem, ↓reduceIte, Nat.reduceEqDiff, Nat.reduceAdd, Nat.reduceMul, Nat.reduceLeDiff, Nat.reduceLT, Nat.reduceBNe, reduceCtorEq]
    obtain ⟨a, cap, rfl, -, -⟩ := hm.form
    try simp only [go_sem, ↓reduceIte, Nat.reduceEqDiff, Nat.reduceAdd, Nat.reduceMul, Nat.reduceLeDiff, Nat.reduceLT, Nat.reduceBNe, reduceCtorEq]
    rintro b2 cap2 R2 hle2 hr2 hc2 -
    exact ⟨_, _, rfl, hm.mono hle2, RulesIn.row (rs := greg.rules) hr2 hc2 (by decide) (by decide), by decide, by decide⟩
  · rintro rfl
    refine vcall (rSolar R) ?_
    rintro R1 v hle hm
    try simp only [go_sem, ↓reduceIte, Nat.reduceEqDiff, Nat.reduceAdd, Nat.reduceMul, Nat.reduceLeDiff, Nat.reduceLT, Nat.reduceBNe, reduceCtorEq]
    obtain ⟨a, cap, rfl, -, -⟩ := hm.form
    try simp only [go_sem, ↓reduceIte, Nat.reduceEqDiff, Nat.reduceAdd, Nat.reduceMul, Nat.reduceLeDiff, Nat.reduceLT, Nat.reduceBNe, reduceCtorEq]
    rintro b2 cap2 R2 hle2 hr2 hc2 -
    exact ⟨_, _, rfl, hm.mono hle2, RulesIn.row (rs := jul.rules) hr2 hc2 (by decide) (by decide), by decide, by decide⟩
  · rintro rfl
    rintro b cap R1 hle1 hr1 hc1 -
    try simp only [go_sem, ↓reduceIte, Nat.reduceEqDiff, Nat.reduceAdd, Nat.reduceMul, Nat.reduceLeDiff, Nat.reduceLT, Nat.reduceBNe, reduceCtorEq]
    refine vcLoopR Nat (fun i => [(6, .val (.int .i64 i)), (5, .sl 3 11), (4, .loc 2 0), (2, .loc 0 0)])
      (fun i => [.box [.val (.int .i64 0), .val (.slice none 0 0), .val (.int .i64 0), .val (.slice none 0 0)], .dead,
        .box [.val (.int .i64 227021), .val (.slice (some ⟨b, 0, none⟩) 12 cap), .val (.int .i64 11), gs 4 i], .row 3 1 (rests.map (.int .i64)), gb 61 3 ((rests.take i).map fun r => rcells (30, r, true)).flatten])
      (fun i _ => i ≤ 11) (fun i => 11 - i) 0 [] ?_ ?_ ?_ ?_
    · (try simp only [go_sem, ↓reduceIte, Nat.reduceEqDiff, Nat.reduceAdd, Nat.reduceMul, Nat.reduceLeDiff, Nat.reduceLT, Nat.reduceBNe, reduceCtorEq]) <;> (repeat' (first | rfl | trivial | constructor | (intro h; exact absurd rfl h)))
    · try simp only [go_sem, ↓reduceIte, Nat.reduceEqDiff, Nat.reduceAdd, Nat.reduceMul, Nat.reduceLeDiff, Nat.reduceLT, Nat.reduceBNe, reduceCtorEq]
    · omega
    · rintro i env R2 hle2 hE hi2
      (simp only [go_sem] at hE; obtain ⟨e6, e5, e4, e2⟩ := hE; simp only [go_sem, ↓reduceIte, Nat.reduceEqDiff, Nat.reduceAdd, Nat.reduceMul, Nat.reduceLeDiff, Nat.reduceLT, Nat.reduceBNe, reduceCtorEq, e6, e5, e4, e2]; dsimp only at *)
      refine ⟨fun hlt => ⟨hlt, ?_⟩, fun hge => ?_⟩
      · have hir : i < rests.length := by simp [rests]; omega
        have hlen : ((rests.take i).map fun r => rcells (30, r, true)).flatten.length = i * 3 := by
          rw [length_flattenK (k := 3) (by intro us hus; obtain ⟨r, _, rfl⟩ := List.mem_map.1 hus; rfl)]
          simp
          simp [rests]; omega
        refine ⟨.int .i64 rests[i], by simp [hir], ?_⟩
        simp only [go_sem, ↓reduceIte, Nat.reduceEqDiff, Nat.reduceAdd, Nat.reduceMul, Nat.reduceLeDiff, Nat.reduceLT, Nat.reduceBNe, reduceCtorEq, e6, e5, e4, e2]
        refine vgrow ((rests.take i).map fun r => rcells (30, r, true)).flatten (fun h => by simp [gb_ne h]) (fun h => set_dead_gb (congrArg some (by rw [h]; rfl))) hlen (by decide) (by decide) (by omega) ?_
        simp only [go_sem, ↓reduceIte, Nat.reduceEqDiff, Nat.reduceAdd, Nat.reduceMul, Nat.reduceLeDiff, Nat.reduceLT, Nat.reduceBNe, reduceCtorEq, e6, e5, e4, e2]
        refine ⟨_, W.in64 (by omega), i + 1, [0, 1, 2, 3, 6], by omega, ?_⟩
        try simp only [go_sem, ↓reduceIte, Nat.reduceEqDiff, Nat.reduceAdd, Nat.reduceMul, Nat.reduceLeDiff, Nat.reduceLT, Nat.reduceBNe, reduceCtorEq]
        refine ⟨⟨rfl, fun _ => ?_⟩, rfl, by omega⟩
        rw [List.take_succ_eq_append_getElem hir, List.map_append, List.flatten_append]
        rfl
      · obtain rfl : i = 11 := by omega
        have e6 : gb 61 3 ((rests.take 11).map fun r => rcells (30, r, true)).flatten = .row 61 3 (lunar.rules.map rcells).flatten := rfl
        rw [e6]
        rintro b2 cap2 R4 hle4 hr4 hc4 -
        simp only [go_sem, ↓reduceIte, Nat.reduceEqDiff, Nat.reduceAdd, Nat.reduceMul, Nat.reduceLeDiff, Nat.reduceLT, Nat.reduceBNe, reduceCtorEq, e4, e2]
        exact ⟨_, _, rfl, MonthsIn.row (ms := lunarM) ((hr1.mono hle2).mono hle4) (by simp [lunarM]; omega) (by decide) (by decide), RulesIn.row (rs := lunar.rules) hr4 hc4 (by decide) (by decide), by decide, by decide⟩
  · intro h2
    have e1 : knownCal k = noCal := by simp [knownCal, h0, h1, h2]
    have e2 : knownE k = 4 := by simp [knownE, h0, h1, h2]
    refine ⟨_, _, ?_, by rw [e1]; exact noCal_in R⟩
    rw [e1, e2]
    rfl
theorem rLeap (c : Cal) (sm sr : Value) (R : RO) (h : CalIn R c sm sr) (y : Int) (hy : I64 y) : CallsR Try.prog 40 [cv c sm sr, .int .i64 y] R fun _ v => v = .bool (leapA c y) := by
  obtain ⟨am, cm, rfl, hcm, hfm⟩ := h.m.form
  obtain ⟨ar, cr, rfl, hcr, hfr⟩ := h.r.form
  refine callsT mix Try.func40 comp40 (by simp [Try.ntmps40]) ?_; simp only [go_sem, ↓reduceIte, Nat.reduceEqDiff, Nat.reduceAdd, Nat.reduceMul, Nat.reduceLeDiff, Nat.reduceLT, Nat.reduceBNe, reduceCtorEq, vc40, rs40]
  refine vcall (rValid c _ _ R h) ?_
  rintro R1 v hle rfl
  try simp only [go_sem, ↓reduceIte, Nat.reduceEqDiff, Nat.reduceAdd, Nat.reduceMul, Nat.reduceLeDiff, Nat.reduceLT, Nat.reduceBNe, reduceCtorEq]
  refine ⟨fun hv => by simp [leapA, hv], fun hv => ?_⟩
  refine vcLoop Nat (fun k => [(6, .val (.int .i64 k)), (5, .val (.bool (leapOf (c.rules.take k) y))), (2, .loc 0 0), (1, .val (.int .i64 y))])
    (fun k => [.box [.val (.int .i64 c.epoch), .val (.slice am c.months.length cm), .val (.int .i64 c.leap), .val (.slice ar c.rules.length cr)]])
    (fun k _ => k ≤ c.rules.length) (fun k => c.rules.length - k) 0 ?_ rfl ?_ ?_
  · (try simp only [go_sem, ↓reduceIte, Nat.reduceEqDiff, Nat.reduceAdd, Nat.reduceMul, Nat.reduceLeDiff, Nat.reduceLT, Nat.reduceBNe, reduceCtorEq]) <;> (repeat' (first | rfl | trivial | constructor | (intro h; exact absurd rfl h)))
  · omega
  · rintro k env R2 hle2 hE hk
    (simp only [go_sem] at hE; obtain ⟨e6, e5, e2, e1⟩ := hE; simp only [go_sem, ↓reduceIte, Nat.reduceEqDiff, Nat.reduceAdd, Nat.reduceMul, Nat.reduceLeDiff, Nat.reduceLT, Nat.reduceBNe, reduceCtorEq, e6, e5, e2, e1]; dsimp only at *)
    have hrl := hv.2.2.2.1
    refine ⟨fun hlt => ⟨hlt, ?_⟩, fun hge => ?_⟩
    · have hlt' : k < c.rules.length := by omega
      obtain ⟨ad, had, hR⟩ := hfr k hlt'
      have hok := (hv.per.2.2 c.rules[k] (List.getElem_mem hlt')).1
      have hbd := h.r.bd c.rules[k] (List.getElem_mem hlt')
      have hs := leapOf_snoc (c.rules.take k) c.rules[k] y
      rw [← List.take_succ_eq_append_getElem hlt'] at hs
      generalize hr : c.rules[k] = r at *
      obtain ⟨ev, rest, yes⟩ := r
      dsimp only at hbd hs
      simp only [okRule] at hok
      have hld := fun (R3 : RO) (hle3 : RO.le R R3) (j : Nat) (v : Value) (hj : (rcells (ev, rest, yes))[j]? = some v) => hle3 _ _ (hR j v hj)
      refine vat ad had ?_
      try simp only [go_sem, ↓reduceIte, Nat.reduceEqDiff, Nat.reduceAdd, Nat.reduceMul, Nat.reduceLeDiff, Nat.reduceLT, Nat.reduceBNe, reduceCtorEq]
      refine vload (.int .i64 ev) (by have := hle2 _ _ (hle _ _ (hR 0 _ rfl)); rwa [Addr.add_zero'] at this) ?_
      simp only [go_sem, ↓reduceIte, Nat.reduceEqDiff, Nat.reduceAdd, Nat.reduceMul, Nat.reduceLeDiff, Nat.reduceLT, Nat.reduceBNe, reduceCtorEq, e6, e5, e2, e1]
      refine ⟨hlt, vat ad had ?_⟩
      try simp only [go_sem, ↓reduceIte, Nat.reduceEqDiff, Nat.reduceAdd, Nat.reduceMul, Nat.reduceLeDiff, Nat.reduceLT, Nat.reduceBNe, reduceCtorEq]
      refine vload (.int .i64 rest) (hle2 _ _ (hle _ _ (hR 1 _ rfl))) ?_
      simp only [go_sem, ↓reduceIte, Nat.reduceEqDiff, Nat.reduceAdd, Nat.reduceMul, Nat.reduceLeDiff, Nat.reduceLT, Nat.reduceBNe, reduceCtorEq, e6, e5, e2, e1]
      refine vcall (rMod y ev (by omega) hbd.1 hy R2) ?_
      rintro R3 v hle3 rfl
      simp only [go_sem, ↓reduceIte, Nat.reduceEqDiff, Nat.reduceAdd, Nat.reduceMul, Nat.reduceLeDiff, Nat.reduceLT, Nat.reduceBNe, reduceCtorEq, e6, e5, e2, e1]
      refine ⟨fun h1 => ⟨hlt, vat ad had ?_⟩, fun h1 => ⟨_, W.in64 (by omega), k + 1, by omega, ⟨rfl, ?_⟩, by omega⟩⟩
      · try simp only [go_sem, ↓reduceIte, Nat.reduceEqDiff, Nat.reduceAdd, Nat.reduceMul, Nat.reduceLeDiff, Nat.reduceLT, Nat.reduceBNe, reduceCtorEq]
        refine vload (.bool yes) (hle3 _ _ (hle2 _ _ (hle _ _ (hR 2 _ rfl)))) ?_
        simp only [go_sem, ↓reduceIte, Nat.reduceEqDiff, Nat.reduceAdd, Nat.reduceMul, Nat.reduceLeDiff, Nat.reduceLT, Nat.reduceBNe, reduceCtorEq, e6, e5, e2, e1]
        refine ⟨_, W.in64 (by omega), k + 1, by omega, ⟨rfl, ?_⟩, by omega⟩
        rw [hs, if_pos h1]
      · rw [hs, if_neg h1]
    · rw [List.take_of_length_le (by omega)]
      simp [leapA, hv]
theorem rMonthLength (c : Cal) (sm sr : Value) (R : RO) (h : CalIn R c sm sr) (y m : Int) (hy : I64 y) (hm : I64 m) : CallsR Try.prog 41 [cv c sm sr, .int .i64 y, .int .i64 m] R fun _ v => v = .int .i64 (mlenA c y m) := by
  have h0 := h
  obtain ⟨am, cm, rfl, hcm, hfm⟩ := h.m.form
  obtain ⟨ar, cr, rfl, hcr, hfr⟩ := h.r.form
  refine callsT mix Try.func41 comp41 (by simp [Try.ntmps41]) ?_; simp only [go_sem, ↓reduceIte, Nat.reduceEqDiff, Nat.reduceAdd, Nat.reduceMul, Nat.reduceLeDiff, Nat.reduceLT, Nat.reduceBNe, reduceCtorEq, vc41, rs41]
  refine vcall (rValid c _ _ R h) ?_
  rintro R1 v hle rfl
  try simp only [go_sem, ↓reduceIte, Nat.reduceEqDiff, Nat.reduceAdd, Nat.reduceMul, Nat.reduceLeDiff, Nat.reduceLT, Nat.reduceBNe, reduceCtorEq]
  refine ⟨fun hv => ⟨fun h1 => ⟨fun h2 => ?_, fun h2 => ?_⟩, fun h1 => ?_⟩, fun hv => ?_⟩
  · rw [mlenA, if_neg (by omega)]
  · have hml := hv.2.1
    have hi : (m - 1).toNat < c.months.length := by omega
    obtain ⟨ad, had, hR⟩ := hfm (m - 1).toNat hi
    have hb := hv.mlen_bd y hi
    have hin := hv.2.2.2.2.2.1 _ (List.getElem_mem hi)
    have hE : mlenA c y m = c.months[(m - 1).toNat] + if m - 1 = c.leap ∧ leapOf c.rules y = true then 1 else 0 := by
      rw [mlenA, if_pos ⟨hv, by omega, by omega⟩, Cal.mlen, List.getD_eq_getElem?_getD, List.getElem?_eq_getElem hi, Option.getD_some, show (((m - 1).toNat : Nat) : Int) = m - 1 by omega]
    refine ⟨_, W.in64 (by omega), fun h3 => ?_, fun h3 => ?_⟩
    · refine vcall (rLeap c _ _ R1 (h0.mono hle) y hy) ?_
      rintro R2 v hle2 rfl
      try simp only [go_sem, ↓reduceIte, Nat.reduceEqDiff, Nat.reduceAdd, Nat.reduceMul, Nat.reduceLeDiff, Nat.reduceLT, Nat.reduceBNe, reduceCtorEq]
      have hla : leapA c y = leapOf c.rules y := by simp [leapA, hv]
      rw [hla]
      refine ⟨fun h4 => ⟨_, W.in64 (by omega), by omega, by omega, vat ad had ?_⟩, fun h4 => ⟨_, W.in64 (by omega), by omega, by omega, vat ad had ?_⟩⟩
      · try simp only [go_sem, ↓reduceIte, Nat.reduceEqDiff, Nat.reduceAdd, Nat.reduceMul, Nat.reduceLeDiff, Nat.reduceLT, Nat.reduceBNe, reduceCtorEq]
        refine vload _ (hle2 _ _ (hle _ _ hR)) ?_
        try simp only [go_sem, ↓reduceIte, Nat.reduceEqDiff, Nat.reduceAdd, Nat.reduceMul, Nat.reduceLeDiff, Nat.reduceLT, Nat.reduceBNe, reduceCtorEq]
        refine ⟨_, W.in64 (by omega), ?_⟩
        rw [hE, if_pos ⟨h3, h4⟩]
      · try simp only [go_sem, ↓reduceIte, Nat.reduceEqDiff, Nat.reduceAdd, Nat.reduceMul, Nat.reduceLeDiff, Nat.reduceLT, Nat.reduceBNe, reduceCtorEq]
        refine vload _ (hle2 _ _ (hle _ _ hR)) ?_
        try simp only [go_sem, ↓reduceIte, Nat.reduceEqDiff, Nat.reduceAdd, Nat.reduceMul, Nat.reduceLeDiff, Nat.reduceLT, Nat.reduceBNe, reduceCtorEq]
        rw [hE, if_neg (fun h => by rw [h.2] at h4; cases h4), Int.add_zero]
    · refine ⟨_, W.in64 (by omega), by omega, by omega, vat ad had ?_⟩
      try simp only [go_sem, ↓reduceIte, Nat.reduceEqDiff, Nat.reduceAdd, Nat.reduceMul, Nat.reduceLeDiff, Nat.reduceLT, Nat.reduceBNe, reduceCtorEq]
      refine vload _ (hle _ _ hR) ?_
      try simp only [go_sem, ↓reduceIte, Nat.reduceEqDiff, Nat.reduceAdd, Nat.reduceMul, Nat.reduceLeDiff, Nat.reduceLT, Nat.reduceBNe, reduceCtorEq]
      rw [hE, if_neg (fun h => h3 h.1), Int.add_zero]
  · rw [mlenA, if_neg (by omega)]
  · rw [mlenA, if_neg (fun h => hv h.1)]
/-- The days of a common year. -/
def Cal.common (c : Cal) : Int := sumTo (fun i => c.months.getD i 0) c.months.length
theorem sumTo_one (f : Nat → Int) (l : Nat) : ∀ n : Nat, sumTo (fun i => f i + if i = l then 1 else 0) n = sumTo f n + if l < n then 1 else 0
  | 0 => by simp [sumTo]
  | n + 1 => by
    simp only [sumTo, sumTo_one f l n]
    by_cases h1 : l < n
    · rw [if_pos h1, if_neg (by omega), if_pos (by omega)]; omega
    · by_cases h2 : n = l
      · rw [if_neg h1, if_pos h2, if_pos (by omega)]; omega
      · rw [if_neg h1, if_neg h2, if_neg (by omega)]; omega
theorem Cal.valid.ylen_eq {c : Cal} (h : c.valid) (y : Int) : c.ylen y = c.common + if leapOf c.rules y = true then 1 else 0 := by
  have h3 := h.2.2.1
  by_cases hl : leapOf c.rules y = true
  · have h0 : c.leap ≠ -1 := fun e => by
      have := h.2.2.2.2.1 e
      rw [this] at hl
      cases hl
    have e := sumTo_one (fun i => c.months.getD i 0) c.leap.toNat c.months.length
    rw [if_pos (by omega)] at e
    rw [if_pos hl]
    unfold Cal.ylen Cal.common
    rw [← e]
    refine sumTo_congr _ fun i hi => ?_
    unfold Cal.mlen
    congr 1
    by_cases hil : (i : Int) = c.leap
    · rw [if_pos ⟨hil, hl⟩, if_pos (by omega)]
    · rw [if_neg (fun h => hil h.1), if_neg (by omega)]
  · rw [if_neg hl]
    unfold Cal.ylen Cal.common
    rw [Int.add_zero]
    refine sumTo_congr _ fun i hi => ?_
    unfold Cal.mlen
    rw [if_neg (fun h => hl h.2), Int.add_zero]
theorem rCommon (c : Cal) (hv : c.valid) (sm sr : Value) (R : RO) (h : CalIn R c sm sr) : CallsR Try.prog 63 [cv c sm sr] R fun _ v => v = .int .i64 c.common := by
  obtain ⟨am, cm, rfl, hcm, hfm⟩ := h.m.form
  obtain ⟨ar, cr, rfl, hcr, hfr⟩ := h.r.form
  have hml := hv.2.1
  refine callsT mix Try.func63 comp63 (by simp [Try.ntmps63]) ?_; simp only [go_sem, ↓reduceIte, Nat.reduceEqDiff, Nat.reduceAdd, Nat.reduceMul, Nat.reduceLeDiff, Nat.reduceLT, Nat.reduceBNe, reduceCtorEq, vc63, rs63]
  refine vcLoop Nat (fun k => [(4, .val (.int .i64 k)), (3, .val (.int .i64 (sumTo (fun i => c.months.getD i 0) k))), (1, .loc 0 0)])
    (fun k => [.box [.val (.int .i64 c.epoch), .val (.slice am c.months.length cm), .val (.int .i64 c.leap), .val (.slice ar c.rules.length cr)]])
    (fun k _ => k ≤ c.months.length) (fun k => c.months.length - k) 0 ?_ rfl ?_ ?_
  · (try simp only [go_sem, ↓reduceIte, Nat.reduceEqDiff, Nat.reduceAdd, Nat.reduceMul, Nat.reduceLeDiff, Nat.reduceLT, Nat.reduceBNe, reduceCtorEq]) <;> (repeat' (first | rfl | trivial | constructor | (intro h; exact absurd rfl h)))
  · omega
  · rintro k env R2 hle2 hE hk
    (simp only [go_sem] at hE; obtain ⟨e4, e3, e1⟩ := hE; simp only [go_sem, ↓reduceIte, Nat.reduceEqDiff, Nat.reduceAdd, Nat.reduceMul, Nat.reduceLeDiff, Nat.reduceLT, Nat.reduceBNe, reduceCtorEq, e4, e3, e1]; dsimp only at *)
    refine ⟨fun hlt => ⟨hlt, ?_⟩, fun hge => ?_⟩
    · have hlt' : k < c.months.length := by omega
      obtain ⟨ad, had, hR⟩ := hfm k hlt'
      have hin := hv.2.2.2.2.2.1 _ (List.getElem_mem hlt')
      have hs := sumTo_bd (f := fun i => c.months.getD i 0) (a := 0) (b := 40) k (fun i hi => by
        have hi' : i < c.months.length := by omega
        have := hv.2.2.2.2.2.1 _ (List.getElem_mem hi')
        simp only [List.getD_eq_getElem?_getD, List.getElem?_eq_getElem hi', Option.getD_some]
        omega)
      refine vat ad had ?_
      try simp only [go_sem, ↓reduceIte, Nat.reduceEqDiff, Nat.reduceAdd, Nat.reduceMul, Nat.reduceLeDiff, Nat.reduceLT, Nat.reduceBNe, reduceCtorEq]
      refine vload _ (hle2 _ _ hR) ?_
      simp only [go_sem, ↓reduceIte, Nat.reduceEqDiff, Nat.reduceAdd, Nat.reduceMul, Nat.reduceLeDiff, Nat.reduceLT, Nat.reduceBNe, reduceCtorEq, e4, e3, e1]
      refine ⟨_, W.in64 (by omega), _, W.in64 (by omega), k + 1, by omega, ⟨rfl, ?_⟩, by omega⟩
      simp only [sumTo, List.getD_eq_getElem?_getD, List.getElem?_eq_getElem hlt', Option.getD_some]
    · have : k = c.months.length := by omega
      subst this
      rfl
theorem rYearLength (c : Cal) (sm sr : Value) (R : RO) (h : CalIn R c sm sr) (y : Int) (hy : I64 y) : CallsR Try.prog 42 [cv c sm sr, .int .i64 y] R fun _ v => v = .int .i64 (ylenA c y) := by
  have h0 := h
  obtain ⟨am, cm, rfl, hcm, hfm⟩ := h.m.form
  obtain ⟨ar, cr, rfl, hcr, hfr⟩ := h.r.form
  refine callsT mix Try.func42 comp42 (by simp [Try.ntmps42]) ?_; simp only [go_sem, ↓reduceIte, Nat.reduceEqDiff, Nat.reduceAdd, Nat.reduceMul, Nat.reduceLeDiff, Nat.reduceLT, Nat.reduceBNe, reduceCtorEq, vc42, rs42]
  refine vcall (rValid c _ _ R h) ?_
  rintro R1 v hle rfl
  try simp only [go_sem, ↓reduceIte, Nat.reduceEqDiff, Nat.reduceAdd, Nat.reduceMul, Nat.reduceLeDiff, Nat.reduceLT, Nat.reduceBNe, reduceCtorEq]
  refine ⟨fun hv => by rw [ylenA, if_neg hv], fun hv => ?_⟩
  have hE := hv.ylen_eq y
  have hb := hv.ylen_bd y
  have hml := hv.2.1
  refine vcall (rLeap c _ _ R1 (h0.mono hle) y hy) ?_
  rintro R2 v hle2 rfl
  try simp only [go_sem, ↓reduceIte, Nat.reduceEqDiff, Nat.reduceAdd, Nat.reduceMul, Nat.reduceLeDiff, Nat.reduceLT, Nat.reduceBNe, reduceCtorEq]
  have hla : leapA c y = leapOf c.rules y := by simp [leapA, hv]
  rw [hla]
  refine ⟨fun h4 => ?_, fun h4 => ?_⟩
  · refine vcall (rCommon c hv _ _ R2 ((h0.mono hle).mono hle2)) ?_
    rintro R3 v hle3 rfl
    try simp only [go_sem, ↓reduceIte, Nat.reduceEqDiff, Nat.reduceAdd, Nat.reduceMul, Nat.reduceLeDiff, Nat.reduceLT, Nat.reduceBNe, reduceCtorEq]
    rw [if_pos h4] at hE
    refine ⟨_, W.in64 (by omega), ?_⟩
    rw [ylenA, if_pos hv, hE]
  · refine vcall (rCommon c hv _ _ R2 ((h0.mono hle).mono hle2)) ?_
    rintro R3 v hle3 rfl
    try simp only [go_sem, ↓reduceIte, Nat.reduceEqDiff, Nat.reduceAdd, Nat.reduceMul, Nat.reduceLeDiff, Nat.reduceLT, Nat.reduceBNe, reduceCtorEq]
    rw [if_neg (by simpa using h4), Int.add_zero] at hE
    rw [ylenA, if_pos hv, hE]
end Go.Proofs.Ytpbnjoopgignoaa
