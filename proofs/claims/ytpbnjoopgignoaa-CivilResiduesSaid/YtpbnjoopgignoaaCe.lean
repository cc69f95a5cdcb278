/- Contracts of package civil's exported functions. -/
import Derived.Test.YtpbnjoopgignoaaCd
namespace Go.Proofs.Ytpbnjoopgignoaa
set_option linter.unusedSimpArgs false
set_option linter.unusedVariables false
open Go.RowKit Go.Proofs.Ytpbnjoopgignoaa.Vc

def leapA (c : Cal) (y : Int) : Bool := decide c.valid && leapOf c.rules y
theorem pLeap (c : Cal) (sm sr : Value) (R : RO) (h : CalIn R c sm sr) (y : Int) (hy : I64 y) : CallsR Try.prog 27 [cv c sm sr, .int .i64 y] R fun _ v => v = .bool (leapA c y) := by
  obtain ⟨am, cm, rfl, hcm, hfm⟩ := h.m.form
  obtain ⟨ar, cr, rfl, hcr, hfr⟩ := h.r.form
  refine callsT mix Try.func27 comp27 (by simp [Try.ntmps27]) ?_; simp only [go_sem, ↓reduceIte, Nat.reduceEqDiff, Nat.reduceAdd, Nat.reduceMul, Nat.reduceLeDiff, Nat.reduceLT, Nat.reduceBNe, reduceCtorEq, vc27, rs27]
  refine vcall (cValid c _ _ R h) ?_
  rintro R1 v hle rfl
  try simp only [go_sem, ↓reduceIte, Nat.reduceEqDiff, Nat.reduceAdd, Nat.reduceMul, Nat.reduceLeDiff, Nat.reduceLT, Nat.reduceBNe, reduceCtorEq]
  refine ⟨fun hv => vcall (cLeap c _ _ _ R1 (h.r.mono hle) (valid_small hv).1 (valid_small hv).2 _ _ y hy) ?_, fun hv => by simp [leapA, hv]⟩
  rintro R2 v hle2 rfl
  try simp only [go_sem, ↓reduceIte, Nat.reduceEqDiff, Nat.reduceAdd, Nat.reduceMul, Nat.reduceLeDiff, Nat.reduceLT, Nat.reduceBNe, reduceCtorEq]
  simp [leapA, hv]
def mlenA (c : Cal) (y m : Int) : Int := if c.valid ∧ 1 ≤ m ∧ m ≤ c.months.length then c.mlen y (m - 1).toNat else 0
theorem pMonthLength (c : Cal) (sm sr : Value) (R : RO) (h : CalIn R c sm sr) (y m : Int) (hy : I64 y) : CallsR Try.prog 23 [cv c sm sr, .int .i64 y, .int .i64 m] R fun _ v => v = .int .i64 (mlenA c y m) := by
  obtain ⟨am, cm, rfl, hcm, hfm⟩ := h.m.form
  obtain ⟨ar, cr, rfl, hcr, hfr⟩ := h.r.form
  refine callsT mix Try.func23 comp23 (by simp [Try.ntmps23]) ?_; simp only [go_sem, ↓reduceIte, Nat.reduceEqDiff, Nat.reduceAdd, Nat.reduceMul, Nat.reduceLeDiff, Nat.reduceLT, Nat.reduceBNe, reduceCtorEq, vc23, rs23]
  refine vcall (cValid c _ _ R h) ?_
  rintro R1 v hle rfl
  try simp only [go_sem, ↓reduceIte, Nat.reduceEqDiff, Nat.reduceAdd, Nat.reduceMul, Nat.reduceLeDiff, Nat.reduceLT, Nat.reduceBNe, reduceCtorEq]
  refine ⟨fun hv => ⟨fun h1 => ⟨fun h2 => ?_, fun h2 => ?_⟩, fun h1 => ?_⟩, fun hv => ?_⟩
  · rw [mlenA, if_neg (by omega)]
  · have hm := cMonth c hv (.slice am c.months.length cm) (.slice ar c.rules.length cr) (.slice none 0 0) R1 (h.mono hle) y hy (m - 1).toNat (by omega)
    rw [show (((m - 1).toNat : Nat) : Int) + 1 = m by omega] at hm
    refine vcall hm ?_
    rintro R2 v hle2 rfl
    try simp only [go_sem, ↓reduceIte, Nat.reduceEqDiff, Nat.reduceAdd, Nat.reduceMul, Nat.reduceLeDiff, Nat.reduceLT, Nat.reduceBNe, reduceCtorEq]
    rw [mlenA, if_pos ⟨hv, by omega, by omega⟩]
  · rw [mlenA, if_neg (by omega)]
  · rw [mlenA, if_neg (fun h => hv h.1)]
def ylenA (c : Cal) (y : Int) : Int := if c.valid then c.ylen y else 0
theorem pYearLength (c : Cal) (sm sr : Value) (R : RO) (h : CalIn R c sm sr) (y : Int) (hy : I64 y) : CallsR Try.prog 28 [cv c sm sr, .int .i64 y] R fun _ v => v = .int .i64 (ylenA c y) := by
  obtain ⟨am, cm, rfl, hcm, hfm⟩ := h.m.form
  obtain ⟨ar, cr, rfl, hcr, hfr⟩ := h.r.form
  refine callsT mix Try.func28 comp28 (by simp [Try.ntmps28]) ?_; simp only [go_sem, ↓reduceIte, Nat.reduceEqDiff, Nat.reduceAdd, Nat.reduceMul, Nat.reduceLeDiff, Nat.reduceLT, Nat.reduceBNe, reduceCtorEq, vc28, rs28]
  refine vcall (cValid c _ _ R h) ?_
  rintro R1 v hle rfl
  try simp only [go_sem, ↓reduceIte, Nat.reduceEqDiff, Nat.reduceAdd, Nat.reduceMul, Nat.reduceLeDiff, Nat.reduceLT, Nat.reduceBNe, reduceCtorEq]
  refine ⟨fun hv => by rw [ylenA, if_neg hv], fun hv => vcall (cYear c hv _ _ _ R1 (h.mono hle) y hy) ?_⟩
  rintro R2 v hle2 rfl
  try simp only [go_sem, ↓reduceIte, Nat.reduceEqDiff, Nat.reduceAdd, Nat.reduceMul, Nat.reduceLeDiff, Nat.reduceLT, Nat.reduceBNe, reduceCtorEq]
  rw [ylenA, if_pos hv]
def cycA (c : Cal) : Value := if c.valid then .tuple #[.int .i64 c.per, .int .i64 c.days, .int .i64 0] else .tuple #[.int .i64 0, .int .i64 0, .int .i64 1]
theorem pCycle (c : Cal) (sm sr : Value) (R : RO) (h : CalIn R c sm sr) : CallsR Try.prog 29 [cv c sm sr] R fun _ v => v = cycA c := by
  obtain ⟨am, cm, rfl, hcm, hfm⟩ := h.m.form
  obtain ⟨ar, cr, rfl, hcr, hfr⟩ := h.r.form
  refine callsT mix Try.func29 comp29 (by simp [Try.ntmps29]) ?_; simp only [go_sem, ↓reduceIte, Nat.reduceEqDiff, Nat.reduceAdd, Nat.reduceMul, Nat.reduceLeDiff, Nat.reduceLT, Nat.reduceBNe, reduceCtorEq, vc29, rs29]
  refine vcall (cOpen c _ _ R h) ?_
  rintro R1 v hle (⟨hv, rfl⟩ | ⟨hv, a, cap, rfl, hst⟩)
  · try simp only [go_sem, ↓reduceIte, Nat.reduceEqDiff, Nat.reduceAdd, Nat.reduceMul, Nat.reduceLeDiff, Nat.reduceLT, Nat.reduceBNe, reduceCtorEq]
    rw [cycA, if_neg hv]
  · try simp only [go_sem, ↓reduceIte, Nat.reduceEqDiff, Nat.reduceAdd, Nat.reduceMul, Nat.reduceLeDiff, Nat.reduceLT, Nat.reduceBNe, reduceCtorEq]
    refine vcall (cCycle c hv _ _ _ R1 hst) ?_
    rintro R2 v hle2 rfl
    try simp only [go_sem, ↓reduceIte, Nat.reduceEqDiff, Nat.reduceAdd, Nat.reduceMul, Nat.reduceLeDiff, Nat.reduceLT, Nat.reduceBNe, reduceCtorEq]
    rw [cycA, if_pos hv]
/-- Does the date exist? -/
def Cal.has (c : Cal) (m d y : Int) : Prop := 1 ≤ m ∧ m ≤ c.months.length ∧ 1 ≤ d ∧ d ≤ c.mlen y (m - 1).toNat
instance (c : Cal) (m d y : Int) : Decidable (c.has m d y) := by unfold Cal.has; infer_instance
def dayE (c : Cal) (y m d : Int) : Int := if ¬ c.valid then 1 else if ¬ (1 ≤ y ∧ y ≤ 9999) then 2 else if ¬ c.has m d y then 4 else 0
def dayV (c : Cal) (y m d : Int) : Int := if dayE c y m d = 0 then c.beg y (m - 1).toNat + d - 1 else 0
theorem pDayOf (c : Cal) (sm sr : Value) (R : RO) (h : CalIn R c sm sr) (y m d : Int) (hy : I64 y) (hm : I64 m) (hd : I64 d) :
    CallsR Try.prog 24 [cv c sm sr, .agg #[.int .i64 y, .int .i64 m, .int .i64 d]] R fun _ v => v = .tuple #[.int .i64 (dayV c y m d), .int .i64 (dayE c y m d)] := by
  obtain ⟨am, cm, rfl, hcm, hfm⟩ := h.m.form
  obtain ⟨ar, cr, rfl, hcr, hfr⟩ := h.r.form
  refine callsT mix Try.func24 comp24 (by simp [Try.ntmps24]) ?_; simp only [go_sem, ↓reduceIte, Nat.reduceEqDiff, Nat.reduceAdd, Nat.reduceMul, Nat.reduceLeDiff, Nat.reduceLT, Nat.reduceBNe, reduceCtorEq, vc24, rs24]
  refine vcall (cOpen c _ _ R h) ?_
  rintro R1 v hle (⟨hv, rfl⟩ | ⟨hv, a, cap, rfl, hst⟩)
  · try simp only [go_sem, ↓reduceIte, Nat.reduceEqDiff, Nat.reduceAdd, Nat.reduceMul, Nat.reduceLeDiff, Nat.reduceLT, Nat.reduceBNe, reduceCtorEq]
    simp [dayV, dayE, hv]
  · try simp only [go_sem, ↓reduceIte, Nat.reduceEqDiff, Nat.reduceAdd, Nat.reduceMul, Nat.reduceLeDiff, Nat.reduceLT, Nat.reduceBNe, reduceCtorEq]
    refine vcall (cSupported y R1) ?_
    rintro R2 v hle2 rfl
    try simp only [go_sem, ↓reduceIte, Nat.reduceEqDiff, Nat.reduceAdd, Nat.reduceMul, Nat.reduceLeDiff, Nat.reduceLT, Nat.reduceBNe, reduceCtorEq]
    have none : (1 ≤ y ∧ y ≤ 9999) → ¬ c.has m d y → Value.tuple #[.int .i64 0, .int .i64 4] = Value.tuple #[.int .i64 (dayV c y m d), .int .i64 (dayE c y m d)] := by
      intro h1 h2
      have : dayE c y m d = 4 := by simp only [dayE]; rw [if_neg (by simpa using hv), if_neg (by simpa using h1), if_pos h2]
      simp [dayV, this]
    have hmo := fun (hm : 1 ≤ m ∧ m ≤ c.months.length) (R : RO) (h : CalIn R c (.slice am c.months.length cm) (.slice ar c.rules.length cr)) => cMonth c hv (.slice am c.months.length cm) (.slice ar c.rules.length cr) (.slice a c.starts.length cap) R h y hy (m - 1).toNat (by omega)
    refine ⟨fun h1 => ?_, fun h1 => ⟨fun h2 => ⟨fun h3 => ⟨fun h4 => ?_, fun h4 => none h1 (fun h => by have := h.2.2.1; omega)⟩, fun h3 => none h1 (fun h => by have := h.2.1; omega)⟩, fun h2 => none h1 (fun h => by have := h.1; omega)⟩⟩
    · have : dayE c y m d = 2 := by simp only [dayE]; rw [if_neg (by simpa using hv), if_pos (by simpa using h1)]
      simp [dayV, this]
    · have hmm := hmo (by omega) R2 ((h.mono hle).mono hle2)
      rw [show (((m - 1).toNat : Nat) : Int) + 1 = m by omega] at hmm
      refine vcall hmm ?_
      rintro R3 v hle3 rfl
      try simp only [go_sem, ↓reduceIte, Nat.reduceEqDiff, Nat.reduceAdd, Nat.reduceMul, Nat.reduceLeDiff, Nat.reduceLT, Nat.reduceBNe, reduceCtorEq]
      have hfb := hv.first_bd (y := y) (by omega) (by omega)
      have he := hv.1
      have hmb := hv.mlen_bd y (show (m - 1).toNat < c.months.length by omega)
      have hml := hv.2.1
      have hs := sumTo_bd (f := c.mlen y) (a := 1) (b := 41) (m - 1).toNat (fun i hi => hv.mlen_bd y (by omega))
      refine ⟨fun h5 => none h1 (fun h => by have := h.2.2.2; omega), fun h5 => ?_⟩
      have hbb := cBegin c hv (.slice am c.months.length cm) (.slice ar c.rules.length cr) (.slice a c.starts.length cap) R3 (((h.mono hle).mono hle2).mono hle3) ((hst.mono hle2).mono hle3) y (by omega) (m - 1).toNat (by omega)
      rw [show (((m - 1).toNat : Nat) : Int) + 1 = m by omega] at hbb
      refine vcall hbb ?_
      rintro R4 v hle4 rfl
      try simp only [go_sem, ↓reduceIte, Nat.reduceEqDiff, Nat.reduceAdd, Nat.reduceMul, Nat.reduceLeDiff, Nat.reduceLT, Nat.reduceBNe, reduceCtorEq]
      have hb : c.beg y (m - 1).toNat = c.first y + sumTo (c.mlen y) (m - 1).toNat := rfl
      refine ⟨_, W.in64 (by omega), _, W.in64 (by omega), ?_⟩
      have : dayE c y m d = 0 := by
        simp only [dayE]; rw [if_neg (by simpa using hv), if_neg (by simpa using h1), if_neg]
        rw [Classical.not_not]
        exact ⟨by omega, by omega, by omega, by omega⟩
      simp [dayV, this]
theorem Cal.IsDay.year {c : Cal} (hv : c.valid) {y : Int} {m : Nat} {d day : Int} (h : c.IsDay y m d day) : c.first y ≤ day ∧ day < c.first y + c.ylen y := by
  have h1 := sumTo_bd (f := c.mlen y) (a := 1) (b := 41) m (fun i hi => hv.mlen_bd y (by have := h.mlt; omega))
  have h2 : sumTo (c.mlen y) (m + 1) ≤ sumTo (c.mlen y) c.months.length := sumTo_mono (fun i => c.mlen_nonneg hv y i) h.mlt
  have h3 : sumTo (c.mlen y) (m + 1) = sumTo (c.mlen y) m + c.mlen y m := rfl
  have h4 : c.beg y m = c.first y + sumTo (c.mlen y) m := rfl
  have h5 : c.ylen y = sumTo (c.mlen y) c.months.length := rfl
  have := h.day
  have := h.d1
  have := h.d2
  omega
abbrev dv (y m d : Int) : Value := .agg #[.int .i64 y, .int .i64 m, .int .i64 d]
/-- What DateOf answers. -/
def DateOfP (c : Cal) (day : Int) (v : Value) : Prop :=
  (¬ c.valid ∧ v = .tuple #[dv 0 0 0, .int .i64 1]) ∨ (c.valid ∧ ¬ (c.epoch ≤ day ∧ day < c.first 10000) ∧ v = .tuple #[dv 0 0 0, .int .i64 2]) ∨
    (c.valid ∧ (c.epoch ≤ day ∧ day < c.first 10000) ∧ ∃ y m d, c.IsDay y m d day ∧ v = .tuple #[dv y (m + 1 : Int) d, .int .i64 0])
theorem pDateOf (c : Cal) (sm sr : Value) (R : RO) (h : CalIn R c sm sr) (day : Int) (hday : I64 day) : CallsR Try.prog 25 [cv c sm sr, .int .i64 day] R fun _ v => DateOfP c day v := by
  obtain ⟨am, cm, rfl, hcm, hfm⟩ := h.m.form
  obtain ⟨ar, cr, rfl, hcr, hfr⟩ := h.r.form
  refine callsT mix Try.func25 comp25 (by simp [Try.ntmps25]) ?_; simp only [go_sem, ↓reduceIte, Nat.reduceEqDiff, Nat.reduceAdd, Nat.reduceMul, Nat.reduceLeDiff, Nat.reduceLT, Nat.reduceBNe, reduceCtorEq, vc25, rs25]
  refine vcall (cOpen c _ _ R h) ?_
  rintro R1 v hle (⟨hv, rfl⟩ | ⟨hv, a, cap, rfl, hst⟩)
  · try simp only [go_sem, ↓reduceIte, Nat.reduceEqDiff, Nat.reduceAdd, Nat.reduceMul, Nat.reduceLeDiff, Nat.reduceLT, Nat.reduceBNe, reduceCtorEq]
    exact .inl ⟨hv, rfl⟩
  · try simp only [go_sem, ↓reduceIte, Nat.reduceEqDiff, Nat.reduceAdd, Nat.reduceMul, Nat.reduceLeDiff, Nat.reduceLT, Nat.reduceBNe, reduceCtorEq]
    refine vcall (cDate c hv _ _ _ R1 (h.mono hle) hst day hday) ?_
    rintro R2 v hle2 (⟨hn, rfl⟩ | ⟨hn, y, m, d, hd, rfl⟩)
    · try simp only [go_sem, ↓reduceIte, Nat.reduceEqDiff, Nat.reduceAdd, Nat.reduceMul, Nat.reduceLeDiff, Nat.reduceLT, Nat.reduceBNe, reduceCtorEq]
      exact .inr (.inl ⟨hv, hn, rfl⟩)
    · try simp only [go_sem, ↓reduceIte, Nat.reduceEqDiff, Nat.reduceAdd, Nat.reduceMul, Nat.reduceLeDiff, Nat.reduceLT, Nat.reduceBNe, reduceCtorEq]
      exact .inr (.inr ⟨hv, hn, y, m, d, hd, rfl⟩)
/-- The Thursday of a day's week. -/
def thu (day : Int) : Int := day - day % 7 + 3
def WeekOfP (c : Cal) (day : Int) (v : Value) : Prop :=
  (¬ c.valid ∧ v = .tuple #[.int .i64 0, .int .i64 0, .int .i64 1]) ∨ (c.valid ∧ ¬ (c.epoch ≤ thu day ∧ thu day < c.first 10000) ∧ v = .tuple #[.int .i64 0, .int .i64 0, .int .i64 2]) ∨
    (c.valid ∧ (c.epoch ≤ thu day ∧ thu day < c.first 10000) ∧ ∃ y m d, c.IsDay y m d (thu day) ∧ v = .tuple #[.int .i64 y, .int .i64 ((thu day - c.first y) / 7 + 1), .int .i64 0])
theorem pWeekOf (c : Cal) (sm sr : Value) (R : RO) (h : CalIn R c sm sr) (day : Int) (hday : I64 day) : CallsR Try.prog 30 [cv c sm sr, .int .i64 day] R fun _ v => WeekOfP c day v := by
  obtain ⟨am, cm, rfl, hcm, hfm⟩ := h.m.form
  obtain ⟨ar, cr, rfl, hcr, hfr⟩ := h.r.form
  refine callsT mix Try.func30 comp30 (by simp [Try.ntmps30]) ?_; simp only [go_sem, ↓reduceIte, Nat.reduceEqDiff, Nat.reduceAdd, Nat.reduceMul, Nat.reduceLeDiff, Nat.reduceLT, Nat.reduceBNe, reduceCtorEq, vc30, rs30]
  refine vcall (cOpen c _ _ R h) ?_
  rintro R1 v hle (⟨hv, rfl⟩ | ⟨hv, a, cap, rfl, hst⟩)
  · try simp only [go_sem, ↓reduceIte, Nat.reduceEqDiff, Nat.reduceAdd, Nat.reduceMul, Nat.reduceLeDiff, Nat.reduceLT, Nat.reduceBNe, reduceCtorEq]
    exact .inl ⟨hv, rfl⟩
  · try simp only [go_sem, ↓reduceIte, Nat.reduceEqDiff, Nat.reduceAdd, Nat.reduceMul, Nat.reduceLeDiff, Nat.reduceLT, Nat.reduceBNe, reduceCtorEq]
    have he := hv.1
    have hfb := hv.first_bd (y := 10000) (by omega) (by omega)
    have hth : day - 3 ≤ thu day ∧ thu day ≤ day + 3 := by unfold thu; omega
    refine ⟨fun h1 => ⟨fun h2 => .inr (.inl ⟨hv, by omega, rfl⟩), fun h2 => ?_⟩, fun h1 => .inr (.inl ⟨hv, by omega, rfl⟩)⟩
    refine vcall (cWeekday day hday R1) ?_
    rintro R2 v hle2 rfl
    try simp only [go_sem, ↓reduceIte, Nat.reduceEqDiff, Nat.reduceAdd, Nat.reduceMul, Nat.reduceLeDiff, Nat.reduceLT, Nat.reduceBNe, reduceCtorEq]
    refine ⟨_, W.in64 (by omega), _, W.in64 (by omega), ?_⟩
    rw [show day - day % 7 + 3 = thu day from rfl]
    refine vcall (cDate c hv _ _ _ R2 ((h.mono hle).mono hle2) (hst.mono hle2) (thu day) (by unfold I64; omega)) ?_
    rintro R3 v hle3 (⟨hn, rfl⟩ | ⟨hn, y, m, d, hd, rfl⟩)
    · try simp only [go_sem, ↓reduceIte, Nat.reduceEqDiff, Nat.reduceAdd, Nat.reduceMul, Nat.reduceLeDiff, Nat.reduceLT, Nat.reduceBNe, reduceCtorEq]
      exact .inr (.inl ⟨hv, hn, rfl⟩)
    · try simp only [go_sem, ↓reduceIte, Nat.reduceEqDiff, Nat.reduceAdd, Nat.reduceMul, Nat.reduceLeDiff, Nat.reduceLT, Nat.reduceBNe, reduceCtorEq]
      have hy := hd.year hv
      have hy1 := hd.y1
      have hy2 := hd.y2
      have hyb := hv.ylen_bd y
      refine vcall (cFirst c hv _ _ _ R3 ((hst.mono hle2).mono hle3) y (by omega)) ?_
      rintro R4 v hle4 rfl
      try simp only [go_sem, ↓reduceIte, Nat.reduceEqDiff, Nat.reduceAdd, Nat.reduceMul, Nat.reduceLeDiff, Nat.reduceLT, Nat.reduceBNe, reduceCtorEq]
      refine ⟨_, W.in64 (by omega), by omega, ?_⟩
      rw [tdiv_nonneg' (by omega) (by omega)]
      refine ⟨_, W.in64 (by omega), _, W.in64 (by omega), .inr (.inr ⟨hv, hn, y, m, d, hd, rfl⟩)⟩
end Go.Proofs.Ytpbnjoopgignoaa
