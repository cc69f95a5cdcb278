/- Contracts of package civil's almanac: the search for a year, the date of a day. -/
import Derived.Test.YtpbnjoopgignoaaCc
namespace Go.Proofs.Ytpbnjoopgignoaa
set_option linter.unusedSimpArgs false
set_option linter.unusedVariables false
open Go.RowKit Go.Proofs.Ytpbnjoopgignoaa.Vc

theorem nan1 (x : Int) (R : RO) : CallsR Try.prog 71 [.int .i64 x] R fun _ v => v = .bool false := by
  refine callsT mix Try.func71 comp71 (by simp [Try.ntmps71]) ?_; simp only [go_sem, ↓reduceIte, Nat.reduceEqDiff, Nat.reduceAdd, Nat.reduceMul, Nat.reduceLeDiff, Nat.reduceLT, Nat.reduceBNe, reduceCtorEq, vc71, rs71]
  first | done | simp
theorem nan2 (x : Int) (R : RO) : CallsR Try.prog 74 [.int .i64 x] R fun _ v => v = .bool false := by
  refine callsT mix Try.func74 comp74 (by simp [Try.ntmps74]) ?_; simp only [go_sem, ↓reduceIte, Nat.reduceEqDiff, Nat.reduceAdd, Nat.reduceMul, Nat.reduceLeDiff, Nat.reduceLT, Nat.reduceBNe, reduceCtorEq, vc74, rs74]
  first | done | simp
theorem lessInt (x y : Int) (R : RO) : CallsR Try.prog 70 [.int .i64 x, .int .i64 y] R fun _ v => v = .bool (decide (x < y)) := by
  refine callsT mix Try.func70 comp70 (by simp [Try.ntmps70]) ?_; simp only [go_sem, ↓reduceIte, Nat.reduceEqDiff, Nat.reduceAdd, Nat.reduceMul, Nat.reduceLeDiff, Nat.reduceLT, Nat.reduceBNe, reduceCtorEq, vc70, rs70]
  refine vcall (nan2 x R) ?_
  rintro R1 v hle rfl
  try simp only [go_sem, ↓reduceIte, Nat.reduceEqDiff, Nat.reduceAdd, Nat.reduceMul, Nat.reduceLeDiff, Nat.reduceLT, Nat.reduceBNe, reduceCtorEq]
theorem bsearch (xs : List Int) (hs : ∀ i j (hi : i < xs.length) (hj : j < xs.length), i < j → xs[i] ≤ xs[j]) (hn : xs.length ≤ 1099511627776) (t : Int) (sv : Value) (R : RO) (h : Ints R sv xs) :
    CallsR Try.prog 65 [sv, .int .i64 t] R fun _ v => ∃ i : Nat, i ≤ xs.length ∧ (∀ j (hj : j < xs.length), j < i → xs[j] < t) ∧ (∀ j (hj : j < xs.length), i ≤ j → t ≤ xs[j]) ∧
      v = .tuple #[.int .i64 i, .bool (decide (xs[i]? = some t))] := by
  obtain ⟨a, cap, rfl, hc, hf⟩ := h.form
  refine callsT mix Try.func65 comp65 (by simp [Try.ntmps65]) ?_; simp only [go_sem, ↓reduceIte, Nat.reduceEqDiff, Nat.reduceAdd, Nat.reduceMul, Nat.reduceLeDiff, Nat.reduceLT, Nat.reduceBNe, reduceCtorEq, vc65, rs65]
  refine vcLoop (Nat × Nat) (fun x => [(7, .val (.int .i64 x.1)), (8, .val (.int .i64 x.2)), (6, .val (.int .i64 xs.length)), (0, .val (.slice a xs.length cap)), (1, .val (.int .i64 t))]) (fun _ => [])
    (fun x _ => x.1 ≤ x.2 ∧ x.2 ≤ xs.length ∧ (∀ j (hj : j < xs.length), j < x.1 → xs[j] < t) ∧ (∀ j (hj : j < xs.length), x.2 ≤ j → t ≤ xs[j])) (fun x => x.2 - x.1) (0, xs.length) ?_ rfl ?_ ?_
  · (try simp only [go_sem, ↓reduceIte, Nat.reduceEqDiff, Nat.reduceAdd, Nat.reduceMul, Nat.reduceLeDiff, Nat.reduceLT, Nat.reduceBNe, reduceCtorEq]) <;> (repeat' (first | rfl | trivial | constructor | (intro h; exact absurd rfl h)))
  · exact ⟨by omega, by omega, fun j hj h => by omega, fun j hj h => by omega⟩
  · rintro ⟨l, r⟩ env R1 hle hE ⟨hlr, hr, hlo, hhi⟩
    (simp only [go_sem] at hE; obtain ⟨e7, e8, e6, e0, e1⟩ := hE; simp only [go_sem, ↓reduceIte, Nat.reduceEqDiff, Nat.reduceAdd, Nat.reduceMul, Nat.reduceLeDiff, Nat.reduceLT, Nat.reduceBNe, reduceCtorEq, e7, e8, e6, e0, e1]; dsimp only at *)
    refine ⟨fun hlt => ?_, fun hge => ?_⟩
    · have hfd : ((l : Int) + r).fdiv (2 ^ min (Int.toNat 1) 64) = (((l + r) / 2 : Nat) : Int) := by
        have : (2 : Int) ^ min (Int.toNat 1) 64 = 2 := rfl
        rw [this, Int.fdiv_eq_ediv_of_nonneg _ (by omega)]
        omega
      refine ⟨_, W.in64 (by omega), _, W.u64 (by omega), by omega, ?_⟩
      rw [hfd]
      obtain ⟨ad, had, hR⟩ := hf ((l + r) / 2) (by omega)
      refine ⟨_, W.in64 (by omega), by omega, by omega, vat ad had ?_⟩
      simp only [go_sem, ↓reduceIte, Nat.reduceEqDiff, Nat.reduceAdd, Nat.reduceMul, Nat.reduceLeDiff, Nat.reduceLT, Nat.reduceBNe, reduceCtorEq, e7, e8, e6, e0, e1]
      refine vload _ (hle _ _ hR) ?_
      simp only [go_sem, ↓reduceIte, Nat.reduceEqDiff, Nat.reduceAdd, Nat.reduceMul, Nat.reduceLeDiff, Nat.reduceLT, Nat.reduceBNe, reduceCtorEq, e7, e8, e6, e0, e1]
      refine vcall (lessInt _ t R1) ?_
      rintro R2 v hle2 rfl
      simp only [go_sem, ↓reduceIte, Nat.reduceEqDiff, Nat.reduceAdd, Nat.reduceMul, Nat.reduceLeDiff, Nat.reduceLT, Nat.reduceBNe, reduceCtorEq, e7, e8, e6, e0, e1]
      refine ⟨fun h1 => ⟨_, W.in64 (by omega), ((l + r) / 2 + 1, r), by dsimp only; omega, ⟨rfl, rfl⟩, by dsimp only; omega, by dsimp only; omega, fun j hj hlt => ?_, hhi⟩, fun h1 => ⟨(l, (l + r) / 2), by dsimp only; omega, ⟨rfl, rfl⟩, by dsimp only; omega, by dsimp only; omega, hlo, fun j hj hle => ?_⟩⟩
      · by_cases hj2 : j = (l + r) / 2
        · subst hj2; exact h1
        · have := hs j ((l + r) / 2) hj (by omega) (by dsimp only at hlt; omega)
          omega
      · by_cases hj2 : j = (l + r) / 2
        · subst hj2; omega
        · have := hs ((l + r) / 2) j (by omega) hj (by dsimp only at hle; omega)
          omega
    · have hlr2 : r = l := by omega
      subst hlr2
      refine ⟨fun hlt => ⟨hlt, ?_⟩, fun hge2 => ?_⟩
      · obtain ⟨ad, had, hR⟩ := hf r (by omega)
        have hx : xs[r]? = some xs[r] := List.getElem?_eq_getElem (by omega)
        refine vat ad had ?_
        simp only [go_sem, ↓reduceIte, Nat.reduceEqDiff, Nat.reduceAdd, Nat.reduceMul, Nat.reduceLeDiff, Nat.reduceLT, Nat.reduceBNe, reduceCtorEq, e7, e8, e6, e0, e1]
        refine vload _ (hle _ _ hR) ?_
        simp only [go_sem, ↓reduceIte, Nat.reduceEqDiff, Nat.reduceAdd, Nat.reduceMul, Nat.reduceLeDiff, Nat.reduceLT, Nat.reduceBNe, reduceCtorEq, e7, e8, e6, e0, e1]
        refine ⟨fun h1 => ⟨hlt, vat ad had ?_⟩, fun h1 => ⟨r, hr, hlo, hhi, by simp [hx, h1]⟩⟩
        simp only [go_sem, ↓reduceIte, Nat.reduceEqDiff, Nat.reduceAdd, Nat.reduceMul, Nat.reduceLeDiff, Nat.reduceLT, Nat.reduceBNe, reduceCtorEq, e7, e8, e6, e0, e1]
        refine vload _ (hle _ _ hR) ?_
        simp only [go_sem, ↓reduceIte, Nat.reduceEqDiff, Nat.reduceAdd, Nat.reduceMul, Nat.reduceLeDiff, Nat.reduceLT, Nat.reduceBNe, reduceCtorEq, e7, e8, e6, e0, e1]
        refine vcall (nan1 _ R1) ?_
        rintro R2 v hle2 rfl
        simp only [go_sem, ↓reduceIte, Nat.reduceEqDiff, Nat.reduceAdd, Nat.reduceMul, Nat.reduceLeDiff, Nat.reduceLT, Nat.reduceBNe, reduceCtorEq, e7, e8, e6, e0, e1]
        exact ⟨r, hr, hlo, hhi, by simp [hx, h1]⟩
      · exact ⟨r, hr, hlo, hhi, by rw [List.getElem?_eq_none (by omega)]; simp⟩
theorem Cal.valid.first_of {c : Cal} (h : c.valid) (t : Int) (i : Nat) (hi : (i : Int) < c.per) : c.first (t * c.per + i + 1) = c.epoch + t * c.days + c.S i := by
  have hp := h.per.2.1
  have e : t * c.per + i + 1 - 1 = i + c.per * t := by rw [Int.mul_comm]; omega
  unfold Cal.first
  rw [e, Int.add_mul_ediv_left _ _ (by omega), Int.add_mul_emod_self_left, Int.ediv_eq_zero_of_lt (by omega) hi, Int.emod_eq_of_lt (by omega) hi]
  simp
theorem Cal.valid.S_lt {c : Cal} (h : c.valid) {i j : Nat} (hij : i < j) : c.S i < c.S j := by
  obtain ⟨d, rfl⟩ : ∃ d, j = i + 1 + d := ⟨j - i - 1, by omega⟩
  have h1 : c.S (i + 1) = c.S i + c.ylen (i + 1) := rfl
  have h2 := h.ylen_bd (i + 1)
  have h3 := h.2.1
  have h4 : c.S (i + 1) ≤ c.S (i + 1 + d) := sumTo_mono (fun k => by have := h.ylen_bd (k + 1); omega) (by omega)
  omega
/-- A day of the years 1 to 9999 that is the d-th of the month behind m others of the year y. -/
structure Cal.IsDay (c : Cal) (y : Int) (m : Nat) (d : Int) (day : Int) : Prop where
  y1 : 1 ≤ y
  y2 : y ≤ 9999
  mlt : m < c.months.length
  d1 : 1 ≤ d
  d2 : d ≤ c.mlen y m
  day : c.beg y m + d - 1 = day
/-- The year of a day, and its first day's distance in the cycle. -/
theorem Cal.valid.year_of {c : Cal} (hv : c.valid) {day : Int} (h1 : c.epoch ≤ day) (h2 : day < c.first 10000) {i : Nat} (hi : i < c.starts.length) (hS : c.S i ≤ (day - c.epoch) % c.days)
    (hS2 : ∀ j, i < j → j < c.starts.length → (day - c.epoch) % c.days < c.S j) :
    (i : Int) < c.per ∧ 1 ≤ (day - c.epoch) / c.days * c.per + i + 1 ∧ (day - c.epoch) / c.days * c.per + i + 1 ≤ 9999 ∧ 0 ≤ (day - c.epoch) / c.days * c.per ∧
      day = c.first ((day - c.epoch) / c.days * c.per + i + 1) + ((day - c.epoch) % c.days - c.S i) ∧ (day - c.epoch) % c.days - c.S i < c.ylen ((day - c.epoch) / c.days * c.per + i + 1) := by
  have hp := hv.per.2.1
  have hd := hv.days_bd
  have hl := c.starts_len
  have hr0 := Int.emod_nonneg (day - c.epoch) (show c.days ≠ 0 by omega)
  have hr1 := Int.emod_lt_of_pos (day - c.epoch) (show 0 < c.days by omega)
  have hq := Int.ediv_nonneg (show 0 ≤ day - c.epoch by omega) (show 0 ≤ c.days by omega)
  have hdm := Int.ediv_mul_add_emod (day - c.epoch) c.days
  have hq2 := Int.mul_nonneg hq (show 0 ≤ c.per by omega)
  have hip : (i : Int) < c.per := by
    rcases Nat.lt_or_ge i c.per.toNat with h | h
    · omega
    · have : i = c.per.toNat := by omega
      subst this
      have : c.days = c.S c.per.toNat := rfl
      omega
  have hf := hv.first_of ((day - c.epoch) / c.days) i hip
  have hS3 := hS2 (i + 1) (by omega) (by omega)
  have hy : c.ylen ((day - c.epoch) / c.days * c.per + i + 1) = c.ylen (i + 1) := hv.ylen_mod (by
    rw [show (day - c.epoch) / c.days * c.per + i + 1 = (i + 1 : Int) + c.per * ((day - c.epoch) / c.days) by rw [Int.mul_comm]; omega, Int.add_mul_emod_self_left])
  have hS4 : c.S (i + 1) = c.S i + c.ylen (i + 1) := rfl
  have hday : day = c.first ((day - c.epoch) / c.days * c.per + i + 1) + ((day - c.epoch) % c.days - c.S i) := by rw [hf]; omega
  refine ⟨hip, by omega, ?_, hq2, hday, by omega⟩
  rcases Int.lt_or_le 9999 ((day - c.epoch) / c.days * c.per + i + 1) with h | h
  · exfalso
    rcases Int.lt_or_le 10000 ((day - c.epoch) / c.days * c.per + i + 1) with h3 | h3
    · have := hv.first_lt h3
      have := hv.ylen_bd 10000
      omega
    · rw [show (day - c.epoch) / c.days * c.per + i + 1 = 10000 by omega] at hday
      omega
  · exact h
/-- What 'date' answers. -/
def Cal.DateP (c : Cal) (day : Int) (v : Value) : Prop :=
  (¬ (c.epoch ≤ day ∧ day < c.first 10000) ∧ v = .tuple #[.agg #[.int .i64 0, .int .i64 0, .int .i64 0], .bool false]) ∨
      ((c.epoch ≤ day ∧ day < c.first 10000) ∧ ∃ y m d, c.IsDay y m d day ∧ v = .tuple #[.agg #[.int .i64 y, .int .i64 (m + 1 : Int), .int .i64 d], .bool true])
theorem cDate (c : Cal) (hv : c.valid) (sm sr st : Value) (R : RO) (h : CalIn R c sm sr) (hst : Ints R st c.starts) (day : Int) (hday : I64 day) :
    CallsR Try.prog 51 [av c sm sr st, .int .i64 day] R fun _ v => c.DateP day v := by
  have he := hv.1
  have hp := hv.per.2.1
  have hd := hv.days_bd
  have hfb := hv.first_bd (y := 10000) (by omega) (by omega)
  have hlen := c.starts_len
  have hml := hv.2.1
  obtain ⟨a, cap, rfl, hc, hf⟩ := hst.form
  unfold I64 at hday
  refine callsT mix Try.func51 comp51 (by simp [Try.ntmps51]) ?_; simp only [go_sem, ↓reduceIte, Nat.reduceEqDiff, Nat.reduceAdd, Nat.reduceMul, Nat.reduceLeDiff, Nat.reduceLT, Nat.reduceBNe, reduceCtorEq, vc51, rs51]
  refine ⟨fun h1 => ?_, fun h1 => .inl ⟨by omega, rfl⟩⟩
  refine vcall (cFirst c hv _ _ _ R hst 10000 (by omega)) ?_
  rintro R1 v hle rfl
  try simp only [go_sem, ↓reduceIte, Nat.reduceEqDiff, Nat.reduceAdd, Nat.reduceMul, Nat.reduceLeDiff, Nat.reduceLT, Nat.reduceBNe, reduceCtorEq]
  refine ⟨fun h2 => .inl ⟨by omega, rfl⟩, fun h2 => ?_⟩
  refine vcall (cCycle c hv _ _ _ R1 (hst.mono hle)) ?_
  rintro R2 v hle2 rfl
  try simp only [go_sem, ↓reduceIte, Nat.reduceEqDiff, Nat.reduceAdd, Nat.reduceMul, Nat.reduceLeDiff, Nat.reduceLT, Nat.reduceBNe, reduceCtorEq]
  have hr0 := Int.emod_nonneg (day - c.epoch) (show c.days ≠ 0 by omega)
  have hr1 := Int.emod_lt_of_pos (day - c.epoch) (show 0 < c.days by omega)
  have hq := Int.ediv_nonneg (show 0 ≤ day - c.epoch by omega) (show 0 ≤ c.days by omega)
  have hqle := Int.ediv_le_self (a := day - c.epoch) c.days (by omega)
  refine ⟨_, W.in64 (by omega), by omega, ?_⟩
  rw [tdiv_nonneg' (by omega) (by omega)]
  refine ⟨_, W.in64 (by omega), _, W.in64 (by omega), by omega, ?_⟩
  rw [tmod_nonneg' (by omega)]
  refine vcall (bsearch c.starts (fun i j hi hj hij => by rw [c.starts_get, c.starts_get]; exact Int.le_of_lt (hv.S_lt hij)) (by omega) ((day - c.epoch) % c.days) _ R2 ((hst.mono hle).mono hle2)) ?_
  rintro R3 v hle3 ⟨k, hk, hlo, hhi, rfl⟩
  try simp only [go_sem, ↓reduceIte, Nat.reduceEqDiff, Nat.reduceAdd, Nat.reduceMul, Nat.reduceLeDiff, Nat.reduceLT, Nat.reduceBNe, reduceCtorEq]
  simp only [c.starts_get] at hlo hhi
  refine ⟨fun hn => ⟨_, W.in64 (by omega), ?_⟩, fun hn => ?_⟩
  case' refine_1 =>
    obtain ⟨k, rfl⟩ : ∃ i, k = i + 1 := ⟨k - 1, by
      rcases Nat.eq_zero_or_pos k with h0 | h0
      · subst h0
        exfalso
        have h3 := hhi 0 (by omega) (Nat.le_refl _)
        have h4 : c.S 0 = 0 := rfl
        refine hn ?_
        rw [List.getElem?_eq_getElem (by omega), c.starts_get]
        congr 1
        omega
      · omega⟩
    have hkl : k < c.starts.length := by omega
    have hS : c.S k ≤ (day - c.epoch) % c.days := Int.le_of_lt (hlo k hkl (by omega))
    have hS2 : ∀ j, k < j → j < c.starts.length → (day - c.epoch) % c.days < c.S j := by
      intro j hj hjl
      have h3 := hhi (k + 1) (by omega) (Nat.le_refl _)
      have h4 : (day - c.epoch) % c.days ≠ c.S (k + 1) := fun e => hn (by rw [List.getElem?_eq_getElem (show k + 1 < c.starts.length by omega), c.starts_get, e])
      rcases Nat.lt_or_ge (k + 1) j with h5 | h5
      · have := hv.S_lt h5; omega
      · have : j = k + 1 := by omega
        subst this; omega
    rw [show ((k + 1 : Nat) : Int) - 1 = k by omega]
    clear hlo hhi hn
  case' refine_2 =>
    have hkl : k < c.starts.length := (List.getElem?_eq_some_iff.1 hn).1
    have hS0 : c.S k = (day - c.epoch) % c.days := by
      rw [List.getElem?_eq_getElem hkl, c.starts_get] at hn
      simpa using hn
    have hS : c.S k ≤ (day - c.epoch) % c.days := by omega
    have hS2 : ∀ j, k < j → j < c.starts.length → (day - c.epoch) % c.days < c.S j := fun j hj _ => by have := hv.S_lt hj; omega
    clear hlo hhi hn hS0
  all_goals
    obtain ⟨g1, g2, g3, g4, g5, g6⟩ := hv.year_of (by omega) (by omega) hkl hS hS2
    have hSb := hv.S_bd k
    obtain ⟨ad, had, hR⟩ := hf k hkl
    rw [c.starts_get] at hR
    refine ⟨_, W.in64 (by omega), _, W.in64 (by omega), _, W.in64 (by omega), ?_⟩
    try simp only [go_sem, ↓reduceIte, Nat.reduceEqDiff, Nat.reduceAdd, Nat.reduceMul, Nat.reduceLeDiff, Nat.reduceLT, Nat.reduceBNe, reduceCtorEq]
    generalize hY : (day - c.epoch) / c.days * c.per + (k : Int) + 1 = Y at g2 g3 g5 g6 ⊢
    have hcal := (((h.mono hle).mono hle2).mono hle3)
    have hlast : c.beg Y c.months.length = c.first Y + c.ylen Y := rfl
    refine ⟨by omega, vat ad had ?_⟩
    try simp only [go_sem, ↓reduceIte, Nat.reduceEqDiff, Nat.reduceAdd, Nat.reduceMul, Nat.reduceLeDiff, Nat.reduceLT, Nat.reduceBNe, reduceCtorEq]
    refine vload _ (hle3 _ _ (hle2 _ _ (hle _ _ hR))) ?_
    try simp only [go_sem, ↓reduceIte, Nat.reduceEqDiff, Nat.reduceAdd, Nat.reduceMul, Nat.reduceLeDiff, Nat.reduceLT, Nat.reduceBNe, reduceCtorEq]
    refine ⟨_, W.in64 (by omega), _, W.in64 (by omega), ?_⟩
    have hm1 := cMonth c hv sm sr (.slice a c.starts.length cap) R3 hcal Y (by unfold I64; omega) 0 (by omega)
    refine vcall hm1 ?_
    rintro R4 v hle4 rfl
    try simp only [go_sem, ↓reduceIte, Nat.reduceEqDiff, Nat.reduceAdd, Nat.reduceMul, Nat.reduceLeDiff, Nat.reduceLT, Nat.reduceBNe, reduceCtorEq]
    refine vcLoop Nat (fun m => [(13, .val (.int .i64 (c.mlen Y m))), (12, .loc 2 0), (2, .loc 0 0), (4, .loc 1 0)])
      (fun m => [.box [.val (.int .i64 c.epoch), .val sm, .val (.int .i64 c.leap), .val sr, .val (.slice a c.starts.length cap)], .box [.val (.int .i64 0), .val (.int .i64 0), .val (.int .i64 0)],
        .box [.val (.int .i64 Y), .val (.int .i64 (m + 1 : Int)), .val (.int .i64 (day - c.beg Y m + 1))]])
      (fun m _ => m < c.months.length ∧ c.beg Y m ≤ day) (fun m => c.months.length - m) 0 ?_ rfl ?_ ?_
    · (try simp only [go_sem, ↓reduceIte, Nat.reduceEqDiff, Nat.reduceAdd, Nat.reduceMul, Nat.reduceLeDiff, Nat.reduceLT, Nat.reduceBNe, reduceCtorEq]) <;> (repeat' (first | rfl | trivial | constructor | (intro h; exact absurd rfl h)))
      have : c.beg Y 0 = c.first Y := by simp [Cal.beg, sumTo]
      rw [this]
      first
        | (congr 2; omega)
        | (refine ⟨?_, rfl⟩; congr 2; omega)
        | (refine ⟨rfl, ?_⟩; congr 2; omega)
    · have : c.beg Y 0 = c.first Y := by simp [Cal.beg, sumTo]
      exact ⟨by omega, by omega⟩
    · rintro m env R5 hle5 hE ⟨hm, hb⟩
      (simp only [go_sem] at hE; obtain ⟨e13, e12, e2, e4⟩ := hE; simp only [go_sem, ↓reduceIte, Nat.reduceEqDiff, Nat.reduceAdd, Nat.reduceMul, Nat.reduceLeDiff, Nat.reduceLT, Nat.reduceBNe, reduceCtorEq, e13, e12, e2, e4]; dsimp only at *)
      have hfY := hv.first_bd (y := Y) (by omega) (by omega)
      have hb1 : c.beg Y (m + 1) = c.beg Y m + c.mlen Y m := by simp only [Cal.beg, sumTo]; omega
      have hmb := hv.mlen_bd Y hm
      have hbm : c.first Y ≤ c.beg Y m := by
        have := sumTo_bd (f := c.mlen Y) (a := 1) (b := 41) m (fun i hi => hv.mlen_bd Y (by omega))
        unfold Cal.beg; omega
      refine ⟨fun hlt => ?_, fun hge => ?_⟩
      · have hm2 : m + 1 < c.months.length := by
          rcases Nat.lt_or_ge (m + 1) c.months.length with h9 | h9
          · exact h9
          · exfalso
            have : m + 1 = c.months.length := by omega
            rw [this] at hb1
            omega
        refine ⟨_, W.in64 (by omega), _, W.in64 (by omega), ?_⟩
        refine vcall (cMonth c hv sm sr (.slice a c.starts.length cap) R5 ((hcal.mono hle4).mono hle5) Y (by unfold I64; omega) (m + 1) hm2) ?_
        rintro R6 v hle6 rfl
        simp only [go_sem, ↓reduceIte, Nat.reduceEqDiff, Nat.reduceAdd, Nat.reduceMul, Nat.reduceLeDiff, Nat.reduceLT, Nat.reduceBNe, reduceCtorEq, e13, e12, e2, e4]
        refine ⟨m + 1, by omega, ⟨rfl, rfl, ?_⟩, hm2, by omega⟩
        congr 2
        omega
      · exact .inr ⟨by omega, Y, m, _, ⟨g2, g3, hm, by omega, by omega, by omega⟩, rfl⟩
end Go.Proofs.Ytpbnjoopgignoaa
