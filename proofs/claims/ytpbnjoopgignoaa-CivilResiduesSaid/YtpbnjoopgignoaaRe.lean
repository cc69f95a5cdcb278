/- Contracts of the reference's functions: small calendars, the comparison of calendars. -/
import Derived.Test.YtpbnjoopgignoaaRd
namespace Go.Proofs.Ytpbnjoopgignoaa
set_option linter.unusedSimpArgs false
set_option linter.unusedVariables false
open Go.RowKit Go.Proofs.Ytpbnjoopgignoaa.Vc

def everyL : List Int := [4, 3, 2, 6, 12, 1]
def madeRule (r : Rule) : Rule := (everyL.getD (r.1 % 6).toNat 1, r.2.1 % everyL.getD (r.1 % 6).toNat 1, r.2.2)
def madeM (m : Int) : Int := 1 + m % 6
def Cal.madeMonths (c : Cal) : List Int := if c.months = [] then [5, 3] else (c.months.take 4).map madeM
def Cal.madeLeap (c : Cal) : Int := c.leap % (c.madeMonths.length + 1) - 1
def Cal.madeRules (c : Cal) : List Rule := if 0 ≤ c.madeLeap then (c.rules.take 4).map madeRule else []
def Cal.made (c : Cal) : Cal := ⟨c.epoch % 200, c.madeMonths, c.madeLeap, c.madeRules⟩
theorem Cal.madeMonths_len (c : Cal) : 1 ≤ c.madeMonths.length ∧ c.madeMonths.length ≤ 4 := by
  unfold Cal.madeMonths
  split
  · decide
  · rename_i h
    have := List.length_pos_iff.2 h
    rw [List.length_map, List.length_take]; omega
theorem Cal.madeMonths_bd (c : Cal) : ∀ m ∈ c.madeMonths, 1 ≤ m ∧ m ≤ 6 := by
  unfold Cal.madeMonths
  split
  · decide
  · intro m hm
    obtain ⟨x, _, rfl⟩ := List.mem_map.1 hm
    unfold madeM; omega
theorem Cal.madeLeap_bd (c : Cal) : -1 ≤ c.madeLeap ∧ c.madeLeap < c.madeMonths.length := by
  have h1 := Int.emod_nonneg c.leap (show (c.madeMonths.length : Int) + 1 ≠ 0 by omega)
  have h2 := Int.emod_lt_of_pos c.leap (show (0 : Int) < (c.madeMonths.length : Int) + 1 by omega)
  unfold Cal.madeLeap; omega
theorem everyL_mem (i : Nat) : everyL.getD i 1 ∈ everyL := by
  rcases Nat.lt_or_ge i 6 with h | h
  · have : everyL[i]? = some (everyL[i]'(by simp [everyL]; omega)) := List.getElem?_eq_getElem _
    rw [List.getD_eq_getElem?_getD, this, Option.getD_some]
    exact List.getElem_mem _
  · rw [List.getD_eq_getElem?_getD, List.getElem?_eq_none (by simp [everyL]; omega)]
    decide
theorem everyL_dvd : ∀ e ∈ everyL, 1 ≤ e ∧ e ≤ 12 ∧ e ∣ 12 := by decide
theorem madeRule_ok (r : Rule) : okRule (madeRule r) ∧ (madeRule r).1 ∣ 12 := by
  obtain ⟨h1, h2, h3⟩ := everyL_dvd _ (everyL_mem (r.1 % 6).toNat)
  exact ⟨⟨h1, by show everyL.getD _ 1 ≤ 400; omega, Int.emod_nonneg _ (show everyL.getD (r.1 % 6).toNat 1 ≠ 0 by omega), Int.emod_lt_of_pos _ (show 0 < everyL.getD (r.1 % 6).toNat 1 by omega)⟩, h3⟩
theorem Cal.madeRules_ok (c : Cal) : c.madeRules.length ≤ 4 ∧ ∀ r ∈ c.madeRules, okRule r ∧ r.1 ∣ 12 := by
  unfold Cal.madeRules
  split
  · refine ⟨by rw [List.length_map, List.length_take]; omega, fun r hr => ?_⟩
    obtain ⟨x, _, rfl⟩ := List.mem_map.1 hr
    exact madeRule_ok x
  · exact ⟨by simp, by simp⟩
theorem perFrom_dvd : ∀ (rs : List Rule) (y : Int), 1 ≤ y → y ∣ 12 → (∀ r ∈ rs, okRule r ∧ r.1 ∣ 12) → ∃ p, perFrom y rs = some p ∧ p ∣ 12
  | [], y, _, h, _ => ⟨y, rfl, h⟩
  | r :: rs, y, h1, h, hr => by
    obtain ⟨g1, g2⟩ := hr r (by simp)
    have hl : ((Int.lcm y r.1 : Nat) : Int) ∣ 12 := by
      have := Int.lcm_dvd h g2
      first | exact this | exact Int.natCast_dvd_natCast.2 this
    have hle := Int.le_of_dvd (show (0 : Int) < 12 by decide) hl
    simp only [perFrom, if_pos g1]
    rw [if_pos (by omega)]
    exact perFrom_dvd rs _ (lcm_pos h1 g1.1) hl (fun r hr' => hr r (by simp [hr']))
theorem Cal.made_valid (c : Cal) : c.made.valid := by
  have hl := c.madeLeap_bd
  have hm := c.madeMonths_len
  have hr := c.madeRules_ok
  obtain ⟨p, hp, _⟩ := perFrom_dvd c.madeRules 1 (by decide) (by decide) hr.2
  refine ⟨⟨Int.emod_nonneg c.epoch (show (200 : Int) ≠ 0 by decide), by show c.epoch % 200 ≤ 1048576; omega⟩, ⟨hm.1, by show c.madeMonths.length ≤ _; omega⟩, hl, by show c.madeRules.length ≤ _; omega, fun h => ?_, fun m hm => ?_, ?_⟩
  · show c.madeRules = []
    have h' : c.madeLeap = -1 := h
    unfold Cal.madeRules
    rw [if_neg (by omega)]
  · have := c.madeMonths_bd m hm; omega
  · show (perFrom 1 c.madeRules).isSome = true
    rw [hp]; rfl
theorem Cal.made_per (c : Cal) : c.made.per ∣ 12 := by
  obtain ⟨p, hp, h⟩ := perFrom_dvd c.madeRules 1 (by decide) (by decide) c.madeRules_ok.2
  have : c.made.per = p := by show (perFrom 1 c.madeRules).getD 1 = p; rw [hp]; rfl
  rw [this]; exact h
def MadeP (c : Cal) (R : RO) (v : Value) : Prop := ∃ sm sr, v = cv c.made sm sr ∧ CalIn R c.made sm sr
theorem made_in (c : Cal) {R : RO} {sm sr : Value} (hm : MonthsIn R sm c.madeMonths) (hr : RulesIn R sr c.madeRules) : CalIn R c.made sm sr := by
  have h1 := c.madeLeap_bd
  have h2 := c.madeMonths_len
  have h3 := Int.emod_nonneg c.epoch (show (200 : Int) ≠ 0 by decide)
  have h4 := Int.emod_lt_of_pos c.epoch (show (0 : Int) < 200 by decide)
  exact ⟨hm, hr, by show I64 (c.epoch % 200); unfold I64; omega, by show I64 c.madeLeap; unfold I64; omega⟩
theorem rMade (c : Cal) (sm sr : Value) (R : RO) (h : CalIn R c sm sr) : CallsR Try.prog 20 [cv c sm sr] R fun R' v => MadeP c R' v := by
  have h0 := h
  obtain ⟨am, cm, rfl, hcm, hfm⟩ := h.m.form
  obtain ⟨ar, cr, rfl, hcr, hfr⟩ := h.r.form
  have hnm := h.m.n
  have hnr := h.r.n
  have hie := h.e
  have hil := h.l
  have hep := Int.emod_nonneg c.epoch (show (200 : Int) ≠ 0 by decide)
  have hep2 := Int.emod_lt_of_pos c.epoch (show (0 : Int) < 200 by decide)
  have hml := c.madeMonths_len
  refine callsT mix Try.func20 comp20 (by simp [Try.ntmps20]) ?_; simp only [go_sem, ↓reduceIte, Nat.reduceEqDiff, Nat.reduceAdd, Nat.reduceMul, Nat.reduceLeDiff, Nat.reduceLT, Nat.reduceBNe, reduceCtorEq, vc20, rs20]
  refine vcall (rMod c.epoch 200 (by decide) (by decide) hie R) ?_
  rintro R1 v hle rfl
  try simp only [go_sem, ↓reduceIte, Nat.reduceEqDiff, Nat.reduceAdd, Nat.reduceMul, Nat.reduceLeDiff, Nat.reduceLT, Nat.reduceBNe, reduceCtorEq]
  refine vcLoopR Nat (fun i => [(4, .val (.int .i64 i)), (1, .loc 0 0), (2, .loc 1 0), (3, .loc 2 0)])
    (fun i => [.box [.val (.int .i64 c.epoch), .val (.slice am c.months.length cm), .val (.int .i64 c.leap), .val (.slice ar c.rules.length cr)],
      .box [.val (.int .i64 0), .val (.slice none 0 0), .val (.int .i64 0), .val (.slice none 0 0)],
      .box [.val (.int .i64 (c.epoch % 200)), gs 3 i, .val (.int .i64 0), .val (.slice none 0 0)], gb 3 1 (((c.months.take i).map madeM).map (.int .i64))])
    (fun i _ => i ≤ 4 ∧ i ≤ c.months.length) (fun i => 4 - i) 0 [] ?_ ?_ ?_ ?_
  · (try simp only [go_sem, ↓reduceIte, Nat.reduceEqDiff, Nat.reduceAdd, Nat.reduceMul, Nat.reduceLeDiff, Nat.reduceLT, Nat.reduceBNe, reduceCtorEq]) <;> (repeat' (first | rfl | trivial | constructor | (intro h; exact absurd rfl h)))
  · try simp only [go_sem, ↓reduceIte, Nat.reduceEqDiff, Nat.reduceAdd, Nat.reduceMul, Nat.reduceLeDiff, Nat.reduceLT, Nat.reduceBNe, reduceCtorEq]
  · omega
  · rintro i env R2 hle2 hE ⟨hi, hi2⟩
    (simp only [go_sem] at hE; obtain ⟨e4, e1, e2, e3⟩ := hE; simp only [go_sem, ↓reduceIte, Nat.reduceEqDiff, Nat.reduceAdd, Nat.reduceMul, Nat.reduceLeDiff, Nat.reduceLT, Nat.reduceBNe, reduceCtorEq, e4, e1, e2, e3]; dsimp only at *)
    refine ⟨fun hlt => ⟨fun h4 => ⟨hlt, ?_⟩, fun h4 => ?_⟩, fun hlt => ?_⟩
    · have hlt' : i < c.months.length := by omega
      obtain ⟨ad, had, hR⟩ := hfm i hlt'
      refine vat ad had ?_
      try simp only [go_sem, ↓reduceIte, Nat.reduceEqDiff, Nat.reduceAdd, Nat.reduceMul, Nat.reduceLeDiff, Nat.reduceLT, Nat.reduceBNe, reduceCtorEq]
      refine vload _ (hle2 _ _ (hle _ _ hR)) ?_
      simp only [go_sem, ↓reduceIte, Nat.reduceEqDiff, Nat.reduceAdd, Nat.reduceMul, Nat.reduceLeDiff, Nat.reduceLT, Nat.reduceBNe, reduceCtorEq, e4, e1, e2, e3]
      refine vcall (rMod _ 6 (by decide) (by decide) (h0.m.bd _ (List.getElem_mem hlt')) R2) ?_
      rintro R3 v hle3 rfl
      simp only [go_sem, ↓reduceIte, Nat.reduceEqDiff, Nat.reduceAdd, Nat.reduceMul, Nat.reduceLeDiff, Nat.reduceLT, Nat.reduceBNe, reduceCtorEq, e4, e1, e2, e3]
      have hm1 := Int.emod_nonneg c.months[i] (show (6 : Int) ≠ 0 by decide)
      have hm2 := Int.emod_lt_of_pos c.months[i] (show (0 : Int) < 6 by decide)
      refine ⟨_, W.in64 (by omega), vgrow (((c.months.take i).map madeM).map (.int .i64)) (fun h => by simp [gb_ne h]) (fun h => set_dead_gb (congrArg some (by rw [h]; rfl))) (by simp; omega) (by decide) (by decide) (by omega) ?_⟩
      simp only [go_sem, ↓reduceIte, Nat.reduceEqDiff, Nat.reduceAdd, Nat.reduceMul, Nat.reduceLeDiff, Nat.reduceLT, Nat.reduceBNe, reduceCtorEq, e4, e1, e2, e3]
      refine ⟨_, W.in64 (by omega), i + 1, [0, 1, 2, 5], by omega, ?_⟩
      try simp only [go_sem, ↓reduceIte, Nat.reduceEqDiff, Nat.reduceAdd, Nat.reduceMul, Nat.reduceLeDiff, Nat.reduceLT, Nat.reduceBNe, reduceCtorEq]
      refine ⟨⟨rfl, fun _ => ?_⟩, rfl, by omega, by omega⟩
      rw [List.take_succ_eq_append_getElem hlt', List.map_append, List.map_append]
      rfl
    ·
      refine ⟨fun hz => ?_, fun hz => ?_⟩
      · have hi0 : i = 0 := by omega
        have hmm : c.madeMonths = [5, 3] := by unfold Cal.madeMonths; rw [if_pos (List.eq_nil_of_length_eq_zero (by omega))]
        have hE2 : c.madeLeap = c.leap % 3 - 1 := by unfold Cal.madeLeap; rw [hmm]; rfl
        have hlb := c.madeLeap_bd
        refine ⟨_, W.in64 (by decide), ?_⟩
        refine vcall (rMod c.leap 3 (by decide) (by decide) hil R2) ?_
        rintro R3 v hle3 rfl
        simp only [go_sem, ↓reduceIte, Nat.reduceEqDiff, Nat.reduceAdd, Nat.reduceMul, Nat.reduceLeDiff, Nat.reduceLT, Nat.reduceBNe, reduceCtorEq, e1, e2, e3]
        refine ⟨_, W.in64 (by omega), ?_⟩
        rw [← hE2]
        refine vcLoopR Nat (fun i => [(6, .val (.int .i64 i)), (5, .sl 4 6), (1, .loc 0 0), (2, .loc 1 0), (3, .loc 2 0)])
          (fun i => [.box [.val (.int .i64 c.epoch), .val (.slice am c.months.length cm), .val (.int .i64 c.leap), .val (.slice ar c.rules.length cr)],
            .box [.val (.int .i64 0), .val (.slice none 0 0), .val (.int .i64 0), .val (.slice none 0 0)],
            .box [.val (.int .i64 (c.epoch % 200)), .sl 3 c.madeMonths.length, .val (.int .i64 c.madeLeap), gs 5 i], .row 3 1 (c.madeMonths.map (.int .i64)), .row 3 1 (everyL.map (.int .i64)), gb 61 3 ((c.rules.take i).map fun r => rcells (madeRule r)).flatten])
          (fun i _ => i ≤ 4 ∧ i ≤ c.rules.length ∧ (0 < i → 0 ≤ c.madeLeap)) (fun i => 4 - i) 0 [0, 1, 2, 4, 5, 6] ?_ ?_ ?_ ?_
        · simp only [go_sem, ↓reduceIte, Nat.reduceEqDiff, Nat.reduceAdd, Nat.reduceMul, Nat.reduceLeDiff, Nat.reduceLT, Nat.reduceBNe, reduceCtorEq, e1, e2, e3]
          exact ⟨rfl, by rw [hmm]; rfl, by rw [hmm]; rfl, rfl, fun h => h rfl⟩
        · try simp only [go_sem, ↓reduceIte, Nat.reduceEqDiff, Nat.reduceAdd, Nat.reduceMul, Nat.reduceLeDiff, Nat.reduceLT, Nat.reduceBNe, reduceCtorEq]
          try rfl
        · omega
        · rintro i2 env2 R4 hle4 hE ⟨hj, hj2, hj3⟩
          (simp only [go_sem] at hE; obtain ⟨f6, f5, f1, f2, f3⟩ := hE; simp only [go_sem, ↓reduceIte, Nat.reduceEqDiff, Nat.reduceAdd, Nat.reduceMul, Nat.reduceLeDiff, Nat.reduceLT, Nat.reduceBNe, reduceCtorEq, f6, f5, f1, f2, f3]; dsimp only at *)
          refine ⟨fun hlt => ⟨fun h4 => ⟨fun h5 => ⟨hlt, ?_⟩, fun h5 => ?_⟩, fun h4 => ?_⟩, fun hlt => ?_⟩
          · have hlt' : i2 < c.rules.length := by omega
            obtain ⟨ad, had, hR⟩ := hfr i2 hlt'
            have hbd := h0.r.bd c.rules[i2] (List.getElem_mem hlt')
            have htk : (c.rules.take (i2 + 1)) = c.rules.take i2 ++ [c.rules[i2]] := List.take_succ_eq_append_getElem hlt'
            generalize hr : c.rules[i2] = r at *
            obtain ⟨ev, rest, yes⟩ := r
            dsimp only at hbd
            have hm1 := Int.emod_nonneg ev (show (6 : Int) ≠ 0 by decide)
            have hm2 := Int.emod_lt_of_pos ev (show (0 : Int) < 6 by decide)
            have hin := everyL_mem (ev % 6).toNat
            have hdv := everyL_dvd _ hin
            have hget : (everyL.map (Value.int .i64))[(ev % 6).toNat]? = some (.int .i64 (everyL.getD (ev % 6).toNat 1)) := by
              have hi6 : (ev % 6).toNat < everyL.length := by simp [everyL]; omega
              rw [List.getElem?_map, List.getD_eq_getElem?_getD, List.getElem?_eq_getElem hi6]; rfl
            refine vat ad had ?_
            try simp only [go_sem, ↓reduceIte, Nat.reduceEqDiff, Nat.reduceAdd, Nat.reduceMul, Nat.reduceLeDiff, Nat.reduceLT, Nat.reduceBNe, reduceCtorEq]
            refine vloadn [.int .i64 ev, .int .i64 rest, .bool yes] rfl (fun j v hj => by have := hR j v hj; exact hle4 _ _ (hle3 _ _ (hle2 _ _ (hle _ _ this)))) ?_
            simp only [go_sem, ↓reduceIte, Nat.reduceEqDiff, Nat.reduceAdd, Nat.reduceMul, Nat.reduceLeDiff, Nat.reduceLT, Nat.reduceBNe, reduceCtorEq, f6, f5, f1, f2, f3]
            refine vcall (rMod ev 6 (by decide) (by decide) hbd.1 R4) ?_
            rintro R5 v hle5 rfl
            simp only [go_sem, ↓reduceIte, Nat.reduceEqDiff, Nat.reduceAdd, Nat.reduceMul, Nat.reduceLeDiff, Nat.reduceLT, Nat.reduceBNe, reduceCtorEq, f6, f5, f1, f2, f3]
            refine ⟨hm1, hm2, _, hget, ?_⟩
            refine vcall (rMod rest _ hdv.1 (by unfold I64; omega) hbd.2 R5) ?_
            rintro R6 v hle6 rfl
            simp only [go_sem, ↓reduceIte, Nat.reduceEqDiff, Nat.reduceAdd, Nat.reduceMul, Nat.reduceLeDiff, Nat.reduceLT, Nat.reduceBNe, reduceCtorEq, f6, f5, f1, f2, f3]
            refine vgrow ((c.rules.take i2).map fun r => rcells (madeRule r)).flatten (fun h => by simp [gb_ne h]) (fun h => set_dead_gb (congrArg some (by rw [h]; rfl))) ?_ (by decide) (by decide) (by omega) ?_
            · rw [length_flattenK (k := 3) (by intro us hus; obtain ⟨r, _, rfl⟩ := List.mem_map.1 hus; rfl)]
              simp; omega
            simp only [go_sem, ↓reduceIte, Nat.reduceEqDiff, Nat.reduceAdd, Nat.reduceMul, Nat.reduceLeDiff, Nat.reduceLT, Nat.reduceBNe, reduceCtorEq, f6, f5, f1, f2, f3]
            refine ⟨_, W.in64 (by omega), i2 + 1, [0, 1, 2, 3, 4, 8], by omega, ?_⟩
            try simp only [go_sem, ↓reduceIte, Nat.reduceEqDiff, Nat.reduceAdd, Nat.reduceMul, Nat.reduceLeDiff, Nat.reduceLT, Nat.reduceBNe, reduceCtorEq]
            refine ⟨⟨rfl, fun _ => ?_⟩, rfl, by omega, by omega, fun _ => h5⟩
            rw [htk, List.map_append, List.flatten_append]
            rfl
          · have hrules : (c.rules.take i2).map madeRule = c.madeRules := by
              unfold Cal.madeRules
              rw [if_neg h5, show i2 = 0 by omega]; rfl
            rintro b cap R6 hle6 hr6 hc6 -
            have hmr := MonthsIn.row (ms := c.madeMonths) hr6 (by simpa using hc6) (fun m hm => by have := c.madeMonths_bd m hm; unfold I64; omega) (by omega)
            rcases Nat.eq_zero_or_pos i2 with hz2 | hz2
            · have hgs : gs 5 i2 = .val (.slice none 0 0) := by rw [hz2]; rfl
              have hnil : c.madeRules = [] := by rw [← hrules, hz2]; rfl
              rw [hgs]
              try simp only [go_sem, ↓reduceIte, Nat.reduceEqDiff, Nat.reduceAdd, Nat.reduceMul, Nat.reduceLeDiff, Nat.reduceLT, Nat.reduceBNe, reduceCtorEq, f1, f2, f3]
              exact ⟨_, _, rfl, made_in c hmr (by rw [hnil]; exact RulesIn.nil _)⟩
            · have hlr : c.madeRules.length = i2 := by rw [← hrules]; simp; omega
              have hgs : gs 5 i2 = .sl 5 c.madeRules.length := by rw [hlr]; exact gs_pos (by omega)
              have hgb : gb 61 3 ((c.rules.take i2).map fun r => rcells (madeRule r)).flatten = .row 61 3 (c.madeRules.map rcells).flatten := by
                have hfl : ((c.rules.take i2).map fun r => rcells (madeRule r)).flatten = (c.madeRules.map rcells).flatten := by rw [← hrules, List.map_map]; rfl
                rw [hfl]
                refine gb_ne (fun h => ?_)
                have := congrArg List.length h
                rw [length_flattenK (k := 3) (by intro us hus; obtain ⟨r, _, rfl⟩ := List.mem_map.1 hus; rfl), List.length_map, hlr] at this
                simp at this; omega
              rw [hgs, hgb]
              try simp only [go_sem, ↓reduceIte, Nat.reduceEqDiff, Nat.reduceAdd, Nat.reduceMul, Nat.reduceLeDiff, Nat.reduceLT, Nat.reduceBNe, reduceCtorEq, f1, f2, f3]
              rintro b2 cap2 R7 hle7 hr7 hc7 -
              try simp only [go_sem, ↓reduceIte, Nat.reduceEqDiff, Nat.reduceAdd, Nat.reduceMul, Nat.reduceLeDiff, Nat.reduceLT, Nat.reduceBNe, reduceCtorEq, f1, f2, f3]
              exact ⟨_, _, rfl, made_in c (hmr.mono hle7) (RulesIn.row (rs := c.madeRules) hr7 hc7 (fun r hr => by have := (c.madeRules_ok.2 r hr).1; unfold okRule at this; unfold I64; omega) (by have := c.madeRules_ok.1; omega))⟩
          · have hrules : (c.rules.take i2).map madeRule = c.madeRules := by
              unfold Cal.madeRules
              rw [show i2 = 4 by omega]; split; rfl; exfalso; omega
            rintro b cap R6 hle6 hr6 hc6 -
            have hmr := MonthsIn.row (ms := c.madeMonths) hr6 (by simpa using hc6) (fun m hm => by have := c.madeMonths_bd m hm; unfold I64; omega) (by omega)
            rcases Nat.eq_zero_or_pos i2 with hz2 | hz2
            · have hgs : gs 5 i2 = .val (.slice none 0 0) := by rw [hz2]; rfl
              have hnil : c.madeRules = [] := by rw [← hrules, hz2]; rfl
              rw [hgs]
              try simp only [go_sem, ↓reduceIte, Nat.reduceEqDiff, Nat.reduceAdd, Nat.reduceMul, Nat.reduceLeDiff, Nat.reduceLT, Nat.reduceBNe, reduceCtorEq, f1, f2, f3]
              exact ⟨_, _, rfl, made_in c hmr (by rw [hnil]; exact RulesIn.nil _)⟩
            · have hlr : c.madeRules.length = i2 := by rw [← hrules]; simp; omega
              have hgs : gs 5 i2 = .sl 5 c.madeRules.length := by rw [hlr]; exact gs_pos (by omega)
              have hgb : gb 61 3 ((c.rules.take i2).map fun r => rcells (madeRule r)).flatten = .row 61 3 (c.madeRules.map rcells).flatten := by
                have hfl : ((c.rules.take i2).map fun r => rcells (madeRule r)).flatten = (c.madeRules.map rcells).flatten := by rw [← hrules, List.map_map]; rfl
                rw [hfl]
                refine gb_ne (fun h => ?_)
                have := congrArg List.length h
                rw [length_flattenK (k := 3) (by intro us hus; obtain ⟨r, _, rfl⟩ := List.mem_map.1 hus; rfl), List.length_map, hlr] at this
                simp at this; omega
              rw [hgs, hgb]
              try simp only [go_sem, ↓reduceIte, Nat.reduceEqDiff, Nat.reduceAdd, Nat.reduceMul, Nat.reduceLeDiff, Nat.reduceLT, Nat.reduceBNe, reduceCtorEq, f1, f2, f3]
              rintro b2 cap2 R7 hle7 hr7 hc7 -
              try simp only [go_sem, ↓reduceIte, Nat.reduceEqDiff, Nat.reduceAdd, Nat.reduceMul, Nat.reduceLeDiff, Nat.reduceLT, Nat.reduceBNe, reduceCtorEq, f1, f2, f3]
              exact ⟨_, _, rfl, made_in c (hmr.mono hle7) (RulesIn.row (rs := c.madeRules) hr7 hc7 (fun r hr => by have := (c.madeRules_ok.2 r hr).1; unfold okRule at this; unfold I64; omega) (by have := c.madeRules_ok.1; omega))⟩
          · have hrules : (c.rules.take i2).map madeRule = c.madeRules := by
              unfold Cal.madeRules
              rw [List.take_of_length_le (by omega)]; split; (rw [List.take_of_length_le (by omega)]); (have : c.rules = [] := List.eq_nil_of_length_eq_zero (by omega)); rw [this]; rfl
            rintro b cap R6 hle6 hr6 hc6 -
            have hmr := MonthsIn.row (ms := c.madeMonths) hr6 (by simpa using hc6) (fun m hm => by have := c.madeMonths_bd m hm; unfold I64; omega) (by omega)
            rcases Nat.eq_zero_or_pos i2 with hz2 | hz2
            · have hgs : gs 5 i2 = .val (.slice none 0 0) := by rw [hz2]; rfl
              have hnil : c.madeRules = [] := by rw [← hrules, hz2]; rfl
              rw [hgs]
              try simp only [go_sem, ↓reduceIte, Nat.reduceEqDiff, Nat.reduceAdd, Nat.reduceMul, Nat.reduceLeDiff, Nat.reduceLT, Nat.reduceBNe, reduceCtorEq, f1, f2, f3]
              exact ⟨_, _, rfl, made_in c hmr (by rw [hnil]; exact RulesIn.nil _)⟩
            · have hlr : c.madeRules.length = i2 := by rw [← hrules]; simp; omega
              have hgs : gs 5 i2 = .sl 5 c.madeRules.length := by rw [hlr]; exact gs_pos (by omega)
              have hgb : gb 61 3 ((c.rules.take i2).map fun r => rcells (madeRule r)).flatten = .row 61 3 (c.madeRules.map rcells).flatten := by
                have hfl : ((c.rules.take i2).map fun r => rcells (madeRule r)).flatten = (c.madeRules.map rcells).flatten := by rw [← hrules, List.map_map]; rfl
                rw [hfl]
                refine gb_ne (fun h => ?_)
                have := congrArg List.length h
                rw [length_flattenK (k := 3) (by intro us hus; obtain ⟨r, _, rfl⟩ := List.mem_map.1 hus; rfl), List.length_map, hlr] at this
                simp at this; omega
              rw [hgs, hgb]
              try simp only [go_sem, ↓reduceIte, Nat.reduceEqDiff, Nat.reduceAdd, Nat.reduceMul, Nat.reduceLeDiff, Nat.reduceLT, Nat.reduceBNe, reduceCtorEq, f1, f2, f3]
              rintro b2 cap2 R7 hle7 hr7 hc7 -
              try simp only [go_sem, ↓reduceIte, Nat.reduceEqDiff, Nat.reduceAdd, Nat.reduceMul, Nat.reduceLeDiff, Nat.reduceLT, Nat.reduceBNe, reduceCtorEq, f1, f2, f3]
              exact ⟨_, _, rfl, made_in c (hmr.mono hle7) (RulesIn.row (rs := c.madeRules) hr7 hc7 (fun r hr => by have := (c.madeRules_ok.2 r hr).1; unfold okRule at this; unfold I64; omega) (by have := c.madeRules_ok.1; omega))⟩
      · have hi0 : i = c.madeMonths.length := by unfold Cal.madeMonths; rw [if_neg (fun h => by rw [h] at hi2; simp at hi2; omega)]; simp; omega
        have hMM : (c.months.take i).map madeM = c.madeMonths := by
          unfold Cal.madeMonths; rw [if_neg (fun h => by rw [h] at hi2; simp at hi2; omega)]
          congr 1
          first | (rw [show i = 4 by omega]) | (rw [List.take_of_length_le (by omega), List.take_of_length_le (by omega)])
        have hE2 : c.madeLeap = c.leap % (i + 1) - 1 := by unfold Cal.madeLeap; rw [hi0]
        have hlb := c.madeLeap_bd
        refine ⟨_, W.in64 (by omega), ?_⟩
        refine vcall (rMod c.leap (i + 1) (by omega) (by unfold I64; omega) hil R2) ?_
        rintro R3 v hle3 rfl
        simp only [go_sem, ↓reduceIte, Nat.reduceEqDiff, Nat.reduceAdd, Nat.reduceMul, Nat.reduceLeDiff, Nat.reduceLT, Nat.reduceBNe, reduceCtorEq, e1, e2, e3]
        refine ⟨_, W.in64 (by omega), ?_⟩
        rw [← hE2]
        refine vcLoopR Nat (fun i => [(6, .val (.int .i64 i)), (5, .sl 4 6), (1, .loc 0 0), (2, .loc 1 0), (3, .loc 2 0)])
          (fun i => [.box [.val (.int .i64 c.epoch), .val (.slice am c.months.length cm), .val (.int .i64 c.leap), .val (.slice ar c.rules.length cr)],
            .box [.val (.int .i64 0), .val (.slice none 0 0), .val (.int .i64 0), .val (.slice none 0 0)],
            .box [.val (.int .i64 (c.epoch % 200)), .sl 3 c.madeMonths.length, .val (.int .i64 c.madeLeap), gs 5 i], .row 3 1 (c.madeMonths.map (.int .i64)), .row 3 1 (everyL.map (.int .i64)), gb 61 3 ((c.rules.take i).map fun r => rcells (madeRule r)).flatten])
          (fun i _ => i ≤ 4 ∧ i ≤ c.rules.length ∧ (0 < i → 0 ≤ c.madeLeap)) (fun i => 4 - i) 0 [] ?_ ?_ ?_ ?_
        · simp only [go_sem, ↓reduceIte, Nat.reduceEqDiff, Nat.reduceAdd, Nat.reduceMul, Nat.reduceLeDiff, Nat.reduceLT, Nat.reduceBNe, reduceCtorEq, e1, e2, e3]
          exact ⟨rfl, by rw [← hi0]; exact gs_pos (by omega), by rw [hMM]; exact gb_ne (fun h => by have := congrArg List.length h; simp at this; rw [this] at hml; simp at hml), rfl, fun h => h rfl⟩
        · try simp only [go_sem, ↓reduceIte, Nat.reduceEqDiff, Nat.reduceAdd, Nat.reduceMul, Nat.reduceLeDiff, Nat.reduceLT, Nat.reduceBNe, reduceCtorEq]
          try rfl
        · omega
        · rintro i2 env2 R4 hle4 hE ⟨hj, hj2, hj3⟩
          (simp only [go_sem] at hE; obtain ⟨f6, f5, f1, f2, f3⟩ := hE; simp only [go_sem, ↓reduceIte, Nat.reduceEqDiff, Nat.reduceAdd, Nat.reduceMul, Nat.reduceLeDiff, Nat.reduceLT, Nat.reduceBNe, reduceCtorEq, f6, f5, f1, f2, f3]; dsimp only at *)
          refine ⟨fun hlt => ⟨fun h4 => ⟨fun h5 => ⟨hlt, ?_⟩, fun h5 => ?_⟩, fun h4 => ?_⟩, fun hlt => ?_⟩
          · have hlt' : i2 < c.rules.length := by omega
            obtain ⟨ad, had, hR⟩ := hfr i2 hlt'
            have hbd := h0.r.bd c.rules[i2] (List.getElem_mem hlt')
            have htk : (c.rules.take (i2 + 1)) = c.rules.take i2 ++ [c.rules[i2]] := List.take_succ_eq_append_getElem hlt'
            generalize hr : c.rules[i2] = r at *
            obtain ⟨ev, rest, yes⟩ := r
            dsimp only at hbd
            have hm1 := Int.emod_nonneg ev (show (6 : Int) ≠ 0 by decide)
            have hm2 := Int.emod_lt_of_pos ev (show (0 : Int) < 6 by decide)
            have hin := everyL_mem (ev % 6).toNat
            have hdv := everyL_dvd _ hin
            have hget : (everyL.map (Value.int .i64))[(ev % 6).toNat]? = some (.int .i64 (everyL.getD (ev % 6).toNat 1)) := by
              have hi6 : (ev % 6).toNat < everyL.length := by simp [everyL]; omega
              rw [List.getElem?_map, List.getD_eq_getElem?_getD, List.getElem?_eq_getElem hi6]; rfl
            refine vat ad had ?_
            try simp only [go_sem, ↓reduceIte, Nat.reduceEqDiff, Nat.reduceAdd, Nat.reduceMul, Nat.reduceLeDiff, Nat.reduceLT, Nat.reduceBNe, reduceCtorEq]
            refine vloadn [.int .i64 ev, .int .i64 rest, .bool yes] rfl (fun j v hj => by have := hR j v hj; exact hle4 _ _ (hle3 _ _ (hle2 _ _ (hle _ _ this)))) ?_
            simp only [go_sem, ↓reduceIte, Nat.reduceEqDiff, Nat.reduceAdd, Nat.reduceMul, Nat.reduceLeDiff, Nat.reduceLT, Nat.reduceBNe, reduceCtorEq, f6, f5, f1, f2, f3]
            refine vcall (rMod ev 6 (by decide) (by decide) hbd.1 R4) ?_
            rintro R5 v hle5 rfl
            simp only [go_sem, ↓reduceIte, Nat.reduceEqDiff, Nat.reduceAdd, Nat.reduceMul, Nat.reduceLeDiff, Nat.reduceLT, Nat.reduceBNe, reduceCtorEq, f6, f5, f1, f2, f3]
            refine ⟨hm1, hm2, _, hget, ?_⟩
            refine vcall (rMod rest _ hdv.1 (by unfold I64; omega) hbd.2 R5) ?_
            rintro R6 v hle6 rfl
            simp only [go_sem, ↓reduceIte, Nat.reduceEqDiff, Nat.reduceAdd, Nat.reduceMul, Nat.reduceLeDiff, Nat.reduceLT, Nat.reduceBNe, reduceCtorEq, f6, f5, f1, f2, f3]
            refine vgrow ((c.rules.take i2).map fun r => rcells (madeRule r)).flatten (fun h => by simp [gb_ne h]) (fun h => set_dead_gb (congrArg some (by rw [h]; rfl))) ?_ (by decide) (by decide) (by omega) ?_
            · rw [length_flattenK (k := 3) (by intro us hus; obtain ⟨r, _, rfl⟩ := List.mem_map.1 hus; rfl)]
              simp; omega
            simp only [go_sem, ↓reduceIte, Nat.reduceEqDiff, Nat.reduceAdd, Nat.reduceMul, Nat.reduceLeDiff, Nat.reduceLT, Nat.reduceBNe, reduceCtorEq, f6, f5, f1, f2, f3]
            refine ⟨_, W.in64 (by omega), i2 + 1, [0, 1, 2, 3, 4, 8], by omega, ?_⟩
            try simp only [go_sem, ↓reduceIte, Nat.reduceEqDiff, Nat.reduceAdd, Nat.reduceMul, Nat.reduceLeDiff, Nat.reduceLT, Nat.reduceBNe, reduceCtorEq]
            refine ⟨⟨rfl, fun _ => ?_⟩, rfl, by omega, by omega, fun _ => h5⟩
            rw [htk, List.map_append, List.flatten_append]
            rfl
          · have hrules : (c.rules.take i2).map madeRule = c.madeRules := by
              unfold Cal.madeRules
              rw [if_neg h5, show i2 = 0 by omega]; rfl
            rintro b cap R6 hle6 hr6 hc6 -
            have hmr := MonthsIn.row (ms := c.madeMonths) hr6 (by simpa using hc6) (fun m hm => by have := c.madeMonths_bd m hm; unfold I64; omega) (by omega)
            rcases Nat.eq_zero_or_pos i2 with hz2 | hz2
            · have hgs : gs 5 i2 = .val (.slice none 0 0) := by rw [hz2]; rfl
              have hnil : c.madeRules = [] := by rw [← hrules, hz2]; rfl
              rw [hgs]
              try simp only [go_sem, ↓reduceIte, Nat.reduceEqDiff, Nat.reduceAdd, Nat.reduceMul, Nat.reduceLeDiff, Nat.reduceLT, Nat.reduceBNe, reduceCtorEq, f1, f2, f3]
              exact ⟨_, _, rfl, made_in c hmr (by rw [hnil]; exact RulesIn.nil _)⟩
            · have hlr : c.madeRules.length = i2 := by rw [← hrules]; simp; omega
              have hgs : gs 5 i2 = .sl 5 c.madeRules.length := by rw [hlr]; exact gs_pos (by omega)
              have hgb : gb 61 3 ((c.rules.take i2).map fun r => rcells (madeRule r)).flatten = .row 61 3 (c.madeRules.map rcells).flatten := by
                have hfl : ((c.rules.take i2).map fun r => rcells (madeRule r)).flatten = (c.madeRules.map rcells).flatten := by rw [← hrules, List.map_map]; rfl
                rw [hfl]
                refine gb_ne (fun h => ?_)
                have := congrArg List.length h
                rw [length_flattenK (k := 3) (by intro us hus; obtain ⟨r, _, rfl⟩ := List.mem_map.1 hus; rfl), List.length_map, hlr] at this
                simp at this; omega
              rw [hgs, hgb]
              try simp only [go_sem, ↓reduceIte, Nat.reduceEqDiff, Nat.reduceAdd, Nat.reduceMul, Nat.reduceLeDiff, Nat.reduceLT, Nat.reduceBNe, reduceCtorEq, f1, f2, f3]
              rintro b2 cap2 R7 hle7 hr7 hc7 -
              try simp only [go_sem, ↓reduceIte, Nat.reduceEqDiff, Nat.reduceAdd, Nat.reduceMul, Nat.reduceLeDiff, Nat.reduceLT, Nat.reduceBNe, reduceCtorEq, f1, f2, f3]
              exact ⟨_, _, rfl, made_in c (hmr.mono hle7) (RulesIn.row (rs := c.madeRules) hr7 hc7 (fun r hr => by have := (c.madeRules_ok.2 r hr).1; unfold okRule at this; unfold I64; omega) (by have := c.madeRules_ok.1; omega))⟩
          · have hrules : (c.rules.take i2).map madeRule = c.madeRules := by
              unfold Cal.madeRules
              rw [show i2 = 4 by omega]; split; rfl; exfalso; omega
            rintro b cap R6 hle6 hr6 hc6 -
            have hmr := MonthsIn.row (ms := c.madeMonths) hr6 (by simpa using hc6) (fun m hm => by have := c.madeMonths_bd m hm; unfold I64; omega) (by omega)
            rcases Nat.eq_zero_or_pos i2 with hz2 | hz2
            · have hgs : gs 5 i2 = .val (.slice none 0 0) := by rw [hz2]; rfl
              have hnil : c.madeRules = [] := by rw [← hrules, hz2]; rfl
              rw [hgs]
              try simp only [go_sem, ↓reduceIte, Nat.reduceEqDiff, Nat.reduceAdd, Nat.reduceMul, Nat.reduceLeDiff, Nat.reduceLT, Nat.reduceBNe, reduceCtorEq, f1, f2, f3]
              exact ⟨_, _, rfl, made_in c hmr (by rw [hnil]; exact RulesIn.nil _)⟩
            · have hlr : c.madeRules.length = i2 := by rw [← hrules]; simp; omega
              have hgs : gs 5 i2 = .sl 5 c.madeRules.length := by rw [hlr]; exact gs_pos (by omega)
              have hgb : gb 61 3 ((c.rules.take i2).map fun r => rcells (madeRule r)).flatten = .row 61 3 (c.madeRules.map rcells).flatten := by
                have hfl : ((c.rules.take i2).map fun r => rcells (madeRule r)).flatten = (c.madeRules.map rcells).flatten := by rw [← hrules, List.map_map]; rfl
                rw [hfl]
                refine gb_ne (fun h => ?_)
                have := congrArg List.length h
                rw [length_flattenK (k := 3) (by intro us hus; obtain ⟨r, _, rfl⟩ := List.mem_map.1 hus; rfl), List.length_map, hlr] at this
                simp at this; omega
              rw [hgs, hgb]
              try simp only [go_sem, ↓reduceIte, Nat.reduceEqDiff, Nat.reduceAdd, Nat.reduceMul, Nat.reduceLeDiff, Nat.reduceLT, Nat.reduceBNe, reduceCtorEq, f1, f2, f3]
              rintro b2 cap2 R7 hle7 hr7 hc7 -
              try simp only [go_sem, ↓reduceIte, Nat.reduceEqDiff, Nat.reduceAdd, Nat.reduceMul, Nat.reduceLeDiff, Nat.reduceLT, Nat.reduceBNe, reduceCtorEq, f1, f2, f3]
              exact ⟨_, _, rfl, made_in c (hmr.mono hle7) (RulesIn.row (rs := c.madeRules) hr7 hc7 (fun r hr => by have := (c.madeRules_ok.2 r hr).1; unfold okRule at this; unfold I64; omega) (by have := c.madeRules_ok.1; omega))⟩
          · have hrules : (c.rules.take i2).map madeRule = c.madeRules := by
              unfold Cal.madeRules
              rw [List.take_of_length_le (by omega)]; split; (rw [List.take_of_length_le (by omega)]); (have : c.rules = [] := List.eq_nil_of_length_eq_zero (by omega)); rw [this]; rfl
            rintro b cap R6 hle6 hr6 hc6 -
            have hmr := MonthsIn.row (ms := c.madeMonths) hr6 (by simpa using hc6) (fun m hm => by have := c.madeMonths_bd m hm; unfold I64; omega) (by omega)
            rcases Nat.eq_zero_or_pos i2 with hz2 | hz2
            · have hgs : gs 5 i2 = .val (.slice none 0 0) := by rw [hz2]; rfl
              have hnil : c.madeRules = [] := by rw [← hrules, hz2]; rfl
              rw [hgs]
              try simp only [go_sem, ↓reduceIte, Nat.reduceEqDiff, Nat.reduceAdd, Nat.reduceMul, Nat.reduceLeDiff, Nat.reduceLT, Nat.reduceBNe, reduceCtorEq, f1, f2, f3]
              exact ⟨_, _, rfl, made_in c hmr (by rw [hnil]; exact RulesIn.nil _)⟩
            · have hlr : c.madeRules.length = i2 := by rw [← hrules]; simp; omega
              have hgs : gs 5 i2 = .sl 5 c.madeRules.length := by rw [hlr]; exact gs_pos (by omega)
              have hgb : gb 61 3 ((c.rules.take i2).map fun r => rcells (madeRule r)).flatten = .row 61 3 (c.madeRules.map rcells).flatten := by
                have hfl : ((c.rules.take i2).map fun r => rcells (madeRule r)).flatten = (c.madeRules.map rcells).flatten := by rw [← hrules, List.map_map]; rfl
                rw [hfl]
                refine gb_ne (fun h => ?_)
                have := congrArg List.length h
                rw [length_flattenK (k := 3) (by intro us hus; obtain ⟨r, _, rfl⟩ := List.mem_map.1 hus; rfl), List.length_map, hlr] at this
                simp at this; omega
              rw [hgs, hgb]
              try simp only [go_sem, ↓reduceIte, Nat.reduceEqDiff, Nat.reduceAdd, Nat.reduceMul, Nat.reduceLeDiff, Nat.reduceLT, Nat.reduceBNe, reduceCtorEq, f1, f2, f3]
              rintro b2 cap2 R7 hle7 hr7 hc7 -
              try simp only [go_sem, ↓reduceIte, Nat.reduceEqDiff, Nat.reduceAdd, Nat.reduceMul, Nat.reduceLeDiff, Nat.reduceLT, Nat.reduceBNe, reduceCtorEq, f1, f2, f3]
              exact ⟨_, _, rfl, made_in c (hmr.mono hle7) (RulesIn.row (rs := c.madeRules) hr7 hc7 (fun r hr => by have := (c.madeRules_ok.2 r hr).1; unfold okRule at this; unfold I64; omega) (by have := c.madeRules_ok.1; omega))⟩
    ·
      refine ⟨fun hz => ?_, fun hz => ?_⟩
      · have hi0 : i = 0 := by omega
        have hmm : c.madeMonths = [5, 3] := by unfold Cal.madeMonths; rw [if_pos (List.eq_nil_of_length_eq_zero (by omega))]
        have hE2 : c.madeLeap = c.leap % 3 - 1 := by unfold Cal.madeLeap; rw [hmm]; rfl
        have hlb := c.madeLeap_bd
        refine ⟨_, W.in64 (by decide), ?_⟩
        refine vcall (rMod c.leap 3 (by decide) (by decide) hil R2) ?_
        rintro R3 v hle3 rfl
        simp only [go_sem, ↓reduceIte, Nat.reduceEqDiff, Nat.reduceAdd, Nat.reduceMul, Nat.reduceLeDiff, Nat.reduceLT, Nat.reduceBNe, reduceCtorEq, e1, e2, e3]
        refine ⟨_, W.in64 (by omega), ?_⟩
        rw [← hE2]
        refine vcLoopR Nat (fun i => [(6, .val (.int .i64 i)), (5, .sl 4 6), (1, .loc 0 0), (2, .loc 1 0), (3, .loc 2 0)])
          (fun i => [.box [.val (.int .i64 c.epoch), .val (.slice am c.months.length cm), .val (.int .i64 c.leap), .val (.slice ar c.rules.length cr)],
            .box [.val (.int .i64 0), .val (.slice none 0 0), .val (.int .i64 0), .val (.slice none 0 0)],
            .box [.val (.int .i64 (c.epoch % 200)), .sl 3 c.madeMonths.length, .val (.int .i64 c.madeLeap), gs 5 i], .row 3 1 (c.madeMonths.map (.int .i64)), .row 3 1 (everyL.map (.int .i64)), gb 61 3 ((c.rules.take i).map fun r => rcells (madeRule r)).flatten])
          (fun i _ => i ≤ 4 ∧ i ≤ c.rules.length ∧ (0 < i → 0 ≤ c.madeLeap)) (fun i => 4 - i) 0 [0, 1, 2, 4, 5, 6] ?_ ?_ ?_ ?_
        · simp only [go_sem, ↓reduceIte, Nat.reduceEqDiff, Nat.reduceAdd, Nat.reduceMul, Nat.reduceLeDiff, Nat.reduceLT, Nat.reduceBNe, reduceCtorEq, e1, e2, e3]
          exact ⟨rfl, by rw [hmm]; rfl, by rw [hmm]; rfl, rfl, fun h => h rfl⟩
        · try simp only [go_sem, ↓reduceIte, Nat.reduceEqDiff, Nat.reduceAdd, Nat.reduceMul, Nat.reduceLeDiff, Nat.reduceLT, Nat.reduceBNe, reduceCtorEq]
          try rfl
        · omega
        · rintro i2 env2 R4 hle4 hE ⟨hj, hj2, hj3⟩
          (simp only [go_sem] at hE; obtain ⟨f6, f5, f1, f2, f3⟩ := hE; simp only [go_sem, ↓reduceIte, Nat.reduceEqDiff, Nat.reduceAdd, Nat.reduceMul, Nat.reduceLeDiff, Nat.reduceLT, Nat.reduceBNe, reduceCtorEq, f6, f5, f1, f2, f3]; dsimp only at *)
          refine ⟨fun hlt => ⟨fun h4 => ⟨fun h5 => ⟨hlt, ?_⟩, fun h5 => ?_⟩, fun h4 => ?_⟩, fun hlt => ?_⟩
          · have hlt' : i2 < c.rules.length := by omega
            obtain ⟨ad, had, hR⟩ := hfr i2 hlt'
            have hbd := h0.r.bd c.rules[i2] (List.getElem_mem hlt')
            have htk : (c.rules.take (i2 + 1)) = c.rules.take i2 ++ [c.rules[i2]] := List.take_succ_eq_append_getElem hlt'
            generalize hr : c.rules[i2] = r at *
            obtain ⟨ev, rest, yes⟩ := r
            dsimp only at hbd
            have hm1 := Int.emod_nonneg ev (show (6 : Int) ≠ 0 by decide)
            have hm2 := Int.emod_lt_of_pos ev (show (0 : Int) < 6 by decide)
            have hin := everyL_mem (ev % 6).toNat
            have hdv := everyL_dvd _ hin
            have hget : (everyL.map (Value.int .i64))[(ev % 6).toNat]? = some (.int .i64 (everyL.getD (ev % 6).toNat 1)) := by
              have hi6 : (ev % 6).toNat < everyL.length := by simp [everyL]; omega
              rw [List.getElem?_map, List.getD_eq_getElem?_getD, List.getElem?_eq_getElem hi6]; rfl
            refine vat ad had ?_
            try simp only [go_sem, ↓reduceIte, Nat.reduceEqDiff, Nat.reduceAdd, Nat.reduceMul, Nat.reduceLeDiff, Nat.reduceLT, Nat.reduceBNe, reduceCtorEq]
            refine vloadn [.int .i64 ev, .int .i64 rest, .bool yes] rfl (fun j v hj => by have := hR j v hj; exact hle4 _ _ (hle3 _ _ (hle2 _ _ (hle _ _ this)))) ?_
            simp only [go_sem, ↓reduceIte, Nat.reduceEqDiff, Nat.reduceAdd, Nat.reduceMul, Nat.reduceLeDiff, Nat.reduceLT, Nat.reduceBNe, reduceCtorEq, f6, f5, f1, f2, f3]
            refine vcall (rMod ev 6 (by decide) (by decide) hbd.1 R4) ?_
            rintro R5 v hle5 rfl
            simp only [go_sem, ↓reduceIte, Nat.reduceEqDiff, Nat.reduceAdd, Nat.reduceMul, Nat.reduceLeDiff, Nat.reduceLT, Nat.reduceBNe, reduceCtorEq, f6, f5, f1, f2, f3]
            refine ⟨hm1, hm2, _, hget, ?_⟩
            refine vcall (rMod rest _ hdv.1 (by unfold I64; omega) hbd.2 R5) ?_
            rintro R6 v hle6 rfl
            simp only [go_sem, ↓reduceIte, Nat.reduceEqDiff, Nat.reduceAdd, Nat.reduceMul, Nat.reduceLeDiff, Nat.reduceLT, Nat.reduceBNe, reduceCtorEq, f6, f5, f1, f2, f3]
            refine vgrow ((c.rules.take i2).map fun r => rcells (madeRule r)).flatten (fun h => by simp [gb_ne h]) (fun h => set_dead_gb (congrArg some (by rw [h]; rfl))) ?_ (by decide) (by decide) (by omega) ?_
            · rw [length_flattenK (k := 3) (by intro us hus; obtain ⟨r, _, rfl⟩ := List.mem_map.1 hus; rfl)]
              simp; omega
            simp only [go_sem, ↓reduceIte, Nat.reduceEqDiff, Nat.reduceAdd, Nat.reduceMul, Nat.reduceLeDiff, Nat.reduceLT, Nat.reduceBNe, reduceCtorEq, f6, f5, f1, f2, f3]
            refine ⟨_, W.in64 (by omega), i2 + 1, [0, 1, 2, 3, 4, 8], by omega, ?_⟩
            try simp only [go_sem, ↓reduceIte, Nat.reduceEqDiff, Nat.reduceAdd, Nat.reduceMul, Nat.reduceLeDiff, Nat.reduceLT, Nat.reduceBNe, reduceCtorEq]
            refine ⟨⟨rfl, fun _ => ?_⟩, rfl, by omega, by omega, fun _ => h5⟩
            rw [htk, List.map_append, List.flatten_append]
            rfl
          · have hrules : (c.rules.take i2).map madeRule = c.madeRules := by
              unfold Cal.madeRules
              rw [if_neg h5, show i2 = 0 by omega]; rfl
            rintro b cap R6 hle6 hr6 hc6 -
            have hmr := MonthsIn.row (ms := c.madeMonths) hr6 (by simpa using hc6) (fun m hm => by have := c.madeMonths_bd m hm; unfold I64; omega) (by omega)
            rcases Nat.eq_zero_or_pos i2 with hz2 | hz2
            · have hgs : gs 5 i2 = .val (.slice none 0 0) := by rw [hz2]; rfl
              have hnil : c.madeRules = [] := by rw [← hrules, hz2]; rfl
              rw [hgs]
              try simp only [go_sem, ↓reduceIte, Nat.reduceEqDiff, Nat.reduceAdd, Nat.reduceMul, Nat.reduceLeDiff, Nat.reduceLT, Nat.reduceBNe, reduceCtorEq, f1, f2, f3]
              exact ⟨_, _, rfl, made_in c hmr (by rw [hnil]; exact RulesIn.nil _)⟩
            · have hlr : c.madeRules.length = i2 := by rw [← hrules]; simp; omega
              have hgs : gs 5 i2 = .sl 5 c.madeRules.length := by rw [hlr]; exact gs_pos (by omega)
              have hgb : gb 61 3 ((c.rules.take i2).map fun r => rcells (madeRule r)).flatten = .row 61 3 (c.madeRules.map rcells).flatten := by
                have hfl : ((c.rules.take i2).map fun r => rcells (madeRule r)).flatten = (c.madeRules.map rcells).flatten := by rw [← hrules, List.map_map]; rfl
                rw [hfl]
                refine gb_ne (fun h => ?_)
                have := congrArg List.length h
                rw [length_flattenK (k := 3) (by intro us hus; obtain ⟨r, _, rfl⟩ := List.mem_map.1 hus; rfl), List.length_map, hlr] at this
                simp at this; omega
              rw [hgs, hgb]
              try simp only [go_sem, ↓reduceIte, Nat.reduceEqDiff, Nat.reduceAdd, Nat.reduceMul, Nat.reduceLeDiff, Nat.reduceLT, Nat.reduceBNe, reduceCtorEq, f1, f2, f3]
              rintro b2 cap2 R7 hle7 hr7 hc7 -
              try simp only [go_sem, ↓reduceIte, Nat.reduceEqDiff, Nat.reduceAdd, Nat.reduceMul, Nat.reduceLeDiff, Nat.reduceLT, Nat.reduceBNe, reduceCtorEq, f1, f2, f3]
              exact ⟨_, _, rfl, made_in c (hmr.mono hle7) (RulesIn.row (rs := c.madeRules) hr7 hc7 (fun r hr => by have := (c.madeRules_ok.2 r hr).1; unfold okRule at this; unfold I64; omega) (by have := c.madeRules_ok.1; omega))⟩
          · have hrules : (c.rules.take i2).map madeRule = c.madeRules := by
              unfold Cal.madeRules
              rw [show i2 = 4 by omega]; split; rfl; exfalso; omega
            rintro b cap R6 hle6 hr6 hc6 -
            have hmr := MonthsIn.row (ms := c.madeMonths) hr6 (by simpa using hc6) (fun m hm => by have := c.madeMonths_bd m hm; unfold I64; omega) (by omega)
            rcases Nat.eq_zero_or_pos i2 with hz2 | hz2
            · have hgs : gs 5 i2 = .val (.slice none 0 0) := by rw [hz2]; rfl
              have hnil : c.madeRules = [] := by rw [← hrules, hz2]; rfl
              rw [hgs]
              try simp only [go_sem, ↓reduceIte, Nat.reduceEqDiff, Nat.reduceAdd, Nat.reduceMul, Nat.reduceLeDiff, Nat.reduceLT, Nat.reduceBNe, reduceCtorEq, f1, f2, f3]
              exact ⟨_, _, rfl, made_in c hmr (by rw [hnil]; exact RulesIn.nil _)⟩
            · have hlr : c.madeRules.length = i2 := by rw [← hrules]; simp; omega
              have hgs : gs 5 i2 = .sl 5 c.madeRules.length := by rw [hlr]; exact gs_pos (by omega)
              have hgb : gb 61 3 ((c.rules.take i2).map fun r => rcells (madeRule r)).flatten = .row 61 3 (c.madeRules.map rcells).flatten := by
                have hfl : ((c.rules.take i2).map fun r => rcells (madeRule r)).flatten = (c.madeRules.map rcells).flatten := by rw [← hrules, List.map_map]; rfl
                rw [hfl]
                refine gb_ne (fun h => ?_)
                have := congrArg List.length h
                rw [length_flattenK (k := 3) (by intro us hus; obtain ⟨r, _, rfl⟩ := List.mem_map.1 hus; rfl), List.length_map, hlr] at this
                simp at this; omega
              rw [hgs, hgb]
              try simp only [go_sem, ↓reduceIte, Nat.reduceEqDiff, Nat.reduceAdd, Nat.reduceMul, Nat.reduceLeDiff, Nat.reduceLT, Nat.reduceBNe, reduceCtorEq, f1, f2, f3]
              rintro b2 cap2 R7 hle7 hr7 hc7 -
              try simp only [go_sem, ↓reduceIte, Nat.reduceEqDiff, Nat.reduceAdd, Nat.reduceMul, Nat.reduceLeDiff, Nat.reduceLT, Nat.reduceBNe, reduceCtorEq, f1, f2, f3]
              exact ⟨_, _, rfl, made_in c (hmr.mono hle7) (RulesIn.row (rs := c.madeRules) hr7 hc7 (fun r hr => by have := (c.madeRules_ok.2 r hr).1; unfold okRule at this; unfold I64; omega) (by have := c.madeRules_ok.1; omega))⟩
          · have hrules : (c.rules.take i2).map madeRule = c.madeRules := by
              unfold Cal.madeRules
              rw [List.take_of_length_le (by omega)]; split; (rw [List.take_of_length_le (by omega)]); (have : c.rules = [] := List.eq_nil_of_length_eq_zero (by omega)); rw [this]; rfl
            rintro b cap R6 hle6 hr6 hc6 -
            have hmr := MonthsIn.row (ms := c.madeMonths) hr6 (by simpa using hc6) (fun m hm => by have := c.madeMonths_bd m hm; unfold I64; omega) (by omega)
            rcases Nat.eq_zero_or_pos i2 with hz2 | hz2
            · have hgs : gs 5 i2 = .val (.slice none 0 0) := by rw [hz2]; rfl
              have hnil : c.madeRules = [] := by rw [← hrules, hz2]; rfl
              rw [hgs]
              try simp only [go_sem, ↓reduceIte, Nat.reduceEqDiff, Nat.reduceAdd, Nat.reduceMul, Nat.reduceLeDiff, Nat.reduceLT, Nat.reduceBNe, reduceCtorEq, f1, f2, f3]
              exact ⟨_, _, rfl, made_in c hmr (by rw [hnil]; exact RulesIn.nil _)⟩
            · have hlr : c.madeRules.length = i2 := by rw [← hrules]; simp; omega
              have hgs : gs 5 i2 = .sl 5 c.madeRules.length := by rw [hlr]; exact gs_pos (by omega)
              have hgb : gb 61 3 ((c.rules.take i2).map fun r => rcells (madeRule r)).flatten = .row 61 3 (c.madeRules.map rcells).flatten := by
                have hfl : ((c.rules.take i2).map fun r => rcells (madeRule r)).flatten = (c.madeRules.map rcells).flatten := by rw [← hrules, List.map_map]; rfl
                rw [hfl]
                refine gb_ne (fun h => ?_)
                have := congrArg List.length h
                rw [length_flattenK (k := 3) (by intro us hus; obtain ⟨r, _, rfl⟩ := List.mem_map.1 hus; rfl), List.length_map, hlr] at this
                simp at this; omega
              rw [hgs, hgb]
              try simp only [go_sem, ↓reduceIte, Nat.reduceEqDiff, Nat.reduceAdd, Nat.reduceMul, Nat.reduceLeDiff, Nat.reduceLT, Nat.reduceBNe, reduceCtorEq, f1, f2, f3]
              rintro b2 cap2 R7 hle7 hr7 hc7 -
              try simp only [go_sem, ↓reduceIte, Nat.reduceEqDiff, Nat.reduceAdd, Nat.reduceMul, Nat.reduceLeDiff, Nat.reduceLT, Nat.reduceBNe, reduceCtorEq, f1, f2, f3]
              exact ⟨_, _, rfl, made_in c (hmr.mono hle7) (RulesIn.row (rs := c.madeRules) hr7 hc7 (fun r hr => by have := (c.madeRules_ok.2 r hr).1; unfold okRule at this; unfold I64; omega) (by have := c.madeRules_ok.1; omega))⟩
      · have hi0 : i = c.madeMonths.length := by unfold Cal.madeMonths; rw [if_neg (fun h => by rw [h] at hi2; simp at hi2; omega)]; simp; omega
        have hMM : (c.months.take i).map madeM = c.madeMonths := by
          unfold Cal.madeMonths; rw [if_neg (fun h => by rw [h] at hi2; simp at hi2; omega)]
          congr 1
          first | (rw [show i = 4 by omega]) | (rw [List.take_of_length_le (by omega), List.take_of_length_le (by omega)])
        have hE2 : c.madeLeap = c.leap % (i + 1) - 1 := by unfold Cal.madeLeap; rw [hi0]
        have hlb := c.madeLeap_bd
        refine ⟨_, W.in64 (by omega), ?_⟩
        refine vcall (rMod c.leap (i + 1) (by omega) (by unfold I64; omega) hil R2) ?_
        rintro R3 v hle3 rfl
        simp only [go_sem, ↓reduceIte, Nat.reduceEqDiff, Nat.reduceAdd, Nat.reduceMul, Nat.reduceLeDiff, Nat.reduceLT, Nat.reduceBNe, reduceCtorEq, e1, e2, e3]
        refine ⟨_, W.in64 (by omega), ?_⟩
        rw [← hE2]
        refine vcLoopR Nat (fun i => [(6, .val (.int .i64 i)), (5, .sl 4 6), (1, .loc 0 0), (2, .loc 1 0), (3, .loc 2 0)])
          (fun i => [.box [.val (.int .i64 c.epoch), .val (.slice am c.months.length cm), .val (.int .i64 c.leap), .val (.slice ar c.rules.length cr)],
            .box [.val (.int .i64 0), .val (.slice none 0 0), .val (.int .i64 0), .val (.slice none 0 0)],
            .box [.val (.int .i64 (c.epoch % 200)), .sl 3 c.madeMonths.length, .val (.int .i64 c.madeLeap), gs 5 i], .row 3 1 (c.madeMonths.map (.int .i64)), .row 3 1 (everyL.map (.int .i64)), gb 61 3 ((c.rules.take i).map fun r => rcells (madeRule r)).flatten])
          (fun i _ => i ≤ 4 ∧ i ≤ c.rules.length ∧ (0 < i → 0 ≤ c.madeLeap)) (fun i => 4 - i) 0 [] ?_ ?_ ?_ ?_
        · simp only [go_sem, ↓reduceIte, Nat.reduceEqDiff, Nat.reduceAdd, Nat.reduceMul, Nat.reduceLeDiff, Nat.reduceLT, Nat.reduceBNe, reduceCtorEq, e1, e2, e3]
          exact ⟨rfl, by rw [← hi0]; exact gs_pos (by omega), by rw [hMM]; exact gb_ne (fun h => by have := congrArg List.length h; simp at this; rw [this] at hml; simp at hml), rfl, fun h => h rfl⟩
        · try simp only [go_sem, ↓reduceIte, Nat.reduceEqDiff, Nat.reduceAdd, Nat.reduceMul, Nat.reduceLeDiff, Nat.reduceLT, Nat.reduceBNe, reduceCtorEq]
          try rfl
        · omega
        · rintro i2 env2 R4 hle4 hE ⟨hj, hj2, hj3⟩
          (simp only [go_sem] at hE; obtain ⟨f6, f5, f1, f2, f3⟩ := hE; simp only [go_sem, ↓reduceIte, Nat.reduceEqDiff, Nat.reduceAdd, Nat.reduceMul, Nat.reduceLeDiff, Nat.reduceLT, Nat.reduceBNe, reduceCtorEq, f6, f5, f1, f2, f3]; dsimp only at *)
          refine ⟨fun hlt => ⟨fun h4 => ⟨fun h5 => ⟨hlt, ?_⟩, fun h5 => ?_⟩, fun h4 => ?_⟩, fun hlt => ?_⟩
          · have hlt' : i2 < c.rules.length := by omega
            obtain ⟨ad, had, hR⟩ := hfr i2 hlt'
            have hbd := h0.r.bd c.rules[i2] (List.getElem_mem hlt')
            have htk : (c.rules.take (i2 + 1)) = c.rules.take i2 ++ [c.rules[i2]] := List.take_succ_eq_append_getElem hlt'
            generalize hr : c.rules[i2] = r at *
            obtain ⟨ev, rest, yes⟩ := r
            dsimp only at hbd
            have hm1 := Int.emod_nonneg ev (show (6 : Int) ≠ 0 by decide)
            have hm2 := Int.emod_lt_of_pos ev (show (0 : Int) < 6 by decide)
            have hin := everyL_mem (ev % 6).toNat
            have hdv := everyL_dvd _ hin
            have hget : (everyL.map (Value.int .i64))[(ev % 6).toNat]? = some (.int .i64 (everyL.getD (ev % 6).toNat 1)) := by
              have hi6 : (ev % 6).toNat < everyL.length := by simp [everyL]; omega
              rw [List.getElem?_map, List.getD_eq_getElem?_getD, List.getElem?_eq_getElem hi6]; rfl
            refine vat ad had ?_
            try simp only [go_sem, ↓reduceIte, Nat.reduceEqDiff, Nat.reduceAdd, Nat.reduceMul, Nat.reduceLeDiff, Nat.reduceLT, Nat.reduceBNe, reduceCtorEq]
            refine vloadn [.int .i64 ev, .int .i64 rest, .bool yes] rfl (fun j v hj => by have := hR j v hj; exact hle4 _ _ (hle3 _ _ (hle2 _ _ (hle _ _ this)))) ?_
            simp only [go_sem, ↓reduceIte, Nat.reduceEqDiff, Nat.reduceAdd, Nat.reduceMul, Nat.reduceLeDiff, Nat.reduceLT, Nat.reduceBNe, reduceCtorEq, f6, f5, f1, f2, f3]
            refine vcall (rMod ev 6 (by decide) (by decide) hbd.1 R4) ?_
            rintro R5 v hle5 rfl
            simp only [go_sem, ↓reduceIte, Nat.reduceEqDiff, Nat.reduceAdd, Nat.reduceMul, Nat.reduceLeDiff, Nat.reduceLT, Nat.reduceBNe, reduceCtorEq, f6, f5, f1, f2, f3]
            refine ⟨hm1, hm2, _, hget, ?_⟩
            refine vcall (rMod rest _ hdv.1 (by unfold I64; omega) hbd.2 R5) ?_
            rintro R6 v hle6 rfl
            simp only [go_sem, ↓reduceIte, Nat.reduceEqDiff, Nat.reduceAdd, Nat.reduceMul, Nat.reduceLeDiff, Nat.reduceLT, Nat.reduceBNe, reduceCtorEq, f6, f5, f1, f2, f3]
            refine vgrow ((c.rules.take i2).map fun r => rcells (madeRule r)).flatten (fun h => by simp [gb_ne h]) (fun h => set_dead_gb (congrArg some (by rw [h]; rfl))) ?_ (by decide) (by decide) (by omega) ?_
            · rw [length_flattenK (k := 3) (by intro us hus; obtain ⟨r, _, rfl⟩ := List.mem_map.1 hus; rfl)]
              simp; omega
            simp only [go_sem, ↓reduceIte, Nat.reduceEqDiff, Nat.reduceAdd, Nat.reduceMul, Nat.reduceLeDiff, Nat.reduceLT, Nat.reduceBNe, reduceCtorEq, f6, f5, f1, f2, f3]
            refine ⟨_, W.in64 (by omega), i2 + 1, [0, 1, 2, 3, 4, 8], by omega, ?_⟩
            try simp only [go_sem, ↓reduceIte, Nat.reduceEqDiff, Nat.reduceAdd, Nat.reduceMul, Nat.reduceLeDiff, Nat.reduceLT, Nat.reduceBNe, reduceCtorEq]
            refine ⟨⟨rfl, fun _ => ?_⟩, rfl, by omega, by omega, fun _ => h5⟩
            rw [htk, List.map_append, List.flatten_append]
            rfl
          · have hrules : (c.rules.take i2).map madeRule = c.madeRules := by
              unfold Cal.madeRules
              rw [if_neg h5, show i2 = 0 by omega]; rfl
            rintro b cap R6 hle6 hr6 hc6 -
            have hmr := MonthsIn.row (ms := c.madeMonths) hr6 (by simpa using hc6) (fun m hm => by have := c.madeMonths_bd m hm; unfold I64; omega) (by omega)
            rcases Nat.eq_zero_or_pos i2 with hz2 | hz2
            · have hgs : gs 5 i2 = .val (.slice none 0 0) := by rw [hz2]; rfl
              have hnil : c.madeRules = [] := by rw [← hrules, hz2]; rfl
              rw [hgs]
              try simp only [go_sem, ↓reduceIte, Nat.reduceEqDiff, Nat.reduceAdd, Nat.reduceMul, Nat.reduceLeDiff, Nat.reduceLT, Nat.reduceBNe, reduceCtorEq, f1, f2, f3]
              exact ⟨_, _, rfl, made_in c hmr (by rw [hnil]; exact RulesIn.nil _)⟩
            · have hlr : c.madeRules.length = i2 := by rw [← hrules]; simp; omega
              have hgs : gs 5 i2 = .sl 5 c.madeRules.length := by rw [hlr]; exact gs_pos (by omega)
              have hgb : gb 61 3 ((c.rules.take i2).map fun r => rcells (madeRule r)).flatten = .row 61 3 (c.madeRules.map rcells).flatten := by
                have hfl : ((c.rules.take i2).map fun r => rcells (madeRule r)).flatten = (c.madeRules.map rcells).flatten := by rw [← hrules, List.map_map]; rfl
                rw [hfl]
                refine gb_ne (fun h => ?_)
                have := congrArg List.length h
                rw [length_flattenK (k := 3) (by intro us hus; obtain ⟨r, _, rfl⟩ := List.mem_map.1 hus; rfl), List.length_map, hlr] at this
                simp at this; omega
              rw [hgs, hgb]
              try simp only [go_sem, ↓reduceIte, Nat.reduceEqDiff, Nat.reduceAdd, Nat.reduceMul, Nat.reduceLeDiff, Nat.reduceLT, Nat.reduceBNe, reduceCtorEq, f1, f2, f3]
              rintro b2 cap2 R7 hle7 hr7 hc7 -
              try simp only [go_sem, ↓reduceIte, Nat.reduceEqDiff, Nat.reduceAdd, Nat.reduceMul, Nat.reduceLeDiff, Nat.reduceLT, Nat.reduceBNe, reduceCtorEq, f1, f2, f3]
              exact ⟨_, _, rfl, made_in c (hmr.mono hle7) (RulesIn.row (rs := c.madeRules) hr7 hc7 (fun r hr => by have := (c.madeRules_ok.2 r hr).1; unfold okRule at this; unfold I64; omega) (by have := c.madeRules_ok.1; omega))⟩
          · have hrules : (c.rules.take i2).map madeRule = c.madeRules := by
              unfold Cal.madeRules
              rw [show i2 = 4 by omega]; split; rfl; exfalso; omega
            rintro b cap R6 hle6 hr6 hc6 -
            have hmr := MonthsIn.row (ms := c.madeMonths) hr6 (by simpa using hc6) (fun m hm => by have := c.madeMonths_bd m hm; unfold I64; omega) (by omega)
            rcases Nat.eq_zero_or_pos i2 with hz2 | hz2
            · have hgs : gs 5 i2 = .val (.slice none 0 0) := by rw [hz2]; rfl
              have hnil : c.madeRules = [] := by rw [← hrules, hz2]; rfl
              rw [hgs]
              try simp only [go_sem, ↓reduceIte, Nat.reduceEqDiff, Nat.reduceAdd, Nat.reduceMul, Nat.reduceLeDiff, Nat.reduceLT, Nat.reduceBNe, reduceCtorEq, f1, f2, f3]
              exact ⟨_, _, rfl, made_in c hmr (by rw [hnil]; exact RulesIn.nil _)⟩
            · have hlr : c.madeRules.length = i2 := by rw [← hrules]; simp; omega
              have hgs : gs 5 i2 = .sl 5 c.madeRules.length := by rw [hlr]; exact gs_pos (by omega)
              have hgb : gb 61 3 ((c.rules.take i2).map fun r => rcells (madeRule r)).flatten = .row 61 3 (c.madeRules.map rcells).flatten := by
                have hfl : ((c.rules.take i2).map fun r => rcells (madeRule r)).flatten = (c.madeRules.map rcells).flatten := by rw [← hrules, List.map_map]; rfl
                rw [hfl]
                refine gb_ne (fun h => ?_)
                have := congrArg List.length h
                rw [length_flattenK (k := 3) (by intro us hus; obtain ⟨r, _, rfl⟩ := List.mem_map.1 hus; rfl), List.length_map, hlr] at this
                simp at this; omega
              rw [hgs, hgb]
              try simp only [go_sem, ↓reduceIte, Nat.reduceEqDiff, Nat.reduceAdd, Nat.reduceMul, Nat.reduceLeDiff, Nat.reduceLT, Nat.reduceBNe, reduceCtorEq, f1, f2, f3]
              rintro b2 cap2 R7 hle7 hr7 hc7 -
              try simp only [go_sem, ↓reduceIte, Nat.reduceEqDiff, Nat.reduceAdd, Nat.reduceMul, Nat.reduceLeDiff, Nat.reduceLT, Nat.reduceBNe, reduceCtorEq, f1, f2, f3]
              exact ⟨_, _, rfl, made_in c (hmr.mono hle7) (RulesIn.row (rs := c.madeRules) hr7 hc7 (fun r hr => by have := (c.madeRules_ok.2 r hr).1; unfold okRule at this; unfold I64; omega) (by have := c.madeRules_ok.1; omega))⟩
          · have hrules : (c.rules.take i2).map madeRule = c.madeRules := by
              unfold Cal.madeRules
              rw [List.take_of_length_le (by omega)]; split; (rw [List.take_of_length_le (by omega)]); (have : c.rules = [] := List.eq_nil_of_length_eq_zero (by omega)); rw [this]; rfl
            rintro b cap R6 hle6 hr6 hc6 -
            have hmr := MonthsIn.row (ms := c.madeMonths) hr6 (by simpa using hc6) (fun m hm => by have := c.madeMonths_bd m hm; unfold I64; omega) (by omega)
            rcases Nat.eq_zero_or_pos i2 with hz2 | hz2
            · have hgs : gs 5 i2 = .val (.slice none 0 0) := by rw [hz2]; rfl
              have hnil : c.madeRules = [] := by rw [← hrules, hz2]; rfl
              rw [hgs]
              try simp only [go_sem, ↓reduceIte, Nat.reduceEqDiff, Nat.reduceAdd, Nat.reduceMul, Nat.reduceLeDiff, Nat.reduceLT, Nat.reduceBNe, reduceCtorEq, f1, f2, f3]
              exact ⟨_, _, rfl, made_in c hmr (by rw [hnil]; exact RulesIn.nil _)⟩
            · have hlr : c.madeRules.length = i2 := by rw [← hrules]; simp; omega
              have hgs : gs 5 i2 = .sl 5 c.madeRules.length := by rw [hlr]; exact gs_pos (by omega)
              have hgb : gb 61 3 ((c.rules.take i2).map fun r => rcells (madeRule r)).flatten = .row 61 3 (c.madeRules.map rcells).flatten := by
                have hfl : ((c.rules.take i2).map fun r => rcells (madeRule r)).flatten = (c.madeRules.map rcells).flatten := by rw [← hrules, List.map_map]; rfl
                rw [hfl]
                refine gb_ne (fun h => ?_)
                have := congrArg List.length h
                rw [length_flattenK (k := 3) (by intro us hus; obtain ⟨r, _, rfl⟩ := List.mem_map.1 hus; rfl), List.length_map, hlr] at this
                simp at this; omega
              rw [hgs, hgb]
              try simp only [go_sem, ↓reduceIte, Nat.reduceEqDiff, Nat.reduceAdd, Nat.reduceMul, Nat.reduceLeDiff, Nat.reduceLT, Nat.reduceBNe, reduceCtorEq, f1, f2, f3]
              rintro b2 cap2 R7 hle7 hr7 hc7 -
              try simp only [go_sem, ↓reduceIte, Nat.reduceEqDiff, Nat.reduceAdd, Nat.reduceMul, Nat.reduceLeDiff, Nat.reduceLT, Nat.reduceBNe, reduceCtorEq, f1, f2, f3]
              exact ⟨_, _, rfl, made_in c (hmr.mono hle7) (RulesIn.row (rs := c.madeRules) hr7 hc7 (fun r hr => by have := (c.madeRules_ok.2 r hr).1; unfold okRule at this; unfold I64; omega) (by have := c.madeRules_ok.1; omega))⟩
theorem rSame (c : Cal) (sm sr sm' sr' : Value) (R : RO) (h : CalIn R c sm sr) (h' : CalIn R c sm' sr') : CallsR Try.prog 16 [cv c sm sr, cv c sm' sr'] R fun _ v => v = .bool true := by
  obtain ⟨am, cm, rfl, hcm, hfm⟩ := h.m.form
  obtain ⟨ar, cr, rfl, hcr, hfr⟩ := h.r.form
  obtain ⟨am', cm', rfl, hcm', hfm'⟩ := h'.m.form
  obtain ⟨ar', cr', rfl, hcr', hfr'⟩ := h'.r.form
  have hnm := h.m.n
  have hnr := h.r.n
  refine callsT mix Try.func16 comp16 (by simp [Try.ntmps16]) ?_; simp only [go_sem, ↓reduceIte, Nat.reduceEqDiff, Nat.reduceAdd, Nat.reduceMul, Nat.reduceLeDiff, Nat.reduceLT, Nat.reduceBNe, reduceCtorEq, vc16, rs16]
  refine vcLoop Nat (fun i => [(5, .val (.int .i64 i)), (2, .loc 0 0), (3, .loc 1 0)])
    (fun _ => [.box [.val (.int .i64 c.epoch), .val (.slice am c.months.length cm), .val (.int .i64 c.leap), .val (.slice ar c.rules.length cr)],
      .box [.val (.int .i64 c.epoch), .val (.slice am' c.months.length cm'), .val (.int .i64 c.leap), .val (.slice ar' c.rules.length cr')]])
    (fun i _ => i ≤ c.months.length) (fun i => c.months.length - i) 0 ?_ rfl ?_ ?_
  · (try simp only [go_sem, ↓reduceIte, Nat.reduceEqDiff, Nat.reduceAdd, Nat.reduceMul, Nat.reduceLeDiff, Nat.reduceLT, Nat.reduceBNe, reduceCtorEq]) <;> (repeat' (first | rfl | trivial | constructor | (intro h; exact absurd rfl h)))
  · omega
  · rintro i env R1 hle hE hi
    (simp only [go_sem] at hE; obtain ⟨e5, e2, e3⟩ := hE; simp only [go_sem, ↓reduceIte, Nat.reduceEqDiff, Nat.reduceAdd, Nat.reduceMul, Nat.reduceLeDiff, Nat.reduceLT, Nat.reduceBNe, reduceCtorEq, e5, e2, e3]; dsimp only at *)
    refine ⟨fun hlt => ⟨hlt, ?_⟩, fun hge => ?_⟩
    · have hlt' : i < c.months.length := by omega
      obtain ⟨ad, had, hR⟩ := hfm i hlt'
      obtain ⟨ad', had', hR'⟩ := hfm' i hlt'
      refine vat ad had ?_
      try simp only [go_sem, ↓reduceIte, Nat.reduceEqDiff, Nat.reduceAdd, Nat.reduceMul, Nat.reduceLeDiff, Nat.reduceLT, Nat.reduceBNe, reduceCtorEq]
      refine vload _ (hle _ _ hR) ?_
      simp only [go_sem, ↓reduceIte, Nat.reduceEqDiff, Nat.reduceAdd, Nat.reduceMul, Nat.reduceLeDiff, Nat.reduceLT, Nat.reduceBNe, reduceCtorEq, e5, e2, e3]
      refine ⟨hlt, vat ad' had' ?_⟩
      try simp only [go_sem, ↓reduceIte, Nat.reduceEqDiff, Nat.reduceAdd, Nat.reduceMul, Nat.reduceLeDiff, Nat.reduceLT, Nat.reduceBNe, reduceCtorEq]
      refine vload _ (hle _ _ hR') ?_
      simp only [go_sem, ↓reduceIte, Nat.reduceEqDiff, Nat.reduceAdd, Nat.reduceMul, Nat.reduceLeDiff, Nat.reduceLT, Nat.reduceBNe, reduceCtorEq, e5, e2, e3]
      exact ⟨_, W.in64 (by omega), i + 1, by omega, rfl, by omega⟩
    · refine vcLoop Nat (fun i => [(6, .val (.int .i64 i)), (2, .loc 0 0), (3, .loc 1 0)])
        (fun _ => [.box [.val (.int .i64 c.epoch), .val (.slice am c.months.length cm), .val (.int .i64 c.leap), .val (.slice ar c.rules.length cr)],
          .box [.val (.int .i64 c.epoch), .val (.slice am' c.months.length cm'), .val (.int .i64 c.leap), .val (.slice ar' c.rules.length cr')]])
        (fun i _ => i ≤ c.rules.length) (fun i => c.rules.length - i) 0 ?_ rfl ?_ ?_
      · simp only [go_sem, ↓reduceIte, Nat.reduceEqDiff, Nat.reduceAdd, Nat.reduceMul, Nat.reduceLeDiff, Nat.reduceLT, Nat.reduceBNe, reduceCtorEq, e2, e3]
        repeat' (first | rfl | constructor)
      · omega
      · rintro i env R2 hle2 hE hi
        (simp only [go_sem] at hE; obtain ⟨f6, f2, f3⟩ := hE; simp only [go_sem, ↓reduceIte, Nat.reduceEqDiff, Nat.reduceAdd, Nat.reduceMul, Nat.reduceLeDiff, Nat.reduceLT, Nat.reduceBNe, reduceCtorEq, f6, f2, f3]; dsimp only at *)
        refine fun hlt => ⟨hlt, ?_⟩
        · have hlt' : i < c.rules.length := by omega
          obtain ⟨ad, had, hR⟩ := hfr i hlt'
          obtain ⟨ad', had', hR'⟩ := hfr' i hlt'
          generalize c.rules[i] = r at hR hR'
          obtain ⟨ev, rest, yes⟩ := r
          refine vat ad had ?_
          try simp only [go_sem, ↓reduceIte, Nat.reduceEqDiff, Nat.reduceAdd, Nat.reduceMul, Nat.reduceLeDiff, Nat.reduceLT, Nat.reduceBNe, reduceCtorEq]
          refine vloadn [.int .i64 ev, .int .i64 rest, .bool yes] rfl (fun j v hj => by have := hR j v hj; exact hle2 _ _ (hle _ _ this)) ?_
          simp only [go_sem, ↓reduceIte, Nat.reduceEqDiff, Nat.reduceAdd, Nat.reduceMul, Nat.reduceLeDiff, Nat.reduceLT, Nat.reduceBNe, reduceCtorEq, f6, f2, f3]
          refine ⟨hlt, vat ad' had' ?_⟩
          try simp only [go_sem, ↓reduceIte, Nat.reduceEqDiff, Nat.reduceAdd, Nat.reduceMul, Nat.reduceLeDiff, Nat.reduceLT, Nat.reduceBNe, reduceCtorEq]
          refine vloadn [.int .i64 ev, .int .i64 rest, .bool yes] rfl (fun j v hj => by have := hR' j v hj; exact hle2 _ _ (hle _ _ this)) ?_
          simp only [go_sem, ↓reduceIte, Nat.reduceEqDiff, Nat.reduceAdd, Nat.reduceMul, Nat.reduceLeDiff, Nat.reduceLT, Nat.reduceBNe, reduceCtorEq, f6, f2, f3]
          exact ⟨fun h => by simp at h, fun _ => ⟨_, W.in64 (by omega), i + 1, by omega, rfl, by omega⟩⟩
end Go.Proofs.Ytpbnjoopgignoaa
