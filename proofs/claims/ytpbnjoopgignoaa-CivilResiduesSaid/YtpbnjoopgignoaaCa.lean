/- Contracts of package civil's functions and of its reference's: periods, validity. -/
import Derived.Test.YtpbnjoopgignoaaCal
namespace Go.Proofs.Ytpbnjoopgignoaa
set_option linter.unusedSimpArgs false
set_option linter.unusedVariables false
open Go.Proofs.Ytpbnjoopgignoaa.Vc

/-- The rules, as a slice's cells. -/
structure RulesIn (R : RO) (sr : Value) (rs : List Rule) : Prop where
  sl : SlK R sr 3 (rs.map rcells)
  bd : ∀ r ∈ rs, I64 r.1 ∧ I64 r.2.1
  n : rs.length ≤ 140737488355328
theorem RulesIn.mono {R R' : RO} {sr : Value} {rs : List Rule} (h : RulesIn R sr rs) (hle : RO.le R R') : RulesIn R' sr rs := ⟨h.sl.mono hle, h.bd, h.n⟩
theorem RulesIn.form {R : RO} {sr : Value} {rs : List Rule} (h : RulesIn R sr rs) : ∃ a cap, sr = .slice a rs.length cap ∧ rs.length ≤ cap ∧ ∀ i (hi : i < rs.length), ∃ ad, a = some ad ∧
    (∀ j v, (rcells rs[i])[j]? = some v → R ((ad.add (i * 3)).add j) v) := by
  obtain ⟨a, cap, e, hc, h⟩ := h.sl
  rw [List.length_map] at e hc
  refine ⟨a, cap, e, hc, fun i hi => ?_⟩
  obtain ⟨_, ad, e, hr⟩ := h i (rcells rs[i]) (by simp [hi])
  exact ⟨ad, e, hr⟩
/-- The months, as a slice's cells. -/
structure MonthsIn (R : RO) (sm : Value) (ms : List Int) : Prop where
  sl : Ints R sm ms
  bd : ∀ m ∈ ms, I64 m
  n : ms.length ≤ 140737488355328
theorem MonthsIn.mono {R R' : RO} {sm : Value} {ms : List Int} (h : MonthsIn R sm ms) (hle : RO.le R R') : MonthsIn R' sm ms := ⟨h.sl.mono hle, h.bd, h.n⟩
structure CalIn (R : RO) (c : Cal) (sm sr : Value) : Prop where
  m : MonthsIn R sm c.months
  r : RulesIn R sr c.rules
  e : I64 c.epoch
  l : I64 c.leap
theorem CalIn.mono {R R' : RO} {c : Cal} {sm sr : Value} (h : CalIn R c sm sr) (hle : RO.le R R') : CalIn R' c sm sr := ⟨h.m.mono hle, h.r.mono hle, h.e, h.l⟩

theorem cmod (a b : Int) (hb2 : I64 b) (ha : I64 a) (R : RO) :
    CallsR Try.prog 37 [.int .i64 a, .int .i64 b] R fun _ v => v = .int .i64 (if b < 1 then 0 else a % b) := by
  refine callsT mix Try.func37 comp37 (by simp [Try.ntmps37]) ?_; simp only [go_sem, ↓reduceIte, Nat.reduceEqDiff, Nat.reduceAdd, Nat.reduceMul, Nat.reduceLeDiff, Nat.reduceLT, Nat.reduceBNe, reduceCtorEq, vc37, rs37]
  refine vcall (nMod a b hb2 ha R) ?_
  rintro R' v hle rfl
  try simp only [go_sem, ↓reduceIte, Nat.reduceEqDiff, Nat.reduceAdd, Nat.reduceMul, Nat.reduceLeDiff, Nat.reduceLT, Nat.reduceBNe, reduceCtorEq]
theorem cWeekday (a : Int) (ha : I64 a) (R : RO) : CallsR Try.prog 17 [.int .i64 a] R fun _ v => v = .int .i64 (a % 7) := by
  refine callsT mix Try.func17 comp17 (by simp [Try.ntmps17]) ?_; simp only [go_sem, ↓reduceIte, Nat.reduceEqDiff, Nat.reduceAdd, Nat.reduceMul, Nat.reduceLeDiff, Nat.reduceLT, Nat.reduceBNe, reduceCtorEq, vc17, rs17]
  refine vcall (cmod a 7 (by unfold I64; omega) ha R) ?_
  rintro R' v hle rfl
  try simp only [go_sem, ↓reduceIte, Nat.reduceEqDiff, Nat.reduceAdd, Nat.reduceMul, Nat.reduceLeDiff, Nat.reduceLT, Nat.reduceBNe, reduceCtorEq]
  simp
theorem cSupported (y : Int) (R : RO) : CallsR Try.prog 49 [.int .i64 y] R fun _ v => v = .bool (decide (1 ≤ y ∧ y ≤ 9999)) := by
  refine callsT mix Try.func49 comp49 (by simp [Try.ntmps49]) ?_; simp only [go_sem, ↓reduceIte, Nat.reduceEqDiff, Nat.reduceAdd, Nat.reduceMul, Nat.reduceLeDiff, Nat.reduceLT, Nat.reduceBNe, reduceCtorEq, vc49, rs49]
  refine ⟨fun h => by simp [h], fun h => by simp [h]⟩
theorem cPeriod (rs : List Rule) (sr : Value) (R : RO) (h : RulesIn R sr rs) :
    CallsR Try.prog 60 [sr] R fun _ v => v = .tuple #[.int .i64 ((perFrom 1 rs).getD 0), .bool (perFrom 1 rs).isSome] := by
  obtain ⟨a, cap, rfl, hc, hf⟩ := h.form
  have hn := h.n
  refine callsT mix Try.func60 comp60 (by simp [Try.ntmps60]) ?_; simp only [go_sem, ↓reduceIte, Nat.reduceEqDiff, Nat.reduceAdd, Nat.reduceMul, Nat.reduceLeDiff, Nat.reduceLT, Nat.reduceBNe, reduceCtorEq, vc60, rs60]
  refine vcLoop (Nat × Int) (fun x => [(9, .val (.slice a rs.length cap)), (10, .val (.int .i64 rs.length)), (11, .val (.int .i64 x.1)), (4, .val (.int .i64 x.2))]) (fun _ => [])
    (fun x _ => x.1 ≤ rs.length ∧ 1 ≤ x.2 ∧ x.2 ≤ 400 ∧ perFrom 1 rs = perFrom x.2 (rs.drop x.1)) (fun x => rs.length - x.1) (0, 1) ?_ rfl ?_ ?_
  · (try simp only [go_sem, ↓reduceIte, Nat.reduceEqDiff, Nat.reduceAdd, Nat.reduceMul, Nat.reduceLeDiff, Nat.reduceLT, Nat.reduceBNe, reduceCtorEq]) <;> (repeat' (first | rfl | trivial | constructor | (intro h; exact absurd rfl h)))
  · exact ⟨by omega, by omega, by omega, rfl⟩
  · rintro ⟨k, y⟩ env R1 hle hv ⟨hk, hy1, hy2, hp⟩
    (simp only [go_sem] at hv; obtain ⟨e9, e10, e11, e4⟩ := hv; simp only [go_sem, ↓reduceIte, Nat.reduceEqDiff, Nat.reduceAdd, Nat.reduceMul, Nat.reduceLeDiff, Nat.reduceLT, Nat.reduceBNe, reduceCtorEq, e9, e10, e11, e4]; dsimp only at *)
    refine ⟨fun hlt => ⟨hlt, ?_⟩, fun hge => ?_⟩
    · have hlt' : k < rs.length := by omega
      obtain ⟨ad, rfl, hR⟩ := hf k hlt'
      have hbd := h.bd rs[k] (List.getElem_mem hlt')
      have hdrop : rs.drop k = rs[k] :: rs.drop (k + 1) := by simp
      rw [hdrop] at hp
      generalize hr : rs[k] = r at *
      obtain ⟨ev, rest, yes⟩ := r
      dsimp only at *
      simp only [perFrom] at hp
      simp only [go_sem, ↓reduceIte, Nat.reduceEqDiff, Nat.reduceAdd, Nat.reduceMul, Nat.reduceLeDiff, Nat.reduceLT, Nat.reduceBNe, reduceCtorEq, e4]
      refine vloadn (rcells (ev, rest, yes)) rfl (fun j v hj => hle _ _ (hR j v hj)) ?_
      simp only [go_sem, ↓reduceIte, Nat.reduceEqDiff, Nat.reduceAdd, Nat.reduceMul, Nat.reduceLeDiff, Nat.reduceLT, Nat.reduceBNe, reduceCtorEq, rcells, e4, e10, e11]
      have bad : ¬ okRule (ev, rest, yes) → Value.tuple #[Value.int .i64 0, Value.bool false] = Value.tuple #[Value.int .i64 ((perFrom 1 rs).getD 0), Value.bool (perFrom 1 rs).isSome] := by
        intro h; rw [hp, if_neg h]; rfl
      simp only [okRule] at bad
      refine ⟨fun h1 => ⟨fun h2 => ⟨fun h3 => ⟨fun h4 => bad (by omega), fun h4 => ?_⟩, fun h3 => bad (by omega)⟩, fun h2 => bad (by omega)⟩, fun h1 => bad (by omega)⟩
      refine vcall (nLcm y ev (by unfold I64; omega) hbd.1 R1) ?_
      rintro R2 v hle2 rfl
      simp only [go_sem, ↓reduceIte, Nat.reduceEqDiff, Nat.reduceAdd, Nat.reduceMul, Nat.reduceLeDiff, Nat.reduceLT, Nat.reduceBNe, reduceCtorEq, e10, e11]
      have hok : okRule (ev, rest, yes) := by simp only [okRule]; omega
      rw [if_pos hok] at hp
      have hl := lcm_pos hy1 (show 1 ≤ ev by omega)
      have hE : lcmE y ev = if 1099511627776 < (Int.lcm y ev : Int) then 2 else 0 := by simp only [lcmE]; rw [if_neg (by omega)]
      have big : 400 < (Int.lcm y ev : Int) → Value.tuple #[Value.int .i64 0, Value.bool false] = Value.tuple #[Value.int .i64 ((perFrom 1 rs).getD 0), Value.bool (perFrom 1 rs).isSome] := by
        intro h; rw [hp, if_neg (by omega)]; rfl
      have hV : lcmE y ev = 0 → lcmV y ev = Int.lcm y ev := fun h => by simp only [lcmV, h, if_true]
      refine ⟨fun h5 => ?_, fun h5 => ?_⟩
      · rw [hV h5]
        refine ⟨fun h6 => big (by omega), fun h6 => ?_⟩
        rw [if_pos (by omega)] at hp
        exact ⟨_, W.in64 (by omega), (k + 1, (Int.lcm y ev : Int)), by dsimp only; omega, ⟨e9, rfl, rfl⟩, by dsimp only; omega, by dsimp only; omega, by dsimp only; omega, by dsimp only; exact hp⟩
      · refine big ?_
        rw [hE] at h5; split at h5 <;> omega
    · have : rs.drop k = [] := List.drop_eq_nil_of_le (by omega)
      rw [this] at hp
      simp only [perFrom] at hp
      rw [hp]
      rfl
theorem MonthsIn.form {R : RO} {sm : Value} {ms : List Int} (h : MonthsIn R sm ms) : ∃ a cap, sm = .slice a ms.length cap ∧ ms.length ≤ cap ∧ ∀ i (hi : i < ms.length), ∃ ad, a = some ad ∧ R (ad.add i) (.int .i64 ms[i]) := h.sl.form
/-- A calendar's value. -/
abbrev cv (c : Cal) (sm sr : Value) : Value := .agg #[.int .i64 c.epoch, sm, .int .i64 c.leap, sr]
theorem cValid (c : Cal) (sm sr : Value) (R : RO) (h : CalIn R c sm sr) : CallsR Try.prog 35 [cv c sm sr] R fun _ v => v = .bool (decide c.valid) := by
  obtain ⟨am, cm, rfl, hcm, hfm⟩ := h.m.form
  obtain ⟨ar, cr, rfl, hcr, hfr⟩ := h.r.form
  have hnm := h.m.n
  have hnr := h.r.n
  have bad : ¬ c.valid → Value.bool false = Value.bool (decide c.valid) := fun h => by simp [h]
  have badI : ∀ (p : Prop) [Decidable p], (c.valid → p) → ¬ p → Value.bool false = Value.bool (decide c.valid) := fun p _ h1 h2 => bad fun h => h2 (h1 h)
  refine callsT mix Try.func35 comp35 (by simp [Try.ntmps35]) ?_; simp only [go_sem, ↓reduceIte, Nat.reduceEqDiff, Nat.reduceAdd, Nat.reduceMul, Nat.reduceLeDiff, Nat.reduceLT, Nat.reduceBNe, reduceCtorEq, vc35, rs35]
  repeat' (with_reducible first | refine And.intro ?_ ?_ | intro _)
  all_goals first
    | exact bad (by simp only [Cal.valid]; omega)
    | exact bad (fun h => by have h1 := congrArg List.length (h.2.2.2.2.1 (by assumption)); rw [List.length_nil] at h1; omega)
    | skip
  all_goals
    refine vcLoop Nat (fun k => [(50, .val (.slice am c.months.length cm)), (51, .val (.int .i64 c.months.length)), (52, .val (.int .i64 k)), (1, .loc 0 0)])
      (fun _ => [.box [.val (.int .i64 c.epoch), .val (.slice am c.months.length cm), .val (.int .i64 c.leap), .val (.slice ar c.rules.length cr)]])
      (fun k _ => k ≤ c.months.length ∧ ∀ i (hi : i < c.months.length), i < k → 1 ≤ c.months[i] ∧ c.months[i] ≤ 40) (fun k => c.months.length - k) 0 ?_ rfl ?_ ?_
    · (try simp only [go_sem, ↓reduceIte, Nat.reduceEqDiff, Nat.reduceAdd, Nat.reduceMul, Nat.reduceLeDiff, Nat.reduceLT, Nat.reduceBNe, reduceCtorEq]) <;> (repeat' (first | rfl | trivial | constructor | (intro h; exact absurd rfl h)))
    · exact ⟨by omega, fun i hi h => by omega⟩
    · rintro k env R1 hle hv ⟨hk, hall⟩
      (simp only [go_sem] at hv; obtain ⟨e50, e51, e52, e1⟩ := hv; simp only [go_sem, ↓reduceIte, Nat.reduceEqDiff, Nat.reduceAdd, Nat.reduceMul, Nat.reduceLeDiff, Nat.reduceLT, Nat.reduceBNe, reduceCtorEq, e50, e51, e52, e1]; dsimp only at *)
      refine ⟨fun hlt => ⟨hlt, ?_⟩, fun hge => ?_⟩
      · have hlt' : k < c.months.length := by omega
        obtain ⟨ad, had, hR⟩ := hfm k hlt'
        have hin := List.getElem_mem hlt'
        refine vat ad had ?_
        try simp only [go_sem, ↓reduceIte, Nat.reduceEqDiff, Nat.reduceAdd, Nat.reduceMul, Nat.reduceLeDiff, Nat.reduceLT, Nat.reduceBNe, reduceCtorEq]
        refine vload _ (hle _ _ hR) ?_
        simp only [go_sem, ↓reduceIte, Nat.reduceEqDiff, Nat.reduceAdd, Nat.reduceMul, Nat.reduceLeDiff, Nat.reduceLT, Nat.reduceBNe, reduceCtorEq, e50, e51, e52, e1]
        refine ⟨fun h1 => ⟨fun h2 => bad (fun h => ?_), fun h2 => ?_⟩, fun h1 => bad (fun h => ?_)⟩
        · have := h.2.2.2.2.2.1 _ hin; omega
        · refine ⟨_, W.in64 (by omega), k + 1, by omega, rfl, by omega, fun i hi hik => ?_⟩
          by_cases hik' : i = k
          · subst hik'; omega
          · exact hall i hi (by omega)
        · have := h.2.2.2.2.2.1 _ hin; omega
      · refine vcall (cPeriod c.rules _ R1 (h.r.mono hle)) ?_
        rintro R2 v hle2 rfl
        try simp only [go_sem, ↓reduceIte, Nat.reduceEqDiff, Nat.reduceAdd, Nat.reduceMul, Nat.reduceLeDiff, Nat.reduceLT, Nat.reduceBNe, reduceCtorEq]
        congr 1
        have hv : c.valid ↔ (perFrom 1 c.rules).isSome = true := by
          refine ⟨fun h => h.2.2.2.2.2.2, fun h => ⟨by omega, by omega, by omega, by omega, fun h1 => ?_, fun m hm => ?_, h⟩⟩
          · first
              | exact absurd h1 (by assumption)
              | exact List.eq_nil_of_length_eq_zero (by omega)
          · obtain ⟨i, hi, rfl⟩ := List.getElem_of_mem hm
            exact hall i hi (by omega)
        simp [hv]
theorem rMod (a b : Int) (hb : 1 ≤ b) (hb2 : I64 b) (ha : I64 a) (R : RO) : CallsR Try.prog 26 [.int .i64 a, .int .i64 b] R fun _ v => v = .int .i64 (a % b) := by
  refine callsT mix Try.func26 comp26 (by simp [Try.ntmps26]) ?_; simp only [go_sem, ↓reduceIte, Nat.reduceEqDiff, Nat.reduceAdd, Nat.reduceMul, Nat.reduceLeDiff, Nat.reduceLT, Nat.reduceBNe, reduceCtorEq, vc26, rs26]
  have h1 := tmod_fix a b hb
  have h2 := tmod_bd a b hb
  unfold I64 at *
  refine ⟨by omega, fun h => ⟨_, W.in64 (by omega), ?_⟩, fun h => ?_⟩
  · rw [if_pos h] at h1; rw [h1]
  · rw [if_neg h] at h1; rw [h1]
theorem rWeekday (a : Int) (ha : I64 a) (R : RO) : CallsR Try.prog 18 [.int .i64 a] R fun _ v => v = .int .i64 (a % 7) := by
  refine callsT mix Try.func18 comp18 (by simp [Try.ntmps18]) ?_; simp only [go_sem, ↓reduceIte, Nat.reduceEqDiff, Nat.reduceAdd, Nat.reduceMul, Nat.reduceLeDiff, Nat.reduceLT, Nat.reduceBNe, reduceCtorEq, vc18, rs18]
  refine vcall (rMod a 7 (by omega) (by unfold I64; omega) ha R) ?_
  rintro R' v hle rfl
  try simp only [go_sem, ↓reduceIte, Nat.reduceEqDiff, Nat.reduceAdd, Nat.reduceMul, Nat.reduceLeDiff, Nat.reduceLT, Nat.reduceBNe, reduceCtorEq]
theorem rGcd (a b : Int) (ha : 1 ≤ a) (hb : 1 ≤ b) (ha2 : I64 a) (hb2 : I64 b) (R : RO) : CallsR Try.prog 62 [.int .i64 a, .int .i64 b] R fun _ v => v = .int .i64 (Int.gcd a b) := by
  refine callsT mix Try.func62 comp62 (by simp [Try.ntmps62]) ?_; simp only [go_sem, ↓reduceIte, Nat.reduceEqDiff, Nat.reduceAdd, Nat.reduceMul, Nat.reduceLeDiff, Nat.reduceLT, Nat.reduceBNe, reduceCtorEq, vc62, rs62]
  unfold I64 at *
  refine vcLoop (Nat × Nat) (fun x => [(0, .val (.int .i64 x.1)), (1, .val (.int .i64 x.2))]) (fun _ => []) (fun x _ => Nat.gcd x.1 x.2 = Int.gcd a b ∧ x.1 ≤ 9223372036854775807 ∧ x.2 ≤ 9223372036854775807) (fun x => x.2) (a.natAbs, b.natAbs) ?_ rfl ?_ ?_
  · (try simp only [go_sem, ↓reduceIte, Nat.reduceEqDiff, Nat.reduceAdd, Nat.reduceMul, Nat.reduceLeDiff, Nat.reduceLT, Nat.reduceBNe, reduceCtorEq]) <;> (repeat' (first | rfl | trivial | constructor | (intro h; exact absurd rfl h)))
    · have : ((a.natAbs : Nat) : Int) = a := by omega
      rw [this]
    · have : ((b.natAbs : Nat) : Int) = b := by omega
      rw [this]
  · exact ⟨rfl, by omega, by omega⟩
  · rintro ⟨x, y⟩ env R' hle hv ⟨hg, hx, hy⟩
    (simp only [go_sem] at hv; obtain ⟨e0, e1⟩ := hv; simp only [go_sem, ↓reduceIte, Nat.reduceEqDiff, Nat.reduceAdd, Nat.reduceMul, Nat.reduceLeDiff, Nat.reduceLT, Nat.reduceBNe, reduceCtorEq, e0, e1]; dsimp only at *)
    refine ⟨fun h => ⟨h, (y, x % y), Nat.mod_lt _ (by omega), ⟨rfl, ?_⟩, ?_, by dsimp only; omega, ?_⟩, fun h => ?_⟩
    · rw [tmod_nonneg' (by omega)]; rfl
    · rw [← hg]; simp only; rw [Nat.gcd_comm y, ← Nat.gcd_rec, Nat.gcd_comm]
    · have := Nat.mod_lt x (show 0 < y by omega); simp only; omega
    · have hy0 : y = 0 := by omega
      subst hy0
      rw [Nat.gcd_zero_right] at hg
      rw [hg]
theorem rlcm {y e : Int} (hy : 1 ≤ y) (he : 1 ≤ e) : y.tdiv (Int.gcd y e) * e = Int.lcm y e := by
  have hg := gcd_le_left (a := y) e hy
  rw [tdiv_nonneg' (by omega) (by omega), ← lcm_eq hy he]
theorem rValid (c : Cal) (sm sr : Value) (R : RO) (h : CalIn R c sm sr) : CallsR Try.prog 39 [cv c sm sr] R fun _ v => v = .bool (decide c.valid) := by
  obtain ⟨am, cm, rfl, hcm, hfm⟩ := h.m.form
  obtain ⟨ar, cr, rfl, hcr, hfr⟩ := h.r.form
  have hnm := h.m.n
  have hnr := h.r.n
  have bad : ¬ c.valid → Value.bool false = Value.bool (decide c.valid) := fun h => by simp [h]
  refine callsT mix Try.func39 comp39 (by simp [Try.ntmps39]) ?_; simp only [go_sem, ↓reduceIte, Nat.reduceEqDiff, Nat.reduceAdd, Nat.reduceMul, Nat.reduceLeDiff, Nat.reduceLT, Nat.reduceBNe, reduceCtorEq, vc39, rs39]
  repeat' (with_reducible first | refine And.intro ?_ ?_ | intro _)
  all_goals first
    | exact bad (by simp only [Cal.valid]; omega)
    | exact bad (fun h => by have h1 := congrArg List.length (h.2.2.2.2.1 (by assumption)); rw [List.length_nil] at h1; omega)
    | skip
  all_goals
    refine vcLoop Nat (fun k => [(3, .val (.int .i64 k)), (1, .loc 0 0)])
      (fun _ => [.box [.val (.int .i64 c.epoch), .val (.slice am c.months.length cm), .val (.int .i64 c.leap), .val (.slice ar c.rules.length cr)]])
      (fun k _ => k ≤ c.months.length ∧ ∀ i (hi : i < c.months.length), i < k → 1 ≤ c.months[i] ∧ c.months[i] ≤ 40) (fun k => c.months.length - k) 0 ?_ rfl ?_ ?_
    · (try simp only [go_sem, ↓reduceIte, Nat.reduceEqDiff, Nat.reduceAdd, Nat.reduceMul, Nat.reduceLeDiff, Nat.reduceLT, Nat.reduceBNe, reduceCtorEq]) <;> (repeat' (first | rfl | trivial | constructor | (intro h; exact absurd rfl h)))
    · exact ⟨by omega, fun i hi h => by omega⟩
    · rintro k env R1 hle hv ⟨hk, hall⟩
      (simp only [go_sem] at hv; obtain ⟨e3, e1⟩ := hv; simp only [go_sem, ↓reduceIte, Nat.reduceEqDiff, Nat.reduceAdd, Nat.reduceMul, Nat.reduceLeDiff, Nat.reduceLT, Nat.reduceBNe, reduceCtorEq, e3, e1]; dsimp only at *)
      refine ⟨fun hlt => ⟨hlt, ?_⟩, fun hge => ?_⟩
      · have hlt' : k < c.months.length := by omega
        obtain ⟨ad, had, hR⟩ := hfm k hlt'
        have hin := List.getElem_mem hlt'
        refine vat ad had ?_
        try simp only [go_sem, ↓reduceIte, Nat.reduceEqDiff, Nat.reduceAdd, Nat.reduceMul, Nat.reduceLeDiff, Nat.reduceLT, Nat.reduceBNe, reduceCtorEq]
        refine vload _ (hle _ _ hR) ?_
        simp only [go_sem, ↓reduceIte, Nat.reduceEqDiff, Nat.reduceAdd, Nat.reduceMul, Nat.reduceLeDiff, Nat.reduceLT, Nat.reduceBNe, reduceCtorEq, e3, e1]
        refine ⟨fun h1 => ⟨hlt, ?_⟩, fun h1 => bad (fun h => ?_)⟩
        · refine vat ad had ?_
          try simp only [go_sem, ↓reduceIte, Nat.reduceEqDiff, Nat.reduceAdd, Nat.reduceMul, Nat.reduceLeDiff, Nat.reduceLT, Nat.reduceBNe, reduceCtorEq]
          refine vload _ (hle _ _ hR) ?_
          simp only [go_sem, ↓reduceIte, Nat.reduceEqDiff, Nat.reduceAdd, Nat.reduceMul, Nat.reduceLeDiff, Nat.reduceLT, Nat.reduceBNe, reduceCtorEq, e3, e1]
          refine ⟨fun h2 => bad (fun h => ?_), fun h2 => ?_⟩
          · have := h.2.2.2.2.2.1 _ hin; omega
          · refine ⟨_, W.in64 (by omega), k + 1, by omega, rfl, by omega, fun i hi hik => ?_⟩
            by_cases hik' : i = k
            · subst hik'; omega
            · exact hall i hi (by omega)
        · have := h.2.2.2.2.2.1 _ hin; omega
      · refine vcLoop (Nat × Int) (fun x => [(5, .val (.int .i64 x.1)), (4, .val (.int .i64 x.2)), (1, .loc 0 0)])
          (fun _ => [.box [.val (.int .i64 c.epoch), .val (.slice am c.months.length cm), .val (.int .i64 c.leap), .val (.slice ar c.rules.length cr)]])
          (fun x _ => x.1 ≤ c.rules.length ∧ 1 ≤ x.2 ∧ x.2 ≤ 400 ∧ perFrom 1 c.rules = perFrom x.2 (c.rules.drop x.1)) (fun x => c.rules.length - x.1) (0, 1) ?_ rfl ?_ ?_
        · simp only [go_sem, ↓reduceIte, Nat.reduceEqDiff, Nat.reduceAdd, Nat.reduceMul, Nat.reduceLeDiff, Nat.reduceLT, Nat.reduceBNe, reduceCtorEq, e1]
          rfl
        · exact ⟨by omega, by omega, by omega, rfl⟩
        · rintro ⟨k2, y⟩ env2 R2 hle2 hv ⟨hk2, hy1, hy2, hp⟩
          (simp only [go_sem] at hv; obtain ⟨f5, f4, f1⟩ := hv; simp only [go_sem, ↓reduceIte, Nat.reduceEqDiff, Nat.reduceAdd, Nat.reduceMul, Nat.reduceLeDiff, Nat.reduceLT, Nat.reduceBNe, reduceCtorEq, f5, f4, f1]; dsimp only at *)
          have hge2 : ∀ p : Prop, (c.valid ↔ p) → ((c.valid ↔ (perFrom 1 c.rules).isSome = true)) := fun p _ => by
            refine ⟨fun h => h.2.2.2.2.2.2, fun h => ⟨by omega, by omega, by omega, by omega, fun h1 => ?_, fun m hm => ?_, h⟩⟩
            · first
                | exact absurd h1 (by assumption)
                | exact List.eq_nil_of_length_eq_zero (by omega)
            · obtain ⟨i, hi, rfl⟩ := List.getElem_of_mem hm
              exact hall i hi (by omega)
          have hvv := hge2 _ Iff.rfl
          clear hge2
          have bad' : perFrom 1 c.rules = none → Value.bool false = Value.bool (decide c.valid) := fun h => bad (fun hv => by rw [hvv, h] at hv; cases hv)
          refine ⟨fun hlt2 => ⟨hlt2, ?_⟩, fun hge2 => ?_⟩
          · have hlt2' : k2 < c.rules.length := by omega
            obtain ⟨ad, had, hR⟩ := hfr k2 hlt2'
            have hbd := h.r.bd c.rules[k2] (List.getElem_mem hlt2')
            have hdrop : c.rules.drop k2 = c.rules[k2] :: c.rules.drop (k2 + 1) := by simp
            rw [hdrop] at hp
            generalize hr : c.rules[k2] = r at *
            obtain ⟨ev, rest, yes⟩ := r
            dsimp only at hbd
            simp only [perFrom] at hp
            refine vat ad had ?_
            try simp only [go_sem, ↓reduceIte, Nat.reduceEqDiff, Nat.reduceAdd, Nat.reduceMul, Nat.reduceLeDiff, Nat.reduceLT, Nat.reduceBNe, reduceCtorEq]
            refine vloadn (rcells (ev, rest, yes)) rfl (fun j v hj => hle2 _ _ (hle _ _ (hR j v hj))) ?_
            simp only [go_sem, ↓reduceIte, Nat.reduceEqDiff, Nat.reduceAdd, Nat.reduceMul, Nat.reduceLeDiff, Nat.reduceLT, Nat.reduceBNe, reduceCtorEq, rcells, f5, f4, f1]
            have bad2 : ¬ (1 ≤ ev ∧ ev ≤ 400 ∧ 0 ≤ rest ∧ rest < ev) → Value.bool false = Value.bool (decide c.valid) := by
              intro h; refine bad' ?_; rw [hp, if_neg]; exact h
            refine ⟨fun h1 => ⟨fun h2 => ⟨fun h3 => ⟨fun h4 => bad2 (by omega), fun h4 => ?_⟩, fun h3 => bad2 (by omega)⟩, fun h2 => bad2 (by omega)⟩, fun h1 => bad2 (by omega)⟩
            refine vcall (rGcd y ev hy1 (by omega) (by unfold I64; omega) hbd.1 R2) ?_
            rintro R3 v hle3 rfl
            simp only [go_sem, ↓reduceIte, Nat.reduceEqDiff, Nat.reduceAdd, Nat.reduceMul, Nat.reduceLeDiff, Nat.reduceLT, Nat.reduceBNe, reduceCtorEq, f5, f4, f1]
            have hok : okRule (ev, rest, yes) := ⟨by dsimp only; omega, by dsimp only; omega, by dsimp only; omega, by dsimp only; omega⟩
            rw [if_pos hok] at hp
            have hg := gcd_le_left (a := y) ev hy1
            have hl := lcm_pos hy1 (show 1 ≤ ev by omega)
            have hm := rlcm hy1 (show 1 ≤ ev by omega)
            have hd := tdiv_bd y (Int.gcd y ev) hg.1
            have hlub : (Int.lcm y ev : Int) ≤ 160000 := by
              rw [← hm]
              have h8 : y.tdiv (Int.gcd y ev) * ev ≤ 400 * ev := Int.mul_le_mul_of_nonneg_right (by omega) (by omega)
              omega
            refine ⟨by omega, _, W.in64 (by omega), ?_⟩
            rw [hm]
            refine ⟨_, W.in64 (by omega), fun h5 => ?_, fun h5 => ?_⟩
            · refine bad' ?_
              rw [hp, if_neg (by omega)]
            · rw [if_pos (by omega)] at hp
              exact ⟨_, W.in64 (by omega), (k2 + 1, (Int.lcm y ev : Int)), by dsimp only; omega, ⟨rfl, rfl⟩, by dsimp only; omega, by dsimp only; omega, by dsimp only; omega, by dsimp only; exact hp⟩
          · have : c.rules.drop k2 = [] := List.drop_eq_nil_of_le (by omega)
            rw [this] at hp
            simp only [perFrom] at hp
            have : c.valid := by rw [hvv, hp]; rfl
            simp [this]
end Go.Proofs.Ytpbnjoopgignoaa
