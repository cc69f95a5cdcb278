/- Contracts of the reference's functions: cycles, first days, days and dates. -/
import Derived.Test.YtpbnjoopgignoaaRa
namespace Go.Proofs.Ytpbnjoopgignoaa
set_option linter.unusedSimpArgs false
set_option linter.unusedVariables false
open Go.RowKit Go.Proofs.Ytpbnjoopgignoaa.Vc

theorem rCycle (c : Cal) (sm sr : Value) (R : RO) (h : CalIn R c sm sr) : CallsR Try.prog 38 [cv c sm sr] R fun _ v => v = cycA c := by
  have h0 := h
  obtain ⟨am, cm, rfl, hcm, hfm⟩ := h.m.form
  obtain ⟨ar, cr, rfl, hcr, hfr⟩ := h.r.form
  refine callsT mix Try.func38 comp38 (by simp [Try.ntmps38]) ?_; simp only [go_sem, ↓reduceIte, Nat.reduceEqDiff, Nat.reduceAdd, Nat.reduceMul, Nat.reduceLeDiff, Nat.reduceLT, Nat.reduceBNe, reduceCtorEq, vc38, rs38]
  refine vcall (rValid c _ _ R h) ?_
  rintro R1 v hle rfl
  try simp only [go_sem, ↓reduceIte, Nat.reduceEqDiff, Nat.reduceAdd, Nat.reduceMul, Nat.reduceLeDiff, Nat.reduceLT, Nat.reduceBNe, reduceCtorEq]
  refine ⟨fun hv => by rw [cycA, if_neg hv], fun hv => ?_⟩
  have hper := hv.per
  refine vcLoop (Nat × Int) (fun x => [(6, .val (.int .i64 x.1)), (5, .val (.int .i64 x.2)), (1, .loc 0 0)])
    (fun _ => [.box [.val (.int .i64 c.epoch), .val (.slice am c.months.length cm), .val (.int .i64 c.leap), .val (.slice ar c.rules.length cr)]])
    (fun x _ => x.1 ≤ c.rules.length ∧ 1 ≤ x.2 ∧ x.2 ≤ 400 ∧ some c.per = perFrom x.2 (c.rules.drop x.1)) (fun x => c.rules.length - x.1) (0, 1) ?_ rfl ?_ ?_
  · (try simp only [go_sem, ↓reduceIte, Nat.reduceEqDiff, Nat.reduceAdd, Nat.reduceMul, Nat.reduceLeDiff, Nat.reduceLT, Nat.reduceBNe, reduceCtorEq]) <;> (repeat' (first | rfl | trivial | constructor | (intro h; exact absurd rfl h)))
  · exact ⟨by omega, by omega, by omega, hper.1.symm⟩
  · rintro ⟨k, y⟩ env R2 hle2 hE ⟨hk, hy1, hy2, hp⟩
    (simp only [go_sem] at hE; obtain ⟨e6, e5, e1⟩ := hE; simp only [go_sem, ↓reduceIte, Nat.reduceEqDiff, Nat.reduceAdd, Nat.reduceMul, Nat.reduceLeDiff, Nat.reduceLT, Nat.reduceBNe, reduceCtorEq, e6, e5, e1]; dsimp only at *)
    have hrl := hv.2.2.2.1
    refine ⟨fun hlt => ⟨hlt, ?_⟩, fun hge => ?_⟩
    · have hlt' : k < c.rules.length := by omega
      obtain ⟨ad, had, hR⟩ := hfr k hlt'
      have hok := (hper.2.2 c.rules[k] (List.getElem_mem hlt')).1
      have hbd := h.r.bd c.rules[k] (List.getElem_mem hlt')
      have hdrop : c.rules.drop k = c.rules[k] :: c.rules.drop (k + 1) := by simp
      rw [hdrop] at hp
      generalize hr : c.rules[k] = r at *
      obtain ⟨ev, rest, yes⟩ := r
      dsimp only at hbd
      simp only [perFrom] at hp
      rw [if_pos hok] at hp
      simp only [okRule] at hok
      have hev := fun (R3 : RO) (hle3 : RO.le R2 R3) => by
        have := hle3 _ _ (hle2 _ _ (hle _ _ (hR 0 _ rfl)))
        rwa [Addr.add_zero'] at this
      refine vat ad had ?_
      try simp only [go_sem, ↓reduceIte, Nat.reduceEqDiff, Nat.reduceAdd, Nat.reduceMul, Nat.reduceLeDiff, Nat.reduceLT, Nat.reduceBNe, reduceCtorEq]
      refine vload (.int .i64 ev) (hev _ (RO.le_refl _)) ?_
      simp only [go_sem, ↓reduceIte, Nat.reduceEqDiff, Nat.reduceAdd, Nat.reduceMul, Nat.reduceLeDiff, Nat.reduceLT, Nat.reduceBNe, reduceCtorEq, e6, e5, e1]
      refine ⟨hlt, vat ad had ?_⟩
      try simp only [go_sem, ↓reduceIte, Nat.reduceEqDiff, Nat.reduceAdd, Nat.reduceMul, Nat.reduceLeDiff, Nat.reduceLT, Nat.reduceBNe, reduceCtorEq]
      refine vload (.int .i64 ev) (hev _ (RO.le_refl _)) ?_
      simp only [go_sem, ↓reduceIte, Nat.reduceEqDiff, Nat.reduceAdd, Nat.reduceMul, Nat.reduceLeDiff, Nat.reduceLT, Nat.reduceBNe, reduceCtorEq, e6, e5, e1]
      refine vcall (rGcd y ev hy1 (by omega) (by unfold I64; omega) hbd.1 R2) ?_
      rintro R3 v hle3 rfl
      simp only [go_sem, ↓reduceIte, Nat.reduceEqDiff, Nat.reduceAdd, Nat.reduceMul, Nat.reduceLeDiff, Nat.reduceLT, Nat.reduceBNe, reduceCtorEq, e6, e5, e1]
      have hg := gcd_le_left (a := y) ev hy1
      have hl := lcm_pos hy1 (show 1 ≤ ev by omega)
      have hm := rlcm hy1 (show 1 ≤ ev by omega)
      have hd := tdiv_bd y (Int.gcd y ev) hg.1
      have hl4 : (Int.lcm y ev : Int) ≤ 400 := by
        rcases Int.lt_or_le 400 (Int.lcm y ev : Int) with h9 | h9
        · rw [if_neg (by omega)] at hp; cases hp
        · exact h9
      rw [if_pos hl4] at hp
      refine ⟨by omega, _, W.in64 (by omega), ?_⟩
      rw [hm]
      exact ⟨_, W.in64 (by omega), _, W.in64 (by omega), (k + 1, (Int.lcm y ev : Int)), by dsimp only; omega, ⟨rfl, rfl⟩, by dsimp only; omega, by dsimp only; omega, by dsimp only; omega, by dsimp only; exact hp⟩
    · have : c.rules.drop k = [] := List.drop_eq_nil_of_le (by omega)
      rw [this] at hp
      simp only [perFrom, Option.some.injEq] at hp
      subst hp
      refine vcLoop Nat (fun k => [(8, .val (.int .i64 (k + 1 : Int))), (7, .val (.int .i64 (c.S k))), (5, .val (.int .i64 c.per)), (1, .loc 0 0)])
        (fun _ => [.box [.val (.int .i64 c.epoch), .val (.slice am c.months.length cm), .val (.int .i64 c.leap), .val (.slice ar c.rules.length cr)]])
        (fun k _ => k ≤ c.per) (fun k => c.per.toNat - k) 0 ?_ rfl ?_ ?_
      · simp only [go_sem, ↓reduceIte, Nat.reduceEqDiff, Nat.reduceAdd, Nat.reduceMul, Nat.reduceLeDiff, Nat.reduceLT, Nat.reduceBNe, reduceCtorEq, e5, e1]
        repeat' (first | rfl | constructor)
      · omega
      · rintro k2 env2 R3 hle3 hE hk2
        (simp only [go_sem] at hE; obtain ⟨f8, f7, f5, f1⟩ := hE; simp only [go_sem, ↓reduceIte, Nat.reduceEqDiff, Nat.reduceAdd, Nat.reduceMul, Nat.reduceLeDiff, Nat.reduceLT, Nat.reduceBNe, reduceCtorEq, f8, f7, f5, f1]; dsimp only at *)
        have hS := hv.S_bd k2
        have hyb := hv.ylen_bd (k2 + 1)
        have hS1 : c.S (k2 + 1) = c.S k2 + c.ylen (k2 + 1) := rfl
        refine ⟨fun hlt => ?_, fun hge => ?_⟩
        · refine vcall (rYearLength c _ _ R3 (((h0.mono hle).mono hle2).mono hle3) (k2 + 1) (by unfold I64; omega)) ?_
          rintro R4 v hle4 rfl
          simp only [go_sem, ↓reduceIte, Nat.reduceEqDiff, Nat.reduceAdd, Nat.reduceMul, Nat.reduceLeDiff, Nat.reduceLT, Nat.reduceBNe, reduceCtorEq, f8, f7, f5, f1]
          rw [ylenA, if_pos hv, ← hS1]
          exact ⟨_, W.in64 (by omega), _, W.in64 (by omega), k2 + 1, by omega, ⟨rfl, rfl⟩, by omega⟩
        · have : (k2 : Int) = c.per := by omega
          have e : c.S k2 = c.days := by rw [Cal.days]; congr 1; omega
          rw [e, cycA, if_pos hv]
theorem rStart (c : Cal) (hv : c.valid) (sm sr : Value) (R : RO) (h : CalIn R c sm sr) (y : Int) (hy : 1 ≤ y ∧ y ≤ 10000) : CallsR Try.prog 64 [cv c sm sr, .int .i64 y] R fun _ v => v = .int .i64 (c.first y) := by
  have h0 := h
  obtain ⟨am, cm, rfl, hcm, hfm⟩ := h.m.form
  obtain ⟨ar, cr, rfl, hcr, hfr⟩ := h.r.form
  have hp := hv.per.2.1
  have hd := hv.days_bd
  have he := hv.1
  have hfb := hv.first_bd hy.1 hy.2
  have h1 := Int.ediv_nonneg (show 0 ≤ y - 1 by omega) (show 0 ≤ c.per by omega)
  have h2 := Int.ediv_le_self (a := y - 1) c.per (by omega)
  have h3 : (y - 1) / c.per * c.days ≤ 9999 * 262400 := Int.mul_le_mul (by omega) (by omega) (by omega) (by omega)
  have h4 := Int.mul_nonneg h1 (show 0 ≤ c.days by omega)
  have h5 := Int.mul_nonneg h1 (show 0 ≤ c.per by omega)
  have h6 := Int.ediv_mul_add_emod (y - 1) c.per
  have h7 := Int.emod_nonneg (y - 1) (show c.per ≠ 0 by omega)
  have hq := hv.first_of ((y - 1) / c.per) 0 (by omega)
  have hS0 : c.S 0 = 0 := rfl
  rw [hS0] at hq
  refine callsT mix Try.func64 comp64 (by simp [Try.ntmps64]) ?_; simp only [go_sem, ↓reduceIte, Nat.reduceEqDiff, Nat.reduceAdd, Nat.reduceMul, Nat.reduceLeDiff, Nat.reduceLT, Nat.reduceBNe, reduceCtorEq, vc64, rs64]
  refine vcall (rCycle c _ _ R h) ?_
  rintro R1 v hle rfl
  rw [cycA, if_pos hv]
  try simp only [go_sem, ↓reduceIte, Nat.reduceEqDiff, Nat.reduceAdd, Nat.reduceMul, Nat.reduceLeDiff, Nat.reduceLT, Nat.reduceBNe, reduceCtorEq]
  refine ⟨_, W.in64 (by omega), by omega, ?_⟩
  rw [tdiv_nonneg' (by omega) (by omega)]
  refine ⟨_, W.in64 (by omega), _, W.in64 (by omega), _, W.in64 (by omega), _, W.in64 (by omega), by omega, ?_⟩
  rw [tdiv_nonneg' (by omega) (by omega)]
  refine ⟨_, W.in64 (by omega), _, W.in64 (by omega), _, W.in64 (by omega), ?_⟩
  generalize hY : (y - 1) / c.per * c.per = Y0 at *
  refine vcLoop Int (fun x => [(9, .val (.int .i64 x)), (8, .val (.int .i64 (c.first x))), (1, .val (.int .i64 y)), (2, .loc 0 0)])
    (fun _ => [.box [.val (.int .i64 c.epoch), .val (.slice am c.months.length cm), .val (.int .i64 c.leap), .val (.slice ar c.rules.length cr)]])
    (fun x _ => 1 ≤ x ∧ x ≤ y) (fun x => (y - x).toNat) (Y0 + 1) ?_ rfl ?_ ?_
  · (try simp only [go_sem, ↓reduceIte, Nat.reduceEqDiff, Nat.reduceAdd, Nat.reduceMul, Nat.reduceLeDiff, Nat.reduceLT, Nat.reduceBNe, reduceCtorEq]) <;> (repeat' (first | rfl | trivial | constructor | (intro h; exact absurd rfl h)))
    all_goals
      have : c.epoch + (y - 1) / c.per * c.days = c.first (Y0 + 1) := by
        have e : Y0 + 1 = Y0 + ((0 : Nat) : Int) + 1 := by omega
        rw [e, hq]; omega
      rw [this]
  · omega
  · rintro x env R2 hle2 hE ⟨hx1, hx2⟩
    (simp only [go_sem] at hE; obtain ⟨e9, e8, e1, e2⟩ := hE; simp only [go_sem, ↓reduceIte, Nat.reduceEqDiff, Nat.reduceAdd, Nat.reduceMul, Nat.reduceLeDiff, Nat.reduceLT, Nat.reduceBNe, reduceCtorEq, e9, e8, e1, e2]; dsimp only at *)
    have hfx := hv.first_bd hx1 (by omega)
    have hyb := hv.ylen_bd x
    have hs := hv.first_succ x
    refine ⟨fun hlt => ?_, fun hge => ?_⟩
    · refine vcall (rYearLength c _ _ R2 ((h0.mono hle).mono hle2) x (by unfold I64; omega)) ?_
      rintro R3 v hle3 rfl
      simp only [go_sem, ↓reduceIte, Nat.reduceEqDiff, Nat.reduceAdd, Nat.reduceMul, Nat.reduceLeDiff, Nat.reduceLT, Nat.reduceBNe, reduceCtorEq, e9, e8, e1, e2]
      rw [ylenA, if_pos hv, ← hs]
      exact ⟨_, W.in64 (by omega), _, W.in64 (by omega), x + 1, by omega, ⟨rfl, rfl⟩, by omega⟩
    · have : x = y := by omega
      subst this
      rfl
theorem rDayOf (c : Cal) (sm sr : Value) (R : RO) (h : CalIn R c sm sr) (y m d : Int) (hy : I64 y) (hm : I64 m) (hd : I64 d) :
    CallsR Try.prog 43 [cv c sm sr, dv y m d] R fun _ v => v = .tuple #[.int .i64 (dayV c y m d), .int .i64 (dayE c y m d)] := by
  have h0 := h
  obtain ⟨am, cm, rfl, hcm, hfm⟩ := h.m.form
  obtain ⟨ar, cr, rfl, hcr, hfr⟩ := h.r.form
  refine callsT mix Try.func43 comp43 (by simp [Try.ntmps43]) ?_; simp only [go_sem, ↓reduceIte, Nat.reduceEqDiff, Nat.reduceAdd, Nat.reduceMul, Nat.reduceLeDiff, Nat.reduceLT, Nat.reduceBNe, reduceCtorEq, vc43, rs43]
  refine vcall (rValid c _ _ R h) ?_
  rintro R1 v hle rfl
  try simp only [go_sem, ↓reduceIte, Nat.reduceEqDiff, Nat.reduceAdd, Nat.reduceMul, Nat.reduceLeDiff, Nat.reduceLT, Nat.reduceBNe, reduceCtorEq]
  have err : ∀ e : Int, e ≠ 0 → dayE c y m d = e → Value.tuple #[.int .i64 0, .int .i64 e] = Value.tuple #[.int .i64 (dayV c y m d), .int .i64 (dayE c y m d)] := by
    intro e h0 h1
    simp [dayV, h1, h0]
  refine ⟨fun hv => err 1 (by decide) (by simp [dayE, hv]), fun hv => ⟨fun h1 => ⟨fun h2 => err 2 (by decide) ?_, fun h2 => ?_⟩, fun h1 => err 2 (by decide) ?_⟩⟩
  · simp only [dayE]; rw [if_neg (by simpa using hv), if_pos (by omega)]
  · have hE : dayE c y m d = if ¬ c.has m d y then 4 else 0 := by
      simp only [dayE]; rw [if_neg (by simpa using hv), if_neg (by omega)]
    have hhas : c.has m d y ↔ 1 ≤ d ∧ d ≤ mlenA c y m := by
      unfold Cal.has mlenA
      by_cases hmm : 1 ≤ m ∧ m ≤ c.months.length
      · rw [if_pos ⟨hv, hmm⟩]
        exact ⟨fun h => ⟨h.2.2.1, h.2.2.2⟩, fun h => ⟨hmm.1, hmm.2, h.1, h.2⟩⟩
      · rw [if_neg (fun h => hmm h.2)]
        exact ⟨fun h => absurd ⟨h.1, h.2.1⟩ hmm, fun h => by omega⟩
    refine ⟨fun h3 => ?_, fun h3 => err 4 (by decide) (by rw [hE, if_pos (fun h => by have := hhas.1 h; omega)])⟩
    refine vcall (rMonthLength c _ _ R1 (h0.mono hle) y m hy hm) ?_
    rintro R2 v hle2 rfl
    try simp only [go_sem, ↓reduceIte, Nat.reduceEqDiff, Nat.reduceAdd, Nat.reduceMul, Nat.reduceLeDiff, Nat.reduceLT, Nat.reduceBNe, reduceCtorEq]
    refine ⟨fun h4 => err 4 (by decide) (by rw [hE, if_pos (fun h => by have := hhas.1 h; omega)]), fun h4 => ?_⟩
    have hh := hhas.2 ⟨by omega, by omega⟩
    have hE0 : dayE c y m d = 0 := by rw [hE, if_neg (fun h => h hh)]
    have hV : dayV c y m d = c.beg y (m - 1).toNat + d - 1 := by rw [dayV, if_pos hE0]
    rw [hE0, hV]
    have hfb := hv.first_bd (y := y) (by omega) (by omega)
    have he := hv.1
    have hml := hv.2.1
    obtain ⟨hm1, hm2, hd1, hd2⟩ := hh
    have hmb := hv.mlen_bd y (show (m - 1).toNat < c.months.length by omega)
    refine vcall (rStart c hv _ _ R2 ((h0.mono hle).mono hle2) y (by omega)) ?_
    rintro R3 v hle3 rfl
    try simp only [go_sem, ↓reduceIte, Nat.reduceEqDiff, Nat.reduceAdd, Nat.reduceMul, Nat.reduceLeDiff, Nat.reduceLT, Nat.reduceBNe, reduceCtorEq]
    refine vcLoop Nat (fun k => [(7, .val (.int .i64 (k + 1 : Int))), (6, .val (.int .i64 (c.beg y k))), (2, .loc 0 0), (3, .loc 1 0)])
      (fun _ => [.box [.val (.int .i64 c.epoch), .val (.slice am c.months.length cm), .val (.int .i64 c.leap), .val (.slice ar c.rules.length cr)], .box [.val (.int .i64 y), .val (.int .i64 m), .val (.int .i64 d)]])
      (fun k _ => (k : Int) ≤ m - 1) (fun k => (m - 1).toNat - k) 0 ?_ rfl ?_ ?_
    · (try simp only [go_sem, ↓reduceIte, Nat.reduceEqDiff, Nat.reduceAdd, Nat.reduceMul, Nat.reduceLeDiff, Nat.reduceLT, Nat.reduceBNe, reduceCtorEq]) <;> (repeat' (first | rfl | trivial | constructor | (intro h; exact absurd rfl h)))
      simp [Cal.beg, sumTo]
    · omega
    · clear hE
      rintro k env R4 hle4 hE hk
      (simp only [go_sem] at hE; obtain ⟨e7, e6, e2, e3⟩ := hE; simp only [go_sem, ↓reduceIte, Nat.reduceEqDiff, Nat.reduceAdd, Nat.reduceMul, Nat.reduceLeDiff, Nat.reduceLT, Nat.reduceBNe, reduceCtorEq, e7, e6, e2, e3]; dsimp only at *)
      have hs := sumTo_bd (f := c.mlen y) (a := 1) (b := 41) k (fun i hi => hv.mlen_bd y (by omega))
      have hb : c.beg y k = c.first y + sumTo (c.mlen y) k := rfl
      have hb1 : c.beg y (k + 1) = c.beg y k + c.mlen y k := by simp only [Cal.beg, sumTo]; omega
      refine ⟨fun hlt => ?_, fun hge => ?_⟩
      · have hmk := hv.mlen_bd y (show k < c.months.length by omega)
        refine vcall (rMonthLength c _ _ R4 ((((h0.mono hle).mono hle2).mono hle3).mono hle4) y (k + 1) hy (by unfold I64; omega)) ?_
        rintro R5 v hle5 rfl
        simp only [go_sem, ↓reduceIte, Nat.reduceEqDiff, Nat.reduceAdd, Nat.reduceMul, Nat.reduceLeDiff, Nat.reduceLT, Nat.reduceBNe, reduceCtorEq, e7, e6, e2, e3]
        have hA : mlenA c y (k + 1) = c.mlen y k := by
          rw [mlenA, if_pos ⟨hv, by omega, by omega⟩]
          congr 1
          omega
        rw [hA, ← hb1]
        exact ⟨_, W.in64 (by omega), _, W.in64 (by omega), k + 1, by omega, ⟨rfl, rfl⟩, by omega⟩
      · have : (m - 1).toNat = k := by omega
        rw [this]
        exact ⟨_, W.in64 (by omega), _, W.in64 (by omega), rfl⟩
  · simp only [dayE]; rw [if_neg (by simpa using hv), if_pos (by omega)]
end Go.Proofs.Ytpbnjoopgignoaa
