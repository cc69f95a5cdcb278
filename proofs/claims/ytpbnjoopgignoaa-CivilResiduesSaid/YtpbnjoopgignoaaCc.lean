/- Contracts of package civil's almanac: first days, the opening of an almanac. -/
import Derived.Test.YtpbnjoopgignoaaCb
namespace Go.Proofs.Ytpbnjoopgignoaa
set_option linter.unusedSimpArgs false
set_option linter.unusedVariables false
open Go.RowKit Go.Proofs.Ytpbnjoopgignoaa.Vc

theorem Cal.starts_len (c : Cal) : c.starts.length = c.per.toNat + 1 := by simp [Cal.starts]
theorem Cal.starts_get (c : Cal) (i : Nat) (h : i < c.starts.length) : c.starts[i] = c.S i := by simp [Cal.starts]
theorem Cal.valid.days_bd {c : Cal} (h : c.valid) : c.per ≤ c.days ∧ c.days ≤ 262400 := by
  have := h.S_bd c.per.toNat
  have := h.per.2.1
  unfold Cal.days
  omega
theorem cFirst (c : Cal) (hv : c.valid) (sm sr st : Value) (R : RO) (hst : Ints R st c.starts) (y : Int) (hy : 1 ≤ y ∧ y ≤ 10000) : CallsR Try.prog 55 [av c sm sr st, .int .i64 y] R fun _ v => v = .int .i64 (c.first y) := by
  have hp := hv.per.2.1
  have hd := hv.days_bd
  have he := hv.1
  have hfb := hv.first_bd hy.1 hy.2
  obtain ⟨a, cap, rfl, hc, hf⟩ := hst.form
  have hlen := c.starts_len
  have h0 := Int.emod_nonneg (y - 1) (show c.per ≠ 0 by omega)
  have h1 := Int.emod_lt_of_pos (y - 1) (show 0 < c.per by omega)
  have h2 := Int.ediv_nonneg (show 0 ≤ y - 1 by omega) (show 0 ≤ c.per by omega)
  have h3 := Int.ediv_le_self (a := y - 1) c.per (by omega)
  obtain ⟨ad, had, hR⟩ := hf ((y - 1) % c.per).toNat (by omega)
  have hS := hv.S_bd ((y - 1) % c.per).toNat
  have hm : (y - 1) / c.per * c.days ≤ 9999 * 262400 := Int.mul_le_mul (by omega) (by omega) (by omega) (by omega)
  have hm0 := Int.mul_nonneg h2 (show 0 ≤ c.days by omega)
  refine callsT mix Try.func55 comp55 (by simp [Try.ntmps55]) ?_; simp only [go_sem, ↓reduceIte, Nat.reduceEqDiff, Nat.reduceAdd, Nat.reduceMul, Nat.reduceLeDiff, Nat.reduceLT, Nat.reduceBNe, reduceCtorEq, vc55, rs55]
  refine vcall (cCycle c hv _ _ _ R hst) ?_
  rintro R1 v hle rfl
  try simp only [go_sem, ↓reduceIte, Nat.reduceEqDiff, Nat.reduceAdd, Nat.reduceMul, Nat.reduceLeDiff, Nat.reduceLT, Nat.reduceBNe, reduceCtorEq]
  refine ⟨_, W.in64 (by omega), by omega, ?_⟩
  rw [tdiv_nonneg' (by omega) (by omega)]
  refine ⟨_, W.in64 (by omega), _, W.in64 (by omega), _, W.in64 (by omega), _, W.in64 (by omega), by omega, ?_⟩
  rw [tmod_nonneg' (by omega)]
  refine ⟨by omega, by omega, vat ad had ?_⟩
  try simp only [go_sem, ↓reduceIte, Nat.reduceEqDiff, Nat.reduceAdd, Nat.reduceMul, Nat.reduceLeDiff, Nat.reduceLT, Nat.reduceBNe, reduceCtorEq]
  refine vload _ (hle _ _ hR) ?_
  rw [c.starts_get]
  try simp only [go_sem, ↓reduceIte, Nat.reduceEqDiff, Nat.reduceAdd, Nat.reduceMul, Nat.reduceLeDiff, Nat.reduceLT, Nat.reduceBNe, reduceCtorEq]
  exact ⟨_, W.in64 (by omega), rfl⟩
theorem cBegin (c : Cal) (hv : c.valid) (sm sr st : Value) (R : RO) (h : CalIn R c sm sr) (hst : Ints R st c.starts) (y : Int) (hy : 1 ≤ y ∧ y ≤ 10000) (m : Nat) (hm : m < c.months.length) :
    CallsR Try.prog 50 [av c sm sr st, .int .i64 y, .int .i64 (m + 1 : Int)] R fun _ v => v = .int .i64 (c.beg y m) := by
  have hfb := hv.first_bd hy.1 hy.2
  have he := hv.1
  have hml := hv.2.1.2
  refine callsT mix Try.func50 comp50 (by simp [Try.ntmps50]) ?_; simp only [go_sem, ↓reduceIte, Nat.reduceEqDiff, Nat.reduceAdd, Nat.reduceMul, Nat.reduceLeDiff, Nat.reduceLT, Nat.reduceBNe, reduceCtorEq, vc50, rs50]
  refine vcall (cFirst c hv _ _ _ R hst y hy) ?_
  rintro R1 v hle rfl
  try simp only [go_sem, ↓reduceIte, Nat.reduceEqDiff, Nat.reduceAdd, Nat.reduceMul, Nat.reduceLeDiff, Nat.reduceLT, Nat.reduceBNe, reduceCtorEq]
  refine vcLoop Nat (fun k => [(8, .val (.int .i64 (k + 1 : Int))), (7, .val (.int .i64 (c.beg y k))), (2, .val (.int .i64 (m + 1 : Int))), (1, .val (.int .i64 y)), (3, .loc 0 0)])
    (fun _ => [.box [.val (.int .i64 c.epoch), .val sm, .val (.int .i64 c.leap), .val sr, .val st]]) (fun k _ => k ≤ m) (fun k => m - k) 0 ?_ rfl ?_ ?_
  · (try simp only [go_sem, ↓reduceIte, Nat.reduceEqDiff, Nat.reduceAdd, Nat.reduceMul, Nat.reduceLeDiff, Nat.reduceLT, Nat.reduceBNe, reduceCtorEq]) <;> (repeat' (first | rfl | trivial | constructor | (intro h; exact absurd rfl h)))
    simp [Cal.beg, sumTo]
  · omega
  · rintro k env R2 hle2 hE hk
    have hs := sumTo_bd (f := c.mlen y) (a := 1) (b := 41) k (fun i hi => hv.mlen_bd y (by omega))
    have hb : c.beg y k = c.first y + sumTo (c.mlen y) k := rfl
    have hb1 : c.beg y (k + 1) = c.beg y k + c.mlen y k := by simp only [Cal.beg, sumTo]; omega
    (simp only [go_sem] at hE; obtain ⟨e8, e7, e2, e1, e3⟩ := hE; simp only [go_sem, ↓reduceIte, Nat.reduceEqDiff, Nat.reduceAdd, Nat.reduceMul, Nat.reduceLeDiff, Nat.reduceLT, Nat.reduceBNe, reduceCtorEq, e8, e7, e2, e1, e3]; dsimp only at *)
    refine ⟨fun hlt => ?_, fun hge => ?_⟩
    · refine vcall (cMonth c hv _ _ _ R2 ((h.mono hle).mono hle2) y (by unfold I64; omega) k (by omega)) ?_
      rintro R3 v hle3 rfl
      simp only [go_sem, ↓reduceIte, Nat.reduceEqDiff, Nat.reduceAdd, Nat.reduceMul, Nat.reduceLeDiff, Nat.reduceLT, Nat.reduceBNe, reduceCtorEq, e8, e7, e2, e1, e3]
      have hb2 := hv.mlen_bd y (show k < c.months.length by omega)
      rw [← hb1]
      exact ⟨_, W.in64 (by omega), _, W.in64 (by omega), k + 1, by omega, ⟨by congr 2, rfl⟩, by omega⟩
    · have : k = m := by omega
      subst this
      rfl
def Cal.scells (c : Cal) (k : Nat) : List Value := ((List.range (k + 1)).map c.S).map (.int .i64)
theorem Cal.scells_len (c : Cal) (k : Nat) : (c.scells k).length = k + 1 := by simp [Cal.scells]
theorem Cal.scells_succ (c : Cal) (k : Nat) : c.scells k ++ [.int .i64 (c.S (k + 1))] = c.scells (k + 1) := by simp [Cal.scells, List.range_succ]
theorem Cal.scells_get (c : Cal) (k : Nat) : (c.scells k)[k]? = some (.int .i64 (c.S k)) := by simp [Cal.scells]
/-- What open answers: at a valid calendar the almanac; at another nothing. -/
def OpenP (c : Cal) (sm sr : Value) (R : RO) (v : Value) : Prop :=
  (¬ c.valid ∧ v = .tuple #[.agg #[.int .i64 0, .slice none 0 0, .int .i64 0, .slice none 0 0, .slice none 0 0], .bool false]) ∨
    (c.valid ∧ ∃ a cap, v = .tuple #[av c sm sr (.slice a c.starts.length cap), .bool true] ∧ Ints R (.slice a c.starts.length cap) c.starts)
theorem cOpen (c : Cal) (sm sr : Value) (R : RO) (h : CalIn R c sm sr) : CallsR Try.prog 48 [cv c sm sr] R fun R' v => OpenP c sm sr R' v := by
  obtain ⟨am, cm, rfl, hcm, hfm⟩ := h.m.form
  obtain ⟨ar, cr, rfl, hcr, hfr⟩ := h.r.form
  refine callsT mix Try.func48 comp48 (by simp [Try.ntmps48]) ?_; simp only [go_sem, ↓reduceIte, Nat.reduceEqDiff, Nat.reduceAdd, Nat.reduceMul, Nat.reduceLeDiff, Nat.reduceLT, Nat.reduceBNe, reduceCtorEq, vc48, rs48]
  refine vcall (cValid c _ _ R h) ?_
  rintro R1 v hle rfl
  try simp only [go_sem, ↓reduceIte, Nat.reduceEqDiff, Nat.reduceAdd, Nat.reduceMul, Nat.reduceLeDiff, Nat.reduceLT, Nat.reduceBNe, reduceCtorEq]
  refine ⟨fun hv => ?_, fun hv => ?_⟩
  · exact .inl ⟨hv, rfl⟩
  · have hp := hv.per
    refine vcall (cPeriod c.rules _ R1 (h.r.mono hle)) ?_
    rintro R2 v hle2 rfl
    rw [hp.1]
    simp only [go_sem, ↓reduceIte, Nat.reduceEqDiff, Nat.reduceAdd, Nat.reduceMul, Nat.reduceLeDiff, Nat.reduceLT, Nat.reduceBNe, reduceCtorEq, Option.getD_some, Option.isSome_some]
    refine ⟨_, W.in64 (by omega), by omega, by omega, by omega, ?_⟩
    simp only [go_sem, ↓reduceIte, Nat.reduceEqDiff, Nat.reduceAdd, Nat.reduceMul, Nat.reduceLeDiff, Nat.reduceLT, Nat.reduceBNe, reduceCtorEq, Int.toNat_one]
    intro b cap R3 hle3 hrow hcap hfresh
    try simp only [go_sem, ↓reduceIte, Nat.reduceEqDiff, Nat.reduceAdd, Nat.reduceMul, Nat.reduceLeDiff, Nat.reduceLT, Nat.reduceBNe, reduceCtorEq]
    refine vcLoop (Nat × Nat × Nat) (fun x => [(23, .val (.int .i64 c.per)), (24, .val (.int .i64 x.1)), (6, .loc 3 0), (2, .loc 1 0)])
      (fun x => [.box [.val (.int .i64 c.epoch), .val (.slice am c.months.length cm), .val (.int .i64 c.leap), .val (.slice ar c.rules.length cr)],
        .box [.val (.int .i64 0), .val (.slice none 0 0), .val (.int .i64 0), .val (.slice none 0 0), .val (.slice none 0 0)],
        .shr x.2.1 x.2.2 3 1 (c.scells x.1),
        .box [.val (.int .i64 c.epoch), .val (.slice am c.months.length cm), .val (.int .i64 c.leap), .val (.slice ar c.rules.length cr), .val (.slice (some ⟨x.2.1, 0, none⟩) (x.1 + 1) x.2.2)]])
      (fun x R => x.1 ≤ c.per.toNat ∧ RowIn R x.2.1 (c.scells x.1) ∧ x.1 + 1 ≤ x.2.2) (fun x => c.per.toNat - x.1) (0, b, cap) ?_ rfl ?_ ?_
    · (try simp only [go_sem, ↓reduceIte, Nat.reduceEqDiff, Nat.reduceAdd, Nat.reduceMul, Nat.reduceLeDiff, Nat.reduceLT, Nat.reduceBNe, reduceCtorEq]) <;> (repeat' (first | rfl | trivial | constructor | (intro h; exact absurd rfl h)))
    · exact ⟨by omega, hrow, hcap⟩
    · rintro ⟨k, b, cap⟩ env R4 hle4 hE ⟨hk, hrow, hcap⟩
      (simp only [go_sem] at hE; obtain ⟨e23, e24, e6, e2⟩ := hE; simp only [go_sem, ↓reduceIte, Nat.reduceEqDiff, Nat.reduceAdd, Nat.reduceMul, Nat.reduceLeDiff, Nat.reduceLT, Nat.reduceBNe, reduceCtorEq, e23, e24, e6, e2]; dsimp only at *)
      have hlen := c.scells_len k
      have hS := hv.S_bd k
      have hS1 : c.S (k + 1) = c.S k + c.ylen (k + 1) := rfl
      refine ⟨fun hlt => ⟨by omega, ?_⟩, fun hge => ?_⟩
      · refine vload (.int .i64 (c.S k)) ?_ ?_
        · exact hrow k _ (c.scells_get k)
        · simp only [go_sem, ↓reduceIte, Nat.reduceEqDiff, Nat.reduceAdd, Nat.reduceMul, Nat.reduceLeDiff, Nat.reduceLT, Nat.reduceBNe, reduceCtorEq, e23, e24, e6, e2]
          refine ⟨_, W.in64 (by omega), ?_⟩
          refine vcall (cYear c hv _ _ _ R4 ((((h.mono hle).mono hle2).mono hle3).mono hle4) (k + 1) (by unfold I64; omega)) ?_
          rintro R5 v hle5 rfl
          have hb := hv.ylen_bd (k + 1)
          have hml := hv.2.1
          simp only [go_sem, ↓reduceIte, Nat.reduceEqDiff, Nat.reduceAdd, Nat.reduceMul, Nat.reduceLeDiff, Nat.reduceLT, Nat.reduceBNe, reduceCtorEq, e23, e24, e6, e2]
          refine ⟨_, W.in64 (by omega), ?_⟩
          rw [← hS1]
          refine vapp 2 (c.scells k) rfl rfl rfl (by omega) (by omega) ?_
          rw [c.scells_succ]
          intro b' cap' R6 hle6 hrow6 hcap6
          rw [c.scells_len] at hcap6
          simp only [go_sem, ↓reduceIte, Nat.reduceEqDiff, Nat.reduceAdd, Nat.reduceMul, Nat.reduceLeDiff, Nat.reduceLT, Nat.reduceBNe, reduceCtorEq, e23, e24, e6, e2]
          refine ⟨_, W.in64 (by omega), (k + 1, b', cap'), by dsimp only; omega, ⟨rfl, ⟨rfl, rfl, rfl⟩, rfl⟩, by dsimp only; omega, hrow6, by dsimp only; omega⟩
      · have : k = c.per.toNat := by omega
        subst this
        have := RowIn.ints (cap := cap) (xs := c.starts) hrow (by rw [c.starts_len]; omega)
        exact .inr ⟨hv, some ⟨b, 0, none⟩, cap, by rw [c.starts_len], this⟩
end Go.Proofs.Ytpbnjoopgignoaa
