/- Contracts of the reference's functions: the n-th weekday. -/
import Derived.Test.YtpbnjoopgignoaaRc
namespace Go.Proofs.Ytpbnjoopgignoaa
set_option linter.unusedSimpArgs false
set_option linter.unusedVariables false
open Go.RowKit Go.Proofs.Ytpbnjoopgignoaa.Vc

theorem rNth (c : Cal) (sm sr : Value) (R : RO) (h : CalIn R c sm sr) (y m d w n : Int) (hy : I64 y) (hm : I64 m) (hn : I64 n) :
    CallsR Try.prog 46 [cv c sm sr, dv y m d, .int .i64 w, .int .i64 n] R fun _ v => v = .tuple #[.int .i64 (nthV c y m w n), .int .i64 (nthE c y m w n)] := by
  have h0 := h
  obtain ⟨am, cm, rfl, hcm, hfm⟩ := h.m.form
  obtain ⟨ar, cr, rfl, hcr, hfr⟩ := h.r.form
  have err : ∀ e : Int, e ≠ 0 → nthE c y m w n = e → Value.tuple #[.int .i64 0, .int .i64 e] = Value.tuple #[.int .i64 (nthV c y m w n), .int .i64 (nthE c y m w n)] := by
    intro e h0 h1
    simp [nthV, h1, h0]
  refine callsT mix Try.func46 comp46 (by simp [Try.ntmps46]) ?_; simp only [go_sem, ↓reduceIte, Nat.reduceEqDiff, Nat.reduceAdd, Nat.reduceMul, Nat.reduceLeDiff, Nat.reduceLT, Nat.reduceBNe, reduceCtorEq, vc46, rs46]
  refine vcall (rValid c _ _ R h) ?_
  rintro R1 v hle rfl
  try simp only [go_sem, ↓reduceIte, Nat.reduceEqDiff, Nat.reduceAdd, Nat.reduceMul, Nat.reduceLeDiff, Nat.reduceLT, Nat.reduceBNe, reduceCtorEq]
  refine ⟨fun hv => ⟨fun h1 => ⟨fun h2 => ⟨fun h3 => err 1 (by decide) (by rw [nthE, if_pos (by omega)]), fun h3 => ?_⟩, fun h2 => err 1 (by decide) (by rw [nthE, if_pos (by omega)])⟩, fun h1 => err 1 (by decide) (by rw [nthE, if_pos (by omega)])⟩, fun hv => err 1 (by decide) (by simp [nthE, hv])⟩
  have hn1 : ¬ (¬ c.valid ∨ w < 0 ∨ 7 ≤ w ∨ n = 0) := fun h => by rcases h with h | h; exact h hv; omega
  refine ⟨fun h4 => ⟨fun h5 => err 2 (by decide) (by rw [nthE, if_neg hn1, if_pos (by omega)]), fun h5 => ?_⟩, fun h4 => err 2 (by decide) (by rw [nthE, if_neg hn1, if_pos (by omega)])⟩
  refine ⟨fun h6 => ⟨fun h7 => err 4 (by decide) (by rw [nthE, if_neg hn1, if_neg (by omega), if_pos (by omega)]), fun h7 => ?_⟩, fun h6 => err 4 (by decide) (by rw [nthE, if_neg hn1, if_neg (by omega), if_pos (by omega)])⟩
  have hE' : nthE c y m w n = if nthOk (spanA c y m) (spanL c y m) w n then 0 else 4 := by rw [nthE, if_neg hn1, if_neg (by omega), if_neg (by omega)]
  have he := hv.1
  have hml := hv.2.1
  have hfb := hv.first_bd (y := y) (by omega) (by omega)
  have hyb := hv.ylen_bd y
  have hcal := h0.mono hle
  refine vcall (rStart c hv _ _ R1 hcal y (by omega)) ?_
  rintro R2 v hle2 rfl
  try simp only [go_sem, ↓reduceIte, Nat.reduceEqDiff, Nat.reduceAdd, Nat.reduceMul, Nat.reduceLeDiff, Nat.reduceLT, Nat.reduceBNe, reduceCtorEq]
  refine vcall (rYearLength c _ _ R2 (hcal.mono hle2) y hy) ?_
  rintro R3 v hle3 rfl
  try simp only [go_sem, ↓reduceIte, Nat.reduceEqDiff, Nat.reduceAdd, Nat.reduceMul, Nat.reduceLeDiff, Nat.reduceLT, Nat.reduceBNe, reduceCtorEq]
  unfold I64 at hn
  have hcal3 := (hcal.mono hle2).mono hle3
  have hyl : ylenA c y = c.ylen y := by rw [ylenA, if_pos hv]
  rw [hyl]
  refine ⟨fun h8 => ?_, fun h8 => ?_⟩
  · refine vcall (rMonthLength c _ _ R3 hcal3 y m hy hm) ?_
    rintro R4 v hle4 rfl
    try simp only [go_sem, ↓reduceIte, Nat.reduceEqDiff, Nat.reduceAdd, Nat.reduceMul, Nat.reduceLeDiff, Nat.reduceLT, Nat.reduceBNe, reduceCtorEq]
    have hmm : mlenA c y m = c.mlen y (m - 1).toNat := by rw [mlenA, if_pos ⟨hv, by omega, by omega⟩]
    rw [hmm]
    refine vcLoop Nat (fun k => [(12, .val (.int .i64 (k + 1 : Int))), (10, .val (.int .i64 (c.beg y k))), (11, .val (.int .i64 (c.mlen y (m - 1).toNat))), (3, .val (.int .i64 n)), (2, .val (.int .i64 w)), (4, .loc 0 0), (5, .loc 1 0)])
      (fun _ => [.box [.val (.int .i64 c.epoch), .val (.slice am c.months.length cm), .val (.int .i64 c.leap), .val (.slice ar c.rules.length cr)], .box [.val (.int .i64 y), .val (.int .i64 m), .val (.int .i64 d)]])
      (fun k _ => (k : Int) ≤ m - 1) (fun k => (m - 1).toNat - k) 0 ?_ rfl ?_ ?_
    · (try simp only [go_sem, ↓reduceIte, Nat.reduceEqDiff, Nat.reduceAdd, Nat.reduceMul, Nat.reduceLeDiff, Nat.reduceLT, Nat.reduceBNe, reduceCtorEq]) <;> (repeat' (first | rfl | trivial | constructor | (intro h; exact absurd rfl h)))
      simp [Cal.beg, sumTo]
    · omega
    · rintro k env R5 hle5 hE hk
      (simp only [go_sem] at hE; obtain ⟨e12, e10, e11, e3, e2, e4, e5⟩ := hE; simp only [go_sem, ↓reduceIte, Nat.reduceEqDiff, Nat.reduceAdd, Nat.reduceMul, Nat.reduceLeDiff, Nat.reduceLT, Nat.reduceBNe, reduceCtorEq, e12, e10, e11, e3, e2, e4, e5]; dsimp only at *)
      have hs := sumTo_bd (f := c.mlen y) (a := 1) (b := 41) k (fun i hi => hv.mlen_bd y (by omega))
      have hb : c.beg y k = c.first y + sumTo (c.mlen y) k := rfl
      have hb1 : c.beg y (k + 1) = c.beg y k + c.mlen y k := by simp only [Cal.beg, sumTo]; omega
      refine ⟨fun hlt => ?_, fun hge => ?_⟩
      · have hmk := hv.mlen_bd y (show k < c.months.length by omega)
        refine vcall (rMonthLength c _ _ R5 ((hcal3.mono hle4).mono hle5) y (k + 1) hy (by unfold I64; omega)) ?_
        rintro R6 v hle6 rfl
        simp only [go_sem, ↓reduceIte, Nat.reduceEqDiff, Nat.reduceAdd, Nat.reduceMul, Nat.reduceLeDiff, Nat.reduceLT, Nat.reduceBNe, reduceCtorEq, e12, e10, e11, e3, e2, e4, e5]
        have hA : mlenA c y (k + 1) = c.mlen y k := by
          rw [mlenA, if_pos ⟨hv, by omega, by omega⟩]
          congr 1
          omega
        rw [hA, ← hb1]
        exact ⟨_, W.in64 (by omega), _, W.in64 (by omega), k + 1, by omega, ⟨rfl, rfl⟩, by omega⟩
      · have hkm : (m - 1).toNat = k := by omega
        have hA : spanA c y m = c.beg y k := by rw [spanA, if_pos h8, hkm]
        have hL : spanL c y m = c.mlen y k := by rw [spanL, if_pos h8, hkm]
        have hmb := hv.mlen_bd y (show k < c.months.length by omega)
        rw [hkm] at e11
        have hA0 : 0 ≤ c.beg y k ∧ c.beg y k ≤ 7800000 := by omega
        have hL0 : 1 ≤ c.mlen y k ∧ c.mlen y k ≤ 656 := by omega
        clear hs hb hb1 hmb hmm
        generalize c.beg y k = A at hA hA0 e10 ⊢
        generalize c.mlen y k = L at hL hL0 e11 ⊢
        have fin : ∀ D : Int, nthDay A L w n = D → n ≤ L → -L ≤ n → A ≤ D → D < A + L → Value.tuple #[.int .i64 D, .int .i64 0] = Value.tuple #[.int .i64 (nthV c y m w n), .int .i64 (nthE c y m w n)] := by
          rintro D rfl g1 g2 g3 g4
          have : nthE c y m w n = 0 := by rw [hE', hA, hL, if_pos ⟨by omega, by omega, by omega, by omega⟩]
          simp [nthV, this, hA, hL]
        rcases Int.lt_or_le n 0 with hn0 | hn0
        · refine vcLoop (Nat × Nat) (fun x => [(13, .val (.int .i64 x.1)), (10, .val (.int .i64 A)), (11, .val (.int .i64 L)), (3, .val (.int .i64 (n + x.2))), (2, .val (.int .i64 w))]) (fun _ => [])
            (fun x _ => (x.1 : Int) ≤ L ∧ n + x.2 < 0 ∧ (x.2 = 0 ∨ (A + L - 1 - w) % 7 + 7 * ((x.2 : Int) - 1) < x.1) ∧ (x.1 : Int) ≤ (A + L - 1 - w) % 7 + 7 * x.2) (fun x => L.toNat - x.1) (0, 0) ?_ rfl ?_ ?_
          · simp only [go_sem, ↓reduceIte, Nat.reduceEqDiff, Nat.reduceAdd, Nat.reduceMul, Nat.reduceLeDiff, Nat.reduceLT, Nat.reduceBNe, reduceCtorEq, e10, e11, e3, e2]
            repeat' (first | rfl | constructor)
            try simp
          · dsimp only; omega
          · rintro ⟨i, j⟩ env' R' hle' hE ⟨hi, hj, hlo, hhi⟩
            (simp only [go_sem] at hE; obtain ⟨g13, g10, g11, g3, g2⟩ := hE; simp only [go_sem, ↓reduceIte, Nat.reduceEqDiff, Nat.reduceAdd, Nat.reduceMul, Nat.reduceLeDiff, Nat.reduceLT, Nat.reduceBNe, reduceCtorEq, g13, g10, g11, g3, g2]; dsimp only at *)
            refine ⟨fun hlt => ⟨_, W.in64 (by omega), fun hneg => ⟨_, W.in64 (by omega), _, W.in64 (by omega), _, W.in64 (by omega), ?_⟩, fun hneg => by omega⟩, fun hge => ?_⟩
            · refine vcall (rWeekday _ (by unfold I64; omega) R') ?_
              rintro R'' v hle'' rfl
              simp only [go_sem, ↓reduceIte, Nat.reduceEqDiff, Nat.reduceAdd, Nat.reduceMul, Nat.reduceLeDiff, Nat.reduceLT, Nat.reduceBNe, reduceCtorEq, g13, g10, g11, g3, g2]
              refine ⟨fun hne => ⟨_, W.in64 (by omega), (i + 1, j), by dsimp only; omega, ⟨rfl, rfl⟩, by dsimp only; omega, by dsimp only; omega, by dsimp only; omega, by dsimp only; omega⟩, fun heq => ⟨fun h1 => ⟨fun h2 => ?_, fun h2 => ⟨fun h3 => by omega, fun h3 => ⟨_, W.in64 (by omega), _, W.in64 (by omega), (i + 1, j + 1), by dsimp only; omega, ⟨rfl, ?_⟩, by dsimp only; omega, by dsimp only; omega, by dsimp only; omega, by dsimp only; omega⟩⟩⟩, fun h1 => by omega⟩⟩
              · refine fin _ (by rw [nthDay, if_pos hn0]; omega) (by omega) (by omega) (by omega) (by omega)
              · congr 2; push_cast; omega
            · exact err 4 (by decide) (by rw [hE', hA, hL, if_neg (fun h => by have := h.2.2; rw [nthDay, if_pos hn0] at this; omega)])
        · refine vcLoop (Nat × Nat) (fun x => [(13, .val (.int .i64 x.1)), (10, .val (.int .i64 A)), (11, .val (.int .i64 L)), (3, .val (.int .i64 (n - x.2))), (2, .val (.int .i64 w))]) (fun _ => [])
            (fun x _ => (x.1 : Int) ≤ L ∧ 0 < n - x.2 ∧ (x.2 = 0 ∨ (w - A) % 7 + 7 * ((x.2 : Int) - 1) < x.1) ∧ (x.1 : Int) ≤ (w - A) % 7 + 7 * x.2) (fun x => L.toNat - x.1) (0, 0) ?_ rfl ?_ ?_
          · simp only [go_sem, ↓reduceIte, Nat.reduceEqDiff, Nat.reduceAdd, Nat.reduceMul, Nat.reduceLeDiff, Nat.reduceLT, Nat.reduceBNe, reduceCtorEq, e10, e11, e3, e2]
            repeat' (first | rfl | constructor)
            try simp
          · dsimp only; omega
          · rintro ⟨i, j⟩ env' R' hle' hE ⟨hi, hj, hlo, hhi⟩
            (simp only [go_sem] at hE; obtain ⟨g13, g10, g11, g3, g2⟩ := hE; simp only [go_sem, ↓reduceIte, Nat.reduceEqDiff, Nat.reduceAdd, Nat.reduceMul, Nat.reduceLeDiff, Nat.reduceLT, Nat.reduceBNe, reduceCtorEq, g13, g10, g11, g3, g2]; dsimp only at *)
            refine ⟨fun hlt => ⟨_, W.in64 (by omega), fun hneg => by omega, fun hneg => ?_⟩, fun hge => ?_⟩
            · refine vcall (rWeekday _ (by unfold I64; omega) R') ?_
              rintro R'' v hle'' rfl
              simp only [go_sem, ↓reduceIte, Nat.reduceEqDiff, Nat.reduceAdd, Nat.reduceMul, Nat.reduceLeDiff, Nat.reduceLT, Nat.reduceBNe, reduceCtorEq, g13, g10, g11, g3, g2]
              refine ⟨fun hne => ⟨_, W.in64 (by omega), (i + 1, j), by dsimp only; omega, ⟨rfl, rfl⟩, by dsimp only; omega, by dsimp only; omega, by dsimp only; omega, by dsimp only; omega⟩, fun heq => ⟨fun h1 => ⟨fun h2 => by omega, fun h2 => ⟨fun h3 => ⟨_, W.in64 (by omega), _, W.in64 (by omega), (i + 1, j + 1), by dsimp only; omega, ⟨rfl, ?_⟩, by dsimp only; omega, by dsimp only; omega, by dsimp only; omega, by dsimp only; omega⟩, fun h3 => by omega⟩⟩, fun h1 => ?_⟩⟩
              · congr 2; push_cast; omega
              · refine fin _ (by rw [nthDay, if_neg (by omega)]; omega) (by omega) (by omega) (by omega) (by omega)
            · exact err 4 (by decide) (by rw [hE', hA, hL, if_neg (fun h => by have := h.2.2; rw [nthDay, if_neg (by omega)] at this; omega)])
  · have hA : spanA c y m = c.first y := by rw [spanA, if_neg h8]
    have hL : spanL c y m = c.ylen y := by rw [spanL, if_neg h8]
    have hA0 : 0 ≤ c.first y ∧ c.first y ≤ 7800000 := by omega
    have hL0 : 1 ≤ c.ylen y ∧ c.ylen y ≤ 656 := by omega
    generalize c.first y = A at hA hA0 ⊢
    generalize c.ylen y = L at hL hL0 ⊢
    have fin : ∀ D : Int, nthDay A L w n = D → n ≤ L → -L ≤ n → A ≤ D → D < A + L → Value.tuple #[.int .i64 D, .int .i64 0] = Value.tuple #[.int .i64 (nthV c y m w n), .int .i64 (nthE c y m w n)] := by
      rintro D rfl g1 g2 g3 g4
      have : nthE c y m w n = 0 := by rw [hE', hA, hL, if_pos ⟨by omega, by omega, by omega, by omega⟩]
      simp [nthV, this, hA, hL]
    rcases Int.lt_or_le n 0 with hn0 | hn0
    · refine vcLoop (Nat × Nat) (fun x => [(13, .val (.int .i64 x.1)), (10, .val (.int .i64 A)), (11, .val (.int .i64 L)), (3, .val (.int .i64 (n + x.2))), (2, .val (.int .i64 w))]) (fun _ => [])
        (fun x _ => (x.1 : Int) ≤ L ∧ n + x.2 < 0 ∧ (x.2 = 0 ∨ (A + L - 1 - w) % 7 + 7 * ((x.2 : Int) - 1) < x.1) ∧ (x.1 : Int) ≤ (A + L - 1 - w) % 7 + 7 * x.2) (fun x => L.toNat - x.1) (0, 0) ?_ rfl ?_ ?_
      · try simp only [go_sem, ↓reduceIte, Nat.reduceEqDiff, Nat.reduceAdd, Nat.reduceMul, Nat.reduceLeDiff, Nat.reduceLT, Nat.reduceBNe, reduceCtorEq]
        repeat' (first | rfl | constructor)
        try simp
      · dsimp only; omega
      · rintro ⟨i, j⟩ env' R' hle' hE ⟨hi, hj, hlo, hhi⟩
        (simp only [go_sem] at hE; obtain ⟨g13, g10, g11, g3, g2⟩ := hE; simp only [go_sem, ↓reduceIte, Nat.reduceEqDiff, Nat.reduceAdd, Nat.reduceMul, Nat.reduceLeDiff, Nat.reduceLT, Nat.reduceBNe, reduceCtorEq, g13, g10, g11, g3, g2]; dsimp only at *)
        refine ⟨fun hlt => ⟨_, W.in64 (by omega), fun hneg => ⟨_, W.in64 (by omega), _, W.in64 (by omega), _, W.in64 (by omega), ?_⟩, fun hneg => by omega⟩, fun hge => ?_⟩
        · refine vcall (rWeekday _ (by unfold I64; omega) R') ?_
          rintro R'' v hle'' rfl
          simp only [go_sem, ↓reduceIte, Nat.reduceEqDiff, Nat.reduceAdd, Nat.reduceMul, Nat.reduceLeDiff, Nat.reduceLT, Nat.reduceBNe, reduceCtorEq, g13, g10, g11, g3, g2]
          refine ⟨fun hne => ⟨_, W.in64 (by omega), (i + 1, j), by dsimp only; omega, ⟨rfl, rfl⟩, by dsimp only; omega, by dsimp only; omega, by dsimp only; omega, by dsimp only; omega⟩, fun heq => ⟨fun h1 => ⟨fun h2 => ?_, fun h2 => ⟨fun h3 => by omega, fun h3 => ⟨_, W.in64 (by omega), _, W.in64 (by omega), (i + 1, j + 1), by dsimp only; omega, ⟨rfl, ?_⟩, by dsimp only; omega, by dsimp only; omega, by dsimp only; omega, by dsimp only; omega⟩⟩⟩, fun h1 => by omega⟩⟩
          · refine fin _ (by rw [nthDay, if_pos hn0]; omega) (by omega) (by omega) (by omega) (by omega)
          · congr 2; push_cast; omega
        · exact err 4 (by decide) (by rw [hE', hA, hL, if_neg (fun h => by have := h.2.2; rw [nthDay, if_pos hn0] at this; omega)])
    · refine vcLoop (Nat × Nat) (fun x => [(13, .val (.int .i64 x.1)), (10, .val (.int .i64 A)), (11, .val (.int .i64 L)), (3, .val (.int .i64 (n - x.2))), (2, .val (.int .i64 w))]) (fun _ => [])
        (fun x _ => (x.1 : Int) ≤ L ∧ 0 < n - x.2 ∧ (x.2 = 0 ∨ (w - A) % 7 + 7 * ((x.2 : Int) - 1) < x.1) ∧ (x.1 : Int) ≤ (w - A) % 7 + 7 * x.2) (fun x => L.toNat - x.1) (0, 0) ?_ rfl ?_ ?_
      · try simp only [go_sem, ↓reduceIte, Nat.reduceEqDiff, Nat.reduceAdd, Nat.reduceMul, Nat.reduceLeDiff, Nat.reduceLT, Nat.reduceBNe, reduceCtorEq]
        repeat' (first | rfl | constructor)
        try simp
      · dsimp only; omega
      · rintro ⟨i, j⟩ env' R' hle' hE ⟨hi, hj, hlo, hhi⟩
        (simp only [go_sem] at hE; obtain ⟨g13, g10, g11, g3, g2⟩ := hE; simp only [go_sem, ↓reduceIte, Nat.reduceEqDiff, Nat.reduceAdd, Nat.reduceMul, Nat.reduceLeDiff, Nat.reduceLT, Nat.reduceBNe, reduceCtorEq, g13, g10, g11, g3, g2]; dsimp only at *)
        refine ⟨fun hlt => ⟨_, W.in64 (by omega), fun hneg => by omega, fun hneg => ?_⟩, fun hge => ?_⟩
        · refine vcall (rWeekday _ (by unfold I64; omega) R') ?_
          rintro R'' v hle'' rfl
          simp only [go_sem, ↓reduceIte, Nat.reduceEqDiff, Nat.reduceAdd, Nat.reduceMul, Nat.reduceLeDiff, Nat.reduceLT, Nat.reduceBNe, reduceCtorEq, g13, g10, g11, g3, g2]
          refine ⟨fun hne => ⟨_, W.in64 (by omega), (i + 1, j), by dsimp only; omega, ⟨rfl, rfl⟩, by dsimp only; omega, by dsimp only; omega, by dsimp only; omega, by dsimp only; omega⟩, fun heq => ⟨fun h1 => ⟨fun h2 => by omega, fun h2 => ⟨fun h3 => ⟨_, W.in64 (by omega), _, W.in64 (by omega), (i + 1, j + 1), by dsimp only; omega, ⟨rfl, ?_⟩, by dsimp only; omega, by dsimp only; omega, by dsimp only; omega, by dsimp only; omega⟩, fun h3 => by omega⟩⟩, fun h1 => ?_⟩⟩
          · congr 2; push_cast; omega
          · refine fin _ (by rw [nthDay, if_neg (by omega)]; omega) (by omega) (by omega) (by omega) (by omega)
        · exact err 4 (by decide) (by rw [hE', hA, hL, if_neg (fun h => by have := h.2.2; rw [nthDay, if_neg (by omega)] at this; omega)])
end Go.Proofs.Ytpbnjoopgignoaa
