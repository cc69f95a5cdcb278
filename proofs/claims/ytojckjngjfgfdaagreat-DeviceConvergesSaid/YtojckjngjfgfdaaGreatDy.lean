import Derived.Test.YtojckjngjfgfdaaGreatDv
import Derived.Test.YtojckjngjfgfdaaGreatFp
import Derived.Test.YtojckjngjfgfdaaGreatFe
import Derived.Test.YtojckjngjfgfdaaGreatFf
import Derived.Test.YtojckjngjfgfdaaGreatFx
namespace Go.Proofs.YtojckjngjfgfdaaGreat
set_option linter.unusedSimpArgs false
set_option linter.unusedVariables false
open Go.Proofs.YtojckjngjfgfdaaGreat.Vc
/-! ### The law DeviceConverges -/
set_option maxHeartbeats 16000000 in
theorem lConverges (R : RO) (os : List Opn) (v : Value) (h : OpC R v os) (minute : Int) (es : List Ed) (mv : Value) (hmv : EdC R mv es) (hl : es.length ≤ 1099511627776) : CallsR Tryz.prog 6 [v, .int .i64 minute, mv] R fun _ v => v = .bool true := by
  have hP := fun R' hle => ePlayed os v R' (OpC.mono (R' := R') h hle)
  have hMs := fun R' hle => eMadeSeries minute es mv R' (EdC.mono (R' := R') hmv hle) hl
  obtain ⟨a, cap, rfl, hc, _⟩ := h.form
  obtain ⟨b, bcap, rfl, hbc, _⟩ := hmv.form
  refine callsT mix Tryz.func6 comp6 (by simp [Tryz.ntmps6]) ?_; simp only [go_sem, ↓reduceIte, Nat.reduceEqDiff, Nat.reduceAdd, Nat.reduceMul, Nat.reduceLeDiff, Nat.reduceLT, Nat.reduceBNe, reduceCtorEq, vc6, rs6]
  refine vcall (dSanity R) ?_
  rintro R1 v hle1 rfl
  try simp only [go_sem, ↓reduceIte, Nat.reduceEqDiff, Nat.reduceAdd, Nat.reduceMul, Nat.reduceLeDiff, Nat.reduceLT, Nat.reduceBNe, reduceCtorEq]
  obtain ⟨n, M, hn, hI⟩ := inv_play os
  obtain ⟨w, hw'⟩ : ∃ w, w = playW os := ⟨_, rfl⟩
  rw [← hw'] at hP hI
  refine vcall (hP R1 hle1) ?_
  rintro R2 u hle2 ⟨x0, x1, x2, y0, y1, y2, rfl, h0, h1, h2, h3, h4, h5⟩
  obtain ⟨a0, c0, rfl, _⟩ := h0.form
  obtain ⟨a1, c1, rfl, _⟩ := h1.form
  obtain ⟨a2, c2, rfl, _⟩ := h2.form
  obtain ⟨a3, c3, rfl, _⟩ := h3.form
  obtain ⟨a4, c4, rfl, _⟩ := h4.form
  obtain ⟨a5, c5, rfl, _⟩ := h5.form
  have hW : WdV R2 (.agg (wdCells w (.slice a0 w.n0.edits.length c0) (.slice a1 w.n1.edits.length c1) (.slice a2 w.n2.edits.length c2) (.slice a3 w.c0.edits.length c3) (.slice a4 w.c1.edits.length c4) (.slice a5 w.c2.edits.length c5)).toArray) w := ⟨_, _, _, _, _, _, rfl, h0, h1, h2, h3, h4, h5⟩
  have hHd0 := fun R' hle => eHeard w n M hI (by omega) 0 (by omega) _ R' (WdV.mono (R' := R') hW hle)
  have hHd1 := fun R' hle => eHeard w n M hI (by omega) 1 (by omega) _ R' (WdV.mono (R' := R') hW hle)
  have hHd2 := fun R' hle => eHeard w n M hI (by omega) 2 (by omega) _ R' (WdV.mono (R' := R') hW hle)
  have hms := movesOf_ok es
  have hml := movesOf_len es
  obtain ⟨ms, hmse⟩ : ∃ ms, ms = movesOf es := ⟨_, rfl⟩
  rw [← hmse] at hMs hms hml
  simp only [wdCells, Int.cast_ofNat_Int] at hHd0 hHd1 hHd2 ⊢
  try simp only [go_sem, ↓reduceIte, Nat.reduceEqDiff, Nat.reduceAdd, Nat.reduceMul, Nat.reduceLeDiff, Nat.reduceLT, Nat.reduceBNe, reduceCtorEq]
  refine vcall (hMs R2 (RO.le_trans hle1 hle2)) ?_
  rintro R3 u hle3 ⟨rv, mv', rfl, hrv, hmv'⟩
  obtain ⟨ra, rn, rc, rfl⟩ := hrv.form
  obtain ⟨ma, mcap, rfl, _⟩ := hmv'.form
  obtain ⟨S, hS⟩ : ∃ S : Se, S = ⟨.slice ra rn rc, minute % 3, 1, zA, 0, 0, .slice ma ms.length mcap⟩ := ⟨_, rfl⟩
  have hSc : S.cells = [.slice ra rn rc, .int .i64 (minute % 3), .int .i64 1, .string zA, .int .i64 0, .int .i64 0, .slice ma ms.length mcap] := by rw [hS]; rfl
  have hSr : S.rule = .slice ra rn rc := by rw [hS]
  have hSm : S.moves = .slice ma ms.length mcap := by rw [hS]
  have hSl : S.length = 1 := by rw [hS]
  simp only [Se.cells]
  try simp only [go_sem, ↓reduceIte, Nat.reduceEqDiff, Nat.reduceAdd, Nat.reduceMul, Nat.reduceLeDiff, Nat.reduceLT, Nat.reduceBNe, reduceCtorEq, Int.reduceLE, Int.reduceLT, Int.reduceToNat, Int.cast_ofNat_Int, Int.reduceEq, Int.reduceNe]
  refine vcall (hHd0 R3 hle3) ?_
  rintro R4 r hle4 ⟨d, u, rfl, hu, hd⟩
  obtain ⟨ua, uc, rfl, _⟩ := hu.form
  have hdl := hd.len hI
  have hcd := validV_cons hd.val
  obtain ⟨o, ho1, ho2, ho3⟩ := allD_cons hcd (by omega)
  have hSe := fun (R' : RO) (hle : RO.le R4 R') => dSeries S (ruleN minute) ms d (.slice ua d.edits.length uc) R' (by rw [hSr]; exact hrv.mono (RO.le_trans hle4 hle)) (by rw [hSm]; exact hmv'.mono (RO.le_trans hle4 hle)) (hu.mono hle) (by omega)
  have hMe := fun (R' : RO) (hle : RO.le R4 R') => eMerge S (ruleN minute) ms d.edits (.slice ua d.edits.length uc) R' (by rw [hSr]; exact hrv.mono (RO.le_trans hle4 hle)) (by rw [hSm]; exact hmv'.mono (RO.le_trans hle4 hle)) (hu.mono hle) (by omega)
  rw [hSc] at hSe hMe
  simp only [dvCells] at hSe ⊢
  try simp only [go_sem, ↓reduceIte, Nat.reduceEqDiff, Nat.reduceAdd, Nat.reduceMul, Nat.reduceLeDiff, Nat.reduceLT, Nat.reduceBNe, reduceCtorEq, Int.reduceLE, Int.reduceLT, Int.reduceToNat, Int.cast_ofNat_Int, Int.reduceEq, Int.reduceNe]
  refine vcall (hSe R4 (RO.le_refl _)) ?_
  intro R5 r hle5 hr
  unfold SerV MergeV at hr
  rw [if_pos hd.val, ho1] at hr
  dsimp only at hr
  rw [if_neg (by simp [hms, hSl])] at hr
  obtain ⟨p1, q1, rfl, hp1, hq1⟩ := hr
  obtain ⟨q1a, q1c, rfl, _⟩ := hq1.form
  have hp1' := hp1
  obtain ⟨p1a, p1c, rfl, _⟩ := hp1'.form
  try simp only [go_sem, ↓reduceIte, Nat.reduceEqDiff, Nat.reduceAdd, Nat.reduceMul, Nat.reduceLeDiff, Nat.reduceLT, Nat.reduceBNe, reduceCtorEq, Int.reduceLE, Int.reduceLT, Int.reduceToNat, Int.cast_ofNat_Int, Int.reduceEq, Int.reduceNe]
  refine vcall (hMe R5 hle5) ?_
  intro R6 r hle6 hr
  unfold MergeV at hr
  rw [ho1] at hr
  dsimp only at hr
  rw [if_neg (by simp [hms, hSl])] at hr
  obtain ⟨p2, q2, rfl, hp2, hq2⟩ := hr
  obtain ⟨q2a, q2c, rfl, _⟩ := hq2.form
  have hp2' := hp2
  obtain ⟨p2a, p2c, rfl, _⟩ := hp2'.form
  try simp only [go_sem, ↓reduceIte, Nat.reduceEqDiff, Nat.reduceAdd, Nat.reduceMul, Nat.reduceLeDiff, Nat.reduceLT, Nat.reduceBNe, reduceCtorEq, Int.reduceLE, Int.reduceLT, Int.reduceToNat, Int.cast_ofNat_Int, Int.reduceEq, Int.reduceNe]
  refine vcall (eSameParts _ _ _ _ R6 (hp1.mono hle6) hp2) ?_
  rintro R7 v hle7 rfl
  rw [decide_eq_true (Eq.refl _)]
  try simp only [go_sem, ↓reduceIte, Nat.reduceEqDiff, Nat.reduceAdd, Nat.reduceMul, Nat.reduceLeDiff, Nat.reduceLT, Nat.reduceBNe, reduceCtorEq, Int.reduceLE, Int.reduceLT, Int.reduceToNat, Int.cast_ofNat_Int, Int.reduceEq, Int.reduceNe]
  refine vcall (eSameRecords _ _ _ _ R7 (hq1.mono (RO.le_trans hle6 hle7)) (hq2.mono hle7)) ?_
  rintro R8 v hle8 rfl
  rw [decide_eq_true (Eq.refl _)]
  try simp only [go_sem, ↓reduceIte, Nat.reduceEqDiff, Nat.reduceAdd, Nat.reduceMul, Nat.reduceLeDiff, Nat.reduceLT, Nat.reduceBNe, reduceCtorEq, Int.reduceLE, Int.reduceLT, Int.reduceToNat, Int.cast_ofNat_Int, Int.reduceEq, Int.reduceNe]
  have hle58 : RO.le R5 R8 := RO.le_trans hle6 (RO.le_trans hle7 hle8)
  refine vcLoop Nat (fun i => [(18, .val (.int .i64 i)), (8, .loc 0 0), (9, .loc 1 0), (10, .loc 2 0), (12, .val (.slice p1a (mergeP S (ruleN minute) ms o).length p1c)), (13, .val (.slice q1a (recsD o).length q1c)), (14, .val (.int .i64 0)), (7, .val (.bool true))])
    (fun _ => [.box (boxc (wdCells w (.slice a0 w.n0.edits.length c0) (.slice a1 w.n1.edits.length c1) (.slice a2 w.n2.edits.length c2) (.slice a3 w.c0.edits.length c3) (.slice a4 w.c1.edits.length c4) (.slice a5 w.c2.edits.length c5))), .box [.val (.slice ra rn rc), .val (.int .i64 (minute % 3)), .val (.int .i64 1), .val (.string zA), .val (.int .i64 0), .val (.int .i64 0), .val (.slice ma ms.length mcap)], .box [.val (.int .i64 d.id), .val (.int .i64 d.epoch), .val (.int .i64 d.next), .val (.slice ua d.edits.length uc)]]) (fun i _ => 1 ≤ i ∧ i ≤ 3) (fun i => 3 - i) 1 ?_ ?_ ?_ ?_
  · (try simp only [go_sem, ↓reduceIte, Nat.reduceEqDiff, Nat.reduceAdd, Nat.reduceMul, Nat.reduceLeDiff, Nat.reduceLT, Nat.reduceBNe, reduceCtorEq]) <;> (repeat' (first | rfl | trivial | constructor | (intro h; exact absurd rfl h)))
  · try simp only [go_sem, ↓reduceIte, Nat.reduceEqDiff, Nat.reduceAdd, Nat.reduceMul, Nat.reduceLeDiff, Nat.reduceLT, Nat.reduceBNe, reduceCtorEq]
    exact boxc_ok _ _
  · exact ⟨by decide, by decide⟩
  rintro i env R9 hle9 hE ⟨hi1, hi3⟩
  have hci : i = 1 ∨ i = 2 ∨ i = 3 := by omega
  simp only [boxc, wdCells, List.map_cons, List.map_nil] at hE ⊢
  have hle49 : RO.le R4 R9 := RO.le_trans hle5 (RO.le_trans hle58 hle9)
  rcases hci with rfl | rfl | rfl
  · simp only [go_sem] at hE
    obtain ⟨e18, e8, e9, e10, e12, e13, e14, e7⟩ := hE
    rw [show ((1 : Nat) : Int) = 1 from rfl] at e18
    try simp only [go_sem, ↓reduceIte, Nat.reduceEqDiff, Nat.reduceAdd, Nat.reduceMul, Nat.reduceLeDiff, Nat.reduceLT, Nat.reduceBNe, reduceCtorEq, Int.reduceLE, Int.reduceLT, Int.reduceToNat, Int.cast_ofNat_Int, Int.reduceEq, Int.reduceNe, e18, e8, e9, e10, e12, e13, e14, e7]
    refine vcall (hHd1 R9 (RO.le_trans hle3 (RO.le_trans hle4 hle49))) ?_
    rintro R10 r hle10 ⟨d1, u1, rfl, hu1, hd1⟩
    have hde : d1.edits = d.edits := hd1.same hd
    have hid : (d1.id = w.n1.id) := hd1.id
    have hie : (d1.epoch = w.n1.epoch) := hd1.ep
    obtain ⟨u1a, u1c, rfl, _⟩ := hu1.form
    have hS1 := fun (R' : RO) (hle : RO.le R10 R') => dSeries S (ruleN minute) ms d1 (.slice u1a d1.edits.length u1c) R' (by rw [hSr]; exact hrv.mono (RO.le_trans hle4 (RO.le_trans hle49 (RO.le_trans hle10 hle)))) (by rw [hSm]; exact hmv'.mono (RO.le_trans hle4 (RO.le_trans hle49 (RO.le_trans hle10 hle)))) (hu1.mono hle) (by rw [hde]; omega)
    rw [hSc] at hS1
    simp only [dvCells] at hS1 ⊢
    try simp only [go_sem, ↓reduceIte, Nat.reduceEqDiff, Nat.reduceAdd, Nat.reduceMul, Nat.reduceLeDiff, Nat.reduceLT, Nat.reduceBNe, reduceCtorEq, Int.reduceLE, Int.reduceLT, Int.reduceToNat, Int.cast_ofNat_Int, Int.reduceEq, Int.reduceNe, e18, e8, e9, e10, e12, e13, e14, e7]
    refine vcall (hS1 R10 (RO.le_refl _)) ?_
    intro R11 r hle11 hr
    unfold SerV MergeV at hr
    rw [if_pos hd1.val, hde, ho1] at hr
    dsimp only at hr
    rw [if_neg (by simp [hms, hSl])] at hr
    obtain ⟨p3, q3, rfl, hp3, hq3⟩ := hr
    try simp only [go_sem, ↓reduceIte, Nat.reduceEqDiff, Nat.reduceAdd, Nat.reduceMul, Nat.reduceLeDiff, Nat.reduceLT, Nat.reduceBNe, reduceCtorEq, Int.reduceLE, Int.reduceLT, Int.reduceToNat, Int.cast_ofNat_Int, Int.reduceEq, Int.reduceNe, e18, e8, e9, e10, e12, e13, e14, e7]
    refine vcall (eSameList d1.edits d.edits _ _ R11 (hu1.mono hle11) (hu.mono (RO.le_trans hle49 (RO.le_trans hle10 hle11)))) ?_
    rintro R12 v hle12 rfl
    rw [decide_eq_true hde]
    try simp only [go_sem, ↓reduceIte, Nat.reduceEqDiff, Nat.reduceAdd, Nat.reduceMul, Nat.reduceLeDiff, Nat.reduceLT, Nat.reduceBNe, reduceCtorEq, Int.reduceLE, Int.reduceLT, Int.reduceToNat, Int.cast_ofNat_Int, Int.reduceEq, Int.reduceNe, e18, e8, e9, e10, e12, e13, e14, e7]
    have hle512 : RO.le R5 R12 := RO.le_trans hle58 (RO.le_trans hle9 (RO.le_trans hle10 (RO.le_trans hle11 hle12)))
    refine vcall (eSameParts _ _ _ _ R12 (hp3.mono hle12) (hp1.mono hle512)) ?_
    rintro R13 v hle13 rfl
    rw [decide_eq_true (Eq.refl _)]
    try simp only [go_sem, ↓reduceIte, Nat.reduceEqDiff, Nat.reduceAdd, Nat.reduceMul, Nat.reduceLeDiff, Nat.reduceLT, Nat.reduceBNe, reduceCtorEq, Int.reduceLE, Int.reduceLT, Int.reduceToNat, Int.cast_ofNat_Int, Int.reduceEq, Int.reduceNe, e18, e8, e9, e10, e12, e13, e14, e7]
    refine vcall (eSameRecords _ _ _ _ R13 (hq3.mono (RO.le_trans hle12 hle13)) (hq1.mono (RO.le_trans hle512 hle13))) ?_
    rintro R14 v hle14 rfl
    rw [decide_eq_true (Eq.refl _)]
    try simp only [go_sem, ↓reduceIte, Nat.reduceEqDiff, Nat.reduceAdd, Nat.reduceMul, Nat.reduceLeDiff, Nat.reduceLT, Nat.reduceBNe, reduceCtorEq, Int.reduceLE, Int.reduceLT, Int.reduceToNat, Int.cast_ofNat_Int, Int.reduceEq, Int.reduceNe, e18, e8, e9, e10, e12, e13, e14, e7, hid, hie]
    exact ⟨_, W.in64 (by decide), 1 + 1, by decide, rfl, by decide, by decide⟩
  · simp only [go_sem] at hE
    obtain ⟨e18, e8, e9, e10, e12, e13, e14, e7⟩ := hE
    rw [show ((2 : Nat) : Int) = 2 from rfl] at e18
    try simp only [go_sem, ↓reduceIte, Nat.reduceEqDiff, Nat.reduceAdd, Nat.reduceMul, Nat.reduceLeDiff, Nat.reduceLT, Nat.reduceBNe, reduceCtorEq, Int.reduceLE, Int.reduceLT, Int.reduceToNat, Int.cast_ofNat_Int, Int.reduceEq, Int.reduceNe, e18, e8, e9, e10, e12, e13, e14, e7]
    refine vcall (hHd2 R9 (RO.le_trans hle3 (RO.le_trans hle4 hle49))) ?_
    rintro R10 r hle10 ⟨d1, u1, rfl, hu1, hd1⟩
    have hde : d1.edits = d.edits := hd1.same hd
    have hid : (d1.id = w.n2.id) := hd1.id
    have hie : (d1.epoch = w.n2.epoch) := hd1.ep
    obtain ⟨u1a, u1c, rfl, _⟩ := hu1.form
    have hS1 := fun (R' : RO) (hle : RO.le R10 R') => dSeries S (ruleN minute) ms d1 (.slice u1a d1.edits.length u1c) R' (by rw [hSr]; exact hrv.mono (RO.le_trans hle4 (RO.le_trans hle49 (RO.le_trans hle10 hle)))) (by rw [hSm]; exact hmv'.mono (RO.le_trans hle4 (RO.le_trans hle49 (RO.le_trans hle10 hle)))) (hu1.mono hle) (by rw [hde]; omega)
    rw [hSc] at hS1
    simp only [dvCells] at hS1 ⊢
    try simp only [go_sem, ↓reduceIte, Nat.reduceEqDiff, Nat.reduceAdd, Nat.reduceMul, Nat.reduceLeDiff, Nat.reduceLT, Nat.reduceBNe, reduceCtorEq, Int.reduceLE, Int.reduceLT, Int.reduceToNat, Int.cast_ofNat_Int, Int.reduceEq, Int.reduceNe, e18, e8, e9, e10, e12, e13, e14, e7]
    refine vcall (hS1 R10 (RO.le_refl _)) ?_
    intro R11 r hle11 hr
    unfold SerV MergeV at hr
    rw [if_pos hd1.val, hde, ho1] at hr
    dsimp only at hr
    rw [if_neg (by simp [hms, hSl])] at hr
    obtain ⟨p3, q3, rfl, hp3, hq3⟩ := hr
    try simp only [go_sem, ↓reduceIte, Nat.reduceEqDiff, Nat.reduceAdd, Nat.reduceMul, Nat.reduceLeDiff, Nat.reduceLT, Nat.reduceBNe, reduceCtorEq, Int.reduceLE, Int.reduceLT, Int.reduceToNat, Int.cast_ofNat_Int, Int.reduceEq, Int.reduceNe, e18, e8, e9, e10, e12, e13, e14, e7]
    refine vcall (eSameList d1.edits d.edits _ _ R11 (hu1.mono hle11) (hu.mono (RO.le_trans hle49 (RO.le_trans hle10 hle11)))) ?_
    rintro R12 v hle12 rfl
    rw [decide_eq_true hde]
    try simp only [go_sem, ↓reduceIte, Nat.reduceEqDiff, Nat.reduceAdd, Nat.reduceMul, Nat.reduceLeDiff, Nat.reduceLT, Nat.reduceBNe, reduceCtorEq, Int.reduceLE, Int.reduceLT, Int.reduceToNat, Int.cast_ofNat_Int, Int.reduceEq, Int.reduceNe, e18, e8, e9, e10, e12, e13, e14, e7]
    have hle512 : RO.le R5 R12 := RO.le_trans hle58 (RO.le_trans hle9 (RO.le_trans hle10 (RO.le_trans hle11 hle12)))
    refine vcall (eSameParts _ _ _ _ R12 (hp3.mono hle12) (hp1.mono hle512)) ?_
    rintro R13 v hle13 rfl
    rw [decide_eq_true (Eq.refl _)]
    try simp only [go_sem, ↓reduceIte, Nat.reduceEqDiff, Nat.reduceAdd, Nat.reduceMul, Nat.reduceLeDiff, Nat.reduceLT, Nat.reduceBNe, reduceCtorEq, Int.reduceLE, Int.reduceLT, Int.reduceToNat, Int.cast_ofNat_Int, Int.reduceEq, Int.reduceNe, e18, e8, e9, e10, e12, e13, e14, e7]
    refine vcall (eSameRecords _ _ _ _ R13 (hq3.mono (RO.le_trans hle12 hle13)) (hq1.mono (RO.le_trans hle512 hle13))) ?_
    rintro R14 v hle14 rfl
    rw [decide_eq_true (Eq.refl _)]
    try simp only [go_sem, ↓reduceIte, Nat.reduceEqDiff, Nat.reduceAdd, Nat.reduceMul, Nat.reduceLeDiff, Nat.reduceLT, Nat.reduceBNe, reduceCtorEq, Int.reduceLE, Int.reduceLT, Int.reduceToNat, Int.cast_ofNat_Int, Int.reduceEq, Int.reduceNe, e18, e8, e9, e10, e12, e13, e14, e7, hid, hie]
    exact ⟨_, W.in64 (by decide), 2 + 1, by decide, rfl, by decide, by decide⟩
  · simp only [go_sem] at hE
    obtain ⟨e18, e8, e9, e10, e12, e13, e14, e7⟩ := hE
    rw [show ((3 : Nat) : Int) = 3 from rfl] at e18
    try simp only [go_sem, ↓reduceIte, Nat.reduceEqDiff, Nat.reduceAdd, Nat.reduceMul, Nat.reduceLeDiff, Nat.reduceLT, Nat.reduceBNe, reduceCtorEq, Int.reduceLE, Int.reduceLT, Int.reduceToNat, Int.cast_ofNat_Int, Int.reduceEq, Int.reduceNe, e18, e8, e9, e10, e12, e13, e14, e7]
end Go.Proofs.YtojckjngjfgfdaaGreat
