import Derived.Test.YtojckjngjfgfdaaGreatDr
import Derived.Test.YtojckjngjfgfdaaGreatFp
import Derived.Test.YtojckjngjfgfdaaGreatFe
import Derived.Test.YtojckjngjfgfdaaGreatFx
namespace Go.Proofs.YtojckjngjfgfdaaGreat
set_option linter.unusedSimpArgs false
set_option linter.unusedVariables false
open Go.Proofs.YtojckjngjfgfdaaGreat.Vc
/-! ### The law DeviceParts -/
theorem pa_se' {R : RO} {b : Addr} {d : Int} {s : Se} (h : ∀ j u, (paCells d s)[j]? = some u → R (b.add j) u) : ∀ j u, s.cells[j]? = some u → R ((b.add 1).add j) u := fun j u hj => by
  rw [addr_add _ (1 + j) 1 j rfl]
  refine h (1 + j) u ?_
  rw [Nat.add_comm]
  exact hj
set_option maxHeartbeats 4000000 in
theorem lParts (R : RO) (os : List Opn) (v : Value) (h : OpC R v os) (day : Int) (hd : 0 ≤ day ∧ day ≤ 255) (minute : Int) : CallsR Tryz.prog 11 [v, .int .u8 day, .int .i64 minute] R fun _ v => v = .bool true := by
  have hP := fun R' hle => ePlayed os v R' (OpC.mono (R' := R') h hle)
  have hMs := fun R' => eMadeSeries minute [] (.slice none 0 0) R' ⟨none, 0, rfl, Nat.le_refl _, by simp⟩ (by simp)
  obtain ⟨a, cap, rfl, hc, _⟩ := h.form
  refine callsT mix Tryz.func11 comp11 (by simp [Tryz.ntmps11]) ?_; simp only [go_sem, ↓reduceIte, Nat.reduceEqDiff, Nat.reduceAdd, Nat.reduceMul, Nat.reduceLeDiff, Nat.reduceLT, Nat.reduceBNe, reduceCtorEq, vc11, rs11]
  refine vcall (dSanity R) ?_
  rintro R1 v hle1 rfl
  try simp only [go_sem, ↓reduceIte, Nat.reduceEqDiff, Nat.reduceAdd, Nat.reduceMul, Nat.reduceLeDiff, Nat.reduceLT, Nat.reduceBNe, reduceCtorEq]
  obtain ⟨n, M, hn, hI⟩ := inv_play os
  obtain ⟨w, hw'⟩ : ∃ w, w = playW os := ⟨_, rfl⟩
  rw [← hw'] at hP hI
  refine vcall (hP R1 hle1) ?_
  rintro R2 u hle2 ⟨x0, x1, x2, y0, y1, y2, rfl, h0, h1, h2, h3, h4, h5⟩
  obtain ⟨a0, c0, rfl, _⟩ := h0.form
  obtain ⟨a1, c1, rfl, _⟩ := h1.form
  obtain ⟨a2, c2, rfl, _⟩ := h2.form
  obtain ⟨a3, c3, rfl, _⟩ := h3.form
  obtain ⟨a4, c4, rfl, _⟩ := h4.form
  obtain ⟨a5, c5, rfl, _⟩ := h5.form
  simp only [wdCells]
  have hv : validV w.n1 = true := (hI.val 1 (by omega)).1
  have hl : w.n1.edits.length ≤ n := hI.shape (i := 1) (by omega)
  have hc := validV_cons hv
  have hrl := validV_len hv
  have hms := movesOf_ok []
  have hml := movesOf_len []
  obtain ⟨ms, hmse⟩ : ∃ ms, ms = movesOf [] := ⟨_, rfl⟩
  rw [← hmse] at hMs hms hml
  try simp only [go_sem, ↓reduceIte, Nat.reduceEqDiff, Nat.reduceAdd, Nat.reduceMul, Nat.reduceLeDiff, Nat.reduceLT, Nat.reduceBNe, reduceCtorEq, Int.reduceLE, Int.reduceLT, Int.reduceToNat, Int.cast_ofNat_Int, Int.reduceEq, Int.reduceNe]
  refine vcall (hMs R2) ?_
  rintro R3 u hle3 ⟨rv, mv, rfl, hrv, hmv⟩
  obtain ⟨ra, rn, rc, rfl⟩ := hrv.form
  obtain ⟨ma, mcap, rfl, _⟩ := hmv.form
  obtain ⟨S, hS⟩ : ∃ S : Se, S = ⟨.slice ra rn rc, minute % 3, 1, zA, 0, 0, .slice ma ms.length mcap⟩ := ⟨_, rfl⟩
  have hSc : S.cells = [.slice ra rn rc, .int .i64 (minute % 3), .int .i64 1, .string zA, .int .i64 0, .int .i64 0, .slice ma ms.length mcap] := by rw [hS]; rfl
  have hSr : S.rule = .slice ra rn rc := by rw [hS]
  have hSm : S.moves = .slice ma ms.length mcap := by rw [hS]
  have hSl : S.length = 1 := by rw [hS]
  simp only [Se.cells]
  try simp only [go_sem, ↓reduceIte, Nat.reduceEqDiff, Nat.reduceAdd, Nat.reduceMul, Nat.reduceLeDiff, Nat.reduceLT, Nat.reduceBNe, reduceCtorEq, Int.reduceLE, Int.reduceLT, Int.reduceToNat, Int.cast_ofNat_Int, Int.reduceEq, Int.reduceNe]
  have hSe := dSeries S (ruleN minute) ms w.n1 (.slice a1 w.n1.edits.length c1) R3 (by rw [hSr]; exact hrv) (by rw [hSm]; exact hmv) (h1.mono hle3) (by omega)
  have hAt := fun R' x (hle : RO.le R3 R') => eAt S (ruleN minute) w.n1.edits _ x R' (by rw [hSr]; exact hrv.mono hle) (by rw [hSm]; rfl) ((h1.mono hle3).mono hle)
  rw [hSc] at hSe hAt
  simp only [dvCells] at hSe
  obtain ⟨o, ho1, ho2, ho3⟩ := allD_cons hc (by omega)
  have hvo := allD_valid ho1
  refine vcall hSe ?_
  intro R5 r hle5 hr
  unfold SerV MergeV at hr
  rw [if_pos hv, ho1] at hr
  dsimp only at hr
  rw [if_neg (by simp [hms, hSl])] at hr
  obtain ⟨p1, q1, rfl, hp1, hq1⟩ := hr
  obtain ⟨qa, qcap, rfl, _⟩ := hq1.form
  obtain ⟨x, hxd⟩ : ∃ x : Int, x = day.tmod 20 := ⟨_, rfl⟩
  have hx16 : 0 ≤ x ∧ x < 20 := by
    have h1 := Int.tmod_nonneg 20 hd.1
    have h2 := Int.tmod_lt_of_pos day (show (0 : Int) < 20 by omega)
    omega
  have hF := merge_facts S (ruleN minute) ms ho2 hvo hms (by omega) (x := x) (by omega)
  have hpdays := partsD_days S (ruleN minute) (forceD o) (endE (forceD o)) (fun d hd => (valid_day (hvo d (mem_forceD.1 hd).1)).1)
  have hppl : (mergeP S (ruleN minute) ms o).length = (partsD S (ruleN minute) (forceD o) (endE (forceD o))).length := mergeP_len _ _ _ _
  have hppn : (mergeP S (ruleN minute) ms o).length ≤ 100 := by
    have h1 := hpdays.2.2
    have h2 : (forceD o).length ≤ o.length := List.length_filter_le _ _
    have h3 := allD_len ho1
    omega
  clear hpdays hppl
  have htl := tiOn_length S (ruleN minute) (o := forceD o) (fun d hd => hvo d (mem_forceD.1 hd).1) (by omega) x
  obtain ⟨pp, hpp⟩ : ∃ pp, pp = mergeP S (ruleN minute) ms o := ⟨_, rfl⟩
  rw [← hpp] at hp1 hF hppn
  obtain ⟨pa, pcap, rfl, hpc, hpf⟩ := hp1.form
  obtain ⟨F1, ⟨F20, F2⟩, F3, F4, A, FA0, FA1, FA2, FA3, FA4⟩ := hF
  try simp only [go_sem, ↓reduceIte, Nat.reduceEqDiff, Nat.reduceAdd, Nat.reduceMul, Nat.reduceLeDiff, Nat.reduceLT, Nat.reduceBNe, reduceCtorEq, Int.reduceLE, Int.reduceLT, Int.reduceToNat, Int.cast_ofNat_Int, Int.reduceEq, Int.reduceNe]
  rw [← hxd]
  refine ⟨_, W.in64 (by omega), ?_⟩
  try simp only [go_sem, ↓reduceIte, Nat.reduceEqDiff, Nat.reduceAdd, Nat.reduceMul, Nat.reduceLeDiff, Nat.reduceLT, Nat.reduceBNe, reduceCtorEq, Int.reduceLE, Int.reduceLT, Int.reduceToNat, Int.cast_ofNat_Int, Int.reduceEq, Int.reduceNe]
  refine vcall (hAt R5 x hle5) ?_
  intro R7 r hle7 hr
  unfold AtV at hr
  rw [ho1] at hr
  dsimp only at hr
  rw [if_neg (by simp [betw]; omega)] at hr
  obtain ⟨onb, honb⟩ : ∃ onb, onb = decide (x < endE (forceD o)) := ⟨_, rfl⟩
  obtain ⟨T, hT⟩ : ∃ T : Ti, T = if endE (forceD o) ≤ x then Ti.zero else tiOn S (ruleN minute) (forceD o) x := ⟨_, rfl⟩
  have hr2 : ∃ va vn vc, r = .tuple #[.agg #[.slice va vn vc, .int .i64 T.minute, .int .i64 T.length, .string T.zone, .int .i64 T.gap, .int .i64 T.fold, .slice none 0 0], .bool onb, .int .i64 0] ∧ RuleV R7 (.slice va vn vc) T.rule := by
    by_cases he : endE (forceD o) ≤ x
    · rw [if_pos he] at hr hT
      have : onb = false := by rw [honb, decide_eq_false (by omega)]
      subst hT
      exact ⟨none, 0, 0, by rw [hr, this]; rfl, RuleV.nil _⟩
    · rw [if_neg he] at hr hT
      have : onb = true := by rw [honb, decide_eq_true (by omega)]
      obtain ⟨rv, hr, hrv⟩ := hr
      obtain ⟨va, vn, vc, rfl⟩ := hrv.form
      subst hT
      exact ⟨va, vn, vc, by rw [hr, this]; rfl, hrv⟩
  have honT : onb = decide (0 < T.length) := by
    rw [honb, hT]
    by_cases he : endE (forceD o) ≤ x
    · rw [if_pos he, decide_eq_false (by omega)]; rfl
    · rw [if_neg he, decide_eq_true (by omega), decide_eq_true (by omega)]
  rw [← hT] at FA3
  obtain ⟨va, vn, vc, rfl, hti⟩ := hr2
  obtain ⟨ad0, _, _, _, _, _, had0, hRp0, _, _⟩ := hpf 0 F20
  try simp only [go_sem, ↓reduceIte, Nat.reduceEqDiff, Nat.reduceAdd, Nat.reduceMul, Nat.reduceLeDiff, Nat.reduceLT, Nat.reduceBNe, reduceCtorEq, Int.reduceLE, Int.reduceLT, Int.reduceToNat, Int.cast_ofNat_Int, Int.reduceEq, Int.reduceNe]
  refine ⟨fun _ => ⟨by omega, vat ad0 had0 ?_⟩, fun h0 => by omega⟩
  try simp only [go_sem, ↓reduceIte, Nat.reduceEqDiff, Nat.reduceAdd, Nat.reduceMul, Nat.reduceLeDiff, Nat.reduceLT, Nat.reduceBNe, reduceCtorEq]
  refine vload (.int .i64 (pp[0]).day) (hle7 _ _ (hRp0 0 _ rfl)) ?_
  try simp only [go_sem, ↓reduceIte, Nat.reduceEqDiff, Nat.reduceAdd, Nat.reduceMul, Nat.reduceLeDiff, Nat.reduceLT, Nat.reduceBNe, reduceCtorEq, Int.reduceLE, Int.reduceLT, Int.reduceToNat, Int.cast_ofNat_Int, Int.reduceEq, Int.reduceNe]
  refine ⟨fun h => absurd F2 h, fun _ => ?_⟩
  refine vcLoop Nat (fun i => [(16, .val (.int .i64 i)), (10, .val (.slice pa pp.length pcap)), (1, .val (.int .u8 day)), (7, .val (.bool true)), (14, .val (.bool onb)), (13, .loc 2 0)])
    (fun _ => [.dead, .dead, .box [.val (.slice va vn vc), .val (.int .i64 T.minute), .val (.int .i64 T.length), .val (.string T.zone), .val (.int .i64 T.gap), .val (.int .i64 T.fold), .val (.slice none 0 0)]]) (fun i _ => ∃ h : i < pp.length, (pp[i]).day ≤ x) (fun i => pp.length - i) 0 ?_ ?_ ?_ ?_
  · (try simp only [go_sem, ↓reduceIte, Nat.reduceEqDiff, Nat.reduceAdd, Nat.reduceMul, Nat.reduceLeDiff, Nat.reduceLT, Nat.reduceBNe, reduceCtorEq]) <;> (repeat' (first | rfl | trivial | constructor | (intro h; exact absurd rfl h)))
  · try simp only [go_sem, ↓reduceIte, Nat.reduceEqDiff, Nat.reduceAdd, Nat.reduceMul, Nat.reduceLeDiff, Nat.reduceLT, Nat.reduceBNe, reduceCtorEq]
  · exact ⟨F20, by omega⟩
  rintro i env R8 hle8 hE ⟨hi, hix⟩
  (simp only [go_sem] at hE; obtain ⟨e16, e10, e1, e7, e14, e13⟩ := hE; simp only [go_sem, ↓reduceIte, Nat.reduceEqDiff, Nat.reduceAdd, Nat.reduceMul, Nat.reduceLeDiff, Nat.reduceLT, Nat.reduceBNe, reduceCtorEq, e16, e10, e1, e7, e14, e13]; dsimp only at *)
  refine ⟨_, W.in64 (by omega), ?_⟩
  have hle58 := RO.le_trans hle7 hle8
  have hfin : (∀ h : i + 1 < pp.length, x < (pp[i + 1]).day) → i = A := fun hn => by
    rcases Nat.lt_trichotomy i A with h | h | h
    · have h2 := hn (by omega)
      rcases Nat.lt_or_ge (i + 1) A with h3 | h3
      · have := F1 (i + 1) A FA0 h3; omega
      · have : i + 1 = A := by omega
        subst this; omega
    · exact h
    · have := FA2 i h hi; omega
  obtain ⟨ad, la, ln, lc, lma, lmc, had, hRp, hrl, hRm⟩ := hpf i hi
  refine ⟨fun hlt => ?_, fun hge => ?_⟩
  · obtain ⟨adn, _, _, _, _, _, hadn, hRn, _, _⟩ := hpf (i + 1) (by omega)
    refine ⟨_, W.in64 (by omega), by omega, by omega, ?_⟩
    rw [show ((i : Int) + 1).toNat = i + 1 by omega]
    refine vat adn hadn ?_
    try simp only [go_sem, ↓reduceIte, Nat.reduceEqDiff, Nat.reduceAdd, Nat.reduceMul, Nat.reduceLeDiff, Nat.reduceLT, Nat.reduceBNe, reduceCtorEq]
    refine vload (.int .i64 (pp[i + 1]).day) (hle58 _ _ (hRn 0 _ rfl)) ?_
    simp only [go_sem, ↓reduceIte, Nat.reduceEqDiff, Nat.reduceAdd, Nat.reduceMul, Nat.reduceLeDiff, Nat.reduceLT, Nat.reduceBNe, reduceCtorEq, e16, e10, e1, e7, e14, e13]
    rw [← hxd]
    refine ⟨by decide, _, W.in64 (by omega), ?_⟩
    refine ⟨fun hle => ?_, fun hgt => ?_⟩
    · refine ⟨_, W.in64 (by omega), i + 1, by omega, ?_, by omega, hle⟩
      try simp only [go_sem, ↓reduceIte, Nat.reduceEqDiff, Nat.reduceAdd, Nat.reduceMul, Nat.reduceLeDiff, Nat.reduceLT, Nat.reduceBNe, reduceCtorEq]
      rfl
    · have hiA := hfin fun _ => by omega
      rw [show pp[A] = pp[i] by simp only [hiA]] at FA3
      refine ⟨by omega, vat ad had ?_⟩
      try simp only [go_sem, ↓reduceIte, Nat.reduceEqDiff, Nat.reduceAdd, Nat.reduceMul, Nat.reduceLeDiff, Nat.reduceLT, Nat.reduceBNe, reduceCtorEq]
      refine vloadn [.slice la ln lc, .int .i64 (pp[i]).ti.minute, .int .i64 (pp[i]).ti.length, .string (pp[i]).ti.zone, .int .i64 (pp[i]).ti.gap, .int .i64 (pp[i]).ti.fold, .slice lma (pp[i]).moves.length lmc] rfl (fun j u hj => hle58 _ _ (pa_se' hRp j u hj)) ?_
      simp only [go_sem, ↓reduceIte, Nat.reduceEqDiff, Nat.reduceAdd, Nat.reduceMul, Nat.reduceLeDiff, Nat.reduceLT, Nat.reduceBNe, reduceCtorEq, e16, e10, e1, e7, e14, e13]
      have hti' : (pp[i]).ti = T := FA3
      have hbt : (onb == decide (0 < (pp[i]).ti.length)) = true := by rw [honT, hti']; simp
      refine ⟨fun _ => ?_, fun h => by rw [hbt] at h; cases h⟩
      refine vcall (eSameTimes ⟨.slice la ln lc, (pp[i]).ti.minute, (pp[i]).ti.length, (pp[i]).ti.zone, (pp[i]).ti.gap, (pp[i]).ti.fold, .slice none 0 0⟩ ⟨.slice va vn vc, T.minute, T.length, T.zone, T.gap, T.fold, .slice none 0 0⟩ (pp[i]).ti.rule T.rule R8 (hrl.mono hle58) (hti.mono hle8)) ?_
      rintro R9 v hle9 rfl
      have hdec : decide ((⟨.slice la ln lc, (pp[i]).ti.minute, (pp[i]).ti.length, (pp[i]).ti.zone, (pp[i]).ti.gap, (pp[i]).ti.fold, .slice none 0 0⟩ : Se).ti (pp[i]).ti.rule = (⟨.slice va vn vc, T.minute, T.length, T.zone, T.gap, T.fold, .slice none 0 0⟩ : Se).ti T.rule) = true := decide_eq_true (by rw [hti']; rfl)
      rw [hdec]
      try simp only [go_sem, ↓reduceIte, Nat.reduceEqDiff, Nat.reduceAdd, Nat.reduceMul, Nat.reduceLeDiff, Nat.reduceLT, Nat.reduceBNe, reduceCtorEq, e16, e10, e1, e7, e14, e13]
  · have hiA := hfin fun _ => by omega
    rw [show pp[A] = pp[i] by simp only [hiA]] at FA3
    refine ⟨by omega, vat ad had ?_⟩
    try simp only [go_sem, ↓reduceIte, Nat.reduceEqDiff, Nat.reduceAdd, Nat.reduceMul, Nat.reduceLeDiff, Nat.reduceLT, Nat.reduceBNe, reduceCtorEq]
    refine vloadn [.slice la ln lc, .int .i64 (pp[i]).ti.minute, .int .i64 (pp[i]).ti.length, .string (pp[i]).ti.zone, .int .i64 (pp[i]).ti.gap, .int .i64 (pp[i]).ti.fold, .slice lma (pp[i]).moves.length lmc] rfl (fun j u hj => hle58 _ _ (pa_se' hRp j u hj)) ?_
    simp only [go_sem, ↓reduceIte, Nat.reduceEqDiff, Nat.reduceAdd, Nat.reduceMul, Nat.reduceLeDiff, Nat.reduceLT, Nat.reduceBNe, reduceCtorEq, e16, e10, e1, e7, e14, e13]
    have hti' : (pp[i]).ti = T := FA3
    have hbt : (onb == decide (0 < (pp[i]).ti.length)) = true := by rw [honT, hti']; simp
    refine ⟨fun _ => ?_, fun h => by rw [hbt] at h; cases h⟩
    refine vcall (eSameTimes ⟨.slice la ln lc, (pp[i]).ti.minute, (pp[i]).ti.length, (pp[i]).ti.zone, (pp[i]).ti.gap, (pp[i]).ti.fold, .slice none 0 0⟩ ⟨.slice va vn vc, T.minute, T.length, T.zone, T.gap, T.fold, .slice none 0 0⟩ (pp[i]).ti.rule T.rule R8 (hrl.mono hle58) (hti.mono hle8)) ?_
    rintro R9 v hle9 rfl
    have hdec : decide ((⟨.slice la ln lc, (pp[i]).ti.minute, (pp[i]).ti.length, (pp[i]).ti.zone, (pp[i]).ti.gap, (pp[i]).ti.fold, .slice none 0 0⟩ : Se).ti (pp[i]).ti.rule = (⟨.slice va vn vc, T.minute, T.length, T.zone, T.gap, T.fold, .slice none 0 0⟩ : Se).ti T.rule) = true := decide_eq_true (by rw [hti']; rfl)
    rw [hdec]
    try simp only [go_sem, ↓reduceIte, Nat.reduceEqDiff, Nat.reduceAdd, Nat.reduceMul, Nat.reduceLeDiff, Nat.reduceLT, Nat.reduceBNe, reduceCtorEq, e16, e10, e1, e7, e14, e13]
end Go.Proofs.YtojckjngjfgfdaaGreat
