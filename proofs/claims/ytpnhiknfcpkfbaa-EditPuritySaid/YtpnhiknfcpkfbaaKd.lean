/- Plain lemmas of our own, no statement of the seat: the law EditPurity. -/
import Derived.Test.YtpnhiknfcpkfbaaKe
import Derived.Test.YtpnhiknfcpkfbaaFy
import Derived.Test.YtpnhiknfcpkfbaaFz
namespace Go.Proofs.Ytpnhiknfcpkfbaa
set_option linter.unusedSimpArgs false
set_option linter.unusedVariables false
open Go.Proofs.Ytpnhiknfcpkfbaa.Vc
set_option maxHeartbeats 4000000 in
theorem lPurityE (R : RO) (es : List Ed) (v : Value) (h : EdC R v es) (hl : es.length ≤ 1099511627776) (s : Ed) : CallsR Try.prog 10 [v, s.val] R fun _ v => v = .bool true := by
  have hMd := fun R' hle => eMade es v R' (EdC.mono (R' := R') h hle) hl
  have hMs := fun R' hle => eMadeSeries s.minute es v R' (EdC.mono (R' := R') h hle) hl
  obtain ⟨a, cap, rfl, hc, _⟩ := h.form
  simp only [Ed.val]
  refine callsT mix Try.func10 comp10 (by simp [Try.ntmps10]) ?_; simp only [go_sem, ↓reduceIte, Nat.reduceEqDiff, Nat.reduceAdd, Nat.reduceMul, Nat.reduceLeDiff, Nat.reduceLT, Nat.reduceBNe, reduceCtorEq, vc10, rs10]
  refine vcall (eSanity R) ?_
  rintro R1 v hle1 rfl
  simp only [tSteps_none, tSteps_nil, tOp_mov, tEv_tmp, tEv_const, tPut_some, tPut_none, tCode_seq]
  obtain ⟨xs, hxs⟩ : ∃ xs, xs = madeL es := ⟨_, rfl⟩
  have hxl := madeL_len es
  have hcons := madeL_cons es
  have hms := movesOf_ok es
  have hml := movesOf_len es
  obtain ⟨ms, hmse⟩ : ∃ ms, ms = movesOf es := ⟨_, rfl⟩
  rw [← hxs] at hMd hxl hcons
  rw [← hmse] at hMs hms hml
  refine cutT (MadeU xs (ruleN s.minute) ms (s.minute % 3) R1 5 6 7 (.box [.val (.int .i64 s.kind), .val (.int .i64 s.day), .val (.int .i64 s.device), .val (.int .i64 s.seq), .val (.int .i64 s.mv.day), .val (.bool s.mv.drop), .val (.int .i64 s.mv.toDay), .val (.int .i64 s.mv.minute), .val (.int .i64 s.mv.length), .val (.int .i64 s.minute), .val (.int .i64 s.length), .val (.slice s.ra s.rn s.rc), .val (.string s.zone)]) 0 (.slice a es.length cap)) ?_ ?_
  · try simp only [go_sem, ↓reduceIte, Nat.reduceEqDiff, Nat.reduceAdd, Nat.reduceMul, Nat.reduceLeDiff, Nat.reduceLT, Nat.reduceBNe, reduceCtorEq]
    refine ⟨?_, ?_⟩
    all_goals (refine vcall (hMd R1 hle1) ?_; intro R2 u hle2 hx; obtain ⟨xa, xcap, rfl, hxc, hxf⟩ := PlOK.of hx; try simp only [go_sem, ↓reduceIte, Nat.reduceEqDiff, Nat.reduceAdd, Nat.reduceMul, Nat.reduceLeDiff, Nat.reduceLT, Nat.reduceBNe, reduceCtorEq])
    refine ⟨?_, ?_⟩
    all_goals (refine vcall (hMs R2 (RO.le_trans hle1 hle2)) ?_; rintro R3 u hle3 ⟨rv, mv, rfl, hrv, hmv⟩; obtain ⟨ra, rn, rc, rfl⟩ := hrv.form; obtain ⟨ma, mcap, rfl, _⟩ := hmv.form; simp only [go_sem, ↓reduceIte, Nat.reduceEqDiff, Nat.reduceAdd, Nat.reduceMul, Nat.reduceLeDiff, Nat.reduceLT, Nat.reduceBNe, reduceCtorEq, Se.cells])
    all_goals exact ⟨_, _, xa, xcap, ra, rn, rc, ma, mcap, rfl, RO.le_trans hle2 hle3, rfl, rfl, rfl, rfl, hx.mono hle3, hrv, hmv⟩
  rintro _ ⟨env, R3, xa, xcap, ra, rn, rc, ma, mcap, rfl, hle3, e5, e6, e7, e0, hx, hrv, hmv⟩
  simp only [go_sem, ↓reduceIte, Nat.reduceEqDiff, Nat.reduceAdd, Nat.reduceMul, Nat.reduceLeDiff, Nat.reduceLT, Nat.reduceBNe, reduceCtorEq, e5, e6, e7, e0]
  obtain ⟨o, ho1, ho2, ho3⟩ := allD_cons hcons (by omega)
  have hvo := allD_valid ho1
  obtain ⟨S, hS⟩ : ∃ S : Se, S = ⟨.slice ra rn rc, s.minute % 3, 1, zA, 0, 0, .slice ma ms.length mcap⟩ := ⟨_, rfl⟩
  have hSc : S.cells = [.slice ra rn rc, .int .i64 (s.minute % 3), .int .i64 1, .string zA, .int .i64 0, .int .i64 0, .slice ma ms.length mcap] := by rw [hS]; rfl
  have hSr : S.rule = .slice ra rn rc := by rw [hS]
  have hSm : S.moves = .slice ma ms.length mcap := by rw [hS]
  have hSl : S.length = 1 := by rw [hS]
  have hMg := fun R' (hle : RO.le R3 R') => eMerge S (ruleN s.minute) ms xs _ R' (by rw [hSr]; exact hrv.mono hle) (by rw [hSm]; exact hmv.mono hle) (hx.mono hle) (by omega)
  have hMn := fun R' (hle : RO.le R3 R') => eMergeN S (ruleN s.minute) ms xs _ R' (by rw [hSr]; exact hrv.mono hle) (by rw [hSm]; exact hmv.mono hle) (hx.mono hle) (by omega)
  rw [hSc] at hMg hMn
  obtain ⟨pp, hpp⟩ : ∃ pp, pp = mergeP S (ruleN s.minute) ms o := ⟨_, rfl⟩
  have hMgV : ∀ {R r}, MergeV R r S (ruleN s.minute) ms xs → ∃ u v, r = .tuple #[u, v, .int .i64 0] ∧ PartsV R u pp ∧ EncV Ov.cells 4 R v (recsD o) := fun hr => by
    unfold MergeV at hr
    rw [ho1] at hr
    dsimp only at hr
    rw [if_neg (by simp [hms, hSl]), ← hpp] at hr
    exact hr
  have hMnV : ∀ {R0 R r}, MergeN R0 R r S (ruleN s.minute) ms xs → ∃ u v, r = .tuple #[u, v, .int .i64 0] ∧ PartsV (newR R0 R) u pp ∧ EncV Ov.cells 4 R v (recsD o) := fun hr => by
    unfold MergeN at hr
    rw [ho1] at hr
    dsimp only at hr
    rw [if_neg (by simp [hms, hSl]), ← hpp] at hr
    exact hr
  refine vadoptV rfl (fun R' hle' _ => callsR_func (eRebaseN xs _ R' (hx.mono hle'))) ?_
  rintro Ra1 Ra2 r Fa - - ⟨hr, hfa⟩ hFa
  unfold RebN at hr
  rw [ho1] at hr
  dsimp only at hr
  obtain ⟨ar, ov, rfl, har, hov⟩ := hr
  have hKa : Keep (newR Ra1 Ra2) Fa := Keep.of (hfa.sub newR_le) hFa
  obtain ⟨aa, acap, rfl, hac, haf⟩ := PlOK.of har
  obtain ⟨oa, ocap, rfl, _⟩ := hov.form
  simp only [go_sem, ↓reduceIte, Nat.reduceEqDiff, Nat.reduceAdd, Nat.reduceMul, Nat.reduceLeDiff, Nat.reduceLT, Nat.reduceBNe, reduceCtorEq, e5, e6, e7, e0]
  refine vcall (hMg R3 (RO.le_refl _)) ?_
  intro R4 r hle4 hr
  obtain ⟨p1, q1, rfl, hp1, hq1⟩ := hMgV hr
  clear hr
  obtain ⟨qa1, qcap1, rfl, _⟩ := hq1.form
  obtain ⟨pa1, pcap1, rfl, _⟩ := hp1.form
  simp only [go_sem, ↓reduceIte, Nat.reduceEqDiff, Nat.reduceAdd, Nat.reduceMul, Nat.reduceLeDiff, Nat.reduceLT, Nat.reduceBNe, reduceCtorEq, e5, e6, e7, e0]
  refine vadoptV rfl (fun R' hle' _ => callsR_func (hMn R' (RO.le_trans hle4 hle'))) ?_
  rintro Rq1 Rq2 r Fq - - ⟨hr, hfq⟩ hFq
  obtain ⟨p2, q2, rfl, hp2, hq2⟩ := hMnV hr
  clear hr
  have hKq : Keep (newR Rq1 Rq2) Fq := Keep.of (hfq.sub newR_le) hFq
  obtain ⟨qa2, qcap2, rfl, _⟩ := hq2.form
  have hp2' := hp2
  obtain ⟨pa, pcap, rfl, hpc, hpf⟩ := hp2.form
  simp only [go_sem, ↓reduceIte, Nat.reduceEqDiff, Nat.reduceAdd, Nat.reduceMul, Nat.reduceLeDiff, Nat.reduceLT, Nat.reduceBNe, reduceCtorEq, e5, e6, e7, e0]
  have hal : (forceD o).length ≤ 1000000000 := by obtain ⟨_, _, _, _, h⟩ := har; exact h
  have hpl : pp.length ≤ 1000000000 := by obtain ⟨_, _, _, _, h⟩ := hp2'; exact h
  refine vcLoop (Nat × RO) (fun x => [(17, .val (.int .i64 x.1)), (8, .val (.slice aa (forceD o).length acap)), (14, .val (.slice pa pp.length pcap)), (11, .val (.slice pa1 pp.length pcap1)), (7, .loc 1 0), (6, .val (.slice xa xs.length xcap)), (0, .val (.slice a es.length cap)), (5, .val (.bool true))])
    (fun x => [.dead, .box [.val (.slice ra rn rc), .val (.int .i64 (s.minute % 3)), .val (.int .i64 1), .val (.string zA), .val (.int .i64 0), .val (.int .i64 0), .val (.slice ma ms.length mcap)], .own x.2, .own Fq])
    (fun x _ => x.1 ≤ (forceD o).length ∧ Keep (newR Ra1 Ra2) x.2) (fun x => (forceD o).length - x.1) (0, Fa) ?_ ?_ ?_ ?_
  · (try simp only [go_sem, ↓reduceIte, Nat.reduceEqDiff, Nat.reduceAdd, Nat.reduceMul, Nat.reduceLeDiff, Nat.reduceLT, Nat.reduceBNe, reduceCtorEq]) <;> (repeat' (first | rfl | trivial | constructor | (intro h; exact absurd rfl h))) <;> exact RO.le_refl _
  · try simp only [go_sem, ↓reduceIte, Nat.reduceEqDiff, Nat.reduceAdd, Nat.reduceMul, Nat.reduceLeDiff, Nat.reduceLT, Nat.reduceBNe, reduceCtorEq]
  · exact ⟨Nat.zero_le _, hKa⟩
  rintro ⟨i, Fi⟩ env R5 hle5 hE ⟨hi, hK⟩
  simp only at hE hi hK
  (simp only [go_sem] at hE; obtain ⟨e17, e8, e14, e11, e7, e6, e0, e5⟩ := hE; simp only [go_sem, ↓reduceIte, Nat.reduceEqDiff, Nat.reduceAdd, Nat.reduceMul, Nat.reduceLeDiff, Nat.reduceLT, Nat.reduceBNe, reduceCtorEq, e17, e8, e14, e11, e7, e6, e0, e5]; dsimp only at *)
  refine ⟨fun hlt => ?_, fun hge => ?_⟩
  · have hlt' : i < (forceD o).length := by omega
    obtain ⟨ad, ⟨pd, pra, prn, prc⟩, had, hp1e, hR, hpok⟩ := haf i hlt'
    have hc11 := hR 11 _ rfl
    have hc1 := hR 1 _ rfl
    have hpok' : RuleV (newR Ra1 Ra2) (.slice pra prn prc) pd.rule := hpok
    have hnode := RuleV.node hpok'
    have hprn : prn ≤ 1000000000 := by
      have h1 := RuleV.len hpok'
      obtain ⟨_, _, _, _, h2⟩ := hpok'
      omega
    refine vcLoop (Nat × RO) (fun x => [(18, .val (.int .i64 x.1)), (17, .val (.int .i64 i)), (8, .val (.slice aa (forceD o).length acap)), (14, .val (.slice pa pp.length pcap)), (11, .val (.slice pa1 pp.length pcap1)), (7, .loc 1 0), (6, .val (.slice xa xs.length xcap)), (0, .val (.slice a es.length cap)), (5, .val (.bool true))])
      (fun x => [.dead, .box [.val (.slice ra rn rc), .val (.int .i64 (s.minute % 3)), .val (.int .i64 1), .val (.string zA), .val (.int .i64 0), .val (.int .i64 0), .val (.slice ma ms.length mcap)], .own x.2, .own Fq])
      (fun x _ => x.1 ≤ prn ∧ Keep (newR Ra1 Ra2) x.2) (fun x => prn - x.1) (0, Fi) ?_ ?_ ?_ ?_
    · (try simp only [go_sem, ↓reduceIte, Nat.reduceEqDiff, Nat.reduceAdd, Nat.reduceMul, Nat.reduceLeDiff, Nat.reduceLT, Nat.reduceBNe, reduceCtorEq]) <;> (repeat' (first | rfl | trivial | constructor | (intro h; exact absurd rfl h))) <;> exact RO.le_refl _
    · try simp only [go_sem, ↓reduceIte, Nat.reduceEqDiff, Nat.reduceAdd, Nat.reduceMul, Nat.reduceLeDiff, Nat.reduceLT, Nat.reduceBNe, reduceCtorEq]
    · exact ⟨Nat.zero_le _, hK⟩
    rintro ⟨k, Fk⟩ env R6 hle6 hE ⟨hk, hK6⟩
    simp only at hE hk hK6
    (simp only [go_sem] at hE; obtain ⟨e18, e17', e8', e14', e11', e7', e6', e0', e5'⟩ := hE; simp only [go_sem, ↓reduceIte, Nat.reduceEqDiff, Nat.reduceAdd, Nat.reduceMul, Nat.reduceLeDiff, Nat.reduceLT, Nat.reduceBNe, reduceCtorEq, e18, e17', e8', e14', e11', e7', e6', e0', e5']; dsimp only at *)
    refine ⟨hlt, vat ad had ?_⟩
    try simp only [go_sem, ↓reduceIte, Nat.reduceEqDiff, Nat.reduceAdd, Nat.reduceMul, Nat.reduceLeDiff, Nat.reduceLT, Nat.reduceBNe, reduceCtorEq]
    refine vloadO 2 Fk rfl _ (hK6.hard _ _ hc11 (fun z => by simp [Pl.ed, De.ed, Ed.cells])) ?_
    simp only [go_sem, ↓reduceIte, Nat.reduceEqDiff, Nat.reduceAdd, Nat.reduceMul, Nat.reduceLeDiff, Nat.reduceLT, Nat.reduceBNe, reduceCtorEq, Pl.ed, De.ed, Ed.cells, e18, e17', e8', e14', e11', e7', e6', e0', e5']
    refine ⟨fun hkl => ?_, fun hkl => ?_⟩
    · obtain ⟨rad, z, hrad, hz⟩ := hnode k (by omega)
      refine ⟨hlt, vat ad had ?_⟩
      try simp only [go_sem, ↓reduceIte, Nat.reduceEqDiff, Nat.reduceAdd, Nat.reduceMul, Nat.reduceLeDiff, Nat.reduceLT, Nat.reduceBNe, reduceCtorEq]
      refine vloadO 2 Fk rfl _ (hK6.hard _ _ hc11 (fun z => by simp [Pl.ed, De.ed, Ed.cells])) ?_
      simp only [go_sem, ↓reduceIte, Nat.reduceEqDiff, Nat.reduceAdd, Nat.reduceMul, Nat.reduceLeDiff, Nat.reduceLT, Nat.reduceBNe, reduceCtorEq, Pl.ed, De.ed, Ed.cells, e18, e17', e8', e14', e11', e7', e6', e0', e5']
      refine ⟨hkl, vat rad hrad ?_⟩
      try simp only [go_sem, ↓reduceIte, Nat.reduceEqDiff, Nat.reduceAdd, Nat.reduceMul, Nat.reduceLeDiff, Nat.reduceLT, Nat.reduceBNe, reduceCtorEq]
      refine vput 2 Fk rfl hK6 hz fun Fk' hK' => ?_
      simp only [go_sem, ↓reduceIte, Nat.reduceEqDiff, Nat.reduceAdd, Nat.reduceMul, Nat.reduceLeDiff, Nat.reduceLT, Nat.reduceBNe, reduceCtorEq, e18, e17', e8', e14', e11', e7', e6', e0', e5']
      refine ⟨_, W.in64 (by omega), (k + 1, Fk'), by dsimp only; omega, ⟨by norm_cast, RO.le_refl _, RO.le_refl _⟩, by omega, hK'⟩
    · refine ⟨hlt, vat ad had ?_⟩
      try simp only [go_sem, ↓reduceIte, Nat.reduceEqDiff, Nat.reduceAdd, Nat.reduceMul, Nat.reduceLeDiff, Nat.reduceLT, Nat.reduceBNe, reduceCtorEq]
      refine vput 2 Fk rfl hK6 hc1 fun Fk' hK' => ?_
      simp only [go_sem, ↓reduceIte, Nat.reduceEqDiff, Nat.reduceAdd, Nat.reduceMul, Nat.reduceLeDiff, Nat.reduceLT, Nat.reduceBNe, reduceCtorEq, e18, e17', e8', e14', e11', e7', e6', e0', e5']
      refine ⟨_, W.in64 (by omega), (i + 1, Fk'), by dsimp only; omega, ⟨by norm_cast, RO.le_refl _, RO.le_refl _⟩, by omega, hK'⟩
  clear hK hi hKa har haf hFa hfa
  refine vcLoop (Nat × RO) (fun x => [(19, .val (.int .i64 x.1)), (14, .val (.slice pa pp.length pcap)), (11, .val (.slice pa1 pp.length pcap1)), (7, .loc 1 0), (6, .val (.slice xa xs.length xcap)), (0, .val (.slice a es.length cap)), (5, .val (.bool true))])
    (fun x => [.dead, .box [.val (.slice ra rn rc), .val (.int .i64 (s.minute % 3)), .val (.int .i64 1), .val (.string zA), .val (.int .i64 0), .val (.int .i64 0), .val (.slice ma ms.length mcap)], .dead, .own x.2])
    (fun x _ => x.1 ≤ pp.length ∧ Keep (newR Rq1 Rq2) x.2) (fun x => pp.length - x.1) (0, Fq) ?_ ?_ ?_ ?_
  · (try simp only [go_sem, ↓reduceIte, Nat.reduceEqDiff, Nat.reduceAdd, Nat.reduceMul, Nat.reduceLeDiff, Nat.reduceLT, Nat.reduceBNe, reduceCtorEq]) <;> (repeat' (first | rfl | trivial | constructor | (intro h; exact absurd rfl h))) <;> exact RO.le_refl _
  · try simp only [go_sem, ↓reduceIte, Nat.reduceEqDiff, Nat.reduceAdd, Nat.reduceMul, Nat.reduceLeDiff, Nat.reduceLT, Nat.reduceBNe, reduceCtorEq]
  · exact ⟨Nat.zero_le _, hKq⟩
  rintro ⟨i, Fi⟩ env R6 hle6 hE ⟨hi, hK⟩
  simp only at hE hi hK
  (simp only [go_sem] at hE; obtain ⟨e19, e14, e11, e7, e6, e0, e5⟩ := hE; simp only [go_sem, ↓reduceIte, Nat.reduceEqDiff, Nat.reduceAdd, Nat.reduceMul, Nat.reduceLeDiff, Nat.reduceLT, Nat.reduceBNe, reduceCtorEq, e19, e14, e11, e7, e6, e0, e5]; dsimp only at *)
  refine ⟨fun hlt => ?_, fun hge => ?_⟩
  · have hlt' : i < pp.length := by omega
    obtain ⟨ad, sra, srn, src, sma, smc, had, hR, hrl, hmvs⟩ := hpf i hlt'
    have hc1 := hR 1 _ rfl
    have hc7 := hR 7 _ rfl
    have hnode := RuleV.node hrl
    have hsrn : srn ≤ 1000000000 := by
      have h1 := RuleV.len hrl
      obtain ⟨_, _, _, _, h2⟩ := hrl
      omega
    have hml2 : (pp[i]).moves.length ≤ 1000000000 := hmvs.2
    have hmv2 : ∀ k, k < (pp[i]).moves.length → ∃ mad z, sma = some mad ∧ newR Rq1 Rq2 (mad.add (k * 5)) (.int .i64 z) := fun k hk => by
      obtain ⟨a', cap', e, _, hf⟩ := hmvs.form
      simp only [Value.slice.injEq] at e
      obtain ⟨rfl, _, rfl⟩ := e
      obtain ⟨mad, hmad, hR⟩ := hf k hk
      have := hR 0 _ rfl
      rw [Addr.add_zero'] at this
      exact ⟨mad, _, hmad, this⟩
    obtain ⟨ml, hmle⟩ : ∃ ml, ml = (pp[i]).moves.length := ⟨_, rfl⟩
    rw [← hmle] at hml2 hmv2 hc7
    refine vcLoop (Nat × RO) (fun x => [(20, .val (.int .i64 x.1)), (19, .val (.int .i64 i)), (14, .val (.slice pa pp.length pcap)), (11, .val (.slice pa1 pp.length pcap1)), (7, .loc 1 0), (6, .val (.slice xa xs.length xcap)), (0, .val (.slice a es.length cap)), (5, .val (.bool true))])
      (fun x => [.dead, .box [.val (.slice ra rn rc), .val (.int .i64 (s.minute % 3)), .val (.int .i64 1), .val (.string zA), .val (.int .i64 0), .val (.int .i64 0), .val (.slice ma ms.length mcap)], .dead, .own x.2])
      (fun x _ => x.1 ≤ srn ∧ Keep (newR Rq1 Rq2) x.2) (fun x => srn - x.1) (0, Fi) ?_ ?_ ?_ ?_
    · (try simp only [go_sem, ↓reduceIte, Nat.reduceEqDiff, Nat.reduceAdd, Nat.reduceMul, Nat.reduceLeDiff, Nat.reduceLT, Nat.reduceBNe, reduceCtorEq]) <;> (repeat' (first | rfl | trivial | constructor | (intro h; exact absurd rfl h))) <;> exact RO.le_refl _
    · try simp only [go_sem, ↓reduceIte, Nat.reduceEqDiff, Nat.reduceAdd, Nat.reduceMul, Nat.reduceLeDiff, Nat.reduceLT, Nat.reduceBNe, reduceCtorEq]
    · exact ⟨Nat.zero_le _, hK⟩
    rintro ⟨k, Fk⟩ env R7 hle7 hE ⟨hk, hK7⟩
    simp only at hE hk hK7
    (simp only [go_sem] at hE; obtain ⟨e20, e19', e14', e11', e7', e6', e0', e5'⟩ := hE; simp only [go_sem, ↓reduceIte, Nat.reduceEqDiff, Nat.reduceAdd, Nat.reduceMul, Nat.reduceLeDiff, Nat.reduceLT, Nat.reduceBNe, reduceCtorEq, e20, e19', e14', e11', e7', e6', e0', e5']; dsimp only at *)
    refine ⟨hlt, vat ad had ?_⟩
    try simp only [go_sem, ↓reduceIte, Nat.reduceEqDiff, Nat.reduceAdd, Nat.reduceMul, Nat.reduceLeDiff, Nat.reduceLT, Nat.reduceBNe, reduceCtorEq]
    refine vloadO 3 Fk rfl _ (hK7.hard _ _ hc1 (fun z => by simp)) ?_
    simp only [go_sem, ↓reduceIte, Nat.reduceEqDiff, Nat.reduceAdd, Nat.reduceMul, Nat.reduceLeDiff, Nat.reduceLT, Nat.reduceBNe, reduceCtorEq, e20, e19', e14', e11', e7', e6', e0', e5']
    refine ⟨fun hkl => ?_, fun hkl => ?_⟩
    · obtain ⟨rad, z, hrad, hz⟩ := hnode k (by omega)
      refine ⟨hlt, vat ad had ?_⟩
      try simp only [go_sem, ↓reduceIte, Nat.reduceEqDiff, Nat.reduceAdd, Nat.reduceMul, Nat.reduceLeDiff, Nat.reduceLT, Nat.reduceBNe, reduceCtorEq]
      refine vloadO 3 Fk rfl _ (hK7.hard _ _ hc1 (fun z => by simp)) ?_
      simp only [go_sem, ↓reduceIte, Nat.reduceEqDiff, Nat.reduceAdd, Nat.reduceMul, Nat.reduceLeDiff, Nat.reduceLT, Nat.reduceBNe, reduceCtorEq, e20, e19', e14', e11', e7', e6', e0', e5']
      refine ⟨hkl, vat rad hrad ?_⟩
      try simp only [go_sem, ↓reduceIte, Nat.reduceEqDiff, Nat.reduceAdd, Nat.reduceMul, Nat.reduceLeDiff, Nat.reduceLT, Nat.reduceBNe, reduceCtorEq]
      refine vput 3 Fk rfl hK7 hz fun Fk' hK' => ?_
      simp only [go_sem, ↓reduceIte, Nat.reduceEqDiff, Nat.reduceAdd, Nat.reduceMul, Nat.reduceLeDiff, Nat.reduceLT, Nat.reduceBNe, reduceCtorEq, e20, e19', e14', e11', e7', e6', e0', e5']
      refine ⟨_, W.in64 (by omega), (k + 1, Fk'), by dsimp only; omega, ⟨by norm_cast, RO.le_refl _⟩, by omega, hK'⟩
    clear hK hi
    refine vcLoop (Nat × RO) (fun x => [(21, .val (.int .i64 x.1)), (19, .val (.int .i64 i)), (14, .val (.slice pa pp.length pcap)), (11, .val (.slice pa1 pp.length pcap1)), (7, .loc 1 0), (6, .val (.slice xa xs.length xcap)), (0, .val (.slice a es.length cap)), (5, .val (.bool true))])
      (fun x => [.dead, .box [.val (.slice ra rn rc), .val (.int .i64 (s.minute % 3)), .val (.int .i64 1), .val (.string zA), .val (.int .i64 0), .val (.int .i64 0), .val (.slice ma ms.length mcap)], .dead, .own x.2])
      (fun x _ => x.1 ≤ ml ∧ Keep (newR Rq1 Rq2) x.2) (fun x => ml - x.1) (0, Fk) ?_ ?_ ?_ ?_
    · (try simp only [go_sem, ↓reduceIte, Nat.reduceEqDiff, Nat.reduceAdd, Nat.reduceMul, Nat.reduceLeDiff, Nat.reduceLT, Nat.reduceBNe, reduceCtorEq]) <;> (repeat' (first | rfl | trivial | constructor | (intro h; exact absurd rfl h))) <;> exact RO.le_refl _
    · try simp only [go_sem, ↓reduceIte, Nat.reduceEqDiff, Nat.reduceAdd, Nat.reduceMul, Nat.reduceLeDiff, Nat.reduceLT, Nat.reduceBNe, reduceCtorEq]
    · exact ⟨Nat.zero_le _, hK7⟩
    rintro ⟨m, Fm⟩ env R8 hle8 hE ⟨hm, hK8⟩
    simp only at hE hm hK8
    (simp only [go_sem] at hE; obtain ⟨e21, e19'', e14'', e11'', e7'', e6'', e0'', e5''⟩ := hE; simp only [go_sem, ↓reduceIte, Nat.reduceEqDiff, Nat.reduceAdd, Nat.reduceMul, Nat.reduceLeDiff, Nat.reduceLT, Nat.reduceBNe, reduceCtorEq, e21, e19'', e14'', e11'', e7'', e6'', e0'', e5'']; dsimp only at *)
    refine ⟨hlt, vat ad had ?_⟩
    try simp only [go_sem, ↓reduceIte, Nat.reduceEqDiff, Nat.reduceAdd, Nat.reduceMul, Nat.reduceLeDiff, Nat.reduceLT, Nat.reduceBNe, reduceCtorEq]
    refine vloadO 3 Fm rfl _ (hK8.hard _ _ hc7 (fun z => by simp)) ?_
    simp only [go_sem, ↓reduceIte, Nat.reduceEqDiff, Nat.reduceAdd, Nat.reduceMul, Nat.reduceLeDiff, Nat.reduceLT, Nat.reduceBNe, reduceCtorEq, e21, e19'', e14'', e11'', e7'', e6'', e0'', e5'']
    refine ⟨fun hkl => ?_, fun hkl => ?_⟩
    · obtain ⟨mad, z, hmad, hz⟩ := hmv2 m (by omega)
      refine ⟨hlt, vat ad had ?_⟩
      try simp only [go_sem, ↓reduceIte, Nat.reduceEqDiff, Nat.reduceAdd, Nat.reduceMul, Nat.reduceLeDiff, Nat.reduceLT, Nat.reduceBNe, reduceCtorEq]
      refine vloadO 3 Fm rfl _ (hK8.hard _ _ hc7 (fun z => by simp)) ?_
      simp only [go_sem, ↓reduceIte, Nat.reduceEqDiff, Nat.reduceAdd, Nat.reduceMul, Nat.reduceLeDiff, Nat.reduceLT, Nat.reduceBNe, reduceCtorEq, e21, e19'', e14'', e11'', e7'', e6'', e0'', e5'']
      refine ⟨hkl, vat mad hmad ?_⟩
      try simp only [go_sem, ↓reduceIte, Nat.reduceEqDiff, Nat.reduceAdd, Nat.reduceMul, Nat.reduceLeDiff, Nat.reduceLT, Nat.reduceBNe, reduceCtorEq]
      refine vput 3 Fm rfl hK8 hz fun Fk' hK' => ?_
      simp only [go_sem, ↓reduceIte, Nat.reduceEqDiff, Nat.reduceAdd, Nat.reduceMul, Nat.reduceLeDiff, Nat.reduceLT, Nat.reduceBNe, reduceCtorEq, e21, e19'', e14'', e11'', e7'', e6'', e0'', e5'']
      refine ⟨_, W.in64 (by omega), (m + 1, Fk'), by dsimp only; omega, ⟨by norm_cast, RO.le_refl _⟩, by omega, hK'⟩
    · refine ⟨_, W.in64 (by omega), (i + 1, Fm), by dsimp only; omega, ⟨by norm_cast, RO.le_refl _⟩, by omega, hK8⟩
  have hle46 := RO.le_trans hle5 hle6
  refine vcall (hMg R6 (RO.le_trans hle4 hle46)) ?_
  intro R7 r hle7 hr
  obtain ⟨p3, q3, rfl, hp3, hq3⟩ := hMgV hr
  clear hr
  obtain ⟨qa3, qcap3, rfl, _⟩ := hq3.form
  obtain ⟨pa3, pcap3, rfl, _⟩ := hp3.form
  simp only [go_sem, ↓reduceIte, Nat.reduceEqDiff, Nat.reduceAdd, Nat.reduceMul, Nat.reduceLeDiff, Nat.reduceLT, Nat.reduceBNe, reduceCtorEq, e19, e14, e11, e7, e6, e0, e5]
  have hle37 := RO.le_trans hle4 (RO.le_trans hle46 hle7)
  refine vcall (hMd R7 (RO.le_trans hle1 (RO.le_trans hle3 hle37))) ?_
  intro R8 u hle8 hx8
  simp only [go_sem, ↓reduceIte, Nat.reduceEqDiff, Nat.reduceAdd, Nat.reduceMul, Nat.reduceLeDiff, Nat.reduceLT, Nat.reduceBNe, reduceCtorEq, e19, e14, e11, e7, e6, e0, e5]
  refine vcall (eSameList xs xs _ _ R8 (hx.mono (RO.le_trans hle37 hle8)) hx8) ?_
  rintro R9 v hle9 rfl
  rw [decide_eq_true rfl]
  simp only [go_sem, ↓reduceIte, Nat.reduceEqDiff, Nat.reduceAdd, Nat.reduceMul, Nat.reduceLeDiff, Nat.reduceLT, Nat.reduceBNe, reduceCtorEq, e19, e14, e11, e7, e6, e0, e5]
  refine vcall (eSameParts pp pp _ _ R9 (hp1.mono (RO.le_trans hle46 (RO.le_trans hle7 (RO.le_trans hle8 hle9)))) (hp3.mono (RO.le_trans hle8 hle9))) ?_
  rintro R10 v hle10 rfl
  rw [decide_eq_true rfl]
  simp only [go_sem, ↓reduceIte, Nat.reduceEqDiff, Nat.reduceAdd, Nat.reduceMul, Nat.reduceLeDiff, Nat.reduceLT, Nat.reduceBNe, reduceCtorEq, e19, e14, e11, e7, e6, e0, e5]
end Go.Proofs.Ytpnhiknfcpkfbaa
