import Derived.Test.YtpnhiknfcpkfbaaGreatFz
import Derived.Test.YtpnhiknfcpkfbaaGreatZh
import Derived.Test.YtpnhiknfcpkfbaaGreatZk
namespace Go.Proofs.YtpnhiknfcpkfbaaGreat
set_option linter.unusedSimpArgs false
set_option linter.unusedVariables false
open Go.Proofs.YtpnhiknfcpkfbaaGreat.Vc
set_option maxHeartbeats 8000000 in
theorem lMadeRef (R : RO) (es : List Ed) (v : Value) (h : EdC R v es) (hl : es.length ≤ 1099511627776) (s : Ed) (day : Int) : CallsR Tryz.prog 3 [v, s.val, .int .i64 day] R fun _ v => v = .bool true := by
  have hMd := fun R' hle => eMade es v R' (EdC.mono (R' := R') h hle) hl
  have hMs := fun R' hle => eMadeSeries s.minute es v R' (EdC.mono (R' := R') h hle) hl
  obtain ⟨a, cap, rfl, hc, _⟩ := h.form
  simp only [Ed.val]
  refine callsT mix Tryz.func3 comp3 (by simp [Tryz.ntmps3]) ?_; simp only [go_sem, ↓reduceIte, Nat.reduceEqDiff, Nat.reduceAdd, Nat.reduceMul, Nat.reduceLeDiff, Nat.reduceLT, Nat.reduceBNe, reduceCtorEq, vc3, rs3]
  refine vcall (eSanity R) ?_
  rintro R1 v hle1 rfl
  simp only [tSteps_none, tSteps_nil, tOp_mov, tEv_tmp, tEv_const, tPut_some, tPut_none, tCode_seq]
  obtain ⟨xs, hxs⟩ : ∃ xs, xs = madeL es := ⟨_, rfl⟩
  have hxl := madeL_len es
  have hcons := madeL_cons es
  have hms := movesOf_ok es
  have hml := movesOf_len es
  obtain ⟨ms, hmse⟩ : ∃ ms, ms = movesOf es := ⟨_, rfl⟩
  rw [← hxs] at hMd hxl hcons
  rw [← hmse] at hMs hms hml
  refine cutT (MadeU xs (ruleN s.minute) ms (s.minute % 3) R1 7 8 9 (.box [.val (.int .i64 s.kind), .val (.int .i64 s.day), .val (.int .i64 s.device), .val (.int .i64 s.seq), .val (.int .i64 s.mv.day), .val (.bool s.mv.drop), .val (.int .i64 s.mv.toDay), .val (.int .i64 s.mv.minute), .val (.int .i64 s.mv.length), .val (.int .i64 s.minute), .val (.int .i64 s.length), .val (.slice s.ra s.rn s.rc), .val (.string s.zone)]) 2 (.int .i64 day)) ?_ ?_
  · try simp only [go_sem, ↓reduceIte, Nat.reduceEqDiff, Nat.reduceAdd, Nat.reduceMul, Nat.reduceLeDiff, Nat.reduceLT, Nat.reduceBNe, reduceCtorEq]
    refine ⟨?_, ?_⟩
    all_goals (refine vcall (hMd R1 hle1) ?_; intro R2 u hle2 hx; obtain ⟨xa, xcap, rfl, hxc, hxf⟩ := PlOK.of hx; try simp only [go_sem, ↓reduceIte, Nat.reduceEqDiff, Nat.reduceAdd, Nat.reduceMul, Nat.reduceLeDiff, Nat.reduceLT, Nat.reduceBNe, reduceCtorEq])
    refine ⟨?_, ?_⟩
    all_goals (refine vcall (hMs R2 (RO.le_trans hle1 hle2)) ?_; rintro R3 u hle3 ⟨rv, mv, rfl, hrv, hmv⟩; obtain ⟨ra, rn, rc, rfl⟩ := hrv.form; obtain ⟨ma, mcap, rfl, _⟩ := hmv.form; simp only [go_sem, ↓reduceIte, Nat.reduceEqDiff, Nat.reduceAdd, Nat.reduceMul, Nat.reduceLeDiff, Nat.reduceLT, Nat.reduceBNe, reduceCtorEq, Se.cells])
    all_goals exact ⟨_, _, xa, xcap, ra, rn, rc, ma, mcap, rfl, RO.le_trans hle2 hle3, rfl, rfl, rfl, rfl, hx.mono hle3, hrv, hmv⟩
  rintro _ ⟨env, R3, xa, xcap, ra, rn, rc, ma, mcap, rfl, hle3, e7, e8, e9, e2, hx, hrv, hmv⟩
  simp only [go_sem, ↓reduceIte, Nat.reduceEqDiff, Nat.reduceAdd, Nat.reduceMul, Nat.reduceLeDiff, Nat.reduceLT, Nat.reduceBNe, reduceCtorEq, e7, e8, e9, e2]
  obtain ⟨o, ho1, ho2, ho3⟩ := allD_cons hcons (by omega)
  have hvo := allD_valid ho1
  obtain ⟨S, hS⟩ : ∃ S : Se, S = ⟨.slice ra rn rc, s.minute % 3, 1, zA, 0, 0, .slice ma ms.length mcap⟩ := ⟨_, rfl⟩
  have hSc : S.cells = [.slice ra rn rc, .int .i64 (s.minute % 3), .int .i64 1, .string zA, .int .i64 0, .int .i64 0, .slice ma ms.length mcap] := by rw [hS]; rfl
  have hSr : S.rule = .slice ra rn rc := by rw [hS]
  have hSm : S.moves = .slice ma ms.length mcap := by rw [hS]
  have hSl : S.length = 1 := by rw [hS]
  have hMg := fun R' (hle : RO.le R3 R') => eMerge S (ruleN s.minute) ms xs _ R' (by rw [hSr]; exact hrv.mono hle) (by rw [hSm]; exact hmv.mono hle) (hx.mono hle) (by omega)
  have hRMg := fun R' (hle : RO.le R3 R') => rMerge S (ruleN s.minute) ms xs o _ R' (by rw [hSr]; exact hrv.mono hle) (by rw [hSm]; exact hmv.mono hle) (hx.mono hle) hcons ho1 (by omega) hms (by omega)
  have hAt := fun R' (hle : RO.le R3 R') => eAt S (ruleN s.minute) xs _ day R' (by rw [hSr]; exact hrv.mono hle) (by rw [hSm]; rfl) (hx.mono hle)
  have hRAt := fun R' (hle : RO.le R3 R') => rAt S (ruleN s.minute) ms xs o _ day R' (by rw [hSr]; exact hrv.mono hle) (by rw [hSm]; exact hmv.mono hle) ((movesOK_pair hms).1.imp fun h => by omega) (hx.mono hle) hcons (by omega) ho1 (fun d hd => by have := valid_kind (hvo d hd); omega)
  rw [refR_merge S (ruleN s.minute) ms ho2 hvo hms (by omega)] at hRMg
  rw [hSc] at hMg hAt hRMg hRAt
  refine vcall (eRebase xs _ R3 hx) ?_
  intro R4 r hle4 hr
  unfold RebV at hr
  rw [ho1] at hr
  obtain ⟨u1, w1, rfl, hu1, hw1⟩ := hr
  obtain ⟨u1a, u1c, rfl, _⟩ := hu1.form
  obtain ⟨w1a, w1c, rfl, _⟩ := hw1.form
  simp only [go_sem, ↓reduceIte, Nat.reduceEqDiff, Nat.reduceAdd, Nat.reduceMul, Nat.reduceLeDiff, Nat.reduceLT, Nat.reduceBNe, reduceCtorEq, e7, e8, e9, e2]
  refine vcall (rRebase xs o _ R4 (hx.mono hle4) hcons (by omega) ho1) ?_
  rintro R5 r hle5 ⟨u2, w2, rfl, hu2, hw2⟩
  obtain ⟨u2a, u2c, rfl, _⟩ := hu2.form
  obtain ⟨w2a, w2c, rfl, _⟩ := hw2.form
  simp only [go_sem, ↓reduceIte, Nat.reduceEqDiff, Nat.reduceAdd, Nat.reduceMul, Nat.reduceLeDiff, Nat.reduceLT, Nat.reduceBNe, reduceCtorEq, e7, e8, e9, e2]
  have l35 := RO.le_trans hle4 hle5
  refine vcall (hMg R5 l35) ?_
  intro R6 r hle6 hr
  unfold MergeV at hr
  rw [ho1] at hr
  dsimp only at hr
  rw [if_neg (by simp [hms, hSl])] at hr
  obtain ⟨p1, q1, rfl, hp1, hq1⟩ := hr
  obtain ⟨qa, qcap, rfl, _⟩ := hq1.form
  obtain ⟨pa, pcap, rfl, _⟩ := hp1.form
  simp only [go_sem, ↓reduceIte, Nat.reduceEqDiff, Nat.reduceAdd, Nat.reduceMul, Nat.reduceLeDiff, Nat.reduceLT, Nat.reduceBNe, reduceCtorEq, e7, e8, e9, e2]
  have l36 := RO.le_trans l35 hle6
  refine vcall (hRMg R6 l36) ?_
  rintro R7 r hle7 ⟨p2, rfl, hp2⟩
  obtain ⟨pa2, pcap2, rfl, _⟩ := hp2.form
  simp only [go_sem, ↓reduceIte, Nat.reduceEqDiff, Nat.reduceAdd, Nat.reduceMul, Nat.reduceLeDiff, Nat.reduceLT, Nat.reduceBNe, reduceCtorEq, e7, e8, e9, e2]
  have l37 := RO.le_trans l36 hle7
  refine vcall (hAt R7 l37) ?_
  intro R8 r hle8 hat
  have l38 := RO.le_trans l37 hle8
  unfold AtV at hat
  rw [ho1] at hat
  dsimp only at hat
  have l58 := RO.le_trans hle6 (RO.le_trans hle7 hle8)
  have l48 := RO.le_trans hle5 l58
  have l68 := RO.le_trans hle7 hle8
  obtain ⟨tv, on, g, hrr, htv⟩ : ∃ (tv : Se) (on : Bool) (g : Int), r = .tuple #[.agg tv.cells.toArray, .bool on, .int .i64 g] ∧
      ((betw 0 day 1099511627776 = false ∧ on = false ∧ g = 1 ∧ tv = Se.zero) ∨ (betw 0 day 1099511627776 = true ∧ g = 0 ∧ tv.moves = .slice none 0 0 ∧ ∃ rl, RuleV R8 tv.rule rl ∧
        ((endE (forceD o) ≤ day ∧ on = false ∧ tv = Se.zero ∧ rl = []) ∨ (¬ endE (forceD o) ≤ day ∧ on = true ∧ tv.ti rl = tiOn S (ruleN s.minute) (forceD o) day)))) := by
    split at hat
    · rename_i hb; exact ⟨_, _, _, hat, .inl ⟨hb, rfl, rfl, rfl⟩⟩
    · rename_i hb
      have hb' : betw 0 day 1099511627776 = true := by simpa using hb
      split at hat
      · rename_i he; exact ⟨_, _, _, hat, .inr ⟨hb', rfl, rfl, [], RuleV.nil _, .inl ⟨he, rfl, rfl, rfl⟩⟩⟩
      · rename_i he
        obtain ⟨rv, e, hrv⟩ := hat
        exact ⟨_, _, _, e, .inr ⟨hb', rfl, rfl, _, hrv, .inr ⟨he, rfl, rfl⟩⟩⟩
  subst hrr
  have hto1 : tv.rule.oneCell' = true ∧ tv.moves.oneCell' = true := by
    rcases htv with ⟨_, _, _, rfl⟩ | ⟨_, _, hm, rl, hr, _⟩
    · exact ⟨rfl, rfl⟩
    · exact ⟨hr.one, by rw [hm]; rfl⟩
  obtain ⟨tr, tm, tl, tz, tg, tf, tmv⟩ := tv
  simp only [Se.cells]
  simp only [go_sem, ↓reduceIte, Nat.reduceEqDiff, Nat.reduceAdd, Nat.reduceMul, Nat.reduceLeDiff, Nat.reduceLT, Nat.reduceBNe, reduceCtorEq, e7, e8, e9, e2]
  refine ⟨hto1, ?_⟩
  refine vcall (eSameList (forceD o) (forceD o) _ _ R8 (hu1.mono l48) (hu2.mono l58)) ?_
  rintro R9 v hle9 rfl
  rw [decide_eq_true rfl]
  simp only [go_sem, ↓reduceIte, Nat.reduceEqDiff, Nat.reduceAdd, Nat.reduceMul, Nat.reduceLeDiff, Nat.reduceLT, Nat.reduceBNe, reduceCtorEq, e7, e8, e9, e2]
  refine vcall (eSameRecords (recsD o) (recsD o) _ _ R9 ((hw1.mono l48).mono hle9) ((hw2.mono l58).mono hle9)) ?_
  rintro R10 v hle10 rfl
  rw [decide_eq_true rfl]
  simp only [go_sem, ↓reduceIte, Nat.reduceEqDiff, Nat.reduceAdd, Nat.reduceMul, Nat.reduceLeDiff, Nat.reduceLT, Nat.reduceBNe, reduceCtorEq, e7, e8, e9, e2]
  have l8a := RO.le_trans hle9 hle10
  refine vcall (eSameParts (mergeP S (ruleN s.minute) ms o) (mergeP S (ruleN s.minute) ms o) _ _ R10 ((hp1.mono l68).mono l8a) ((hp2.mono hle8).mono l8a)) ?_
  rintro R11 v hle11 rfl
  rw [decide_eq_true rfl]
  simp only [go_sem, ↓reduceIte, Nat.reduceEqDiff, Nat.reduceAdd, Nat.reduceMul, Nat.reduceLeDiff, Nat.reduceLT, Nat.reduceBNe, reduceCtorEq, e7, e8, e9, e2]
  have l8b := RO.le_trans l8a hle11
  refine vcall (eSameRecords (recsD o) (recsD o) _ _ R11 ((hq1.mono l68).mono l8b) ((hw1.mono l48).mono l8b)) ?_
  rintro R12 v hle12 rfl
  rw [decide_eq_true rfl]
  simp only [go_sem, ↓reduceIte, Nat.reduceEqDiff, Nat.reduceAdd, Nat.reduceMul, Nat.reduceLeDiff, Nat.reduceLT, Nat.reduceBNe, reduceCtorEq, e7, e8, e9, e2]
  have l8c := RO.le_trans l8b hle12
  rcases htv with ⟨hb, rfl, rfl, _⟩ | ⟨hb, rfl, hm0, rl, hrl, htv⟩
  · have hb' : ¬ (0 ≤ day ∧ day ≤ 1099511627776) := by
      intro h1
      unfold betw at hb
      simp at hb; omega
    refine ⟨fun h0 => ⟨fun h1 => by simp, fun h1 => by omega⟩, fun h0 => by simp⟩
  · have hb' : 0 ≤ day ∧ day ≤ 1099511627776 := by
      unfold betw at hb
      simp at hb; omega
    refine ⟨fun h0 => ⟨fun h1 => by omega, fun h1 => ?_⟩, fun h0 => by omega⟩
    dsimp only at hm0
    subst hm0
    refine vcall (hRAt R12 (RO.le_trans l38 l8c)) ?_
    intro R13 r hle13 hra
    unfold AtRV at hra
    have hgi := gone_iff ho2 hb'.2
    rcases htv with ⟨he, rfl, hz, rfl⟩ | ⟨he, rfl, hti⟩
    · rw [if_pos (hgi.2 he)] at hra
      subst hra
      simp only [Se.zero, Se.mk.injEq] at hz
      obtain ⟨rfl, rfl, rfl, rfl, rfl, rfl, _⟩ := hz
      simp only [Se.zero, Se.cells]
      simp only [go_sem, ↓reduceIte, Nat.reduceEqDiff, Nat.reduceAdd, Nat.reduceMul, Nat.reduceLeDiff, Nat.reduceLT, Nat.reduceBNe, reduceCtorEq, e7, e8, e9, e2]
      refine ⟨fun _ => ?_, fun h => absurd h (by simp)⟩
      refine vcall (eSameTimes Se.zero Se.zero [] [] R13 (RuleV.nil _) (RuleV.nil _)) ?_
      rintro R14 v hle14 rfl
      rw [decide_eq_true rfl]
      simp only [go_sem, ↓reduceIte, Nat.reduceEqDiff, Nat.reduceAdd, Nat.reduceMul, Nat.reduceLeDiff, Nat.reduceLT, Nat.reduceBNe, reduceCtorEq, e7, e8, e9, e2]
      exact fun h => absurd rfl h
    · rw [if_neg (fun e => he (hgi.1 e))] at hra
      obtain ⟨rv2, rfl, hrv2⟩ := hra
      have hrv1 := hrv2.one
      obtain ⟨r2a, r2n, r2c, rfl⟩ := hrv2.form
      obtain ⟨r1a, r1n, r1c, rfl⟩ := hrl.form
      simp only [Se.cells]
      simp only [go_sem, ↓reduceIte, Nat.reduceEqDiff, Nat.reduceAdd, Nat.reduceMul, Nat.reduceLeDiff, Nat.reduceLT, Nat.reduceBNe, reduceCtorEq, e7, e8, e9, e2]
      refine ⟨fun _ => ?_, fun h => absurd h (by simp)⟩
      refine vcall (eSameTimes ⟨.slice r1a r1n r1c, tm, tl, tz, tg, tf, .slice none 0 0⟩ ⟨.slice r2a r2n r2c, (onE day (S.on (ruleN s.minute)) o).minute, (onE day (S.on (ruleN s.minute)) o).length, (onE day (S.on (ruleN s.minute)) o).zone, S.gap, S.fold, .slice none 0 0⟩ rl (onE day (S.on (ruleN s.minute)) o).rule R13 (hrl.mono (RO.le_trans l8c hle13)) hrv2) ?_
      intro R14 v hle14 hv14
      have hte : Se.ti ⟨.slice r1a r1n r1c, tm, tl, tz, tg, tf, .slice none 0 0⟩ rl = Se.ti ⟨.slice r2a r2n r2c, (onE day (S.on (ruleN s.minute)) o).minute, (onE day (S.on (ruleN s.minute)) o).length, (onE day (S.on (ruleN s.minute)) o).zone, S.gap, S.fold, .slice none 0 0⟩ (onE day (S.on (ruleN s.minute)) o).rule := by
        refine hti.trans ?_
        unfold tiOn
        rw [onE_force ho2 hvo day _ (by omega)]
        rfl
      rw [decide_eq_true hte] at hv14
      subst hv14
      simp only [go_sem, ↓reduceIte, Nat.reduceEqDiff, Nat.reduceAdd, Nat.reduceMul, Nat.reduceLeDiff, Nat.reduceLT, Nat.reduceBNe, reduceCtorEq, e7, e8, e9, e2]
      exact fun h => absurd rfl h
end Go.Proofs.YtpnhiknfcpkfbaaGreat
