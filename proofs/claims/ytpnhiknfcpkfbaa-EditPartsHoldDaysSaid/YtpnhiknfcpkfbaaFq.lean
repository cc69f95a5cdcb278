import Derived.Test.YtpnhiknfcpkfbaaFp
namespace Go.Proofs.Ytpnhiknfcpkfbaa
set_option linter.unusedSimpArgs false
set_option linter.unusedVariables false
open Go.Proofs.Ytpnhiknfcpkfbaa.Vc
/-- MadeQ, and a number kept in a slot. -/
def MadeU (xs : List De) (rl : List Nd) (ms : List Mv) (minute : Int) (R0 : RO) (up x : Nat) (sl : Nat) (b0 : Blk) (z : Nat) (w : Value) (s : St) : Prop :=
  ∃ env R xa xcap ra rn rc ma mcap, s = ⟨env, [b0, .box [.val (.slice ra rn rc), .val (.int .i64 minute), .val (.int .i64 1), .val (.string zA), .val (.int .i64 0), .val (.int .i64 0), .val (.slice ma ms.length mcap)]], R⟩ ∧ RO.le R0 R ∧
    env up = .val (.bool true) ∧ env x = .val (.slice xa xs.length xcap) ∧ env sl = .loc 1 0 ∧ env z = .val w ∧ EdsV R (.slice xa xs.length xcap) xs ∧ RuleV R (.slice ra rn rc) rl ∧ EncV Mv.cells 5 R (.slice ma ms.length mcap) ms
/-- Up to i, the last part that begins by day x. -/
def lastBy (pp : List Pa) (x : Int) : Nat → Nat
  | 0 => 0
  | i + 1 => if h : i < pp.length then (if (pp[i]).day ≤ x then i else lastBy pp x i) else lastBy pp x i
theorem lastBy_eq {pp : List Pa} {x : Int} {a : Nat} (h1 : ∀ i (hi : i < pp.length), i ≤ a → (pp[i]).day ≤ x) (h2 : ∀ j, a < j → (hj : j < pp.length) → x < (pp[j]).day) : ∀ n, n ≤ pp.length → lastBy pp x n = min a (n - 1)
  | 0, _ => by simp [lastBy]
  | n + 1, hn => by
    rw [lastBy, dif_pos (by omega)]
    by_cases h : n ≤ a
    · rw [if_pos (h1 n (by omega) h)]; omega
    · rw [if_neg (by have := h2 n (by omega) (by omega); omega), lastBy_eq h1 h2 n (by omega)]; omega
theorem pa_se {R : RO} {b : Addr} {d : Int} {s : Se} (h : ∀ j u, (paCells d s)[j]? = some u → R (b.add j) u) : ∀ j u, s.cells[j]? = some u → R ((b.add 1).add j) u := fun j u hj => by
  rw [addr_add _ (1 + j) 1 j rfl]
  refine h (1 + j) u ?_
  rw [Nat.add_comm]
  exact hj
set_option maxHeartbeats 8000000 in
theorem lPartsHold (R : RO) (es : List Ed) (v : Value) (h : EdC R v es) (hl : es.length ≤ 1099511627776) (s : Ed) (day : Int) (hd : 0 ≤ day ∧ day ≤ 255) : CallsR Try.prog 7 [v, s.val, .int .u8 day] R fun _ v => v = .bool true := by
  have hMd := fun R' hle => eMade es v R' (EdC.mono (R' := R') h hle) hl
  have hMs := fun R' hle => eMadeSeries s.minute es v R' (EdC.mono (R' := R') h hle) hl
  obtain ⟨a, cap, rfl, hc, _⟩ := h.form
  simp only [Ed.val]
  refine callsT mix Try.func7 comp7 (by simp [Try.ntmps7]) ?_; simp only [go_sem, ↓reduceIte, Nat.reduceEqDiff, Nat.reduceAdd, Nat.reduceMul, Nat.reduceLeDiff, Nat.reduceLT, Nat.reduceBNe, reduceCtorEq, vc7, rs7]
  refine vcall (eSanity R) ?_
  rintro R1 v hle1 rfl
  simp only [tSteps_none, tSteps_nil, tOp_mov, tEv_tmp, tEv_const, tPut_some, tPut_none, tCode_seq]
  obtain ⟨xs, hxs⟩ : ∃ xs, xs = madeL es := ⟨_, rfl⟩
  have hxl := madeL_len es
  have hcons := madeL_cons es
  have hms := movesOf_ok es
  have hml := movesOf_len es
  obtain ⟨ms, hmse⟩ : ∃ ms, ms = movesOf es := ⟨_, rfl⟩
  rw [← hxs] at hMd hxl hcons
  rw [← hmse] at hMs hms hml
  refine cutT (MadeU xs (ruleN s.minute) ms (s.minute % 3) R1 7 8 9 (.box [.val (.int .i64 s.kind), .val (.int .i64 s.day), .val (.int .i64 s.device), .val (.int .i64 s.seq), .val (.int .i64 s.mv.day), .val (.bool s.mv.drop), .val (.int .i64 s.mv.toDay), .val (.int .i64 s.mv.minute), .val (.int .i64 s.mv.length), .val (.int .i64 s.minute), .val (.int .i64 s.length), .val (.slice s.ra s.rn s.rc), .val (.string s.zone)]) 2 (.int .u8 day)) ?_ ?_
  · try simp only [go_sem, ↓reduceIte, Nat.reduceEqDiff, Nat.reduceAdd, Nat.reduceMul, Nat.reduceLeDiff, Nat.reduceLT, Nat.reduceBNe, reduceCtorEq]
    refine ⟨?_, ?_⟩
    all_goals (refine vcall (hMd R1 hle1) ?_; intro R2 u hle2 hx; obtain ⟨xa, xcap, rfl, hxc, hxf⟩ := PlOK.of hx; try simp only [go_sem, ↓reduceIte, Nat.reduceEqDiff, Nat.reduceAdd, Nat.reduceMul, Nat.reduceLeDiff, Nat.reduceLT, Nat.reduceBNe, reduceCtorEq])
    refine ⟨?_, ?_⟩
    all_goals (refine vcall (hMs R2 (RO.le_trans hle1 hle2)) ?_; rintro R3 u hle3 ⟨rv, mv, rfl, hrv, hmv⟩; obtain ⟨ra, rn, rc, rfl⟩ := hrv.form; obtain ⟨ma, mcap, rfl, _⟩ := hmv.form; simp only [go_sem, ↓reduceIte, Nat.reduceEqDiff, Nat.reduceAdd, Nat.reduceMul, Nat.reduceLeDiff, Nat.reduceLT, Nat.reduceBNe, reduceCtorEq, Se.cells])
    all_goals exact ⟨_, _, xa, xcap, ra, rn, rc, ma, mcap, rfl, RO.le_trans hle2 hle3, rfl, rfl, rfl, rfl, hx.mono hle3, hrv, hmv⟩
  rintro _ ⟨env, R3, xa, xcap, ra, rn, rc, ma, mcap, rfl, hle3, e7, e8, e9, e2, hx, hrv, hmv⟩
  simp only [go_sem, ↓reduceIte, Nat.reduceEqDiff, Nat.reduceAdd, Nat.reduceMul, Nat.reduceLeDiff, Nat.reduceLT, Nat.reduceBNe, reduceCtorEq, e7, e8, e9, e2]
  obtain ⟨o, ho1, ho2, ho3⟩ := allD_cons hcons (by omega)
  have hvo := allD_valid ho1
  obtain ⟨S, hS⟩ : ∃ S : Se, S = ⟨.slice ra rn rc, s.minute % 3, 1, zA, 0, 0, .slice ma ms.length mcap⟩ := ⟨_, rfl⟩
  have hSc : S.cells = [.slice ra rn rc, .int .i64 (s.minute % 3), .int .i64 1, .string zA, .int .i64 0, .int .i64 0, .slice ma ms.length mcap] := by rw [hS]; rfl
  have hSr : S.rule = .slice ra rn rc := by rw [hS]
  have hSm : S.moves = .slice ma ms.length mcap := by rw [hS]
  have hSl : S.length = 1 := by rw [hS]
  have hMg := fun R' (hle : RO.le R3 R') => eMerge S (ruleN s.minute) ms xs _ R' (by rw [hSr]; exact hrv.mono hle) (by rw [hSm]; exact hmv.mono hle) (hx.mono hle) (by omega)
  have hAt := fun R' x (hle : RO.le R3 R') => eAt S (ruleN s.minute) xs _ x R' (by rw [hSr]; exact hrv.mono hle) (by rw [hSm]; rfl) (hx.mono hle)
  rw [hSc] at hMg hAt
  refine vcall (hMg R3 (RO.le_refl _)) ?_
  intro R5 r hle5 hr
  unfold MergeV at hr
  rw [ho1] at hr
  dsimp only at hr
  rw [if_neg (by simp [hms, hSl])] at hr
  obtain ⟨p1, q1, rfl, hp1, hq1⟩ := hr
  obtain ⟨qa, qcap, rfl, _⟩ := hq1.form
  obtain ⟨x, hxd⟩ : ∃ x : Int, x = day.tmod 16 := ⟨_, rfl⟩
  have hx16 : 0 ≤ x ∧ x < 16 := by
    have h1 := Int.tmod_nonneg 16 hd.1
    have h2 := Int.tmod_lt_of_pos day (show (0 : Int) < 16 by omega)
    omega
  have hF := merge_facts S (ruleN s.minute) ms ho2 hvo hms (by omega) (x := x) (by omega)
  have hpdays := partsD_days S (ruleN s.minute) (forceD o) (endE (forceD o)) (fun d hd => (valid_day (hvo d (mem_forceD.1 hd).1)).1)
  have hppl : (mergeP S (ruleN s.minute) ms o).length = (partsD S (ruleN s.minute) (forceD o) (endE (forceD o))).length := mergeP_len _ _ _ _
  have hppn : (mergeP S (ruleN s.minute) ms o).length ≤ 100 := by
    have h1 := hpdays.2.2
    have h2 : (forceD o).length ≤ o.length := List.length_filter_le _ _
    have h3 := allD_len ho1
    omega
  clear hpdays hppl
  obtain ⟨pp, hpp⟩ : ∃ pp, pp = mergeP S (ruleN s.minute) ms o := ⟨_, rfl⟩
  rw [← hpp] at hp1 hF hppn
  obtain ⟨pa, pcap, rfl, hpc, hpf⟩ := hp1.form
  obtain ⟨F1, ⟨F20, F2⟩, F3, F4, A, FA0, FA1, FA2, FA3, FA4⟩ := hF
  simp only [go_sem, ↓reduceIte, Nat.reduceEqDiff, Nat.reduceAdd, Nat.reduceMul, Nat.reduceLeDiff, Nat.reduceLT, Nat.reduceBNe, reduceCtorEq, e7, e8, e9, e2]
  refine ⟨_, W.in64 (by omega), by omega, ?_⟩
  rw [← hxd]
  refine vcall (hAt R5 x hle5) ?_
  intro R7 r hle7 hr
  unfold AtV at hr
  rw [ho1] at hr
  dsimp only at hr
  rw [if_neg (by simp [betw]; omega)] at hr
  obtain ⟨onb, honb⟩ : ∃ onb, onb = decide (x < endE (forceD o)) := ⟨_, rfl⟩
  have hr2 : ∃ va vn vc m l z g fo, r = .tuple #[.agg #[.slice va vn vc, .int .i64 m, .int .i64 l, .string z, .int .i64 g, .int .i64 fo, .slice none 0 0], .bool onb, .int .i64 0] ∧
      (onb = true → RuleV R7 (.slice va vn vc) (tiOn S (ruleN s.minute) (forceD o) x).rule ∧ (⟨(tiOn S (ruleN s.minute) (forceD o) x).rule, m, l, z, g, fo⟩ : Ti) = tiOn S (ruleN s.minute) (forceD o) x) := by
    by_cases he : endE (forceD o) ≤ x
    · rw [if_pos he] at hr
      have : onb = false := by rw [honb, decide_eq_false (by omega)]
      exact ⟨none, 0, 0, 0, 0, ⟨#[]⟩, 0, 0, by rw [hr, this]; rfl, fun h => by rw [this] at h; cases h⟩
    · rw [if_neg he] at hr
      have : onb = true := by rw [honb, decide_eq_true (by omega)]
      obtain ⟨rv, hr, hrv⟩ := hr
      obtain ⟨va, vn, vc, rfl⟩ := hrv.form
      exact ⟨va, vn, vc, _, _, _, _, _, by rw [hr, this]; rfl, fun _ => ⟨hrv, rfl⟩⟩
  obtain ⟨va, vn, vc, tm, tl, tz, tg, tf, rfl, hti⟩ := hr2
  simp only [go_sem, ↓reduceIte, Nat.reduceEqDiff, Nat.reduceAdd, Nat.reduceMul, Nat.reduceLeDiff, Nat.reduceLT, Nat.reduceBNe, reduceCtorEq, e7, e8, e9, e2]
  refine ⟨fun h => by omega, fun _ => ?_⟩
  refine vcLoop Nat (fun i => [(17, .val (.int .i64 i)), (10, .val (.slice pa pp.length pcap)), (2, .val (.int .u8 day)), (7, .val (.bool true)), (14, .val (.bool onb)), (16, .val (.int .i64 (lastBy pp x i))), (13, .loc 2 0)])
    (fun _ => [.dead, .dead, .box [.val (.slice va vn vc), .val (.int .i64 tm), .val (.int .i64 tl), .val (.string tz), .val (.int .i64 tg), .val (.int .i64 tf), .val (.slice none 0 0)]]) (fun i _ => i ≤ pp.length) (fun i => pp.length - i) 0 ?_ ?_ ?_ ?_
  · (try simp only [go_sem, ↓reduceIte, Nat.reduceEqDiff, Nat.reduceAdd, Nat.reduceMul, Nat.reduceLeDiff, Nat.reduceLT, Nat.reduceBNe, reduceCtorEq]) <;> (repeat' (first | rfl | trivial | constructor | (intro h; exact absurd rfl h)))
  · try simp only [go_sem, ↓reduceIte, Nat.reduceEqDiff, Nat.reduceAdd, Nat.reduceMul, Nat.reduceLeDiff, Nat.reduceLT, Nat.reduceBNe, reduceCtorEq]
  · exact Nat.zero_le _
  rintro i env R8 hle8 hE hi
  (simp only [go_sem] at hE; obtain ⟨e17, e10, e2', e7', e14, e16, e13⟩ := hE; simp only [go_sem, ↓reduceIte, Nat.reduceEqDiff, Nat.reduceAdd, Nat.reduceMul, Nat.reduceLeDiff, Nat.reduceLT, Nat.reduceBNe, reduceCtorEq, e17, e10, e2', e7', e14, e16, e13]; dsimp only at *)
  refine ⟨fun hlt => ?_, fun hge => ?_⟩
  · have hlt' : i < pp.length := by omega
    obtain ⟨ad, la, ln, lc, lma, lmc, had, hRp, hrl, hRm⟩ := hpf i hlt'
    obtain ⟨p, hp⟩ : ∃ p, p = pp[i] := ⟨_, rfl⟩
    rw [← hp] at hRp hrl hRm
    have hml2 := hRm.2
    obtain ⟨_, _, e0, _, hmf⟩ := hRm.form
    simp only [Value.slice.injEq] at e0
    obtain ⟨rfl, _, rfl⟩ := e0
    have hle58 := RO.le_trans hle7 hle8
    refine ⟨fun hpos => ?_, fun hz => ?_⟩
    obtain ⟨ad', la', ln', lc', lma', lmc', had', hRp', hrl', hRm'⟩ := hpf (i - 1) (by omega)
    obtain ⟨q, hq⟩ : ∃ q, q = pp[i - 1] := ⟨_, rfl⟩
    rw [← hq] at hRp' hrl' hRm'
    have hti1 : ((i : Int) - 1).toNat = i - 1 := by omega
    have hlt1 : q.day < p.day := by rw [hq, hp]; exact F1 (i - 1) i hlt' (by omega)
    have hne : q.ti ≠ p.ti := by
      have := F3 (i - 1) (by omega)
      simp only [show i - 1 + 1 = i by omega] at this
      rw [hq, hp]; exact this
    refine ⟨_, W.in64 (by omega), by omega, by omega, ?_⟩
    rw [hti1]
    refine vat ad' had' ?_
    try simp only [go_sem, ↓reduceIte, Nat.reduceEqDiff, Nat.reduceAdd, Nat.reduceMul, Nat.reduceLeDiff, Nat.reduceLT, Nat.reduceBNe, reduceCtorEq]
    refine vload (.int .i64 q.day) (hle58 _ _ (hRp' 0 _ rfl)) ?_
    simp only [go_sem, ↓reduceIte, Nat.reduceEqDiff, Nat.reduceAdd, Nat.reduceMul, Nat.reduceLeDiff, Nat.reduceLT, Nat.reduceBNe, reduceCtorEq, e17, e10, e2', e7', e14, e16, e13]
    refine ⟨by omega, vat ad had ?_⟩
    try simp only [go_sem, ↓reduceIte, Nat.reduceEqDiff, Nat.reduceAdd, Nat.reduceMul, Nat.reduceLeDiff, Nat.reduceLT, Nat.reduceBNe, reduceCtorEq]
    refine vload (.int .i64 p.day) (hle58 _ _ (hRp 0 _ rfl)) ?_
    simp only [go_sem, ↓reduceIte, Nat.reduceEqDiff, Nat.reduceAdd, Nat.reduceMul, Nat.reduceLeDiff, Nat.reduceLT, Nat.reduceBNe, reduceCtorEq, e17, e10, e2', e7', e14, e16, e13]
    refine ⟨fun _ => ?_, fun h => by omega⟩
    refine ⟨_, W.in64 (by omega), by omega, by omega, ?_⟩
    rw [hti1]
    refine vat ad' had' ?_
    try simp only [go_sem, ↓reduceIte, Nat.reduceEqDiff, Nat.reduceAdd, Nat.reduceMul, Nat.reduceLeDiff, Nat.reduceLT, Nat.reduceBNe, reduceCtorEq]
    refine vloadn [.slice la' ln' lc', .int .i64 q.ti.minute, .int .i64 q.ti.length, .string q.ti.zone, .int .i64 q.ti.gap, .int .i64 q.ti.fold, .slice lma' q.moves.length lmc'] rfl (fun j u hj => ?_) ?_
    · exact hle58 _ _ (pa_se hRp' j u hj)
    simp only [go_sem, ↓reduceIte, Nat.reduceEqDiff, Nat.reduceAdd, Nat.reduceMul, Nat.reduceLeDiff, Nat.reduceLT, Nat.reduceBNe, reduceCtorEq, e17, e10, e2', e7', e14, e16, e13]
    refine ⟨by omega, vat ad had ?_⟩
    try simp only [go_sem, ↓reduceIte, Nat.reduceEqDiff, Nat.reduceAdd, Nat.reduceMul, Nat.reduceLeDiff, Nat.reduceLT, Nat.reduceBNe, reduceCtorEq]
    refine vloadn [.slice la ln lc, .int .i64 p.ti.minute, .int .i64 p.ti.length, .string p.ti.zone, .int .i64 p.ti.gap, .int .i64 p.ti.fold, .slice lma p.moves.length lmc] rfl (fun j u hj => ?_) ?_
    · exact hle58 _ _ (pa_se hRp j u hj)
    simp only [go_sem, ↓reduceIte, Nat.reduceEqDiff, Nat.reduceAdd, Nat.reduceMul, Nat.reduceLeDiff, Nat.reduceLT, Nat.reduceBNe, reduceCtorEq, e17, e10, e2', e7', e14, e16, e13]
    refine vcall (eSameTimes ⟨.slice la' ln' lc', q.ti.minute, q.ti.length, q.ti.zone, q.ti.gap, q.ti.fold, .slice lma' q.moves.length lmc'⟩ ⟨.slice la ln lc, p.ti.minute, p.ti.length, p.ti.zone, p.ti.gap, p.ti.fold, .slice lma p.moves.length lmc⟩ q.ti.rule p.ti.rule R8 (hrl'.mono hle58) (hrl.mono hle58)) ?_
    rintro R9 v hle9 rfl
    have hdec : decide ((⟨.slice la' ln' lc', q.ti.minute, q.ti.length, q.ti.zone, q.ti.gap, q.ti.fold, .slice lma' q.moves.length lmc'⟩ : Se).ti q.ti.rule = (⟨.slice la ln lc, p.ti.minute, p.ti.length, p.ti.zone, p.ti.gap, p.ti.fold, .slice lma p.moves.length lmc⟩ : Se).ti p.ti.rule) = false := decide_eq_false fun e => hne e
    rw [hdec]
    simp only [go_sem, ↓reduceIte, Nat.reduceEqDiff, Nat.reduceAdd, Nat.reduceMul, Nat.reduceLeDiff, Nat.reduceLT, Nat.reduceBNe, reduceCtorEq, e17, e10, e2', e7', e14, e16, e13]
    rotate_left
    obtain ⟨R9, hR9⟩ : ∃ R9, R9 = R8 := ⟨_, rfl⟩
    have hle9 : RO.le R8 R9 := by rw [hR9]; exact RO.le_refl _
    rw [← hR9]
    rotate_left
    all_goals (
      have hle59 := RO.le_trans hle58 hle9
      have hw : lastBy pp x (i + 1) = if p.day ≤ x then i else lastBy pp x i := by rw [lastBy, dif_pos hlt', ← hp]
      obtain ⟨hmv, hpw⟩ := F4 i hlt'
      rw [← hp] at hmv hpw
      refine ⟨by omega, vat ad had ?_⟩
      try simp only [go_sem, ↓reduceIte, Nat.reduceEqDiff, Nat.reduceAdd, Nat.reduceMul, Nat.reduceLeDiff, Nat.reduceLT, Nat.reduceBNe, reduceCtorEq]
      refine vload (.int .i64 p.day) (hle59 _ _ (hRp 0 _ rfl)) ?_
      simp only [go_sem, ↓reduceIte, Nat.reduceEqDiff, Nat.reduceAdd, Nat.reduceMul, Nat.reduceLeDiff, Nat.reduceLT, Nat.reduceBNe, reduceCtorEq, e17, e10, e2', e7', e14, e16, e13]
      refine ⟨_, W.in64 (by omega), by omega, ?_⟩
      rw [← hxd]
      refine ⟨fun hle => ?_, fun hgt => ?_⟩)
    all_goals (
      first
        | (rw [if_pos hle] at hw)
        | (rw [if_neg hgt] at hw)
      refine ⟨by omega, vat ad had ?_⟩
      try simp only [go_sem, ↓reduceIte, Nat.reduceEqDiff, Nat.reduceAdd, Nat.reduceMul, Nat.reduceLeDiff, Nat.reduceLT, Nat.reduceBNe, reduceCtorEq]
      refine vload (.slice lma p.moves.length lmc) (hle59 _ _ (hRp 7 _ rfl)) ?_
      simp only [go_sem, ↓reduceIte, Nat.reduceEqDiff, Nat.reduceAdd, Nat.reduceMul, Nat.reduceLeDiff, Nat.reduceLT, Nat.reduceBNe, reduceCtorEq, e17, e10, e2', e7', e14, e16, e13]
      refine vcLoop Nat (fun k => [(19, .val (.int .i64 k)), (18, .val (.slice lma p.moves.length lmc)), (17, .val (.int .i64 i)), (10, .val (.slice pa pp.length pcap)), (2, .val (.int .u8 day)), (7, .val (.bool true)), (14, .val (.bool onb)), (16, .val (.int .i64 (lastBy pp x (i + 1)))), (13, .loc 2 0)])
        (fun _ => [.dead, .dead, .box [.val (.slice va vn vc), .val (.int .i64 tm), .val (.int .i64 tl), .val (.string tz), .val (.int .i64 tg), .val (.int .i64 tf), .val (.slice none 0 0)]]) (fun k _ => k ≤ p.moves.length) (fun k => p.moves.length - k) 0 ?_ ?_ ?_ ?_
      · (try simp only [go_sem, ↓reduceIte, Nat.reduceEqDiff, Nat.reduceAdd, Nat.reduceMul, Nat.reduceLeDiff, Nat.reduceLT, Nat.reduceBNe, reduceCtorEq]) <;> (repeat' (first | rfl | trivial | constructor | (intro h; exact absurd rfl h)))
        rw [hw]
        first | done | simp [e16] | rfl
      · try simp only [go_sem, ↓reduceIte, Nat.reduceEqDiff, Nat.reduceAdd, Nat.reduceMul, Nat.reduceLeDiff, Nat.reduceLT, Nat.reduceBNe, reduceCtorEq]
      · exact Nat.zero_le _
      rintro k env R10 hle10 hE hk
      (simp only [go_sem] at hE; obtain ⟨f19, f18, f17, f10, f2, f7, f14, f16, f13⟩ := hE; simp only [go_sem, ↓reduceIte, Nat.reduceEqDiff, Nat.reduceAdd, Nat.reduceMul, Nat.reduceLeDiff, Nat.reduceLT, Nat.reduceBNe, reduceCtorEq, f19, f18, f17, f10, f2, f7, f14, f16, f13]; dsimp only at *)
      refine ⟨fun hkl => ?_, fun hkg => ?_⟩
      · have hkl' : k < p.moves.length := by omega
        obtain ⟨adm, hadm, hRmv⟩ := hmf k hkl'
        obtain ⟨m, hme⟩ : ∃ m, m = p.moves[k] := ⟨_, rfl⟩
        rw [← hme] at hRmv
        obtain ⟨hm1, hm2⟩ := hmv m (by rw [hme]; exact List.getElem_mem hkl')
        have hle510 := RO.le_trans hle59 hle10
        refine ⟨by omega, vat adm hadm ?_⟩
        try simp only [go_sem, ↓reduceIte, Nat.reduceEqDiff, Nat.reduceAdd, Nat.reduceMul, Nat.reduceLeDiff, Nat.reduceLT, Nat.reduceBNe, reduceCtorEq]
        refine vload (.int .i64 m.day) (hle510 _ _ (hRmv 0 _ rfl)) ?_
        simp only [go_sem, ↓reduceIte, Nat.reduceEqDiff, Nat.reduceAdd, Nat.reduceMul, Nat.reduceLeDiff, Nat.reduceLT, Nat.reduceBNe, reduceCtorEq, f19, f18, f17, f10, f2, f7, f14, f16, f13]
        refine ⟨by omega, vat ad had ?_⟩
        try simp only [go_sem, ↓reduceIte, Nat.reduceEqDiff, Nat.reduceAdd, Nat.reduceMul, Nat.reduceLeDiff, Nat.reduceLT, Nat.reduceBNe, reduceCtorEq]
        refine vload (.int .i64 p.day) (hle510 _ _ (hRp 0 _ rfl)) ?_
        simp only [go_sem, ↓reduceIte, Nat.reduceEqDiff, Nat.reduceAdd, Nat.reduceMul, Nat.reduceLeDiff, Nat.reduceLT, Nat.reduceBNe, reduceCtorEq, f19, f18, f17, f10, f2, f7, f14, f16, f13]
        refine ⟨fun _ => ⟨_, W.in64 (by omega), ?_⟩, fun h => by omega⟩
        refine ⟨fun hn1 => ?_, fun hn1 => ?_⟩
        obtain ⟨adn, _, _, _, _, _, hadn, hRn, _, _⟩ := hpf (i + 1) (by omega)
        obtain ⟨n, hne⟩ : ∃ n, n = pp[i + 1] := ⟨_, rfl⟩
        have hm3 := hm2 (by omega)
        rw [← hne] at hRn hm3
        refine ⟨by omega, vat adm hadm ?_⟩
        try simp only [go_sem, ↓reduceIte, Nat.reduceEqDiff, Nat.reduceAdd, Nat.reduceMul, Nat.reduceLeDiff, Nat.reduceLT, Nat.reduceBNe, reduceCtorEq]
        refine vload (.int .i64 m.day) (hle510 _ _ (hRmv 0 _ rfl)) ?_
        simp only [go_sem, ↓reduceIte, Nat.reduceEqDiff, Nat.reduceAdd, Nat.reduceMul, Nat.reduceLeDiff, Nat.reduceLT, Nat.reduceBNe, reduceCtorEq, f19, f18, f17, f10, f2, f7, f14, f16, f13]
        refine ⟨_, W.in64 (by omega), by omega, by omega, ?_⟩
        rw [show ((i : Int) + 1).toNat = i + 1 by omega]
        refine vat adn hadn ?_
        try simp only [go_sem, ↓reduceIte, Nat.reduceEqDiff, Nat.reduceAdd, Nat.reduceMul, Nat.reduceLeDiff, Nat.reduceLT, Nat.reduceBNe, reduceCtorEq]
        refine vload (.int .i64 n.day) (hle510 _ _ (hRn 0 _ rfl)) ?_
        simp only [go_sem, ↓reduceIte, Nat.reduceEqDiff, Nat.reduceAdd, Nat.reduceMul, Nat.reduceLeDiff, Nat.reduceLT, Nat.reduceBNe, reduceCtorEq, f19, f18, f17, f10, f2, f7, f14, f16, f13]
        refine ⟨fun _ => ?_, fun h => by omega⟩
        all_goals (
          refine ⟨fun hk0 => ?_, fun hk0 => ?_⟩
          · obtain ⟨adl, hadl, hRl⟩ := hmf (k - 1) (by omega)
            obtain ⟨l, hle⟩ : ∃ l, l = p.moves[k - 1] := ⟨_, rfl⟩
            rw [← hle] at hRl
            have hlm : l.day < m.day := by
              rw [hle, hme]
              exact List.pairwise_iff_getElem.1 hpw (k - 1) k (by omega) hkl' (by omega)
            refine ⟨_, W.in64 (by omega), by omega, by omega, ?_⟩
            rw [show ((k : Int) - 1).toNat = k - 1 by omega]
            refine vat adl hadl ?_
            try simp only [go_sem, ↓reduceIte, Nat.reduceEqDiff, Nat.reduceAdd, Nat.reduceMul, Nat.reduceLeDiff, Nat.reduceLT, Nat.reduceBNe, reduceCtorEq]
            refine vload (.int .i64 l.day) (hle510 _ _ (hRl 0 _ rfl)) ?_
            simp only [go_sem, ↓reduceIte, Nat.reduceEqDiff, Nat.reduceAdd, Nat.reduceMul, Nat.reduceLeDiff, Nat.reduceLT, Nat.reduceBNe, reduceCtorEq, f19, f18, f17, f10, f2, f7, f14, f16, f13]
            refine ⟨by omega, vat adm hadm ?_⟩
            try simp only [go_sem, ↓reduceIte, Nat.reduceEqDiff, Nat.reduceAdd, Nat.reduceMul, Nat.reduceLeDiff, Nat.reduceLT, Nat.reduceBNe, reduceCtorEq]
            refine vload (.int .i64 m.day) (hle510 _ _ (hRmv 0 _ rfl)) ?_
            simp only [go_sem, ↓reduceIte, Nat.reduceEqDiff, Nat.reduceAdd, Nat.reduceMul, Nat.reduceLeDiff, Nat.reduceLT, Nat.reduceBNe, reduceCtorEq, f19, f18, f17, f10, f2, f7, f14, f16, f13]
            refine ⟨fun h => by omega, fun _ => ?_⟩
            exact ⟨_, W.in64 (by omega), k + 1, by omega, rfl, by omega⟩
          · exact ⟨_, W.in64 (by omega), k + 1, by omega, rfl, by omega⟩)
      · exact ⟨_, W.in64 (by omega), i + 1, by omega, ⟨rfl, rfl⟩, by omega⟩)
  · obtain rfl : i = pp.length := by omega
    have hlast : lastBy pp x pp.length = A := by
      rw [lastBy_eq (fun i hi hiA => ?_) FA2 pp.length (Nat.le_refl _)]
      · omega
      · rcases Nat.lt_or_ge i A with h | h
        · have := F1 i A FA0 h; omega
        · have : i = A := by omega
          subst this; exact FA1
    rw [hlast] at e16 ⊢
    obtain ⟨ad, la, ln, lc, lma, lmc, had, hRp, hrl, hRm⟩ := hpf A FA0
    obtain ⟨p, hp⟩ : ∃ p, p = pp[A] := ⟨_, rfl⟩
    rw [← hp] at hRp hrl hRm FA3
    have hle58 := RO.le_trans hle7 hle8
    refine ⟨fun hf => ?_, fun hf => ?_⟩
    · have he : endE (forceD o) ≤ x := by
        rw [hf] at honb
        have := of_decide_eq_false honb.symm; omega
      have hA := FA4 he
      rw [if_pos he] at FA3
      refine ⟨by omega, vat ad had ?_⟩
      try simp only [go_sem, ↓reduceIte, Nat.reduceEqDiff, Nat.reduceAdd, Nat.reduceMul, Nat.reduceLeDiff, Nat.reduceLT, Nat.reduceBNe, reduceCtorEq]
      refine vload (.int .i64 p.ti.length) (hle58 _ _ (hRp 3 _ rfl)) ?_
      simp only [go_sem, ↓reduceIte, Nat.reduceEqDiff, Nat.reduceAdd, Nat.reduceMul, Nat.reduceLeDiff, Nat.reduceLT, Nat.reduceBNe, reduceCtorEq, e17, e10, e2', e7', e14, e16, e13]
      have hln := hrl.len
      rw [FA3] at hln
      refine ⟨fun _ => ⟨by omega, vat ad had ?_⟩, fun h => absurd (by rw [FA3]; rfl) h⟩
      try simp only [go_sem, ↓reduceIte, Nat.reduceEqDiff, Nat.reduceAdd, Nat.reduceMul, Nat.reduceLeDiff, Nat.reduceLT, Nat.reduceBNe, reduceCtorEq]
      refine vload (.slice la ln lc) (hle58 _ _ (hRp 1 _ rfl)) ?_
      simp only [go_sem, ↓reduceIte, Nat.reduceEqDiff, Nat.reduceAdd, Nat.reduceMul, Nat.reduceLeDiff, Nat.reduceLT, Nat.reduceBNe, reduceCtorEq, e17, e10, e2', e7', e14, e16, e13]
      exact ⟨fun _ => ⟨_, W.in64 (by omega), fun h => absurd (by omega) h⟩, fun h => absurd (by rw [hln]; rfl) h⟩
    · have he : ¬ endE (forceD o) ≤ x := by
        rw [hf] at honb
        have := of_decide_eq_true honb.symm; omega
      obtain ⟨hv1, hv2⟩ := hti hf
      rw [if_neg he] at FA3
      obtain ⟨ad0, _, _, _, _, _, had0, hR0, _, _⟩ := hpf 0 F20
      refine ⟨by omega, by omega, ?_⟩
      rw [show (0 : Int).toNat = 0 from rfl]
      refine vat ad0 had0 ?_
      try simp only [go_sem, ↓reduceIte, Nat.reduceEqDiff, Nat.reduceAdd, Nat.reduceMul, Nat.reduceLeDiff, Nat.reduceLT, Nat.reduceBNe, reduceCtorEq]
      refine vload (.int .i64 (pp[0]).day) (hle58 _ _ (hR0 0 _ rfl)) ?_
      simp only [go_sem, ↓reduceIte, Nat.reduceEqDiff, Nat.reduceAdd, Nat.reduceMul, Nat.reduceLeDiff, Nat.reduceLT, Nat.reduceBNe, reduceCtorEq, e17, e10, e2', e7', e14, e16, e13]
      refine ⟨fun _ => ⟨by omega, vat ad had ?_⟩, fun h => absurd F2 h⟩
      try simp only [go_sem, ↓reduceIte, Nat.reduceEqDiff, Nat.reduceAdd, Nat.reduceMul, Nat.reduceLeDiff, Nat.reduceLT, Nat.reduceBNe, reduceCtorEq]
      refine vloadn [.slice la ln lc, .int .i64 p.ti.minute, .int .i64 p.ti.length, .string p.ti.zone, .int .i64 p.ti.gap, .int .i64 p.ti.fold, .slice lma p.moves.length lmc] rfl (fun j u hj => ?_) ?_
      · exact hle58 _ _ (pa_se hRp j u hj)
      simp only [go_sem, ↓reduceIte, Nat.reduceEqDiff, Nat.reduceAdd, Nat.reduceMul, Nat.reduceLeDiff, Nat.reduceLT, Nat.reduceBNe, reduceCtorEq, e17, e10, e2', e7', e14, e16, e13]
      refine vcall (eSameTimes ⟨.slice la ln lc, p.ti.minute, p.ti.length, p.ti.zone, p.ti.gap, p.ti.fold, .slice lma p.moves.length lmc⟩ ⟨.slice va vn vc, tm, tl, tz, tg, tf, .slice none 0 0⟩ p.ti.rule (tiOn S (ruleN s.minute) (forceD o) x).rule R8 (hrl.mono hle58) (hv1.mono hle8)) ?_
      rintro R9 v hle9 rfl
      have hdec : decide ((⟨.slice la ln lc, p.ti.minute, p.ti.length, p.ti.zone, p.ti.gap, p.ti.fold, .slice lma p.moves.length lmc⟩ : Se).ti p.ti.rule = (⟨.slice va vn vc, tm, tl, tz, tg, tf, .slice none 0 0⟩ : Se).ti (tiOn S (ruleN s.minute) (forceD o) x).rule) = true := decide_eq_true (show p.ti = _ from FA3.trans hv2.symm)
      rw [hdec]
      simp only [go_sem, ↓reduceIte, Nat.reduceEqDiff, Nat.reduceAdd, Nat.reduceMul, Nat.reduceLeDiff, Nat.reduceLT, Nat.reduceBNe, reduceCtorEq, e17, e10, e2', e7', e14, e16, e13]
end Go.Proofs.Ytpnhiknfcpkfbaa
