import Derived.Test.YtpnhiknfcpkfbaaFm
import Derived.Test.YtpnhiknfcpkfbaaFh
namespace Go.Proofs.Ytpnhiknfcpkfbaa
set_option linter.unusedSimpArgs false
set_option linter.unusedVariables false
open Go.Proofs.Ytpnhiknfcpkfbaa.Vc
/-- What comes behind a piece of code starts from what is known there. -/
theorem cutT {P : PG} {c : VCode} {s : St} {kn : St → Prop} {ke : Nat → St → Prop} {kr : St → Prop} {tn : Tok kn} {te : Tok ke} {tr : Tok kr} (Q : St → Prop) (h : CodeT P c s Q ke kr .mk .mk .mk) (hk : ∀ s', Q s' → kn s') : CodeT P c s kn ke kr tn te tr :=
  vcCode_mono c hk (fun _ _ h => h) (fun _ h => h) h
/-- A made series in a box of the call's own, a made list. -/
def MadeQ (xs : List De) (rl : List Nd) (ms : List Mv) (minute : Int) (R0 : RO) (up x : Nat) (sl : Nat) (b0 : Blk) (s : St) : Prop :=
  ∃ env R xa xcap ra rn rc ma mcap, s = ⟨env, [b0, .box [.val (.slice ra rn rc), .val (.int .i64 minute), .val (.int .i64 1), .val (.string zA), .val (.int .i64 0), .val (.int .i64 0), .val (.slice ma ms.length mcap)]], R⟩ ∧ RO.le R0 R ∧
    env up = .val (.bool true) ∧ env x = .val (.slice xa xs.length xcap) ∧ env sl = .loc 1 0 ∧ EdsV R (.slice xa xs.length xcap) xs ∧ RuleV R (.slice ra rn rc) rl ∧ EncV Mv.cells 5 R (.slice ma ms.length mcap) ms
theorem partAt_lt {l : List Int} {x : Int} (h : l ≠ []) : partAt l x < l.length := by
  unfold partAt
  have h1 := List.length_filter_le (fun f => decide (f ≤ x)) l
  have h2 := List.length_pos_iff.2 h
  omega
/-- A move in force is in a part. -/
theorem inforce_move (s : Se) (rl : List Nd) (ms : List Mv) {o : List De} {d : De} (hne : partsD s rl (forceD o) (endE (forceD o)) ≠ []) (hd : d ∈ forceD o) (hk : d.kind = 1) : (mergeP s rl ms o).any (fun p => p.moves.any fun m => decide (m = d.mv)) = true := by
  have hm : d.mv ∈ sortM (movesD ms (forceD o) (endE (forceD o))) := (sortM_perm _).mem_iff.2 (List.mem_append_left _ (List.mem_map_of_mem (List.mem_filter.2 ⟨hd, by simp [isMove, hk]⟩)))
  have hlt := partAt_lt (l := (partsD s rl (forceD o) (endE (forceD o))).map (·.1)) (x := d.mv.day) (by simpa using hne)
  rw [List.length_map] at hlt
  have hi : partAt ((partsD s rl (forceD o) (endE (forceD o))).map (·.1)) d.mv.day < (mergeP s rl ms o).length := by rw [mergeP_len]; exact hlt
  obtain ⟨p, _, hp⟩ := mergeP_at (List.getElem?_eq_getElem hi)
  refine List.any_eq_true.2 ⟨_, List.getElem_mem hi, ?_⟩
  rw [hp]
  exact List.any_eq_true.2 ⟨d.mv, List.mem_filter.2 ⟨hm, by simp⟩, by simp⟩
set_option maxHeartbeats 1000000 in
theorem lInForce (R : RO) (es : List Ed) (v : Value) (h : EdC R v es) (hl : es.length ≤ 1099511627776) (s : Ed) : CallsR Try.prog 8 [v, s.val] R fun _ v => v = .bool true := by
  have hMd := fun R' hle => eMade es v R' (EdC.mono (R' := R') h hle) hl
  have hMs := fun R' hle => eMadeSeries s.minute es v R' (EdC.mono (R' := R') h hle) hl
  obtain ⟨a, cap, rfl, hc, _⟩ := h.form
  simp only [Ed.val]
  refine callsT mix Try.func8 comp8 (by simp [Try.ntmps8]) ?_; simp only [go_sem, ↓reduceIte, Nat.reduceEqDiff, Nat.reduceAdd, Nat.reduceMul, Nat.reduceLeDiff, Nat.reduceLT, Nat.reduceBNe, reduceCtorEq, vc8, rs8]
  refine vcall (eSanity R) ?_
  rintro R1 v hle1 rfl
  simp only [tSteps_none, tSteps_nil, tOp_mov, tEv_tmp, tEv_const, tPut_some, tPut_none, tCode_seq]
  obtain ⟨xs, hxs⟩ : ∃ xs, xs = madeL es := ⟨_, rfl⟩
  have hxl := madeL_len es
  have hcons := madeL_cons es
  have hms := movesOf_ok es
  have hml := movesOf_len es
  obtain ⟨ms, hmse⟩ : ∃ ms, ms = movesOf es := ⟨_, rfl⟩
  rw [← hxs] at hMd hxl hcons
  rw [← hmse] at hMs hms hml
  refine cutT (MadeQ xs (ruleN s.minute) ms (s.minute % 3) R1 5 6 7 (.box [.val (.int .i64 s.kind), .val (.int .i64 s.day), .val (.int .i64 s.device), .val (.int .i64 s.seq), .val (.int .i64 s.mv.day), .val (.bool s.mv.drop), .val (.int .i64 s.mv.toDay), .val (.int .i64 s.mv.minute), .val (.int .i64 s.mv.length), .val (.int .i64 s.minute), .val (.int .i64 s.length), .val (.slice s.ra s.rn s.rc), .val (.string s.zone)])) ?_ ?_
  · try simp only [go_sem, ↓reduceIte, Nat.reduceEqDiff, Nat.reduceAdd, Nat.reduceMul, Nat.reduceLeDiff, Nat.reduceLT, Nat.reduceBNe, reduceCtorEq]
    refine ⟨?_, ?_⟩
    all_goals (refine vcall (hMd R1 hle1) ?_; intro R2 u hle2 hx; obtain ⟨xa, xcap, rfl, hxc, hxf⟩ := PlOK.of hx; try simp only [go_sem, ↓reduceIte, Nat.reduceEqDiff, Nat.reduceAdd, Nat.reduceMul, Nat.reduceLeDiff, Nat.reduceLT, Nat.reduceBNe, reduceCtorEq])
    refine ⟨?_, ?_⟩
    all_goals (refine vcall (hMs R2 (RO.le_trans hle1 hle2)) ?_; rintro R3 u hle3 ⟨rv, mv, rfl, hrv, hmv⟩; obtain ⟨ra, rn, rc, rfl⟩ := hrv.form; obtain ⟨ma, mcap, rfl, _⟩ := hmv.form; simp only [go_sem, ↓reduceIte, Nat.reduceEqDiff, Nat.reduceAdd, Nat.reduceMul, Nat.reduceLeDiff, Nat.reduceLT, Nat.reduceBNe, reduceCtorEq, Se.cells])
    all_goals exact ⟨_, _, xa, xcap, ra, rn, rc, ma, mcap, rfl, RO.le_trans hle2 hle3, rfl, rfl, rfl, hx.mono hle3, hrv, hmv⟩
  rintro _ ⟨env, R3, xa, xcap, ra, rn, rc, ma, mcap, rfl, hle3, e5, e6, e7, hx, hrv, hmv⟩
  simp only [go_sem, ↓reduceIte, Nat.reduceEqDiff, Nat.reduceAdd, Nat.reduceMul, Nat.reduceLeDiff, Nat.reduceLT, Nat.reduceBNe, reduceCtorEq, e5, e6, e7]
  refine vcall (eRebase xs _ R3 hx) ?_
  intro R4 r hle4 hr
  obtain ⟨o, ho1, ho2, ho3⟩ := allD_cons hcons (by omega)
  have hvo := allD_valid ho1
  unfold RebV at hr
  rw [ho1] at hr
  obtain ⟨u, w, rfl, hu, hw⟩ := hr
  obtain ⟨wa, wcap, rfl, _⟩ := hw.form
  obtain ⟨fa, fcap, rfl, hfc, hff⟩ := PlOK.of hu
  simp only [go_sem, ↓reduceIte, Nat.reduceEqDiff, Nat.reduceAdd, Nat.reduceMul, Nat.reduceLeDiff, Nat.reduceLT, Nat.reduceBNe, reduceCtorEq, e5, e6, e7]
  obtain ⟨S, hS⟩ : ∃ S : Se, S = ⟨.slice ra rn rc, s.minute % 3, 1, zA, 0, 0, .slice ma ms.length mcap⟩ := ⟨_, rfl⟩
  have hSc : S.cells = [.slice ra rn rc, .int .i64 (s.minute % 3), .int .i64 1, .string zA, .int .i64 0, .int .i64 0, .slice ma ms.length mcap] := by rw [hS]; rfl
  have hSr : S.rule = .slice ra rn rc := by rw [hS]
  have hSm : S.moves = .slice ma ms.length mcap := by rw [hS]
  have hSl : S.length = 1 := by rw [hS]
  have hMg := fun R' (hle : RO.le R4 R') => eMerge S (ruleN s.minute) ms xs _ R' (by rw [hSr]; exact hrv.mono (RO.le_trans hle4 hle)) (by rw [hSm]; exact hmv.mono (RO.le_trans hle4 hle)) (hx.mono (RO.le_trans hle4 hle)) (by omega)
  have hAt := fun R' day (hle : RO.le R4 R') => eAt S (ruleN s.minute) xs _ day R' (by rw [hSr]; exact hrv.mono (RO.le_trans hle4 hle)) (by rw [hSm]; rfl) (hx.mono (RO.le_trans hle4 hle))
  rw [hSc] at hMg hAt
  refine vcall (hMg R4 (RO.le_refl _)) ?_
  intro R5 r hle5 hr
  unfold MergeV at hr
  rw [ho1] at hr
  dsimp only at hr
  rw [if_neg (by simp [hms, hSl])] at hr
  obtain ⟨p1, q1, rfl, hp1, hq1⟩ := hr
  obtain ⟨qa, qcap, rfl, _⟩ := hq1.form
  obtain ⟨pp, hpp⟩ : ∃ pp, pp = mergeP S (ruleN s.minute) ms o := ⟨_, rfl⟩
  rw [← hpp] at hp1
  have hpdays := partsD_days S (ruleN s.minute) (forceD o) (endE (forceD o)) (fun d hd => (valid_day (hvo d (mem_forceD.1 hd).1)).1)
  have hppl : pp.length = (partsD S (ruleN s.minute) (forceD o) (endE (forceD o))).length := by rw [hpp, mergeP_len]
  have hpp0 : 0 < pp.length := by
    rw [hppl]
    obtain ⟨_, ⟨r, hr⟩, _⟩ := hpdays
    have := congrArg List.length hr
    simp at this; omega
  have hppn : pp.length ≤ 100 := by
    have h1 := hpdays.2.2
    have h2 : (forceD o).length ≤ o.length := List.length_filter_le _ _
    have h3 := allD_len ho1
    omega
  obtain ⟨pa, pcap, rfl, hpc, hpf⟩ := hp1.form
  obtain ⟨fs, hfs⟩ : ∃ fs, fs = forceD o := ⟨_, rfl⟩
  rw [← hfs] at hff hfc
  rw [show (forceD o).length = fs.length by rw [hfs]]
  have hfl : fs.length ≤ 12 := by
    have h2 : (forceD o).length ≤ o.length := List.length_filter_le _ _
    have h3 := allD_len ho1
    rw [hfs]; omega
  simp only [go_sem, ↓reduceIte, Nat.reduceEqDiff, Nat.reduceAdd, Nat.reduceMul, Nat.reduceLeDiff, Nat.reduceLT, Nat.reduceBNe, reduceCtorEq, e5, e6, e7]
  refine ⟨fun h => by omega, fun _ => ?_⟩
  refine vcLoop Nat (fun i => [(14, .val (.int .i64 i)), (8, .val (.slice fa fs.length fcap)), (6, .val (.slice xa xs.length xcap)), (7, .loc 1 0), (5, .val (.bool true)), (11, .val (.slice pa pp.length pcap))]) (fun _ => [.dead, .box [.val (.slice ra rn rc), .val (.int .i64 (s.minute % 3)), .val (.int .i64 1), .val (.string zA), .val (.int .i64 0), .val (.int .i64 0), .val (.slice ma ms.length mcap)]]) (fun i _ => i ≤ fs.length) (fun i => fs.length - i) 0 ?_ ?_ ?_ ?_
  · (try simp only [go_sem, ↓reduceIte, Nat.reduceEqDiff, Nat.reduceAdd, Nat.reduceMul, Nat.reduceLeDiff, Nat.reduceLT, Nat.reduceBNe, reduceCtorEq]) <;> (repeat' (first | rfl | trivial | constructor | (intro h; exact absurd rfl h)))
  · try simp only [go_sem, ↓reduceIte, Nat.reduceEqDiff, Nat.reduceAdd, Nat.reduceMul, Nat.reduceLeDiff, Nat.reduceLT, Nat.reduceBNe, reduceCtorEq]
  · exact Nat.zero_le _
  rintro i env R6 hle6 hE hi
  (simp only [go_sem] at hE; obtain ⟨e14, e8, e6', e7', e5', e11⟩ := hE; simp only [go_sem, ↓reduceIte, Nat.reduceEqDiff, Nat.reduceAdd, Nat.reduceMul, Nat.reduceLeDiff, Nat.reduceLT, Nat.reduceBNe, reduceCtorEq, e14, e8, e6', e7', e5', e11]; dsimp only at *)
  intro hlt
  have hlt' : i < fs.length := by omega
  obtain ⟨ad, p, had, hp1', hR, hpok⟩ := hff i hlt'
  have hpf' : p.1 ∈ forceD o := by rw [hp1', ← hfs]; exact List.getElem_mem hlt'
  have hpv := hvo _ (mem_forceD.1 hpf').1
  have hle46 := RO.le_trans hle5 hle6
  have hRR : ∀ R', RO.le R6 R' → ∀ j u, (p.ed.cells)[j]? = some u → R' ((ad.add (i * 13)).add j) u := fun R' hle j u hj => hle _ _ (hle46 _ _ (hR j u hj))
  refine ⟨by omega, vat ad had ?_⟩
  try simp only [go_sem, ↓reduceIte, Nat.reduceEqDiff, Nat.reduceAdd, Nat.reduceMul, Nat.reduceLeDiff, Nat.reduceLT, Nat.reduceBNe, reduceCtorEq]
  refine vload (.int .i64 p.1.day) (hRR R6 (RO.le_refl _) 1 _ rfl) ?_
  simp only [go_sem, ↓reduceIte, Nat.reduceEqDiff, Nat.reduceAdd, Nat.reduceMul, Nat.reduceLeDiff, Nat.reduceLT, Nat.reduceBNe, reduceCtorEq, e14, e8, e6', e7', e5', e11]
  refine vcall (hAt R6 p.1.day hle46) ?_
  intro R7 r hle7 hr
  unfold AtV at hr
  rw [ho1] at hr
  dsimp only at hr
  rw [if_neg (by have := valid_day hpv; simp [betw]; omega)] at hr
  obtain ⟨onb, honb⟩ : ∃ onb, onb = decide (p.1.day < endE (forceD o)) := ⟨_, rfl⟩
  have hr2 : ∃ va vn vc m l z g fo, r = .tuple #[.agg #[.slice va vn vc, .int .i64 m, .int .i64 l, .string z, .int .i64 g, .int .i64 fo, .slice none 0 0], .bool onb, .int .i64 0] ∧
      (onb = true → RuleV R7 (.slice va vn vc) (tiOn S (ruleN s.minute) (forceD o) p.1.day).rule ∧ m = (tiOn S (ruleN s.minute) (forceD o) p.1.day).minute ∧ l = (tiOn S (ruleN s.minute) (forceD o) p.1.day).length ∧ z = (tiOn S (ruleN s.minute) (forceD o) p.1.day).zone) := by
    by_cases he : endE (forceD o) ≤ p.1.day
    · rw [if_pos he] at hr
      have : onb = false := by rw [honb, decide_eq_false (by omega)]
      exact ⟨none, 0, 0, 0, 0, ⟨#[]⟩, 0, 0, by rw [hr, this]; rfl, fun h => by rw [this] at h; cases h⟩
    · rw [if_neg he] at hr
      have : onb = true := by rw [honb, decide_eq_true (by omega)]
      obtain ⟨rv, hr, hrv⟩ := hr
      obtain ⟨va, vn, vc, rfl⟩ := hrv.form
      exact ⟨va, vn, vc, _, _, _, _, _, by rw [hr, this]; rfl, fun _ => ⟨hrv, rfl, rfl, rfl⟩⟩
  obtain ⟨va, vn, vc, tm, tl, tz, tg, tf, rfl, hti⟩ := hr2
  simp only [go_sem, ↓reduceIte, Nat.reduceEqDiff, Nat.reduceAdd, Nat.reduceMul, Nat.reduceLeDiff, Nat.reduceLT, Nat.reduceBNe, reduceCtorEq, e14, e8, e6', e7', e5', e11]
  refine ⟨by omega, vat ad had ?_⟩
  try simp only [go_sem, ↓reduceIte, Nat.reduceEqDiff, Nat.reduceAdd, Nat.reduceMul, Nat.reduceLeDiff, Nat.reduceLT, Nat.reduceBNe, reduceCtorEq]
  refine vload (.int .i64 p.1.kind) (hRR R7 hle7 0 _ rfl) ?_
  simp only [go_sem, ↓reduceIte, Nat.reduceEqDiff, Nat.reduceAdd, Nat.reduceMul, Nat.reduceLeDiff, Nat.reduceLT, Nat.reduceBNe, reduceCtorEq, e14, e8, e6', e7', e5', e11]
  have hkind := valid_kind hpv
  have hon : p.1.kind = 1 ∨ p.1.kind = 2 ∨ p.1.kind = 3 → onb = true := fun h => by rw [honb, decide_eq_true (force_lt_end hvo hpf' h)]
  have honE : ∀ x, tiOn S (ruleN s.minute) (forceD o) x = ⟨(onE x (S.on (ruleN s.minute)) (forceD o)).rule, (onE x (S.on (ruleN s.minute)) (forceD o)).minute, (onE x (S.on (ruleN s.minute)) (forceD o)).length, (onE x (S.on (ruleN s.minute)) (forceD o)).zone, S.gap, S.fold⟩ := fun x => rfl
  rw [honE, onE_eq] at hti
  dsimp only at hti
  refine ⟨fun k1 => ?_, fun k1 => ⟨fun k2 => ?_, fun k2 => ⟨fun k3 => ?_, fun k3 => ⟨fun k4 => ?_, fun k4 => ?_⟩⟩⟩⟩
  · have ho := hon (by omega)
    refine vcLoop Nat (fun k => [(19, .val (.int .i64 k)), (18, .val (.bool ((pp.take k).any fun p' => p'.moves.any fun m => decide (m = p.1.mv)))), (16, .val (.bool onb)), (14, .val (.int .i64 i)), (8, .val (.slice fa fs.length fcap)), (6, .val (.slice xa xs.length xcap)), (7, .loc 1 0), (5, .val (.bool true)), (11, .val (.slice pa pp.length pcap))])
      (fun _ => [.dead, .box [.val (.slice ra rn rc), .val (.int .i64 (s.minute % 3)), .val (.int .i64 1), .val (.string zA), .val (.int .i64 0), .val (.int .i64 0), .val (.slice ma ms.length mcap)]]) (fun k _ => k ≤ pp.length) (fun k => pp.length - k) 0 ?_ ?_ ?_ ?_
    · (try simp only [go_sem, ↓reduceIte, Nat.reduceEqDiff, Nat.reduceAdd, Nat.reduceMul, Nat.reduceLeDiff, Nat.reduceLT, Nat.reduceBNe, reduceCtorEq]) <;> (repeat' (first | rfl | trivial | constructor | (intro h; exact absurd rfl h)))
    · try simp only [go_sem, ↓reduceIte, Nat.reduceEqDiff, Nat.reduceAdd, Nat.reduceMul, Nat.reduceLeDiff, Nat.reduceLT, Nat.reduceBNe, reduceCtorEq]
    · exact Nat.zero_le _
    rintro k env R8 hle8 hE hk
    (simp only [go_sem] at hE; obtain ⟨f19, f18, f16, f14, f8, f6, f7, f5, f11⟩ := hE; simp only [go_sem, ↓reduceIte, Nat.reduceEqDiff, Nat.reduceAdd, Nat.reduceMul, Nat.reduceLeDiff, Nat.reduceLT, Nat.reduceBNe, reduceCtorEq, f19, f18, f16, f14, f8, f6, f7, f5, f11]; dsimp only at *)
    refine ⟨fun hlt2 => ?_, fun hge2 => ?_⟩
    · have hk' : k < pp.length := by omega
      obtain ⟨adp, la, ln, lc, lma, lmc, hadp, hRp, _, hRm⟩ := hpf k hk'
      obtain ⟨pk, hpk⟩ : ∃ pk, pk = pp[k] := ⟨_, rfl⟩
      have hany : (pp.take (k + 1)).any (fun p' => p'.moves.any fun m => decide (m = p.1.mv)) = ((pp.take k).any (fun p' => p'.moves.any fun m => decide (m = p.1.mv)) || pk.moves.any fun m => decide (m = p.1.mv)) := by
        rw [List.take_succ_eq_append_getElem hk', List.any_append, hpk]; simp
      rw [← hpk] at hRp hRm
      have hml2 := hRm.2
      obtain ⟨_, _, e0, _, hmf⟩ := hRm.form
      simp only [Value.slice.injEq] at e0
      obtain ⟨rfl, _, rfl⟩ := e0
      have hle58 := RO.le_trans hle6 (RO.le_trans hle7 hle8)
      refine vcLoop Nat (fun j => [(20, .val (.int .i64 j)), (18, .val (.bool (((pp.take k).any fun p' => p'.moves.any fun m => decide (m = p.1.mv)) || (pk.moves.take j).any fun m => decide (m = p.1.mv)))), (19, .val (.int .i64 k)), (16, .val (.bool onb)), (14, .val (.int .i64 i)), (8, .val (.slice fa fs.length fcap)), (6, .val (.slice xa xs.length xcap)), (7, .loc 1 0), (5, .val (.bool true)), (11, .val (.slice pa pp.length pcap))])
        (fun _ => [.dead, .box [.val (.slice ra rn rc), .val (.int .i64 (s.minute % 3)), .val (.int .i64 1), .val (.string zA), .val (.int .i64 0), .val (.int .i64 0), .val (.slice ma ms.length mcap)]]) (fun j _ => j ≤ pk.moves.length) (fun j => pk.moves.length - j) 0 ?_ ?_ ?_ ?_
      · (try simp only [go_sem, ↓reduceIte, Nat.reduceEqDiff, Nat.reduceAdd, Nat.reduceMul, Nat.reduceLeDiff, Nat.reduceLT, Nat.reduceBNe, reduceCtorEq]) <;> (repeat' (first | rfl | trivial | constructor | (intro h; exact absurd rfl h)))
        simp [f18]
      · try simp only [go_sem, ↓reduceIte, Nat.reduceEqDiff, Nat.reduceAdd, Nat.reduceMul, Nat.reduceLeDiff, Nat.reduceLT, Nat.reduceBNe, reduceCtorEq]
      · exact Nat.zero_le _
      rintro j env R9 hle9 hE hj
      (simp only [go_sem] at hE; obtain ⟨g20, g18, g19, g16, g14, g8, g6, g7, g5, g11⟩ := hE; simp only [go_sem, ↓reduceIte, Nat.reduceEqDiff, Nat.reduceAdd, Nat.reduceMul, Nat.reduceLeDiff, Nat.reduceLT, Nat.reduceBNe, reduceCtorEq, g20, g18, g19, g16, g14, g8, g6, g7, g5, g11]; dsimp only at *)
      refine ⟨by omega, vat adp hadp ?_⟩
      try simp only [go_sem, ↓reduceIte, Nat.reduceEqDiff, Nat.reduceAdd, Nat.reduceMul, Nat.reduceLeDiff, Nat.reduceLT, Nat.reduceBNe, reduceCtorEq]
      refine vload (.slice lma pk.moves.length lmc) (hle9 _ _ (hle58 _ _ (hRp 7 _ rfl))) ?_
      simp only [go_sem, ↓reduceIte, Nat.reduceEqDiff, Nat.reduceAdd, Nat.reduceMul, Nat.reduceLeDiff, Nat.reduceLT, Nat.reduceBNe, reduceCtorEq, g20, g18, g19, g16, g14, g8, g6, g7, g5, g11]
      refine ⟨fun hlt3 => ?_, fun hge3 => ?_⟩
      · have hj' : j < pk.moves.length := by omega
        obtain ⟨adm, hadm, hRmv⟩ := hmf j hj'
        obtain ⟨m, hm⟩ : ∃ m, m = pk.moves[j] := ⟨_, rfl⟩
        rw [← hm] at hRmv
        have hanyj : (pk.moves.take (j + 1)).any (fun m => decide (m = p.1.mv)) = ((pk.moves.take j).any (fun m => decide (m = p.1.mv)) || decide (m = p.1.mv)) := by
          rw [List.take_succ_eq_append_getElem hj', List.any_append, hm]; simp
        refine ⟨fun hno => ⟨by omega, vat adp hadp ?_⟩, fun hyes => ?_⟩
        · try simp only [go_sem, ↓reduceIte, Nat.reduceEqDiff, Nat.reduceAdd, Nat.reduceMul, Nat.reduceLeDiff, Nat.reduceLT, Nat.reduceBNe, reduceCtorEq]
          refine vload (.slice lma pk.moves.length lmc) (hle9 _ _ (hle58 _ _ (hRp 7 _ rfl))) ?_
          simp only [go_sem, ↓reduceIte, Nat.reduceEqDiff, Nat.reduceAdd, Nat.reduceMul, Nat.reduceLeDiff, Nat.reduceLT, Nat.reduceBNe, reduceCtorEq, g20, g18, g19, g16, g14, g8, g6, g7, g5, g11]
          refine ⟨by omega, vat adm hadm ?_⟩
          try simp only [go_sem, ↓reduceIte, Nat.reduceEqDiff, Nat.reduceAdd, Nat.reduceMul, Nat.reduceLeDiff, Nat.reduceLT, Nat.reduceBNe, reduceCtorEq]
          refine vloadn m.cells rfl (fun j u hj => hle9 _ _ (hle58 _ _ (hRmv j u hj))) ?_
          simp only [go_sem, ↓reduceIte, Nat.reduceEqDiff, Nat.reduceAdd, Nat.reduceMul, Nat.reduceLeDiff, Nat.reduceLT, Nat.reduceBNe, reduceCtorEq, Mv.cells, g20, g18, g19, g16, g14, g8, g6, g7, g5, g11]
          refine ⟨by omega, vat ad had ?_⟩
          try simp only [go_sem, ↓reduceIte, Nat.reduceEqDiff, Nat.reduceAdd, Nat.reduceMul, Nat.reduceLeDiff, Nat.reduceLT, Nat.reduceBNe, reduceCtorEq]
          refine vloadn p.1.mv.cells rfl (fun j u hj => ?_) ?_
          · show R9 (((ad.add (i * 13)).add 4).add j) u
            rw [addr_add _ (4 + j) 4 j rfl]
            refine hRR R9 (RO.le_trans hle7 (RO.le_trans hle8 hle9)) (4 + j) u ?_
            have hj5 : j < 5 := (List.getElem?_eq_some_iff.1 hj).1
            match j, hj5 with
            | 0, _ => exact hj
            | 1, _ => exact hj
            | 2, _ => exact hj
            | 3, _ => exact hj
            | 4, _ => exact hj
          simp only [go_sem, ↓reduceIte, Nat.reduceEqDiff, Nat.reduceAdd, Nat.reduceMul, Nat.reduceLeDiff, Nat.reduceLT, Nat.reduceBNe, reduceCtorEq, Mv.cells, g20, g18, g19, g16, g14, g8, g6, g7, g5, g11]
          refine ⟨_, W.in64 (by omega), j + 1, by omega, ?_, by omega⟩
          try simp only [go_sem, ↓reduceIte, Nat.reduceEqDiff, Nat.reduceAdd, Nat.reduceMul, Nat.reduceLeDiff, Nat.reduceLT, Nat.reduceBNe, reduceCtorEq]
          refine ⟨rfl, ?_⟩
          have hmm : decide (m = p.1.mv) = (decide (m.day = p.1.mv.day) && ((m.drop == p.1.mv.drop) && (decide (m.toDay = p.1.mv.toDay) && (decide (m.minute = p.1.mv.minute) && decide (m.length = p.1.mv.length))))) := by
            obtain ⟨_, _, _, _, _⟩ := m
            obtain ⟨_, _, _, _, _⟩ := p.1.mv
            simp only [Mv.mk.injEq, Bool.decide_and]
            congr 2
          rw [hanyj, hmm, ← Bool.or_assoc, hno]
          simp
        · refine ⟨_, W.in64 (by omega), j + 1, by omega, ?_, by omega⟩
          try simp only [go_sem, ↓reduceIte, Nat.reduceEqDiff, Nat.reduceAdd, Nat.reduceMul, Nat.reduceLeDiff, Nat.reduceLT, Nat.reduceBNe, reduceCtorEq]
          refine ⟨rfl, ?_⟩
          rw [hanyj, ← Bool.or_assoc, hyes]
          rfl
      · obtain rfl : j = pk.moves.length := by omega
        refine ⟨_, W.in64 (by omega), k + 1, by omega, ⟨rfl, ?_⟩, by omega⟩
        rw [List.take_length, ← hany]
    · obtain rfl : k = pp.length := by omega
      have hmet := inforce_move S (ruleN s.minute) ms (fun e => by rw [hppl, e] at hpp0; simp at hpp0) hpf' k1
      rw [← hpp] at hmet
      rw [List.take_length, hmet, ho]
      refine ⟨fun _ => ⟨fun h => (by cases h), fun _ => ⟨_, W.in64 (by omega), i + 1, by omega, rfl, by omega⟩⟩, fun h => (by cases h)⟩
  · have ho := hon (by omega)
    obtain ⟨_, hm, hl', _⟩ := hti ho
    rw [last_self ho2 (.inl rfl) hpf' k2] at hm hl'
    simp only [Option.map_some, Option.getD_some] at hm hl'
    refine ⟨fun _ => ⟨by omega, vat ad had ?_⟩, fun h => by rw [ho] at h; cases h⟩
    try simp only [go_sem, ↓reduceIte, Nat.reduceEqDiff, Nat.reduceAdd, Nat.reduceMul, Nat.reduceLeDiff, Nat.reduceLT, Nat.reduceBNe, reduceCtorEq]
    refine vload (.int .i64 p.1.minute) (hRR R7 hle7 9 _ rfl) ?_
    simp only [go_sem, ↓reduceIte, Nat.reduceEqDiff, Nat.reduceAdd, Nat.reduceMul, Nat.reduceLeDiff, Nat.reduceLT, Nat.reduceBNe, reduceCtorEq, e14, e8, e6', e7', e5', e11]
    refine ⟨fun _ => ⟨by omega, vat ad had ?_⟩, fun h => absurd hm h⟩
    try simp only [go_sem, ↓reduceIte, Nat.reduceEqDiff, Nat.reduceAdd, Nat.reduceMul, Nat.reduceLeDiff, Nat.reduceLT, Nat.reduceBNe, reduceCtorEq]
    refine vload (.int .i64 p.1.length) (hRR R7 hle7 10 _ rfl) ?_
    simp only [go_sem, ↓reduceIte, Nat.reduceEqDiff, Nat.reduceAdd, Nat.reduceMul, Nat.reduceLeDiff, Nat.reduceLT, Nat.reduceBNe, reduceCtorEq, e14, e8, e6', e7', e5', e11]
    refine ⟨fun h => absurd hl' h, fun _ => ⟨_, W.in64 (by omega), i + 1, by omega, ?_, by omega⟩⟩
    try simp only [go_sem, ↓reduceIte, Nat.reduceEqDiff, Nat.reduceAdd, Nat.reduceMul, Nat.reduceLeDiff, Nat.reduceLT, Nat.reduceBNe, reduceCtorEq]
    rfl
  · have ho := hon (by omega)
    obtain ⟨hrl, _⟩ := hti ho
    rw [last_self ho2 (.inr rfl) hpf' k3] at hrl
    simp only [Option.map_some, Option.getD_some] at hrl
    refine ⟨fun _ => ⟨by omega, vat ad had ?_⟩, fun h => by rw [ho] at h; cases h⟩
    try simp only [go_sem, ↓reduceIte, Nat.reduceEqDiff, Nat.reduceAdd, Nat.reduceMul, Nat.reduceLeDiff, Nat.reduceLT, Nat.reduceBNe, reduceCtorEq]
    refine vload (.slice p.2.1 p.2.2.1 p.2.2.2) (hRR R7 hle7 11 _ rfl) ?_
    simp only [go_sem, ↓reduceIte, Nat.reduceEqDiff, Nat.reduceAdd, Nat.reduceMul, Nat.reduceLeDiff, Nat.reduceLT, Nat.reduceBNe, reduceCtorEq, e14, e8, e6', e7', e5', e11]
    refine vcall (eSameRuleR p.1.rule p.1.rule _ _ R7 hrl (hpok.mono (RO.le_trans hle46 hle7))) ?_
    rintro R8 v hle8 rfl
    rw [decide_eq_true rfl]
    simp only [go_sem, ↓reduceIte, Nat.reduceEqDiff, Nat.reduceAdd, Nat.reduceMul, Nat.reduceLeDiff, Nat.reduceLT, Nat.reduceBNe, reduceCtorEq, e14, e8, e6', e7', e5', e11]
    refine ⟨_, W.in64 (by omega), i + 1, by omega, ?_, by omega⟩
    try simp only [go_sem, ↓reduceIte, Nat.reduceEqDiff, Nat.reduceAdd, Nat.reduceMul, Nat.reduceLeDiff, Nat.reduceLT, Nat.reduceBNe, reduceCtorEq]
    rfl
  · refine ⟨fun ho => ⟨by omega, vat ad had ?_⟩, fun h => ?_⟩
    · obtain ⟨_, _, _, hz⟩ := hti ho
      rw [zone_self ho2 hpf' k4] at hz
      simp only [Option.map_some, Option.getD_some] at hz
      try simp only [go_sem, ↓reduceIte, Nat.reduceEqDiff, Nat.reduceAdd, Nat.reduceMul, Nat.reduceLeDiff, Nat.reduceLT, Nat.reduceBNe, reduceCtorEq]
      refine vload (.string p.1.zone) (hRR R7 hle7 12 _ rfl) ?_
      rw [hz]
      simp only [go_sem, ↓reduceIte, Nat.reduceEqDiff, Nat.reduceAdd, Nat.reduceMul, Nat.reduceLeDiff, Nat.reduceLT, Nat.reduceBNe, reduceCtorEq, bytes_beq, e14, e8, e6', e7', e5', e11]
      refine ⟨_, W.in64 (by omega), i + 1, by omega, ?_, by omega⟩
      try simp only [go_sem, ↓reduceIte, Nat.reduceEqDiff, Nat.reduceAdd, Nat.reduceMul, Nat.reduceLeDiff, Nat.reduceLT, Nat.reduceBNe, reduceCtorEq]
      rfl
    · refine ⟨_, W.in64 (by omega), i + 1, by omega, ?_, by omega⟩
      try simp only [go_sem, ↓reduceIte, Nat.reduceEqDiff, Nat.reduceAdd, Nat.reduceMul, Nat.reduceLeDiff, Nat.reduceLT, Nat.reduceBNe, reduceCtorEq]
      rfl
  · have k5 : p.1.kind = 5 := by omega
    have hend := endE_mem ho2 hpf' k5
    have hof : onb = false := by rw [honb, hend, decide_eq_false (by omega)]
    have hpd := valid_day hpv
    refine ⟨by omega, vat ad had ?_⟩
    try simp only [go_sem, ↓reduceIte, Nat.reduceEqDiff, Nat.reduceAdd, Nat.reduceMul, Nat.reduceLeDiff, Nat.reduceLT, Nat.reduceBNe, reduceCtorEq]
    refine vload (.int .i64 p.1.day) (hRR R7 hle7 1 _ rfl) ?_
    simp only [go_sem, ↓reduceIte, Nat.reduceEqDiff, Nat.reduceAdd, Nat.reduceMul, Nat.reduceLeDiff, Nat.reduceLT, Nat.reduceBNe, reduceCtorEq, e14, e8, e6', e7', e5', e11]
    refine ⟨_, W.in64 (by omega), ?_⟩
    refine vcall (hAt R7 (max (p.1.day - 1) 0) (RO.le_trans hle46 hle7)) ?_
    intro R8 r hle8 hr
    unfold AtV at hr
    rw [ho1] at hr
    dsimp only at hr
    rw [if_neg (by simp [betw]; omega)] at hr
    have hr2 : ∃ va vn vc m l z g fo, r = .tuple #[.agg #[.slice va vn vc, .int .i64 m, .int .i64 l, .string z, .int .i64 g, .int .i64 fo, .slice none 0 0], .bool (decide (0 < p.1.day)), .int .i64 0] := by
      by_cases he : endE (forceD o) ≤ max (p.1.day - 1) 0
      · rw [if_pos he] at hr
        rw [decide_eq_false (by omega)]
        exact ⟨none, 0, 0, 0, 0, ⟨#[]⟩, 0, 0, by rw [hr]; rfl⟩
      · rw [if_neg he] at hr
        rw [decide_eq_true (by omega)]
        obtain ⟨rv, hr, hrv⟩ := hr
        obtain ⟨va, vn, vc, rfl⟩ := hrv.form
        exact ⟨va, vn, vc, _, _, _, _, _, by rw [hr]; rfl⟩
    obtain ⟨va', vn', vc', tm', tl', tz', tg', tf', rfl⟩ := hr2
    try simp only [go_sem, ↓reduceIte, Nat.reduceEqDiff, Nat.reduceAdd, Nat.reduceMul, Nat.reduceLeDiff, Nat.reduceLT, Nat.reduceBNe, reduceCtorEq, hof, e14, e8, e6', e7', e5', e11]
    have hlastp : (partsD S (ruleN s.minute) (forceD o) (endE (forceD o))).getLast? = some (endE (forceD o), Ti.zero) := by
      obtain ⟨q, hq⟩ := end_go (endE (forceD o)) (tiOn S (ruleN s.minute) (forceD o)) (rising (0 :: (forceD o).map (·.day))) [] (rising_inc _) (by rw [mem_rising]; exact List.mem_cons_of_mem _ (List.mem_map.2 ⟨p.1, hpf', hend.symm⟩))
      unfold partsD
      rw [hq, List.getLast?_concat]
    have hlastd : (pp[pp.length - 1]'(by omega)).day = p.1.day := by
      have h1 : pp[pp.length - 1]? = some (pp[pp.length - 1]'(by omega)) := List.getElem?_eq_getElem _
      have h1' := h1
      simp only [hpp] at h1'
      obtain ⟨w, hw1, hw2⟩ := mergeP_at h1'
      rw [mergeP_len, ← List.getLast?_eq_getElem?, hlastp] at hw1
      cases hw1
      rw [hend] at hw2
      have := congrArg Pa.day hw2
      simpa [hpp] using this
    refine ⟨by omega, vat ad had ?_⟩
    try simp only [go_sem, ↓reduceIte, Nat.reduceEqDiff, Nat.reduceAdd, Nat.reduceMul, Nat.reduceLeDiff, Nat.reduceLT, Nat.reduceBNe, reduceCtorEq]
    refine vload (.int .i64 p.1.day) (hRR R8 (RO.le_trans hle7 hle8) 1 _ rfl) ?_
    try simp only [go_sem, ↓reduceIte, Nat.reduceEqDiff, Nat.reduceAdd, Nat.reduceMul, Nat.reduceLeDiff, Nat.reduceLT, Nat.reduceBNe, reduceCtorEq, beq_self_eq_true, hof, e14, e8, e6', e7', e5', e11]
    have hti2 : ((pp.length : Int) - 1).toNat = pp.length - 1 := by omega
    obtain ⟨adl, la, ln, lc, lma, lmc, hadl, hRl, _, _⟩ := hpf (pp.length - 1) (by omega)
    refine ⟨_, W.in64 (by omega), by omega, by omega, ?_⟩
    rw [hti2]
    refine vat adl hadl ?_
    try simp only [go_sem, ↓reduceIte, Nat.reduceEqDiff, Nat.reduceAdd, Nat.reduceMul, Nat.reduceLeDiff, Nat.reduceLT, Nat.reduceBNe, reduceCtorEq]
    refine vload (.int .i64 p.1.day) (hle8 _ _ (hle7 _ _ (hle6 _ _ (by rw [← hlastd]; exact hRl 0 _ rfl)))) ?_
    try simp only [go_sem, ↓reduceIte, Nat.reduceEqDiff, Nat.reduceAdd, Nat.reduceMul, Nat.reduceLeDiff, Nat.reduceLT, Nat.reduceBNe, reduceCtorEq, e14, e8, e6', e7', e5', e11]
    refine ⟨by omega, vat ad had ?_⟩
    try simp only [go_sem, ↓reduceIte, Nat.reduceEqDiff, Nat.reduceAdd, Nat.reduceMul, Nat.reduceLeDiff, Nat.reduceLT, Nat.reduceBNe, reduceCtorEq]
    refine vload (.int .i64 p.1.day) (hRR R8 (RO.le_trans hle7 hle8) 1 _ rfl) ?_
    try simp only [go_sem, ↓reduceIte, Nat.reduceEqDiff, Nat.reduceAdd, Nat.reduceMul, Nat.reduceLeDiff, Nat.reduceLT, Nat.reduceBNe, reduceCtorEq, e14, e8, e6', e7', e5', e11]
    refine ⟨_, W.in64 (by omega), i + 1, by omega, ?_, by omega⟩
    try simp only [go_sem, ↓reduceIte, Nat.reduceEqDiff, Nat.reduceAdd, Nat.reduceMul, Nat.reduceLeDiff, Nat.reduceLT, Nat.reduceBNe, reduceCtorEq]
    rfl
end Go.Proofs.Ytpnhiknfcpkfbaa
