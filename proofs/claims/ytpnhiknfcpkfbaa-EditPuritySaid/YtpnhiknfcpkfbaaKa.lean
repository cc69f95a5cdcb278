/- Plain lemmas of our own, no statement of the seat: the results of sorted, Rebase, on lie in new memory. -/
import Derived.Test.YtpnhiknfcpkfbaaEu
namespace Go.Proofs.Ytpnhiknfcpkfbaa
set_option linter.unusedSimpArgs false
set_option linter.unusedVariables false
open Go.Proofs.Ytpnhiknfcpkfbaa.Vc
theorem eCloneIntsN (xs : List Int) (v : Value) (R : RO) (h : Ints R v xs) (hl : xs.length ≤ 1000000000) : CallsR Try.prog 57 [v] R fun R' u => Ints (newR R R') u xs := by
  obtain ⟨a, cap, rfl, hc, hf⟩ := h.form
  refine callsT mix Try.func57 comp57 (by simp [Try.ntmps57]) ?_; simp only [go_sem, ↓reduceIte, Nat.reduceEqDiff, Nat.reduceAdd, Nat.reduceMul, Nat.reduceLeDiff, Nat.reduceLT, Nat.reduceBNe, reduceCtorEq, vc57, rs57]
  refine ⟨fun hn => ?_, fun hs => ?_⟩
  · have : xs = [] := by
      cases xs with
      | nil => rfl
      | cons x r =>
        obtain ⟨ad, e, _⟩ := hf 0 (by simp)
        rw [e] at hn; cases hn
    subst this
    exact Ints.nil _
  · refine vsrc (xs.map (.int .i64)) (by simp) (fun u hu => by obtain ⟨_, _, rfl⟩ := List.mem_map.1 hu; rfl) (fun hne => ?_) ?_
    · cases ha : a with
      | none => rw [ha] at hs; cases hs
      | some ad =>
        refine ⟨ad, rfl, fun i u hi => ?_⟩
        rw [List.getElem?_map] at hi
        obtain ⟨x, hx, rfl⟩ := Option.map_eq_some_iff.1 hi
        obtain ⟨hlt, rfl⟩ := List.getElem?_eq_some_iff.1 hx
        obtain ⟨ad', e, hR⟩ := hf i hlt
        rw [ha] at e
        simp only [Option.some.injEq] at e
        subst e
        exact hR
    try simp only [go_sem, ↓reduceIte, Nat.reduceEqDiff, Nat.reduceAdd, Nat.reduceMul, Nat.reduceLeDiff, Nat.reduceLT, Nat.reduceBNe, reduceCtorEq]
    refine vappO [] rfl rfl (by omega) ?_
    try simp only [go_sem, ↓reduceIte, Nat.reduceEqDiff, Nat.reduceAdd, Nat.reduceMul, Nat.reduceLeDiff, Nat.reduceLT, Nat.reduceBNe, reduceCtorEq]
    intro b cap' R' hle hrow hcap hfr
    have := RowIn.ints (xs := xs) (cap := cap') (hrow.new hfr (RO.le_refl R)) (by simpa using hcap)
    simpa using this
theorem eCopiedN (xs : List Nd) (v : Value) (R : RO) (h : RuleV R v xs) : CallsR Try.prog 45 [v] R fun R' u => RuleV (newR R R') u xs := by
  have hxl : xs.length ≤ 1000000000 := by obtain ⟨_, _, _, _, h⟩ := h; exact h
  have hcl := eCloneRule xs v R h hxl
  obtain ⟨cs0, ⟨a, cap, rfl, _⟩, _⟩ := h
  refine callsT mix Try.func45 comp45 (by simp [Try.ntmps45]) ?_; simp only [go_sem, ↓reduceIte, Nat.reduceEqDiff, Nat.reduceAdd, Nat.reduceMul, Nat.reduceLeDiff, Nat.reduceLT, Nat.reduceBNe, reduceCtorEq, vc45, rs45]
  refine vhand0 [] [.val (.slice a cs0.length cap)] [] hcl rfl rfl rfl trivial (by simp) rfl rfl ?_
  rintro R1 bs r hle1 ⟨cs, h1, h2, h3, h4⟩ _
  rcases h4 with ⟨rfl, rfl, rfl⟩ | ⟨rfl, rfl⟩
  · try simp only [go_sem, ↓reduceIte, Nat.reduceEqDiff, Nat.reduceAdd, Nat.reduceMul, Nat.reduceLeDiff, Nat.reduceLT, Nat.reduceBNe, reduceCtorEq, Int.reduceLE, Int.reduceLT, Int.reduceToNat, Int.cast_ofNat_Int, Int.reduceEq, Int.reduceNe]
    refine vcLoop Unit (fun _ => [(9, .val (.int .i64 0)), (8, .val (.int .i64 0)), (3, .val (.slice none 0 0))]) (fun _ => []) (fun _ _ => True) (fun _ => 0) () ?_ rfl trivial ?_
    · (try simp only [go_sem, ↓reduceIte, Nat.reduceEqDiff, Nat.reduceAdd, Nat.reduceMul, Nat.reduceLeDiff, Nat.reduceLT, Nat.reduceBNe, reduceCtorEq]) <;> (repeat' (first | rfl | trivial | constructor | (intro h; exact absurd rfl h)))
    rintro _ env R2 hle hE _
    (simp only [go_sem] at hE; obtain ⟨e9, e8, e3⟩ := hE; simp only [go_sem, ↓reduceIte, Nat.reduceEqDiff, Nat.reduceAdd, Nat.reduceMul, Nat.reduceLeDiff, Nat.reduceLT, Nat.reduceBNe, reduceCtorEq, e9, e8, e3]; dsimp only at *)
    exact ⟨fun h => absurd h (by omega), fun _ => ⟨[], ⟨none, 0, rfl, Nat.le_refl _, by simp⟩, rfl, by simp, by simp⟩⟩
  · try simp only [go_sem, ↓reduceIte, Nat.reduceEqDiff, Nat.reduceAdd, Nat.reduceMul, Nat.reduceLeDiff, Nat.reduceLT, Nat.reduceBNe, reduceCtorEq, Int.reduceLE, Int.reduceLT, Int.reduceToNat, Int.cast_ofNat_Int, Int.reduceEq, Int.reduceNe]
    have hN : Nodes R1 cs xs := ⟨h1, h3⟩
    clear h1 h2 h3 hcl
    refine vcLoop (Nat × List (List Value)) (fun p => [(9, .val (.int .i64 p.1)), (8, .val (.int .i64 xs.length)), (3, .sl 1 xs.length)]) (fun p => [.dead, .row 63 8 p.2.flatten]) (fun p R' => p.1 ≤ xs.length ∧ Nodes R' p.2 xs ∧ ∀ j c x, j < p.1 → p.2[j]? = some c → xs[j]? = some x → NodeV (newR R R') c x) (fun p => xs.length - p.1) (0, cs) ?_ rfl ?_ ?_
    · (try simp only [go_sem, ↓reduceIte, Nat.reduceEqDiff, Nat.reduceAdd, Nat.reduceMul, Nat.reduceLeDiff, Nat.reduceLT, Nat.reduceBNe, reduceCtorEq]) <;> (repeat' (first | rfl | trivial | constructor | (intro h; exact absurd rfl h)))
    · exact ⟨Nat.zero_le _, hN, fun j c x hj => absurd hj (Nat.not_lt_zero _)⟩
    rintro ⟨i, cs⟩ env R2 hle hE ⟨hi, hN, hNn⟩
    (simp only [go_sem] at hE; obtain ⟨e9, e8, e3⟩ := hE; simp only [go_sem, ↓reduceIte, Nat.reduceEqDiff, Nat.reduceAdd, Nat.reduceMul, Nat.reduceLeDiff, Nat.reduceLT, Nat.reduceBNe, reduceCtorEq, e9, e8, e3]; dsimp only at *)
    have hlen := hN.1
    have h8 := hN.len
    have hfl := length_flattenK h8
    refine ⟨fun hlt => ⟨hlt, ?_⟩, fun hge => ?_⟩
    · have hlt' : i < xs.length := by omega
      have hx := hN.2 i _ _ (List.getElem?_eq_getElem (by omega : i < cs.length)) (List.getElem?_eq_getElem hlt')
      obtain ⟨lv, hcx, hI, hIl⟩ := hx
      have hget : cs.flatten[i * 8 + 6]? = some lv := by
        rw [getElem?_flatten h8 i 6 _ (List.getElem?_eq_getElem (by omega : i < cs.length)) (by omega), hcx]
        rfl
      refine ⟨lv, hget, vcall (eCloneIntsN _ lv R2 hI hIl) ?_⟩
      intro R3 u hle3 hu
      obtain ⟨ua, ucap, rfl, hucap, huf⟩ := hu.form
      have huO := hu.mono newR_le
      have huN := hu.mono (newR_sub (R0 := R) (RO.le_trans hle1 hle))
      try simp only [go_sem, ↓reduceIte, Nat.reduceEqDiff, Nat.reduceAdd, Nat.reduceMul, Nat.reduceLeDiff, Nat.reduceLT, Nat.reduceBNe, reduceCtorEq, Int.reduceLE, Int.reduceLT, Int.reduceToNat, Int.cast_ofNat_Int, Int.reduceEq, Int.reduceNe, e9, e8, e3]
      refine ⟨hlt, by omega, _, W.in64 (by omega), (i + 1, cs.set i (xs[i].cells (.slice ua (xs[i]).list.length ucap))), by dsimp only; omega, ?_, by dsimp only; omega, ⟨by simp [hlen], ?_⟩, ?_⟩
      · refine ⟨rfl, ?_⟩
        rw [flat_set cs h8 i 6 _ _ (List.getElem?_eq_getElem (by omega : i < cs.length)) (by omega), hcx]
        rfl
      · intro j c x hj hx
        rw [List.getElem?_set] at hj
        split at hj
        · rename_i hij
          subst hij
          rw [if_pos (by omega)] at hj
          simp only [Option.some.injEq] at hj
          rw [List.getElem?_eq_getElem hlt'] at hx
          simp only [Option.some.injEq] at hx
          subst hj hx
          exact ⟨_, rfl, huO, hIl⟩
        · exact (hN.2 j c x hj hx).mono hle3
      · intro j c x hji hj hx
        dsimp only at hji hj
        rw [List.getElem?_set] at hj
        split at hj
        · rename_i hij
          subst hij
          rw [if_pos (by omega)] at hj
          simp only [Option.some.injEq] at hj
          rw [List.getElem?_eq_getElem hlt'] at hx
          simp only [Option.some.injEq] at hx
          subst hj hx
          exact ⟨_, rfl, huN, hIl⟩
        · rename_i hij
          exact (hNn j c x (by omega) hj hx).mono (newR_mono hle3)
    · intro b cap' R3 hle3 hrow hcap hfr
      exact ⟨cs, by rw [← hlen]; exact RowIn.slK (hrow.new hfr (RO.le_trans hle1 hle)) h8 (by omega) hcap, hlen, fun j c x hj hx => (hNn j c x (by have := (List.getElem?_eq_some_iff.1 hj).1; omega) hj hx).mono (newR_mono hle3), hxl⟩
theorem eOnN (s : Se) (rl : List Nd) (ds : List De) (v : Value) (e day : Int) (R : RO) (hr : RuleV R s.rule rl) (h : EdsV R v ds) : CallsR Try.prog 40 [.agg (s.cells ++ [v, .int .i64 e]).toArray, .int .i64 day] R fun R' u =>
    ∃ rv, u = .agg (Se.cells ⟨rv, (onE day ⟨rl, s.minute, s.length, s.zone⟩ ds).minute, (onE day ⟨rl, s.minute, s.length, s.zone⟩ ds).length, (onE day ⟨rl, s.minute, s.length, s.zone⟩ ds).zone, s.gap, s.fold, .slice none 0 0⟩).toArray ∧ RuleV (newR R R') rv (onE day ⟨rl, s.minute, s.length, s.zone⟩ ds).rule := by
  have hdl : ds.length ≤ 1000000000 := by obtain ⟨_, _, _, _, h⟩ := h; exact h
  obtain ⟨a, cap, rfl, hc, hf⟩ := h.form
  obtain ⟨sr, sm, sl, sz, sg, sf, smv⟩ := s
  obtain ⟨ra0, rn0, rc0, e0⟩ := hr.form
  dsimp only at e0 hr
  subst e0
  simp only [Se.cells, List.cons_append, List.nil_append] at *
  refine callsT mix Try.func40 comp40 (by simp [Try.ntmps40]) ?_; simp only [go_sem, ↓reduceIte, Nat.reduceEqDiff, Nat.reduceAdd, Nat.reduceMul, Nat.reduceLeDiff, Nat.reduceLT, Nat.reduceBNe, reduceCtorEq, vc40, rs40]
  refine vcLoop (Nat × Option Addr × Nat × Nat) (fun p => [(30, .val (.int .i64 p.1)), (29, .val (.int .i64 ds.length)), (28, .val (.slice a ds.length cap)), (1, .val (.int .i64 day)), (5, .loc 2 0), (4, .loc 1 0)])
    (fun p => [.dead, .box [.val (.slice none 0 0), .val (.int .i64 0), .val (.int .i64 0), .val (.string ⟨#[]⟩), .val (.int .i64 0), .val (.int .i64 0), .val (.slice none 0 0)],
      .box [.val (.slice p.2.1 p.2.2.1 p.2.2.2), .val (.int .i64 (onE day ⟨rl, sm, sl, sz⟩ (ds.take p.1)).minute), .val (.int .i64 (onE day ⟨rl, sm, sl, sz⟩ (ds.take p.1)).length), .val (.string (onE day ⟨rl, sm, sl, sz⟩ (ds.take p.1)).zone), .val (.int .i64 sg), .val (.int .i64 sf), .val (.slice none 0 0)]])
    (fun p R => p.1 ≤ ds.length ∧ RuleV R (.slice p.2.1 p.2.2.1 p.2.2.2) (onE day ⟨rl, sm, sl, sz⟩ (ds.take p.1)).rule) (fun p => ds.length - p.1) (0, ra0, rn0, rc0) ?_ ?_ ?_ ?_
  · (try simp only [go_sem, ↓reduceIte, Nat.reduceEqDiff, Nat.reduceAdd, Nat.reduceMul, Nat.reduceLeDiff, Nat.reduceLT, Nat.reduceBNe, reduceCtorEq]) <;> (repeat' (first | rfl | trivial | constructor | (intro h; exact absurd rfl h)))
  · try simp only [go_sem, ↓reduceIte, Nat.reduceEqDiff, Nat.reduceAdd, Nat.reduceMul, Nat.reduceLeDiff, Nat.reduceLT, Nat.reduceBNe, reduceCtorEq]
  · exact ⟨Nat.zero_le _, hr⟩
  rintro ⟨i, va, vn, vc⟩ env R1 hle hE ⟨hi, hrv⟩
  (simp only [go_sem] at hE; obtain ⟨e30, e29, e28, e1, e5, e4⟩ := hE; simp only [go_sem, ↓reduceIte, Nat.reduceEqDiff, Nat.reduceAdd, Nat.reduceMul, Nat.reduceLeDiff, Nat.reduceLT, Nat.reduceBNe, reduceCtorEq, e30, e29, e28, e1, e5, e4]; dsimp only at *)
  refine ⟨fun hlt => ⟨hlt, ?_⟩, fun hge => ?_⟩
  · have hlt' : i < ds.length := by omega
    obtain ⟨ad, ra, rn, rc, had, hR, hdr⟩ := hf i hlt'
    obtain ⟨d, hd⟩ : ∃ d, d = ds[i] := ⟨_, rfl⟩
    rw [← hd] at hR hdr
    obtain ⟨o, ho⟩ : ∃ o, o = onE day ⟨rl, sm, sl, sz⟩ (ds.take i) := ⟨_, rfl⟩
    have htk : onE day ⟨rl, sm, sl, sz⟩ (ds.take (i + 1)) = stepOn day o d := by
      rw [List.take_succ_eq_append_getElem hlt', onE, List.foldl_append, ← hd, ho]; rfl
    refine vat ad had ?_
    try simp only [go_sem, ↓reduceIte, Nat.reduceEqDiff, Nat.reduceAdd, Nat.reduceMul, Nat.reduceLeDiff, Nat.reduceLT, Nat.reduceBNe, reduceCtorEq]
    refine vloadn (d.ed ra rn rc).cells rfl (fun j u hj => hle _ _ (hR j u hj)) ?_
    rw [← ho] at hrv ⊢
    simp only [go_sem, ↓reduceIte, Nat.reduceEqDiff, Nat.reduceAdd, Nat.reduceMul, Nat.reduceLeDiff, Nat.reduceLT, Nat.reduceBNe, reduceCtorEq, Ed.cells, De.ed, e30, e29, e28, e1, e5, e4]
    refine ⟨fun h0 => ?_, fun h0 => ⟨fun h2 => ?_, fun h2 => ⟨fun h3 => ?_, fun h3 => ⟨fun h4 => ?_, fun h4 => ?_⟩⟩⟩⟩
    · have hs : stepOn day o d = o := by simp [stepOn, h0]
      refine ⟨_, W.in64 (by omega), (i + 1, va, vn, vc), by dsimp only; omega, ?_, by dsimp only; omega, ?_⟩
      · dsimp only; rw [htk, hs]; exact ⟨rfl, rfl, rfl, rfl, rfl⟩
      · dsimp only; rw [htk, hs]; exact hrv
    · have hs : stepOn day o d = ⟨o.rule, d.minute, d.length, o.zone⟩ := by simp [stepOn, h0, h2]
      refine ⟨_, W.in64 (by omega), (i + 1, va, vn, vc), by dsimp only; omega, ?_, by dsimp only; omega, ?_⟩
      · dsimp only; rw [htk, hs]; exact ⟨rfl, rfl, rfl, rfl, rfl⟩
      · dsimp only; rw [htk, hs]; exact hrv
    · have hs : stepOn day o d = ⟨d.rule, o.minute, o.length, o.zone⟩ := by simp [stepOn, h0, h2, h3]
      refine ⟨_, W.in64 (by omega), (i + 1, ra, rn, rc), by dsimp only; omega, ?_, by dsimp only; omega, ?_⟩
      · dsimp only; rw [htk, hs]; exact ⟨rfl, rfl, rfl, rfl, rfl⟩
      · dsimp only; rw [htk, hs]; exact hdr.mono hle
    · have hs : stepOn day o d = ⟨o.rule, o.minute, o.length, d.zone⟩ := by simp [stepOn, h0, h2, h3, h4]
      refine ⟨_, W.in64 (by omega), (i + 1, va, vn, vc), by dsimp only; omega, ?_, by dsimp only; omega, ?_⟩
      · dsimp only; rw [htk, hs]; exact ⟨rfl, rfl, rfl, rfl, rfl⟩
      · dsimp only; rw [htk, hs]; exact hrv
    · have hs : stepOn day o d = o := by simp [stepOn, h0, h2, h3, h4]
      refine ⟨_, W.in64 (by omega), (i + 1, va, vn, vc), by dsimp only; omega, ?_, by dsimp only; omega, ?_⟩
      · dsimp only; rw [htk, hs]; exact ⟨rfl, rfl, rfl, rfl, rfl⟩
      · dsimp only; rw [htk, hs]; exact hrv
  · obtain rfl : i = ds.length := by omega
    rw [List.take_length] at hrv ⊢
    generalize onE day ⟨rl, sm, sl, sz⟩ ds = o at *
    refine vcall (eCopiedN o.rule _ R1 hrv) ?_
    intro R2 u hle2 hu
    obtain ⟨ua, un, uc, rfl⟩ := hu.form
    try simp only [go_sem, ↓reduceIte, Nat.reduceEqDiff, Nat.reduceAdd, Nat.reduceMul, Nat.reduceLeDiff, Nat.reduceLT, Nat.reduceBNe, reduceCtorEq, Int.reduceLE, Int.reduceLT, Int.reduceToNat, Int.cast_ofNat_Int, Int.reduceEq, Int.reduceNe, e30, e29, e28, e1, e5, e4]
    exact ⟨_, rfl, hu.mono (newR_sub hle)⟩
set_option maxRecDepth 8000 in
theorem eSortedN (ds : List De) (v : Value) (R : RO) (h : EdsV R v ds) : CallsR Try.prog 31 [v] R fun R' r => match allD ds with
    | .error k => r = .tuple #[.slice none 0 0, .int .i64 k]
    | .ok o => ∃ u, r = .tuple #[u, .int .i64 0] ∧ EdsV (newR R R') u o := by
  have hdl : ds.length ≤ 1000000000 := by obtain ⟨_, _, _, _, h⟩ := h; exact h
  obtain ⟨a, cap, rfl, hc, hf⟩ := PlOK.of h
  refine callsT mix Try.func31 comp31 (by simp [Try.ntmps31]) ?_; simp only [go_sem, ↓reduceIte, Nat.reduceEqDiff, Nat.reduceAdd, Nat.reduceMul, Nat.reduceLeDiff, Nat.reduceLT, Nat.reduceBNe, reduceCtorEq, vc31, rs31]
  refine ⟨fun hgt => ?_, fun hle => ?_⟩
  · have : allD ds = .error 2 := by unfold allD; rw [if_pos (by omega)]
    rw [this]
  have hall : allD ds = okD (distD [] ds) := by unfold allD; rw [if_neg (by omega)]
  refine vcLoopR (Nat × List Pl × List Pl) (fun x => [(17, .val (.int .i64 x.1)), (16, .val (.int .i64 ds.length)), (15, .val (.slice a ds.length cap)), (4, .mp 0), (5, gs 1 x.2.2.length)])
    (fun x => [.mp (ents 0 x.2.1) x.2.1.length, gb 27 13 (rowP x.2.2)])
    (fun x R' => x.1 ≤ ds.length ∧ x.2.1.map (·.1) = x.2.2.map (·.1) ∧ distD [] (ds.take x.1) = some (x.2.1.map (·.1)) ∧ x.2.2.length ≤ x.1 ∧ (∀ p ∈ x.2.1, PlOK R' p) ∧ ∀ p ∈ x.2.2, PlOK (newR R R') p) (fun x => ds.length - x.1) (0, [], []) [] ?_ ?_ ?_ ?_
  · (try simp only [go_sem, ↓reduceIte, Nat.reduceEqDiff, Nat.reduceAdd, Nat.reduceMul, Nat.reduceLeDiff, Nat.reduceLT, Nat.reduceBNe, reduceCtorEq]) <;> (repeat' (first | rfl | trivial | constructor | (intro h; exact absurd rfl h)))
  · try simp only [go_sem, ↓reduceIte, Nat.reduceEqDiff, Nat.reduceAdd, Nat.reduceMul, Nat.reduceLeDiff, Nat.reduceLT, Nat.reduceBNe, reduceCtorEq]
  · exact ⟨Nat.zero_le _, rfl, rfl, Nat.le_refl _, by simp, by simp⟩
  rintro ⟨i, qs, ps⟩ env R1 hle1 hE ⟨hi, hqp, hd, hpl, hqo, hpo⟩
  (simp only [go_sem] at hE; obtain ⟨e17, e16, e15, e4, e5⟩ := hE; simp only [go_sem, ↓reduceIte, Nat.reduceEqDiff, Nat.reduceAdd, Nat.reduceMul, Nat.reduceLeDiff, Nat.reduceLT, Nat.reduceBNe, reduceCtorEq, e17, e16, e15, e4, e5]; dsimp only at *)
  refine ⟨fun hlt => ⟨hlt, ?_⟩, fun hge => ?_⟩
  · have hlt' : i < ds.length := by omega
    obtain ⟨ad, p, had, hp1, hR, hpok⟩ := hf i hlt'
    have hcells : ∀ j u, (p.ed.cells)[j]? = some u → R1 ((ad.add (i * 13)).add j) u := fun j u hj => hle1 _ _ (hR j u hj)
    refine vat ad had ?_
    try simp only [go_sem, ↓reduceIte, Nat.reduceEqDiff, Nat.reduceAdd, Nat.reduceMul, Nat.reduceLeDiff, Nat.reduceLT, Nat.reduceBNe, reduceCtorEq]
    refine vloadn p.ed.cells rfl hcells ?_
    simp only [go_sem, ↓reduceIte, Nat.reduceEqDiff, Nat.reduceAdd, Nat.reduceMul, Nat.reduceLeDiff, Nat.reduceLT, Nat.reduceBNe, reduceCtorEq, Ed.cells, Pl.ed, De.ed, e17, e16, e15, e4, e5]
    refine vcall (eValid p.ed R1) ?_
    rintro R2 v hle2 rfl
    try simp only [go_sem, ↓reduceIte, Nat.reduceEqDiff, Nat.reduceAdd, Nat.reduceMul, Nat.reduceLeDiff, Nat.reduceLT, Nat.reduceBNe, reduceCtorEq]
    rw [validE_ed p hpok.len]
    refine ⟨fun hv => ?_, fun hv => ?_⟩
    · have hb := distD_bad hlt' hd (addD_invalid (by rw [← hp1]; simpa using hv))
      rw [hall, hb]
      rfl
    simp only [go_sem, ↓reduceIte, Nat.reduceEqDiff, Nat.reduceAdd, Nat.reduceMul, Nat.reduceLeDiff, Nat.reduceLT, Nat.reduceBNe, reduceCtorEq, e17, e16, e15, e4, e5]
    have hpk : PlOK R2 p := hpok.mono (RO.le_trans hle1 hle2)
    have hstep := distD_step hlt' hd
    rw [← hp1] at hstep
    cases hfind : qs.find? (fun q => keyEq p.1 q.1) with
    | some q =>
      obtain ⟨j, hj⟩ := mfind_some p.1 q qs 0 0 hfind
      have hq := List.find?_some hfind
      have hqm := List.mem_of_find?_eq_some hfind
      rw [addD_old hv (by rw [find_fst, hfind]; rfl)] at hstep
      refine vmget (ents 0 qs) qs.length (some (j, q.ed.val)) (by rw [show Value.agg #[Value.int .i64 p.1.device, .int .i64 p.1.seq] = keyV p.1 from rfl, mEq_key]; simp [keyEq]) rfl hj ?_
      simp only [go_sem, ↓reduceIte, Nat.reduceEqDiff, Nat.reduceAdd, Nat.reduceMul, Nat.reduceLeDiff, Nat.reduceLT, Nat.reduceBNe, reduceCtorEq, mres, Ed.val, Pl.ed, De.ed, e17, e16, e15, e4, e5]
      refine vcall (eSame q.1 p.1 q.ed.cells p.ed.cells R2 ((hqo q hqm).mono hle2).edV hpk.edV) ?_
      rintro R3 v hle3 rfl
      simp only [go_sem, ↓reduceIte, Nat.reduceEqDiff, Nat.reduceAdd, Nat.reduceMul, Nat.reduceLeDiff, Nat.reduceLT, Nat.reduceBNe, reduceCtorEq, e17, e16, e15, e4, e5]
      refine ⟨fun hne => ?_, fun heq => ?_⟩
      · rw [if_neg hne] at hstep
        have hb := distD_none_append _ _ (ds.drop (i + 1)) hstep
        rw [List.take_append_drop] at hb
        rw [hall, hb]
        rfl
      · rw [if_pos heq] at hstep
        refine ⟨_, W.in64 (by omega), (i + 1, qs, ps), [], ?_⟩
        try simp only [go_sem, ↓reduceIte, Nat.reduceEqDiff, Nat.reduceAdd, Nat.reduceMul, Nat.reduceLeDiff, Nat.reduceLT, Nat.reduceBNe, reduceCtorEq]
        refine ⟨by omega, ⟨rfl, fun h => gb_ne h⟩, by decide, by omega, hqp, hstep, by omega, fun p hp => (hqo p hp).mono (RO.le_trans hle2 hle3), fun p hp => (hpo p hp).mono (newR_mono (RO.le_trans hle2 hle3))⟩
    | none =>
      have hn := mfind_none p.1 qs 0 0 (fun q hq => by have := List.find?_eq_none.1 hfind q hq; simpa using this)
      rw [addD_new hv (by rw [find_fst, hfind]; rfl)] at hstep
      refine vmget (ents 0 qs) qs.length none (by rw [show Value.agg #[Value.int .i64 p.1.device, .int .i64 p.1.seq] = keyV p.1 from rfl, mEq_key]; simp [keyEq]) rfl hn ?_
      simp only [go_sem, ↓reduceIte, Nat.reduceEqDiff, Nat.reduceAdd, Nat.reduceMul, Nat.reduceLeDiff, Nat.reduceLT, Nat.reduceBNe, reduceCtorEq, mres, e17, e16, e15, e4, e5]
      refine ⟨by rw [show Value.agg #[Value.int .i64 p.1.device, .int .i64 p.1.seq] = keyV p.1 from rfl, mEq_key]; simp [keyEq], vmput (ents 0 qs) qs.length none rfl hn ?_⟩
      simp only [go_sem, ↓reduceIte, Nat.reduceEqDiff, Nat.reduceAdd, Nat.reduceMul, Nat.reduceLeDiff, Nat.reduceLT, Nat.reduceBNe, reduceCtorEq, mset, e17, e16, e15, e4, e5]
      refine vcall (eCopiedN p.1.rule _ R2 hpk) ?_
      intro R3 u hle3 hu
      obtain ⟨ua, un, uc, rfl⟩ := hu.form
      simp only [go_sem, ↓reduceIte, Nat.reduceEqDiff, Nat.reduceAdd, Nat.reduceMul, Nat.reduceLeDiff, Nat.reduceLT, Nat.reduceBNe, reduceCtorEq, e17, e16, e15, e4, e5]
      refine vgrow (rowP ps) (fun _ => rfl) (fun h0 => by rw [h0, gb_nil]; rfl) (by rw [rowP_len]) (by omega) (by omega) (by omega) ?_
      simp only [go_sem, ↓reduceIte, Nat.reduceEqDiff, Nat.reduceAdd, Nat.reduceMul, Nat.reduceLeDiff, Nat.reduceLT, Nat.reduceBNe, reduceCtorEq, e17, e16, e15, e4, e5]
      refine ⟨_, W.in64 (by omega), (i + 1, qs ++ [p], ps ++ [(p.1, ua, un, uc)]), [0, 6], ?_⟩
      try simp only [go_sem, ↓reduceIte, Nat.reduceEqDiff, Nat.reduceAdd, Nat.reduceMul, Nat.reduceLeDiff, Nat.reduceLT, Nat.reduceBNe, reduceCtorEq]
      refine ⟨by omega, ⟨rfl, by rw [ents_snoc, Nat.zero_add]; rfl, fun _ => by rw [rowP_snoc]; rfl⟩, by decide, by omega, by simp [hqp], by rw [hstep]; simp, by omega, fun q hq => ?_, fun q hq => ?_⟩
      · rcases List.mem_append.1 hq with hq | hq
        · exact (hqo q hq).mono (RO.le_trans hle2 hle3)
        · simp only [List.mem_cons, List.not_mem_nil, or_false] at hq; subst hq; exact hpk.mono hle3
      · rcases List.mem_append.1 hq with hq | hq
        · exact (hpo q hq).mono (newR_mono (RO.le_trans hle2 hle3))
        · simp only [List.mem_cons, List.not_mem_nil, or_false] at hq; subst hq; exact hu.mono (newR_sub (RO.le_trans hle1 hle2))
  · obtain rfl : i = ds.length := by omega
    rw [List.take_length] at hd
    rw [hall, hd]
    simp only [okD]
    by_cases h0 : ps.length = 0
    · rw [h0]
      try simp only [go_sem, ↓reduceIte, Nat.reduceEqDiff, Nat.reduceAdd, Nat.reduceMul, Nat.reduceLeDiff, Nat.reduceLT, Nat.reduceBNe, reduceCtorEq]
      refine vcall (eSortEdNil _ R1) ?_
      rintro R2 v hle2 rfl
      simp only [go_sem, ↓reduceIte, Nat.reduceEqDiff, Nat.reduceAdd, Nat.reduceMul, Nat.reduceLeDiff, Nat.reduceLT, Nat.reduceBNe, reduceCtorEq, e17, e16, e15, e4, e5]
      rw [h0]
      try simp only [go_sem, ↓reduceIte, Nat.reduceEqDiff, Nat.reduceAdd, Nat.reduceMul, Nat.reduceLeDiff, Nat.reduceLT, Nat.reduceBNe, reduceCtorEq]
      obtain rfl : ps = [] := List.eq_nil_of_length_eq_zero h0
      have hqs : qs = [] := by simpa using hqp
      subst hqs
      exact ⟨_, rfl, by simpa [sortD] using EdsV.nil _⟩
    · rw [gs_pos h0]
      try simp only [go_sem, ↓reduceIte, Nat.reduceEqDiff, Nat.reduceAdd, Nat.reduceMul, Nat.reduceLeDiff, Nat.reduceLT, Nat.reduceBNe, reduceCtorEq]
      refine vhand [1] [.sl 0 ps.length, .val (.func (.func 30) #[] #[])] [.row 27 13 (rowP ps)] (eSortEd ps (by omega) R1) rfl rfl rfl ?_ (by simp) rfl rfl ?_
      · try simp only [go_sem, ↓reduceIte, Nat.reduceEqDiff, Nat.reduceAdd, Nat.reduceMul, Nat.reduceLeDiff, Nat.reduceLT, Nat.reduceBNe, reduceCtorEq]
        exact gb_ne (fun e => h0 (by have := rowP_len ps; rw [e] at this; simp at this; omega))
      rintro R2 bs r hle2 ⟨rfl, rs, hperm, hpw, rfl, rfl⟩ _
      simp only [go_sem, ↓reduceIte, Nat.reduceEqDiff, Nat.reduceAdd, Nat.reduceMul, Nat.reduceLeDiff, Nat.reduceLT, Nat.reduceBNe, reduceCtorEq, e17, e16, e15, e4, e5]
      rw [gs_pos h0]
      simp only [go_sem, ↓reduceIte, Nat.reduceEqDiff, Nat.reduceAdd, Nat.reduceMul, Nat.reduceLeDiff, Nat.reduceLT, Nat.reduceBNe, reduceCtorEq, setG, rn]
      intro b cap' R3 hle3 hrow hcap hfr
      have hk : KeysD (qs.map (·.1)) := distD_keys hd List.Pairwise.nil
      have hperm1 : (rs.map (·.1)).Perm (qs.map (·.1)) := by rw [hqp]; exact hperm.map _
      have hs : rs.map (·.1) = sortD (qs.map (·.1)) := sortD_eq hk hperm1 (List.pairwise_map.2 hpw)
      refine ⟨_, rfl, ?_⟩
      rw [← hs, show ps.length = rs.length from hperm.length_eq.symm]
      exact EdsV.row (hrow.new hfr (RO.le_trans hle1 hle2)) hcap (fun p hp => (hpo p (hperm.mem_iff.1 hp)).mono (newR_mono (RO.le_trans hle2 hle3))) (by rw [hperm.length_eq]; omega)
end Go.Proofs.Ytpnhiknfcpkfbaa
