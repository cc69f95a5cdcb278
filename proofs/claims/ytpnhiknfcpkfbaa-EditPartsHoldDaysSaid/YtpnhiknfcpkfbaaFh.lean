import Derived.Test.YtpnhiknfcpkfbaaFg
namespace Go.Proofs.Ytpnhiknfcpkfbaa
set_option linter.unusedSimpArgs false
set_option linter.unusedVariables false
open Go.Proofs.Ytpnhiknfcpkfbaa.Vc
theorem mvOf_ok (e : Ed) : moveOK (mvOf e) = true := by
  have hv := madeE_valid (ed0 e)
  have hk : (madeE (ed0 e)).kind = 1 := by unfold madeE ed0; simp
  exact (validD_move hv hk).1
theorem movesOf_len (es : List Ed) : (movesOf es).length ≤ 10 := by
  unfold movesOf
  have := List.length_filterMap_le (mvOn es) (List.range 10)
  simpa using this
theorem movesOK_of : ∀ {l : List Mv} {p : Option Int}, (∀ m ∈ l, moveOK m = true) → (l.Pairwise fun a b => a.day < b.day) → (∀ d, p = some d → ∀ m ∈ l, d < m.day) → movesOK p l = true
  | [], p, _, _, _ => movesOK_nil p
  | m :: r, p, h1, h2, h3 => by
    have h2' := List.pairwise_cons.1 h2
    rw [movesOK_cons, h1 m (by simp), movesOK_of (fun x hx => h1 x (by simp [hx])) h2'.2 (fun d hd x hx => by cases hd; exact h2'.1 x hx)]
    cases p with
    | none => rfl
    | some d => have := h3 d rfl m (by simp); simp [ltO, this]
theorem movesOf_pair (es : List Ed) (n : Nat) : ((List.range n).filterMap (mvOn es)).Pairwise fun a b => a.day < b.day := by
  induction n with
  | zero => simp
  | succ n ih =>
    rw [List.range_succ, List.filterMap_append, List.pairwise_append]
    refine ⟨ih, ?_, fun a ha b hb => ?_⟩
    · rw [List.filterMap_cons, List.filterMap_nil]
      cases mvOn es n <;> simp
    · have h1 := range_moves_day es n a ha
      obtain ⟨d, hd, hb'⟩ := List.mem_filterMap.1 hb
      simp only [List.mem_cons, List.not_mem_nil, or_false] at hd
      subst hd
      rw [mvOn_day hb']
      exact h1
theorem movesOf_ok (es : List Ed) : movesOK none (movesOf es) = true := by
  refine movesOK_of (fun m hm => ?_) (movesOf_pair es 10) (by simp)
  obtain ⟨d, _, hm'⟩ := List.mem_filterMap.1 hm
  unfold mvOn at hm'
  obtain ⟨e, _, rfl⟩ := Option.map_eq_some_iff.1 hm'
  exact mvOf_ok e
theorem turn_back (n m : Nat) (t : Int) (hm : m < n) (ht : 0 ≤ t) : ∃ j : Nat, j < n ∧ (((j : Int) + t) % n).toNat = m := by
  have hn : (0 : Int) < n := by omega
  have h1 := Int.emod_nonneg ((m : Int) - t) (show (n : Int) ≠ 0 by omega)
  have h2 := Int.emod_lt_of_pos ((m : Int) - t) hn
  refine ⟨(((m : Int) - t) % n).toNat, by omega, ?_⟩
  rw [Int.toNat_of_nonneg h1, Int.emod_add_emod, Int.sub_add_cancel, Int.emod_eq_of_lt (by omega) (by omega)]
  rfl
set_option maxHeartbeats 1000000 in
theorem lConvergence (R : RO) (es : List Ed) (v : Value) (h : EdC R v es) (hl : es.length ≤ 1099511627776) (s : Ed) (turn : Int) (ht : 0 ≤ turn ∧ turn ≤ 255) : CallsR Try.prog 4 [v, s.val, .int .u8 turn] R fun _ v => v = .bool true := by
  have hMd := fun R' hle => eMade es v R' (EdC.mono (R' := R') h hle) hl
  have hMs := fun R' hle => eMadeSeries s.minute es v R' (EdC.mono (R' := R') h hle) hl
  obtain ⟨a, cap, rfl, hc, _⟩ := h.form
  simp only [Ed.val]
  refine callsT mix Try.func4 comp4 (by simp [Try.ntmps4]) ?_; simp only [go_sem, ↓reduceIte, Nat.reduceEqDiff, Nat.reduceAdd, Nat.reduceMul, Nat.reduceLeDiff, Nat.reduceLT, Nat.reduceBNe, reduceCtorEq, vc4, rs4]
  refine vcall (eSanity R) ?_
  rintro R1 v hle1 rfl
  try simp only [go_sem, ↓reduceIte, Nat.reduceEqDiff, Nat.reduceAdd, Nat.reduceMul, Nat.reduceLeDiff, Nat.reduceLT, Nat.reduceBNe, reduceCtorEq]
  obtain ⟨xs, hxs⟩ : ∃ xs, xs = madeL es := ⟨_, rfl⟩
  have hxl := madeL_len es
  have hcons := madeL_cons es
  have hms := movesOf_ok es
  have hml := movesOf_len es
  obtain ⟨ms, hmse⟩ : ∃ ms, ms = movesOf es := ⟨_, rfl⟩
  rw [← hxs] at hMd hxl hcons
  rw [← hmse] at hMs hms hml
  refine ⟨?_, ?_⟩
  all_goals (refine vcall (hMd R1 hle1) ?_; intro R2 u hle2 hx; obtain ⟨xa, xcap, rfl, hxc, hxf⟩ := PlOK.of hx; try simp only [go_sem, ↓reduceIte, Nat.reduceEqDiff, Nat.reduceAdd, Nat.reduceMul, Nat.reduceLeDiff, Nat.reduceLT, Nat.reduceBNe, reduceCtorEq])
  refine ⟨?_, ?_⟩
  all_goals (refine vcall (hMs R2 (RO.le_trans hle1 hle2)) ?_; rintro R3 u hle3 ⟨rv, mv, rfl, hrv, hmv⟩; obtain ⟨ra, rn, rc, rfl⟩ := hrv.form; obtain ⟨ma, mcap, rfl, _⟩ := hmv.form; simp only [go_sem, ↓reduceIte, Nat.reduceEqDiff, Nat.reduceAdd, Nat.reduceMul, Nat.reduceLeDiff, Nat.reduceLT, Nat.reduceBNe, reduceCtorEq, Se.cells])
  all_goals (
    have hx13 : ∀ i, (hi : i < xs.length) → ∃ ad p, xa = some ad ∧ p.1 = xs[i] ∧ (∀ j u, (p.ed.cells)[j]? = some u → R3 ((ad.add (i * 13)).add j) u) ∧ PlOK R3 p := fun i hi => by
      obtain ⟨ad, p, h1, h2, h3, h4⟩ := hxf i hi
      exact ⟨ad, p, h1, h2, fun j u hj => hle3 _ _ (h3 j u hj), h4.mono hle3⟩
    refine ⟨_, W.in64 (by omega), ?_⟩
    refine vcLoopR (Nat × List Pl) (fun x => [(11, .val (.int .i64 ((x.1 : Int) - 1))), (10, .sl 2 x.2.length), (8, .val (.slice xa xs.length xcap)), (2, .val (.int .u8 turn)), (7, .val (.bool true)), (9, .loc 1 0)])
      (fun x => [.dead, .box [.val (.slice ra rn rc), .val (.int .i64 (s.minute % 3)), .val (.int .i64 1), .val (.string zA), .val (.int .i64 0), .val (.int .i64 0), .val (.slice ma ms.length mcap)], .row 27 13 (rowP x.2)])
      (fun x R => x.1 ≤ xs.length ∧ (∀ p ∈ x.2, PlOK R p ∧ p.1 ∈ xs) ∧ (∀ j, x.1 ≤ j → (hj : j < xs.length) → ∀ k, (hk : k < xs.length) → (((j : Int) + turn) % xs.length).toNat = k → xs[k] ∈ x.2.map (·.1)) ∧ x.2.length + 2 * x.1 ≤ 2 * xs.length) (fun x => x.1) (xs.length, []) [] ?_ ?_ ?_ ?_
    · (try simp only [go_sem, ↓reduceIte, Nat.reduceEqDiff, Nat.reduceAdd, Nat.reduceMul, Nat.reduceLeDiff, Nat.reduceLT, Nat.reduceBNe, reduceCtorEq]) <;> (repeat' (first | rfl | trivial | constructor | (intro h; exact absurd rfl h)))
    · try simp only [go_sem, ↓reduceIte, Nat.reduceEqDiff, Nat.reduceAdd, Nat.reduceMul, Nat.reduceLeDiff, Nat.reduceLT, Nat.reduceBNe, reduceCtorEq]
    · exact ⟨Nat.le_refl _, by simp, fun j h1 h2 => by omega, by simp⟩
    rintro ⟨n, ps⟩ env R4 hle4 hE ⟨hn, hpo, hpm, hpl⟩
    (simp only [go_sem] at hE; obtain ⟨e11, e10, e8, e2, e7, e9⟩ := hE; simp only [go_sem, ↓reduceIte, Nat.reduceEqDiff, Nat.reduceAdd, Nat.reduceMul, Nat.reduceLeDiff, Nat.reduceLT, Nat.reduceBNe, reduceCtorEq, e11, e10, e8, e2, e7, e9]; dsimp only at *)
    refine ⟨fun hge => ?_, fun hlt => ?_⟩
    · have hlen : (0 : Int) < xs.length := by omega
      have hk1 := Int.emod_nonneg (((n : Int) - 1) + turn) (show (xs.length : Int) ≠ 0 by omega)
      have hk2 := Int.emod_lt_of_pos (((n : Int) - 1) + turn) hlen
      have htm : (((n : Int) - 1) + turn).tmod xs.length = (((n : Int) - 1) + turn) % xs.length := tmod_nonneg' (by omega)
      obtain ⟨k, hk⟩ : ∃ k, k = ((((n : Int) - 1) + turn) % xs.length).toNat := ⟨_, rfl⟩
      have hkl : k < xs.length := by omega
      have hcast : ((n - 1 : Nat) : Int) = (n : Int) - 1 := by omega
      obtain ⟨ad, p, had, hp1, hR, hpok⟩ := hx13 k hkl
      refine ⟨_, W.in64 (by omega), _, W.in64 (by omega), by omega, ?_⟩
      rw [htm]
      refine ⟨hk1, hk2, ?_⟩
      rw [← hk]
      refine vat ad had ?_
      try simp only [go_sem, ↓reduceIte, Nat.reduceEqDiff, Nat.reduceAdd, Nat.reduceMul, Nat.reduceLeDiff, Nat.reduceLT, Nat.reduceBNe, reduceCtorEq]
      refine vloadn p.ed.cells rfl (fun j u hj => hle4 _ _ (hR j u hj)) ?_
      simp only [go_sem, ↓reduceIte, Nat.reduceEqDiff, Nat.reduceAdd, Nat.reduceMul, Nat.reduceLeDiff, Nat.reduceLT, Nat.reduceBNe, reduceCtorEq, Ed.cells, Pl.ed, De.ed, e11, e10, e8, e2, e7, e9]
      refine vappO (rowP ps) rfl (by rw [rowP_len]) (by omega) ?_
      simp only [go_sem, ↓reduceIte, Nat.reduceEqDiff, Nat.reduceAdd, Nat.reduceMul, Nat.reduceLeDiff, Nat.reduceLT, Nat.reduceBNe, reduceCtorEq, e11, e10, e8, e2, e7, e9]
      have hpo1 : ∀ q ∈ ps ++ [p], PlOK R4 q ∧ q.1 ∈ xs := fun q hq => by
        rcases List.mem_append.1 hq with hq | hq
        · exact hpo q hq
        · simp only [List.mem_cons, List.not_mem_nil, or_false] at hq; subst hq
          exact ⟨hpok.mono hle4, by rw [hp1]; exact List.getElem_mem hkl⟩
      have hpm1 : ∀ (qs : List Pl), (∀ q ∈ ps ++ [p], q ∈ qs) → ∀ j, n - 1 ≤ j → (hj : j < xs.length) → ∀ k, (hk : k < xs.length) → (((j : Int) + turn) % xs.length).toNat = k → xs[k] ∈ qs.map (·.1) := fun qs hqs j hj1 hj2 k' hk' hkk => by
        by_cases hjn : j = n - 1
        · have : k' = k := by rw [← hkk, hk, hjn, hcast]
          subst this
          rw [← hp1]
          exact List.mem_map_of_mem (hqs p (by simp))
        · obtain ⟨q, hq, he⟩ := List.mem_map.1 (hpm j (by omega) hj2 k' hk' hkk)
          exact List.mem_map.2 ⟨q, hqs q (by simp [hq]), he⟩
      refine ⟨by omega, fun hev => ?_, fun hod => ?_⟩
      · obtain ⟨ad', q, had', hq1, hR', hqok⟩ := hx13 (n - 1) (by omega)
        have hti : ((n : Int) - 1).toNat = n - 1 := by omega
        refine ⟨by omega, ?_⟩
        rw [hti]
        refine ⟨by omega, vat ad' had' ?_⟩
        try simp only [go_sem, ↓reduceIte, Nat.reduceEqDiff, Nat.reduceAdd, Nat.reduceMul, Nat.reduceLeDiff, Nat.reduceLT, Nat.reduceBNe, reduceCtorEq]
        refine vloadn q.ed.cells rfl (fun j u hj => hle4 _ _ (hR' j u hj)) ?_
        simp only [go_sem, ↓reduceIte, Nat.reduceEqDiff, Nat.reduceAdd, Nat.reduceMul, Nat.reduceLeDiff, Nat.reduceLT, Nat.reduceBNe, reduceCtorEq, Ed.cells, Pl.ed, De.ed, e11, e10, e8, e2, e7, e9]
        refine vappO (rowP (ps ++ [p])) (by rw [rowP_snoc]; rfl) (by rw [rowP_len]; simp) (by omega) ?_
        simp only [go_sem, ↓reduceIte, Nat.reduceEqDiff, Nat.reduceAdd, Nat.reduceMul, Nat.reduceLeDiff, Nat.reduceLT, Nat.reduceBNe, reduceCtorEq, e11, e10, e8, e2, e7, e9]
        refine ⟨_, W.in64 (by omega), (n - 1, ps ++ [p] ++ [q]), [0, 1, 6], ?_⟩
        try simp only [go_sem, ↓reduceIte, Nat.reduceEqDiff, Nat.reduceAdd, Nat.reduceMul, Nat.reduceLeDiff, Nat.reduceLT, Nat.reduceBNe, reduceCtorEq]
        refine ⟨by omega, ⟨by congr 2; omega, by rw [rowP_snoc (ps ++ [p]) q]; rfl⟩, by decide, by omega, fun x hx => ?_, hpm1 _ (fun x hx => by simp only [List.mem_append] at hx ⊢; exact .inl hx), by omega⟩
        rcases List.mem_append.1 hx with hx | hx
        · exact hpo1 x hx
        · simp only [List.mem_cons, List.not_mem_nil, or_false] at hx; subst hx
          exact ⟨hqok.mono hle4, by rw [hq1]; exact List.getElem_mem (by omega)⟩
      · refine ⟨_, W.in64 (by omega), (n - 1, ps ++ [p]), [0, 1, 4], ?_⟩
        try simp only [go_sem, ↓reduceIte, Nat.reduceEqDiff, Nat.reduceAdd, Nat.reduceMul, Nat.reduceLeDiff, Nat.reduceLT, Nat.reduceBNe, reduceCtorEq]
        exact ⟨by omega, ⟨by congr 2; omega, by rw [rowP_snoc]; rfl⟩, by decide, by omega, hpo1, hpm1 _ (fun q hq => hq), by omega⟩
    · obtain rfl : n = 0 := by omega
      refine vcall (eRebase xs _ R4 (hx.mono (RO.le_trans hle3 hle4))) ?_
      intro R5 r hle5 hr
      obtain ⟨o, ho1, ho2, ho3⟩ := allD_cons hcons (by omega)
      unfold RebV at hr
      rw [ho1] at hr
      obtain ⟨u1, w1, rfl, hu1, hw1⟩ := hr
      obtain ⟨u1a, u1c, rfl, _⟩ := hu1.form
      obtain ⟨w1a, w1c, rfl, _⟩ := hw1.form
      simp only [go_sem, ↓reduceIte, Nat.reduceEqDiff, Nat.reduceAdd, Nat.reduceMul, Nat.reduceLeDiff, Nat.reduceLT, Nat.reduceBNe, reduceCtorEq, e11, e10, e8, e2, e7, e9]
      refine vfreeze ?_
      try simp only [go_sem, ↓reduceIte, Nat.reduceEqDiff, Nat.reduceAdd, Nat.reduceMul, Nat.reduceLeDiff, Nat.reduceLT, Nat.reduceBNe, reduceCtorEq]
      intro b cap2 R6 hle6 hrow hcap2 hfr
      have hE2 : EdsV R6 (.slice (some ⟨b, 0, none⟩) ps.length cap2) (ps.map (·.1)) := EdsV.row hrow hcap2 (fun p hp => (hpo p hp).1.mono (RO.le_trans hle5 hle6)) (by omega)
      have hall2 : allD (ps.map (·.1)) = .ok o := by
        rw [← ho1]
        refine (allD_same hcons (by omega) (by simp; omega) fun d => ⟨fun hd => ?_, fun hd => ?_⟩).symm
        · obtain ⟨m, hm, rfl⟩ := List.mem_iff_getElem.1 hd
          obtain ⟨j, hj, hjm⟩ := turn_back xs.length m turn hm ht.1
          exact hpm j (Nat.zero_le _) hj m hm hjm
        · obtain ⟨p, hp, rfl⟩ := List.mem_map.1 hd
          exact (hpo p hp).2
      refine vcall (eRebase _ _ R6 hE2) ?_
      intro R7 r hle7 hr
      unfold RebV at hr
      rw [hall2] at hr
      obtain ⟨u2, w2, rfl, hu2, hw2⟩ := hr
      obtain ⟨u2a, u2c, rfl, _⟩ := hu2.form
      obtain ⟨w2a, w2c, rfl, _⟩ := hw2.form
      simp only [go_sem, ↓reduceIte, Nat.reduceEqDiff, Nat.reduceAdd, Nat.reduceMul, Nat.reduceLeDiff, Nat.reduceLT, Nat.reduceBNe, reduceCtorEq, e11, e10, e8, e2, e7, e9]
      have hser : ∀ (ds : List De) (v : Value) (R8 : RO), RO.le R7 R8 → EdsV R8 v ds → ds.length ≤ 53 → CallsR Try.prog 18 [.agg (Se.cells ⟨.slice ra rn rc, s.minute % 3, 1, zA, 0, 0, .slice ma ms.length mcap⟩).toArray, v] R8 fun R' r => MergeV R' r ⟨.slice ra rn rc, s.minute % 3, 1, zA, 0, 0, .slice ma ms.length mcap⟩ (ruleN s.minute) ms ds := fun ds v R8 hle8 hd hdl =>
        eMerge _ _ ms ds v R8 (hrv.mono (RO.le_trans hle4 (RO.le_trans hle5 (RO.le_trans hle6 (RO.le_trans hle7 hle8))))) (hmv.mono (RO.le_trans hle4 (RO.le_trans hle5 (RO.le_trans hle6 (RO.le_trans hle7 hle8))))) hd (by omega)
      refine vcall (hser xs _ R7 (RO.le_refl _) (hx.mono (RO.le_trans hle3 (RO.le_trans hle4 (RO.le_trans hle5 (RO.le_trans hle6 hle7))))) (by omega)) ?_
      intro R8 r hle8 hr
      unfold MergeV at hr
      rw [ho1] at hr
      dsimp only at hr
      rw [if_neg (by simp [hms])] at hr
      obtain ⟨p1, q1, rfl, hp1, hq1⟩ := hr
      obtain ⟨p1a, p1c, rfl, _⟩ := hp1.form
      obtain ⟨q1a, q1c, rfl, _⟩ := hq1.form
      simp only [go_sem, ↓reduceIte, Nat.reduceEqDiff, Nat.reduceAdd, Nat.reduceMul, Nat.reduceLeDiff, Nat.reduceLT, Nat.reduceBNe, reduceCtorEq, e11, e10, e8, e2, e7, e9]
      refine vcall (hser (ps.map (·.1)) _ R8 hle8 (hE2.mono (RO.le_trans hle7 hle8)) (by simp; omega)) ?_
      intro R9 r hle9 hr
      unfold MergeV at hr
      rw [hall2] at hr
      dsimp only at hr
      rw [if_neg (by simp [hms])] at hr
      obtain ⟨p2, q2, rfl, hp2, hq2⟩ := hr
      obtain ⟨p2a, p2c, rfl, _⟩ := hp2.form
      obtain ⟨q2a, q2c, rfl, _⟩ := hq2.form
      simp only [go_sem, ↓reduceIte, Nat.reduceEqDiff, Nat.reduceAdd, Nat.reduceMul, Nat.reduceLeDiff, Nat.reduceLT, Nat.reduceBNe, reduceCtorEq, e11, e10, e8, e2, e7, e9]
      refine vcall (eSameList _ _ _ _ R9 (hu1.mono (RO.le_trans hle6 (RO.le_trans hle7 (RO.le_trans hle8 hle9)))) (hu2.mono (RO.le_trans hle8 hle9))) ?_
      rintro R10 v hle10 rfl
      try simp only [go_sem, ↓reduceIte, Nat.reduceEqDiff, Nat.reduceAdd, Nat.reduceMul, Nat.reduceLeDiff, Nat.reduceLT, Nat.reduceBNe, reduceCtorEq, e11, e10, e8, e2, e7, e9]
      refine vcall (eSameRecords _ _ _ _ R10 (hw1.mono (RO.le_trans hle6 (RO.le_trans hle7 (RO.le_trans hle8 (RO.le_trans hle9 hle10))))) (hw2.mono (RO.le_trans hle8 (RO.le_trans hle9 hle10)))) ?_
      rintro R11 v hle11 rfl
      try simp only [go_sem, ↓reduceIte, Nat.reduceEqDiff, Nat.reduceAdd, Nat.reduceMul, Nat.reduceLeDiff, Nat.reduceLT, Nat.reduceBNe, reduceCtorEq, e11, e10, e8, e2, e7, e9]
      refine vcall (eSameParts _ _ _ _ R11 (hp1.mono (RO.le_trans hle9 (RO.le_trans hle10 hle11))) (hp2.mono (RO.le_trans hle10 hle11))) ?_
      rintro R12 v hle12 rfl
      try simp only [go_sem, ↓reduceIte, Nat.reduceEqDiff, Nat.reduceAdd, Nat.reduceMul, Nat.reduceLeDiff, Nat.reduceLT, Nat.reduceBNe, reduceCtorEq, e11, e10, e8, e2, e7, e9]
      refine vcall (eSameRecords _ _ _ _ R12 (hq1.mono (RO.le_trans hle9 (RO.le_trans hle10 (RO.le_trans hle11 hle12)))) (hq2.mono (RO.le_trans hle10 (RO.le_trans hle11 hle12)))) ?_
      rintro R13 v hle13 rfl
      try simp only [go_sem, ↓reduceIte, Nat.reduceEqDiff, Nat.reduceAdd, Nat.reduceMul, Nat.reduceLeDiff, Nat.reduceLT, Nat.reduceBNe, reduceCtorEq, e11, e10, e8, e2, e7, e9])
end Go.Proofs.Ytpnhiknfcpkfbaa
