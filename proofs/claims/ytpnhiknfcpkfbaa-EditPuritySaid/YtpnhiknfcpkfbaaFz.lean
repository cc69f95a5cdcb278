import Derived.Test.YtpnhiknfcpkfbaaFd
import Derived.Test.YtpnhiknfcpkfbaaFb
namespace Go.Proofs.Ytpnhiknfcpkfbaa
set_option linter.unusedSimpArgs false
set_option linter.unusedVariables false
open Go.Proofs.Ytpnhiknfcpkfbaa.Vc
theorem eMade (es : List Ed) (v : Value) (R : RO) (h : EdC R v es) (hl : es.length ≤ 1099511627776) : CallsR Try.prog 15 [v] R fun R' u => EdsV R' u (madeL es) := by
  obtain ⟨a, cap, rfl, hc, hf⟩ := h.form
  refine callsT mix Try.func15 comp15 (by simp [Try.ntmps15]) ?_; simp only [go_sem, ↓reduceIte, Nat.reduceEqDiff, Nat.reduceAdd, Nat.reduceMul, Nat.reduceLeDiff, Nat.reduceLT, Nat.reduceBNe, reduceCtorEq, vc15, rs15]
  refine vcLoopR (Nat × List Pl) (fun x => [(4, .val (.int .i64 x.1)), (0, .val (.slice a es.length cap)), (3, .sl 0 x.2.length)])
    (fun x => [.row 27 13 (rowP x.2)])
    (fun x R => x.1 ≤ es.length ∧ x.1 ≤ 12 ∧ x.2.map (·.1) = ((es.take x.1).map madeE).foldl madeStep [] ∧ x.2.length ≤ x.1 ∧ ∀ p ∈ x.2, PlOK R p) (fun x => es.length - x.1) (0, []) [] ?_ ?_ ?_ ?_
  · (try simp only [go_sem, ↓reduceIte, Nat.reduceEqDiff, Nat.reduceAdd, Nat.reduceMul, Nat.reduceLeDiff, Nat.reduceLT, Nat.reduceBNe, reduceCtorEq]) <;> (repeat' (first | rfl | trivial | constructor | (intro h; exact absurd rfl h)))
  · try simp only [go_sem, ↓reduceIte, Nat.reduceEqDiff, Nat.reduceAdd, Nat.reduceMul, Nat.reduceLeDiff, Nat.reduceLT, Nat.reduceBNe, reduceCtorEq]
  · exact ⟨Nat.zero_le _, Nat.zero_le _, rfl, Nat.le_refl _, by simp⟩
  rintro ⟨i, ps⟩ env R1 hle1 hE ⟨hi, hi12, hps, hpl, hpo⟩
  (simp only [go_sem] at hE; obtain ⟨e4, e0, e3⟩ := hE; simp only [go_sem, ↓reduceIte, Nat.reduceEqDiff, Nat.reduceAdd, Nat.reduceMul, Nat.reduceLeDiff, Nat.reduceLT, Nat.reduceBNe, reduceCtorEq, e4, e0, e3]; dsimp only at *)
  have hend : ¬ (i < es.length ∧ i < 12) → ∀ R2 u, EdsV R2 u (ps.map (·.1)) → EdsV R2 u (madeL es) := fun hn R2 u hu => by
    have : es.take 12 = es.take i := by
      by_cases h12 : i = 12
      · rw [h12]
      · rw [List.take_of_length_le (by omega), List.take_of_length_le (by omega)]
    unfold madeL
    rw [this, ← hps]
    exact hu
  have hret : ¬ (i < es.length ∧ i < 12) → ∀ (b cap : Nat) (R' : RO), R1.le R' → RowIn R' b (rowP ps) → (rowP ps).length ≤ cap * 13 → Fresh R1 b → EdsV R' (.slice (some ⟨b, 0, none⟩) ps.length cap) (madeL es) := fun hn b cap' R2 hle2 hrow hcap _ =>
    hend hn R2 _ (EdsV.row hrow hcap (fun p hp => (hpo p hp).mono hle2) (by omega))
  refine ⟨fun hlt => ⟨fun hlt2 => ?_, fun hge => hret (by omega)⟩, fun hge => hret (by omega)⟩
  have hlt' : i < es.length := by omega
  obtain ⟨ad, had, hR⟩ := hf i hlt'
  have hM := eMadeEdit es[i] R1
  refine ⟨by omega, vat ad had ?_⟩
  try simp only [go_sem, ↓reduceIte, Nat.reduceEqDiff, Nat.reduceAdd, Nat.reduceMul, Nat.reduceLeDiff, Nat.reduceLT, Nat.reduceBNe, reduceCtorEq]
  refine vloadn (es[i]).cells rfl (fun j u hj => hle1 _ _ (hR j u hj)) ?_
  simp only [go_sem, ↓reduceIte, Nat.reduceEqDiff, Nat.reduceAdd, Nat.reduceMul, Nat.reduceLeDiff, Nat.reduceLT, Nat.reduceBNe, reduceCtorEq, Ed.cells, e4, e0, e3]
  refine vcall hM ?_
  rintro R2 u hle2 ⟨cs, rfl, hd⟩
  obtain ⟨ra, rn, rc, rfl, hrv⟩ := hd.form
  obtain ⟨d, hde⟩ : ∃ d, d = madeE es[i] := ⟨_, rfl⟩
  have hstep := madeStep_snoc ((es.take i).map madeE) d
  have htk : (es.take (i + 1)).map madeE = (es.take i).map madeE ++ [d] := by rw [List.take_succ_eq_append_getElem hlt', List.map_append, hde]; rfl
  rw [← hde] at hrv ⊢
  rw [← htk, ← hps] at hstep
  simp only [go_sem, ↓reduceIte, Nat.reduceEqDiff, Nat.reduceAdd, Nat.reduceMul, Nat.reduceLeDiff, Nat.reduceLT, Nat.reduceBNe, reduceCtorEq, Ed.cells, De.ed, e4, e0, e3]
  refine vcLoop Nat (fun k => [(7, .val (.int .i64 k)), (6, .val (.bool ((ps.take k).any fun q => keyEq q.1 d))), (4, .val (.int .i64 i)), (0, .val (.slice a es.length cap)), (3, .sl 0 ps.length), (5, .loc 1 0)])
    (fun _ => [.row 27 13 (rowP ps), .box [.val (.int .i64 d.kind), .val (.int .i64 d.day), .val (.int .i64 d.device), .val (.int .i64 d.seq), .val (.int .i64 d.mv.day), .val (.bool d.mv.drop), .val (.int .i64 d.mv.toDay), .val (.int .i64 d.mv.minute), .val (.int .i64 d.mv.length), .val (.int .i64 d.minute), .val (.int .i64 d.length), .val (.slice ra rn rc), .val (.string d.zone)]])
    (fun k _ => k ≤ ps.length) (fun k => ps.length - k) 0 ?_ ?_ ?_ ?_
  · (try simp only [go_sem, ↓reduceIte, Nat.reduceEqDiff, Nat.reduceAdd, Nat.reduceMul, Nat.reduceLeDiff, Nat.reduceLT, Nat.reduceBNe, reduceCtorEq]) <;> (repeat' (first | rfl | trivial | constructor | (intro h; exact absurd rfl h)))
  · try simp only [go_sem, ↓reduceIte, Nat.reduceEqDiff, Nat.reduceAdd, Nat.reduceMul, Nat.reduceLeDiff, Nat.reduceLT, Nat.reduceBNe, reduceCtorEq]
  · exact Nat.zero_le _
  rintro k env R3 hle3 hE hk
  (simp only [go_sem] at hE; obtain ⟨e7, e6, e4', e0', e3', e5⟩ := hE; simp only [go_sem, ↓reduceIte, Nat.reduceEqDiff, Nat.reduceAdd, Nat.reduceMul, Nat.reduceLeDiff, Nat.reduceLT, Nat.reduceBNe, reduceCtorEq, e7, e6, e4', e0', e3', e5]; dsimp only at *)
  refine ⟨fun hlt3 => ?_, fun hge3 => ?_⟩
  · have hk' : k < ps.length := by omega
    have hany : (ps.take (k + 1)).any (fun q => keyEq q.1 d) = ((ps.take k).any (fun q => keyEq q.1 d) || keyEq ps[k].1 d) := by
      rw [List.take_succ_eq_append_getElem hk', List.any_append]; simp
    obtain ⟨q, hq⟩ : ∃ q, q = ps[k] := ⟨_, rfl⟩
    rw [← hq] at hany
    have hcell : ∀ j, j < 13 → (rowP ps)[k * 13 + j]? = (q.ed.cells)[j]? := fun j hj => by rw [rowP_get ps k j hk' hj, hq]
    have hkq : keyEq q.1 d = (decide (q.1.seq = d.seq) && decide (q.1.device = d.device)) := by
      unfold keyEq
      rw [Bool.and_comm, ← Bool.decide_and]
    refine ⟨by omega, _, (hcell 3 (by omega)).trans rfl, ?_⟩
    simp only [go_sem, ↓reduceIte, Nat.reduceEqDiff, Nat.reduceAdd, Nat.reduceMul, Nat.reduceLeDiff, Nat.reduceLT, Nat.reduceBNe, reduceCtorEq, e7, e6, e4', e0', e3', e5]
    refine ⟨fun h1 => ⟨by omega, _, (hcell 2 (by omega)).trans rfl, ?_⟩, fun h1 => ?_⟩
    · simp only [go_sem, ↓reduceIte, Nat.reduceEqDiff, Nat.reduceAdd, Nat.reduceMul, Nat.reduceLeDiff, Nat.reduceLT, Nat.reduceBNe, reduceCtorEq, e7, e6, e4', e0', e3', e5]
      refine ⟨fun h2 => ?_, fun h2 => ?_⟩
      · refine ⟨_, W.in64 (by omega), k + 1, by omega, ?_, by omega⟩
        try simp only [go_sem, ↓reduceIte, Nat.reduceEqDiff, Nat.reduceAdd, Nat.reduceMul, Nat.reduceLeDiff, Nat.reduceLT, Nat.reduceBNe, reduceCtorEq]
        refine ⟨rfl, ?_⟩
        rw [hany, hkq, decide_eq_true (show q.1.seq = d.seq from h1), decide_eq_true (show q.1.device = d.device from h2)]; simp
      · refine ⟨_, W.in64 (by omega), k + 1, by omega, ?_, by omega⟩
        try simp only [go_sem, ↓reduceIte, Nat.reduceEqDiff, Nat.reduceAdd, Nat.reduceMul, Nat.reduceLeDiff, Nat.reduceLT, Nat.reduceBNe, reduceCtorEq]
        refine ⟨rfl, ?_⟩
        rw [hany, hkq, decide_eq_false (show ¬ q.1.device = d.device from h2)]; simp
    · refine ⟨_, W.in64 (by omega), k + 1, by omega, ?_, by omega⟩
      try simp only [go_sem, ↓reduceIte, Nat.reduceEqDiff, Nat.reduceAdd, Nat.reduceMul, Nat.reduceLeDiff, Nat.reduceLT, Nat.reduceBNe, reduceCtorEq]
      refine ⟨rfl, ?_⟩
      rw [hany, hkq, decide_eq_false (show ¬ q.1.seq = d.seq from h1)]; simp
  · obtain rfl : k = ps.length := by omega
    have hmap : (ps.map (·.1)).any (fun o => keyEq o d) = ps.any fun q => keyEq q.1 d := by rw [List.any_map]; rfl
    rw [List.take_length]
    refine ⟨fun hno => ?_, fun hyes => ?_⟩
    · refine vappO (rowP ps) rfl (by rw [rowP_len]) (by omega) ?_
      simp only [go_sem, ↓reduceIte, Nat.reduceEqDiff, Nat.reduceAdd, Nat.reduceMul, Nat.reduceLeDiff, Nat.reduceLT, Nat.reduceBNe, reduceCtorEq, e7, e6, e4', e0', e3', e5]
      refine ⟨_, W.in64 (by omega), (i + 1, ps ++ [(d, ra, rn, rc)]), [3], ?_⟩
      try simp only [go_sem, ↓reduceIte, Nat.reduceEqDiff, Nat.reduceAdd, Nat.reduceMul, Nat.reduceLeDiff, Nat.reduceLT, Nat.reduceBNe, reduceCtorEq]
      refine ⟨by omega, ⟨rfl, by rw [rowP_snoc]; rfl⟩, by decide, by omega, by omega, ?_, by omega, fun p hp => ?_⟩
      · rw [hstep, madeStep, hmap, hno]; simp
      · rcases List.mem_append.1 hp with hp | hp
        · exact (hpo p hp).mono (RO.le_trans hle2 hle3)
        · simp only [List.mem_cons, List.not_mem_nil, or_false] at hp; subst hp; exact hrv.mono hle3
    · refine ⟨_, W.in64 (by omega), (i + 1, ps), [], ?_⟩
      try simp only [go_sem, ↓reduceIte, Nat.reduceEqDiff, Nat.reduceAdd, Nat.reduceMul, Nat.reduceLeDiff, Nat.reduceLT, Nat.reduceBNe, reduceCtorEq]
      refine ⟨by omega, rfl, by decide, by omega, by omega, ?_, by omega, fun p hp => (hpo p hp).mono (RO.le_trans hle2 hle3)⟩
      rw [hstep, madeStep, hmap, hyes]; simp
end Go.Proofs.Ytpnhiknfcpkfbaa
