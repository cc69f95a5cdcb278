import Derived.Test.YtpnhiknfcpkfbaaEt
namespace Go.Proofs.Ytpnhiknfcpkfbaa
set_option linter.unusedSimpArgs false
set_option linter.unusedVariables false
open Go.Proofs.Ytpnhiknfcpkfbaa.Vc
theorem PlOK.of {R : RO} {ds : List De} {v : Value} (h : EdsV R v ds) : ∃ a cap, v = .slice a ds.length cap ∧ ds.length ≤ cap ∧ ∀ i (hi : i < ds.length), ∃ ad p, a = some ad ∧ p.1 = ds[i] ∧ (∀ j u, (p.ed.cells)[j]? = some u → R ((ad.add (i * 13)).add j) u) ∧ PlOK R p := by
  obtain ⟨a, cap, rfl, hc, hf⟩ := h.form
  refine ⟨a, cap, rfl, hc, fun i hi => ?_⟩
  obtain ⟨ad, ra, rn, rc, had, hR, hr⟩ := hf i hi
  exact ⟨ad, (ds[i], ra, rn, rc), had, rfl, hR, hr⟩
/-- A row of edits, frozen. -/
theorem EdsV.row {R : RO} {b cap : Nat} {ps : List Pl} (h : RowIn R b (rowP ps)) (hc : (rowP ps).length ≤ cap * 13) (hp : ∀ p ∈ ps, PlOK R p) (hl : ps.length ≤ 1000000000) : EdsV R (.slice (some ⟨b, 0, none⟩) ps.length cap) (ps.map (·.1)) := by
  have h1 := RowIn.slK h (cellsP_len ps) (by omega) hc
  rw [List.length_map] at h1
  refine ⟨_, h1, by simp, fun i c d hi hd => ?_, by simpa using hl⟩
  rw [List.getElem?_map] at hi hd
  obtain ⟨p, hp', rfl⟩ := Option.map_eq_some_iff.1 hi
  rw [hp'] at hd
  simp only [Option.map_some, Option.some.injEq] at hd
  subst hd
  exact (hp p (List.mem_of_getElem? hp')).edV
theorem EdsV.pls {R : RO} {v : Value} {ds : List De} (h : EdsV R v ds) : ∃ (a : Option Addr) (cap : Nat) (ps : List Pl), v = .slice a ds.length cap ∧ ds.length ≤ cap ∧ ps.map (·.1) = ds ∧ (∀ p ∈ ps, PlOK R p) ∧ (rowP ps ≠ [] → ∃ ad, a = some ad ∧ ∀ i v, (rowP ps)[i]? = some v → R (ad.add i) v) := by
  obtain ⟨a, cap, rfl, hc, hf⟩ := PlOK.of h
  let f : Nat → Pl := fun i => if h : i < ds.length then (hf i h).choose_spec.choose else default
  have hfi : ∀ i (hi : i < ds.length), ∃ ad, a = some ad ∧ (f i).1 = ds[i] ∧ (∀ j u, ((f i).ed.cells)[j]? = some u → R ((ad.add (i * 13)).add j) u) ∧ PlOK R (f i) := fun i hi => by
    refine ⟨(hf i hi).choose, ?_⟩
    have hs := (hf i hi).choose_spec.choose_spec
    simp only [f, hi, dif_pos]
    exact hs
  refine ⟨a, cap, (List.range ds.length).map f, rfl, hc, ?_, fun p hp => ?_, fun hne => ?_⟩
  · apply List.ext_getElem
    · simp
    · intro i h1 h2
      obtain ⟨_, _, h3, _⟩ := hfi i h2
      simpa using h3
  · obtain ⟨i, hi, rfl⟩ := List.mem_map.1 hp
    obtain ⟨_, _, _, _, h4⟩ := hfi i (List.mem_range.1 hi)
    exact h4
  · have hl : 0 < ds.length := by
      have h1 := rowP_len ((List.range ds.length).map f)
      have h2 := List.length_pos_iff.2 hne
      simp at h1
      omega
    obtain ⟨ad, ha, _⟩ := hfi 0 hl
    refine ⟨ad, ha, fun i v hi => ?_⟩
    obtain ⟨us, hus, hu⟩ := flat_get (k := 13) (cellsP_len _) (by omega) hi
    rw [List.getElem?_map, List.getElem?_map] at hus
    obtain ⟨p, hp, rfl⟩ := Option.map_eq_some_iff.1 hus
    obtain ⟨q, hq, rfl⟩ := Option.map_eq_some_iff.1 hp
    have hqq := List.getElem?_eq_some_iff.1 hq
    simp only [List.length_range, List.getElem_range] at hqq
    obtain ⟨hlt, rfl⟩ := hqq
    obtain ⟨ad', ha', _, hR, _⟩ := hfi (i / 13) hlt
    rw [ha] at ha'
    simp only [Option.some.injEq] at ha'
    subst ha'
    have := hR _ _ hu
    rw [add_add, Nat.mul_comm, Nat.div_add_mod] at this
    exact this
theorem EdsV.src {R : RO} {v : Value} {ds : List De} (h : EdsV R v ds) : ∃ (a : Option Addr) (cap : Nat) (ps : List Pl), v = .slice a ds.length cap ∧ ps.map (·.1) = ds ∧ (∀ p ∈ ps, PlOK R p) ∧ ∀ {b : List Blk} {kk : List Value → Prop} {t : Tok kk}, kk (rowP ps) → SrcP (allR b R) 13 a ds.length kk t := by
  obtain ⟨a, cap, ps, rfl, _, h1, h2, h3⟩ := h.pls
  refine ⟨a, cap, ps, rfl, h1, h2, fun hk => vsrc (rowP ps) (by rw [rowP_len, ← h1]; simp) (fun u hu => ?_) h3 hk⟩
  unfold rowP at hu
  obtain ⟨c, hc, hu'⟩ := List.mem_flatten.1 hu
  obtain ⟨q, _, rfl⟩ := List.mem_map.1 hc
  exact edcells_one _ u hu'
theorem EdsV.nil (R : RO) : EdsV R (.slice none 0 0) [] := ⟨[], ⟨none, 0, rfl, Nat.le_refl _, by simp⟩, rfl, by simp, by simp⟩
theorem validE_ed (p : Pl) (h : p.2.2.1 = p.1.rule.length) : validE p.ed = validD p.1 := by
  unfold validD Pl.ed
  rw [h]
  rfl
set_option maxRecDepth 8000 in
theorem eSorted (ds : List De) (v : Value) (R : RO) (h : EdsV R v ds) : CallsR Try.prog 31 [v] R fun R' r => match allD ds with
    | .error k => r = .tuple #[.slice none 0 0, .int .i64 k]
    | .ok o => ∃ u, r = .tuple #[u, .int .i64 0] ∧ EdsV R' u o := by
  have hdl : ds.length ≤ 1000000000 := by obtain ⟨_, _, _, _, h⟩ := h; exact h
  obtain ⟨a, cap, rfl, hc, hf⟩ := PlOK.of h
  refine callsT mix Try.func31 comp31 (by simp [Try.ntmps31]) ?_; simp only [go_sem, ↓reduceIte, Nat.reduceEqDiff, Nat.reduceAdd, Nat.reduceMul, Nat.reduceLeDiff, Nat.reduceLT, Nat.reduceBNe, reduceCtorEq, vc31, rs31]
  refine ⟨fun hgt => ?_, fun hle => ?_⟩
  · have : allD ds = .error 2 := by unfold allD; rw [if_pos (by omega)]
    rw [this]
  have hall : allD ds = okD (distD [] ds) := by unfold allD; rw [if_neg (by omega)]
  refine vcLoopR (Nat × List Pl × List Pl) (fun x => [(17, .val (.int .i64 x.1)), (16, .val (.int .i64 ds.length)), (15, .val (.slice a ds.length cap)), (4, .mp 0), (5, gs 1 x.2.2.length)])
    (fun x => [.mp (ents 0 x.2.1) x.2.1.length, gb 27 13 (rowP x.2.2)])
    (fun x R => x.1 ≤ ds.length ∧ x.2.1.map (·.1) = x.2.2.map (·.1) ∧ distD [] (ds.take x.1) = some (x.2.1.map (·.1)) ∧ x.2.2.length ≤ x.1 ∧ (∀ p ∈ x.2.1, PlOK R p) ∧ ∀ p ∈ x.2.2, PlOK R p) (fun x => ds.length - x.1) (0, [], []) [] ?_ ?_ ?_ ?_
  · (try simp only [go_sem, ↓reduceIte, Nat.reduceEqDiff, Nat.reduceAdd, Nat.reduceMul, Nat.reduceLeDiff, Nat.reduceLT, Nat.reduceBNe, reduceCtorEq]) <;> (repeat' (first | rfl | trivial | constructor | (intro h; exact absurd rfl h)))
  · try simp only [go_sem, ↓reduceIte, Nat.reduceEqDiff, Nat.reduceAdd, Nat.reduceMul, Nat.reduceLeDiff, Nat.reduceLT, Nat.reduceBNe, reduceCtorEq]
  · exact ⟨Nat.zero_le _, rfl, rfl, Nat.le_refl _, by simp, by simp⟩
  rintro ⟨i, qs, ps⟩ env R1 hle1 hE ⟨hi, hqp, hd, hpl, hqo, hpo⟩
  (simp only [go_sem] at hE; obtain ⟨e17, e16, e15, e4, e5⟩ := hE; simp only [go_sem, ↓reduceIte, Nat.reduceEqDiff, Nat.reduceAdd, Nat.reduceMul, Nat.reduceLeDiff, Nat.reduceLT, Nat.reduceBNe, reduceCtorEq, e17, e16, e15, e4, e5]; dsimp only at *)
  refine ⟨fun hlt => ⟨hlt, ?_⟩, fun hge => ?_⟩
  · have hlt' : i < ds.length := by omega
    obtain ⟨ad, p, had, hp1, hR, hpok⟩ := hf i hlt'
    have hcells : ∀ j u, (p.ed.cells)[j]? = some u → R1 ((ad.add (i * 13)).add j) u := fun j u hj => hle1 _ _ (hR j u hj)
    refine vat ad had ?_
    try simp only [go_sem, ↓reduceIte, Nat.reduceEqDiff, Nat.reduceAdd, Nat.reduceMul, Nat.reduceLeDiff, Nat.reduceLT, Nat.reduceBNe, reduceCtorEq]
    refine vloadn p.ed.cells rfl hcells ?_
    simp only [go_sem, ↓reduceIte, Nat.reduceEqDiff, Nat.reduceAdd, Nat.reduceMul, Nat.reduceLeDiff, Nat.reduceLT, Nat.reduceBNe, reduceCtorEq, Ed.cells, Pl.ed, De.ed, e17, e16, e15, e4, e5]
    refine vcall (eValid p.ed R1) ?_
    rintro R2 v hle2 rfl
    try simp only [go_sem, ↓reduceIte, Nat.reduceEqDiff, Nat.reduceAdd, Nat.reduceMul, Nat.reduceLeDiff, Nat.reduceLT, Nat.reduceBNe, reduceCtorEq]
    rw [validE_ed p hpok.len]
    refine ⟨fun hv => ?_, fun hv => ?_⟩
    · have hb := distD_bad hlt' hd (addD_invalid (by rw [← hp1]; simpa using hv))
      rw [hall, hb]
      rfl
    simp only [go_sem, ↓reduceIte, Nat.reduceEqDiff, Nat.reduceAdd, Nat.reduceMul, Nat.reduceLeDiff, Nat.reduceLT, Nat.reduceBNe, reduceCtorEq, e17, e16, e15, e4, e5]
    have hpk : PlOK R2 p := hpok.mono (RO.le_trans hle1 hle2)
    have hstep := distD_step hlt' hd
    rw [← hp1] at hstep
    cases hfind : qs.find? (fun q => keyEq p.1 q.1) with
    | some q =>
      obtain ⟨j, hj⟩ := mfind_some p.1 q qs 0 0 hfind
      have hq := List.find?_some hfind
      have hqm := List.mem_of_find?_eq_some hfind
      rw [addD_old hv (by rw [find_fst, hfind]; rfl)] at hstep
      refine vmget (ents 0 qs) qs.length (some (j, q.ed.val)) (by rw [show Value.agg #[Value.int .i64 p.1.device, .int .i64 p.1.seq] = keyV p.1 from rfl, mEq_key]; simp [keyEq]) rfl hj ?_
      simp only [go_sem, ↓reduceIte, Nat.reduceEqDiff, Nat.reduceAdd, Nat.reduceMul, Nat.reduceLeDiff, Nat.reduceLT, Nat.reduceBNe, reduceCtorEq, mres, Ed.val, Pl.ed, De.ed, e17, e16, e15, e4, e5]
      refine vcall (eSame q.1 p.1 q.ed.cells p.ed.cells R2 ((hqo q hqm).mono hle2).edV hpk.edV) ?_
      rintro R3 v hle3 rfl
      simp only [go_sem, ↓reduceIte, Nat.reduceEqDiff, Nat.reduceAdd, Nat.reduceMul, Nat.reduceLeDiff, Nat.reduceLT, Nat.reduceBNe, reduceCtorEq, e17, e16, e15, e4, e5]
      refine ⟨fun hne => ?_, fun heq => ?_⟩
      · rw [if_neg hne] at hstep
        have hb := distD_none_append _ _ (ds.drop (i + 1)) hstep
        rw [List.take_append_drop] at hb
        rw [hall, hb]
        rfl
      · rw [if_pos heq] at hstep
        refine ⟨_, W.in64 (by omega), (i + 1, qs, ps), [], ?_⟩
        try simp only [go_sem, ↓reduceIte, Nat.reduceEqDiff, Nat.reduceAdd, Nat.reduceMul, Nat.reduceLeDiff, Nat.reduceLT, Nat.reduceBNe, reduceCtorEq]
        refine ⟨by omega, ⟨rfl, fun h => gb_ne h⟩, by decide, by omega, hqp, hstep, by omega, fun p hp => (hqo p hp).mono (RO.le_trans hle2 hle3), fun p hp => (hpo p hp).mono (RO.le_trans hle2 hle3)⟩
    | none =>
      have hn := mfind_none p.1 qs 0 0 (fun q hq => by have := List.find?_eq_none.1 hfind q hq; simpa using this)
      rw [addD_new hv (by rw [find_fst, hfind]; rfl)] at hstep
      refine vmget (ents 0 qs) qs.length none (by rw [show Value.agg #[Value.int .i64 p.1.device, .int .i64 p.1.seq] = keyV p.1 from rfl, mEq_key]; simp [keyEq]) rfl hn ?_
      simp only [go_sem, ↓reduceIte, Nat.reduceEqDiff, Nat.reduceAdd, Nat.reduceMul, Nat.reduceLeDiff, Nat.reduceLT, Nat.reduceBNe, reduceCtorEq, mres, e17, e16, e15, e4, e5]
      refine ⟨by rw [show Value.agg #[Value.int .i64 p.1.device, .int .i64 p.1.seq] = keyV p.1 from rfl, mEq_key]; simp [keyEq], vmput (ents 0 qs) qs.length none rfl hn ?_⟩
      simp only [go_sem, ↓reduceIte, Nat.reduceEqDiff, Nat.reduceAdd, Nat.reduceMul, Nat.reduceLeDiff, Nat.reduceLT, Nat.reduceBNe, reduceCtorEq, mset, e17, e16, e15, e4, e5]
      refine vcall (eCopied p.1.rule _ R2 hpk) ?_
      intro R3 u hle3 hu
      obtain ⟨ua, un, uc, rfl⟩ := hu.form
      simp only [go_sem, ↓reduceIte, Nat.reduceEqDiff, Nat.reduceAdd, Nat.reduceMul, Nat.reduceLeDiff, Nat.reduceLT, Nat.reduceBNe, reduceCtorEq, e17, e16, e15, e4, e5]
      refine vgrow (rowP ps) (fun _ => rfl) (fun h0 => by rw [h0, gb_nil]; rfl) (by rw [rowP_len]) (by omega) (by omega) (by omega) ?_
      simp only [go_sem, ↓reduceIte, Nat.reduceEqDiff, Nat.reduceAdd, Nat.reduceMul, Nat.reduceLeDiff, Nat.reduceLT, Nat.reduceBNe, reduceCtorEq, e17, e16, e15, e4, e5]
      refine ⟨_, W.in64 (by omega), (i + 1, qs ++ [p], ps ++ [(p.1, ua, un, uc)]), [0, 6], ?_⟩
      try simp only [go_sem, ↓reduceIte, Nat.reduceEqDiff, Nat.reduceAdd, Nat.reduceMul, Nat.reduceLeDiff, Nat.reduceLT, Nat.reduceBNe, reduceCtorEq]
      refine ⟨by omega, ⟨rfl, by rw [ents_snoc, Nat.zero_add]; rfl, fun _ => by rw [rowP_snoc]; rfl⟩, by decide, by omega, by simp [hqp], by rw [hstep]; simp, by omega, fun q hq => ?_, fun q hq => ?_⟩
      · rcases List.mem_append.1 hq with hq | hq
        · exact (hqo q hq).mono (RO.le_trans hle2 hle3)
        · simp only [List.mem_cons, List.not_mem_nil, or_false] at hq; subst hq; exact hpk.mono hle3
      · rcases List.mem_append.1 hq with hq | hq
        · exact (hpo q hq).mono (RO.le_trans hle2 hle3)
        · simp only [List.mem_cons, List.not_mem_nil, or_false] at hq; subst hq; exact hu
  · obtain rfl : i = ds.length := by omega
    rw [List.take_length] at hd
    rw [hall, hd]
    simp only [okD]
    by_cases h0 : ps.length = 0
    · rw [h0]
      try simp only [go_sem, ↓reduceIte, Nat.reduceEqDiff, Nat.reduceAdd, Nat.reduceMul, Nat.reduceLeDiff, Nat.reduceLT, Nat.reduceBNe, reduceCtorEq]
      refine vcall (eSortEdNil _ R1) ?_
      rintro R2 v hle2 rfl
      simp only [go_sem, ↓reduceIte, Nat.reduceEqDiff, Nat.reduceAdd, Nat.reduceMul, Nat.reduceLeDiff, Nat.reduceLT, Nat.reduceBNe, reduceCtorEq, e17, e16, e15, e4, e5]
      rw [h0]
      try simp only [go_sem, ↓reduceIte, Nat.reduceEqDiff, Nat.reduceAdd, Nat.reduceMul, Nat.reduceLeDiff, Nat.reduceLT, Nat.reduceBNe, reduceCtorEq]
      obtain rfl : ps = [] := List.eq_nil_of_length_eq_zero h0
      have hqs : qs = [] := by simpa using hqp
      subst hqs
      exact ⟨_, rfl, by simpa [sortD] using EdsV.nil R2⟩
    · rw [gs_pos h0]
      try simp only [go_sem, ↓reduceIte, Nat.reduceEqDiff, Nat.reduceAdd, Nat.reduceMul, Nat.reduceLeDiff, Nat.reduceLT, Nat.reduceBNe, reduceCtorEq]
      refine vhand [1] [.sl 0 ps.length, .val (.func (.func 30) #[] #[])] [.row 27 13 (rowP ps)] (eSortEd ps (by omega) R1) rfl rfl rfl ?_ (by simp) rfl rfl ?_
      · try simp only [go_sem, ↓reduceIte, Nat.reduceEqDiff, Nat.reduceAdd, Nat.reduceMul, Nat.reduceLeDiff, Nat.reduceLT, Nat.reduceBNe, reduceCtorEq]
        exact gb_ne (fun e => h0 (by have := rowP_len ps; rw [e] at this; simp at this; omega))
      rintro R2 bs r hle2 ⟨rfl, rs, hperm, hpw, rfl, rfl⟩ _
      simp only [go_sem, ↓reduceIte, Nat.reduceEqDiff, Nat.reduceAdd, Nat.reduceMul, Nat.reduceLeDiff, Nat.reduceLT, Nat.reduceBNe, reduceCtorEq, e17, e16, e15, e4, e5]
      rw [gs_pos h0]
      simp only [go_sem, ↓reduceIte, Nat.reduceEqDiff, Nat.reduceAdd, Nat.reduceMul, Nat.reduceLeDiff, Nat.reduceLT, Nat.reduceBNe, reduceCtorEq, setG, rn]
      intro b cap' R3 hle3 hrow hcap hfr
      have hk : KeysD (qs.map (·.1)) := distD_keys hd List.Pairwise.nil
      have hperm1 : (rs.map (·.1)).Perm (qs.map (·.1)) := by rw [hqp]; exact hperm.map _
      have hs : rs.map (·.1) = sortD (qs.map (·.1)) := sortD_eq hk hperm1 (List.pairwise_map.2 hpw)
      refine ⟨_, rfl, ?_⟩
      rw [← hs, show ps.length = rs.length from hperm.length_eq.symm]
      exact EdsV.row hrow hcap (fun p hp => (hpo p (hperm.mem_iff.1 hp)).mono hle3) (by rw [hperm.length_eq]; omega)
end Go.Proofs.Ytpnhiknfcpkfbaa
