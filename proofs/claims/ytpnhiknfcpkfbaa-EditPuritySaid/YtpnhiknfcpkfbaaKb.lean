/- Plain lemmas of our own, no statement of the seat: the results of Rebase, parts, Merge lie in new memory. -/
import Derived.Test.YtpnhiknfcpkfbaaKa
import Derived.Test.YtpnhiknfcpkfbaaFa
namespace Go.Proofs.Ytpnhiknfcpkfbaa
set_option linter.unusedSimpArgs false
set_option linter.unusedVariables false
open Go.Proofs.Ytpnhiknfcpkfbaa.Vc
/-- What Rebase hands back, in new memory. -/
def RebN (R0 R : RO) (r : Value) (ds : List De) : Prop := match allD ds with
  | .error k => r = .tuple #[.slice none 0 0, .slice none 0 0, .int .i64 k]
  | .ok o => ∃ u v, r = .tuple #[u, v, .int .i64 0] ∧ EdsV (newR R0 R) u (forceD o) ∧ EncV Ov.cells 4 R v (recsD o)
theorem eRebaseN (ds : List De) (v : Value) (R : RO) (h : EdsV R v ds) : CallsR Try.prog 17 [v] R fun R' r => RebN R R' r ds := by
  have hS := eSortedN ds v R h
  obtain ⟨a0, cap0, rfl, _⟩ := h.form
  refine callsT mix Try.func17 comp17 (by simp [Try.ntmps17]) ?_; simp only [go_sem, ↓reduceIte, Nat.reduceEqDiff, Nat.reduceAdd, Nat.reduceMul, Nat.reduceLeDiff, Nat.reduceLT, Nat.reduceBNe, reduceCtorEq, vc17, rs17]
  refine vcall hS ?_
  intro R1 r hle1 hr
  unfold RebN
  cases hall : allD ds with
  | error k =>
    have hk := allD_error hall
    rw [hall] at hr
    dsimp only at hr
    subst hr
    try simp only [go_sem, ↓reduceIte, Nat.reduceEqDiff, Nat.reduceAdd, Nat.reduceMul, Nat.reduceLeDiff, Nat.reduceLT, Nat.reduceBNe, reduceCtorEq]
    exact fun h0 => by omega
  | ok o =>
    rw [hall] at hr
    dsimp only at hr
    obtain ⟨u, rfl, hu⟩ := hr
    have huN := hu
    replace hu := hu.mono newR_le
    have hu' := hu
    have hol : o.length ≤ 1000000000 := by obtain ⟨_, _, _, _, h⟩ := hu; exact h
    obtain ⟨a, cap, rfl, hc, hf⟩ := PlOK.of huN
    try simp only [go_sem, ↓reduceIte, Nat.reduceEqDiff, Nat.reduceAdd, Nat.reduceMul, Nat.reduceLeDiff, Nat.reduceLT, Nat.reduceBNe, reduceCtorEq]
    refine vcLoopR (Nat × List Pl × List Ov) (fun x => [(22, .val (.int .i64 x.1)), (21, .val (.int .i64 o.length)), (20, .val (.slice a o.length cap)), (5, .val (.slice a o.length cap)), (7, gs 0 x.2.1.length), (8, gs 1 x.2.2.length)])
      (fun x => [gb 27 13 (rowP x.2.1), gb 51 4 (rowO x.2.2)])
      (fun x R' => x.1 ≤ o.length ∧ x.2.1.map (·.1) = (o.take x.1).filter (fun a => !(o.any (overD a))) ∧ x.2.2 = (o.take x.1).filterMap (fun a => (o.find? (overD a)).map (ovOf a)) ∧ x.2.1.length ≤ x.1 ∧ x.2.2.length ≤ x.1 ∧ ∀ p ∈ x.2.1, PlOK (newR R R') p) (fun x => o.length - x.1) (0, [], []) [] ?_ ?_ ?_ ?_
    · (try simp only [go_sem, ↓reduceIte, Nat.reduceEqDiff, Nat.reduceAdd, Nat.reduceMul, Nat.reduceLeDiff, Nat.reduceLT, Nat.reduceBNe, reduceCtorEq]) <;> (repeat' (first | rfl | trivial | constructor | (intro h; exact absurd rfl h)))
    · try simp only [go_sem, ↓reduceIte, Nat.reduceEqDiff, Nat.reduceAdd, Nat.reduceMul, Nat.reduceLeDiff, Nat.reduceLT, Nat.reduceBNe, reduceCtorEq]
    · exact ⟨Nat.zero_le _, rfl, rfl, Nat.le_refl _, Nat.le_refl _, by simp⟩
    rintro ⟨i, ps, os⟩ env R2 hle2 hE ⟨hi, hps, hos, hpl, hol2, hpo⟩
    (simp only [go_sem] at hE; obtain ⟨e22, e21, e20, e5, e7, e8⟩ := hE; simp only [go_sem, ↓reduceIte, Nat.reduceEqDiff, Nat.reduceAdd, Nat.reduceMul, Nat.reduceLeDiff, Nat.reduceLT, Nat.reduceBNe, reduceCtorEq, e22, e21, e20, e5, e7, e8]; dsimp only at *)
    refine ⟨fun hlt => ⟨hlt, ?_⟩, fun hge => ?_⟩
    · have hlt' : i < o.length := by omega
      obtain ⟨ad, p, had, hp1, hR, hpok⟩ := hf i hlt'
      have hcells : ∀ j u, (p.ed.cells)[j]? = some u → R2 ((ad.add (i * 13)).add j) u := fun j u hj => hle2 _ _ (newR_le _ _ (hR j u hj))
      have hflt := filter_snoc (fun a => !(o.any (overD a))) o i hlt'
      have hflm := filterMap_snoc (fun a => (o.find? (overD a)).map (ovOf a)) o i hlt'
      rw [← hp1] at hflt hflm
      refine vat ad had ?_
      try simp only [go_sem, ↓reduceIte, Nat.reduceEqDiff, Nat.reduceAdd, Nat.reduceMul, Nat.reduceLeDiff, Nat.reduceLT, Nat.reduceBNe, reduceCtorEq]
      refine vloadn p.ed.cells rfl hcells ?_
      simp only [go_sem, ↓reduceIte, Nat.reduceEqDiff, Nat.reduceAdd, Nat.reduceMul, Nat.reduceLeDiff, Nat.reduceLT, Nat.reduceBNe, reduceCtorEq, Ed.cells, Pl.ed, De.ed, e22, e21, e20, e5, e7, e8]
      refine vlend ?_
      intro β κ R3 hL
      have hbox := hL.2 2 _ rfl
      have hLle := hL.1
      refine ⟨_, eIndexFunc 33 [.pointer (some ⟨β 2, 0, none⟩)] hbOver (overD p.1) o _ R3 ((hu'.mono hle2).mono hLle) ?_, ?_⟩
      · intro d cs R4 hle4 hd
        have := eOverF p.ed d cs ⟨β 2, 0, none⟩ R4 (fun j u hj => by rw [Addr.add_lit, Nat.zero_add]; exact hle4 _ _ (hbox j u hj)) hd
        exact this
      rintro R4 v R5 hle4 rfl hle5 _
      simp only [go_sem, ↓reduceIte, Nat.reduceEqDiff, Nat.reduceAdd, Nat.reduceMul, Nat.reduceLeDiff, Nat.reduceLT, Nat.reduceBNe, reduceCtorEq, e22, e21, e20, e5, e7, e8]
      have hpo5 : ∀ q ∈ ps, PlOK (newR R R5) q := fun q hq => (hpo q hq).mono (newR_mono hle5)
      refine ⟨fun hn => ?_, fun hn => ?_⟩
      · have hany : o.any (overD p.1) = false := by
          cases hf : o.find? (overD p.1) with
          | none => rw [List.any_eq_false]; exact fun x hx => List.find?_eq_none.1 hf x hx
          | some b => obtain ⟨j, hj, _⟩ := idxE_pos (i := 0) hf; omega
        have hfind : o.find? (overD p.1) = none := List.find?_eq_none.2 (List.any_eq_false.1 hany)
        rw [hany, if_pos (by rfl)] at hflt
        rw [hfind] at hflm
        refine vgrow (rowP ps) (fun h0 => by rw [gb_ne h0]; rfl) (fun h0 => by rw [h0, gb_nil]; rfl) (by rw [rowP_len]) (by omega) (by omega) (by omega) ?_
        simp only [go_sem, ↓reduceIte, Nat.reduceEqDiff, Nat.reduceAdd, Nat.reduceMul, Nat.reduceLeDiff, Nat.reduceLT, Nat.reduceBNe, reduceCtorEq, e22, e21, e20, e5, e7, e8]
        refine ⟨_, W.in64 (by omega), (i + 1, ps ++ [p], os), [4, 1], ?_⟩
        try simp only [go_sem, ↓reduceIte, Nat.reduceEqDiff, Nat.reduceAdd, Nat.reduceMul, Nat.reduceLeDiff, Nat.reduceLT, Nat.reduceBNe, reduceCtorEq]
        refine ⟨by omega, ⟨rfl, fun _ => by rw [rowP_snoc]; rfl, fun h => gb_ne h⟩, by decide, by omega, by rw [hflt, ← hps]; simp, by rw [hflm, hos]; simp, by omega, by omega, fun q hq => ?_⟩
        rcases List.mem_append.1 hq with hq | hq
        · exact hpo5 q hq
        · simp only [List.mem_cons, List.not_mem_nil, or_false] at hq; subst hq; exact hpok.mono (newR_mono (RO.le_trans hle2 hle5))
      · have hany : o.any (overD p.1) = true := by
          cases ha : o.any (overD p.1) with
          | true => rfl
          | false => rw [idxE_neg ha] at hn; omega
        obtain ⟨b, hb⟩ : ∃ b, o.find? (overD p.1) = some b := by
          cases hf : o.find? (overD p.1) with
          | none => rw [List.find?_eq_none] at hf; rw [List.any_eq_true] at hany; obtain ⟨x, hx, hx'⟩ := hany; exact absurd hx' (hf x hx)
          | some b => exact ⟨b, rfl⟩
        rw [hany, if_neg (by simp)] at hflt
        rw [hb] at hflm
        obtain ⟨j, hj, hbj⟩ := idxE_pos (i := 0) hb
        rw [Nat.zero_add] at hj
        obtain ⟨hjl, hbe⟩ := List.getElem?_eq_some_iff.1 hbj
        obtain ⟨adb, q, hadb, hq1, hRq, _⟩ := hf j hjl
        rw [hbe] at hq1
        have hcq : ∀ k u, (q.ed.cells)[k]? = some u → R5 ((adb.add (j * 13)).add k) u := fun k u hk => hle5 _ _ (hle2 _ _ (newR_le _ _ (hRq k u hk)))
        rw [hj]
        try simp only [go_sem, ↓reduceIte, Nat.reduceEqDiff, Nat.reduceAdd, Nat.reduceMul, Nat.reduceLeDiff, Nat.reduceLT, Nat.reduceBNe, reduceCtorEq]
        refine ⟨by omega, vat adb hadb ?_⟩
        try simp only [go_sem, ↓reduceIte, Nat.reduceEqDiff, Nat.reduceAdd, Nat.reduceMul, Nat.reduceLeDiff, Nat.reduceLT, Nat.reduceBNe, reduceCtorEq]
        refine vload _ (hcq 2 _ rfl) ?_
        simp only [go_sem, ↓reduceIte, Nat.reduceEqDiff, Nat.reduceAdd, Nat.reduceMul, Nat.reduceLeDiff, Nat.reduceLT, Nat.reduceBNe, reduceCtorEq, e22, e21, e20, e5, e7, e8]
        refine ⟨by omega, vat adb hadb ?_⟩
        try simp only [go_sem, ↓reduceIte, Nat.reduceEqDiff, Nat.reduceAdd, Nat.reduceMul, Nat.reduceLeDiff, Nat.reduceLT, Nat.reduceBNe, reduceCtorEq]
        refine vload _ (hcq 3 _ rfl) ?_
        simp only [go_sem, ↓reduceIte, Nat.reduceEqDiff, Nat.reduceAdd, Nat.reduceMul, Nat.reduceLeDiff, Nat.reduceLT, Nat.reduceBNe, reduceCtorEq, e22, e21, e20, e5, e7, e8]
        refine vgrow (rowO os) (fun h0 => by rw [gb_ne h0]; rfl) (fun h0 => by rw [h0, gb_nil]; rfl) (by rw [rowO_len]) (by omega) (by omega) (by omega) ?_
        simp only [go_sem, ↓reduceIte, Nat.reduceEqDiff, Nat.reduceAdd, Nat.reduceMul, Nat.reduceLeDiff, Nat.reduceLT, Nat.reduceBNe, reduceCtorEq, e22, e21, e20, e5, e7, e8]
        refine ⟨_, W.in64 (by omega), (i + 1, ps, os ++ [ovOf p.1 b]), [0, 4], ?_⟩
        try simp only [go_sem, ↓reduceIte, Nat.reduceEqDiff, Nat.reduceAdd, Nat.reduceMul, Nat.reduceLeDiff, Nat.reduceLT, Nat.reduceBNe, reduceCtorEq]
        refine ⟨by omega, ⟨rfl, fun h => gb_ne h, fun _ => by rw [rowO_snoc, ← hq1]; rfl⟩, by decide, by omega, by rw [hflt, ← hps]; simp, by rw [hflm, hos]; simp, by omega, by omega, hpo5⟩
    · obtain rfl : i = o.length := by omega
      rw [List.take_length] at hps hos
      by_cases h1 : ps.length = 0
      · rw [h1]
        obtain rfl : ps = [] := List.eq_nil_of_length_eq_zero h1
        by_cases h2 : os.length = 0
        · rw [h2]
          try simp only [go_sem, ↓reduceIte, Nat.reduceEqDiff, Nat.reduceAdd, Nat.reduceMul, Nat.reduceLeDiff, Nat.reduceLT, Nat.reduceBNe, reduceCtorEq]
          obtain rfl : os = [] := List.eq_nil_of_length_eq_zero h2
          refine ⟨_, _, rfl, ?_, ?_⟩
          · unfold forceD; rw [← hps]; exact EdsV.nil _
          · unfold recsD; rw [← hos]; exact EncV.nil _ _ R2
        · rw [gs_pos h2]
          try simp only [go_sem, ↓reduceIte, Nat.reduceEqDiff, Nat.reduceAdd, Nat.reduceMul, Nat.reduceLeDiff, Nat.reduceLT, Nat.reduceBNe, reduceCtorEq]
          rw [gb_ne (fun e => h2 (by have := rowO_len os; rw [e] at this; simp at this; omega))]
          try simp only [go_sem, ↓reduceIte, Nat.reduceEqDiff, Nat.reduceAdd, Nat.reduceMul, Nat.reduceLeDiff, Nat.reduceLT, Nat.reduceBNe, reduceCtorEq]
          intro b cap' R3 hle3 hrow hcap hfr
          refine ⟨_, _, rfl, ?_, ?_⟩
          · unfold forceD; rw [← hps]; exact EdsV.nil _
          · unfold recsD; rw [← hos]; exact RowIn.enc (fun _ => rfl) (by omega) hrow hcap (by omega)
      · rw [gs_pos h1]
        try simp only [go_sem, ↓reduceIte, Nat.reduceEqDiff, Nat.reduceAdd, Nat.reduceMul, Nat.reduceLeDiff, Nat.reduceLT, Nat.reduceBNe, reduceCtorEq]
        rw [gb_ne (fun e => h1 (by have := rowP_len ps; rw [e] at this; simp at this; omega))]
        try simp only [go_sem, ↓reduceIte, Nat.reduceEqDiff, Nat.reduceAdd, Nat.reduceMul, Nat.reduceLeDiff, Nat.reduceLT, Nat.reduceBNe, reduceCtorEq]
        intro b cap' R3 hle3 hrow hcap hfr
        have hF : EdsV (newR R R3) (.slice (some ⟨b, 0, none⟩) ps.length cap') (forceD o) := by
          unfold forceD
          rw [← hps]
          exact EdsV.row (hrow.new hfr (RO.le_trans hle1 hle2)) hcap (fun p hp => (hpo p hp).mono (newR_mono hle3)) (by omega)
        by_cases h2 : os.length = 0
        · rw [h2]
          try simp only [go_sem, ↓reduceIte, Nat.reduceEqDiff, Nat.reduceAdd, Nat.reduceMul, Nat.reduceLeDiff, Nat.reduceLT, Nat.reduceBNe, reduceCtorEq]
          obtain rfl : os = [] := List.eq_nil_of_length_eq_zero h2
          refine ⟨_, _, rfl, hF, ?_⟩
          unfold recsD; rw [← hos]; exact EncV.nil _ _ R3
        · rw [gs_pos h2]
          try simp only [go_sem, ↓reduceIte, Nat.reduceEqDiff, Nat.reduceAdd, Nat.reduceMul, Nat.reduceLeDiff, Nat.reduceLT, Nat.reduceBNe, reduceCtorEq]
          rw [gb_ne (fun e => h2 (by have := rowO_len os; rw [e] at this; simp at this; omega))]
          try simp only [go_sem, ↓reduceIte, Nat.reduceEqDiff, Nat.reduceAdd, Nat.reduceMul, Nat.reduceLeDiff, Nat.reduceLT, Nat.reduceBNe, reduceCtorEq]
          intro b' cap'' R4 hle4 hrow' hcap2 hfr'
          refine ⟨_, _, rfl, hF.mono (newR_mono hle4), ?_⟩
          unfold recsD; rw [← hos]; exact RowIn.enc (fun _ => rfl) (by omega) hrow' hcap2 (by omega)
theorem ePartsN (s : Se) (rl : List Nd) (ds : List De) (v : Value) (e : Int) (R : RO) (hr : RuleV R s.rule rl) (hm : s.moves.oneCell' = true) (h : EdsV R v ds) (hsz : ds.length ≤ 100000000) : CallsS Try.prog 36 [.val (.agg (s.cells ++ [v, .int .i64 e]).toArray)] [] R fun R' bs r =>
    ∃ ps : List Pp, ps ≠ [] ∧ (∀ p ∈ ps, p.OK (newR R R')) ∧ ps.map (fun p => (p.1, p.2.1)) = partsD s rl ds e ∧ ∃ j, r = .sl j ps.length ∧ bs[j]? = some (.row 57 8 (rowPp ps)) := by
  have hdl : ds.length ≤ 1000000000 := by omega
  have h0 := h
  have hron := hr.one
  obtain ⟨a, cap, rfl, hc, hf⟩ := h.form
  obtain ⟨sr, sm, sl, sz, sg, sf, smv⟩ := s
  dsimp only at hr hm hron
  simp only [Se.cells, List.cons_append, List.nil_append]
  refine callsTS mix Try.func36 comp36 (by simp [Try.ntmps36]) rfl rfl ?_; simp only [go_sem, ↓reduceIte, Nat.reduceEqDiff, Nat.reduceAdd, Nat.reduceMul, Nat.reduceLeDiff, Nat.reduceLT, Nat.reduceBNe, reduceCtorEq, vc36, rs36]
  refine vcLoopR Nat (fun i => [(16, .val (.int .i64 i)), (15, .val (.int .i64 ds.length)), (14, .val (.slice a ds.length cap)), (1, .loc 0 0), (3, .sl 1 (i + 1))])
    (fun i => [.box [.val sr, .val (.int .i64 sm), .val (.int .i64 sl), .val (.string sz), .val (.int .i64 sg), .val (.int .i64 sf), .val smv, .val (.slice a ds.length cap), .val (.int .i64 e)], .row 3 1 ((0 :: (ds.take i).map (·.day)).map (.int .i64))])
    (fun i R => i ≤ ds.length) (fun i => ds.length - i) 0 [] ?_ ?_ ?_ ?_
  · (try simp only [go_sem, ↓reduceIte, Nat.reduceEqDiff, Nat.reduceAdd, Nat.reduceMul, Nat.reduceLeDiff, Nat.reduceLT, Nat.reduceBNe, reduceCtorEq]) <;> (repeat' (first | rfl | trivial | constructor | (intro h; exact absurd rfl h)))
  · try simp only [go_sem, ↓reduceIte, Nat.reduceEqDiff, Nat.reduceAdd, Nat.reduceMul, Nat.reduceLeDiff, Nat.reduceLT, Nat.reduceBNe, reduceCtorEq]
  · exact Nat.zero_le _
  · rintro i env R1 hle1 hE hi
    (simp only [go_sem] at hE; obtain ⟨e16, e15, e14, e1, e3⟩ := hE; simp only [go_sem, ↓reduceIte, Nat.reduceEqDiff, Nat.reduceAdd, Nat.reduceMul, Nat.reduceLeDiff, Nat.reduceLT, Nat.reduceBNe, reduceCtorEq, e16, e15, e14, e1, e3]; dsimp only at *)
    refine ⟨fun hlt => ⟨hlt, ?_⟩, fun hge => ?_⟩
    · have hlt' : i < ds.length := by omega
      obtain ⟨ad, ra, rn, rc, had, hR, _⟩ := hf i hlt'
      refine vat ad had ?_
      try simp only [go_sem, ↓reduceIte, Nat.reduceEqDiff, Nat.reduceAdd, Nat.reduceMul, Nat.reduceLeDiff, Nat.reduceLT, Nat.reduceBNe, reduceCtorEq]
      refine vloadn (ds[i].ed ra rn rc).cells rfl (fun j u hj => hle1 _ _ (hR j u hj)) ?_
      simp only [go_sem, ↓reduceIte, Nat.reduceEqDiff, Nat.reduceAdd, Nat.reduceMul, Nat.reduceLeDiff, Nat.reduceLT, Nat.reduceBNe, reduceCtorEq, Ed.cells, De.ed, e16, e15, e14, e1, e3]
      refine vappO _ rfl (by simp; omega) (by omega) ?_
      simp only [go_sem, ↓reduceIte, Nat.reduceEqDiff, Nat.reduceAdd, Nat.reduceMul, Nat.reduceLeDiff, Nat.reduceLT, Nat.reduceBNe, reduceCtorEq, e16, e15, e14, e1, e3]
      refine ⟨_, W.in64 (by omega), i + 1, [0, 4], ?_⟩
      try simp only [go_sem, ↓reduceIte, Nat.reduceEqDiff, Nat.reduceAdd, Nat.reduceMul, Nat.reduceLeDiff, Nat.reduceLT, Nat.reduceBNe, reduceCtorEq]
      refine ⟨by omega, ⟨rfl, ?_⟩, by decide, by omega⟩
      rw [List.take_succ_eq_append_getElem hlt', List.map_append, List.map_append]
      rfl
    · obtain rfl : i = ds.length := by omega
      rw [List.take_length]
      have hlen : (0 :: ds.map (·.day)).length = ds.length + 1 := by simp
      have hSI := eSortInts (0 :: ds.map (·.day)) (by simp; omega) R1
      rw [hlen] at hSI
      refine vhand [1] [.sl 0 (ds.length + 1)] [.row 3 1 ((0 :: ds.map (·.day)).map (.int .i64))] hSI rfl rfl rfl ?_ (by simp) rfl rfl ?_
      · try simp only [go_sem, ↓reduceIte, Nat.reduceEqDiff, Nat.reduceAdd, Nat.reduceMul, Nat.reduceLeDiff, Nat.reduceLT, Nat.reduceBNe, reduceCtorEq]
      rintro R2 bs r hle2 ⟨rfl, rfl, rfl⟩ _
      simp only [go_sem, ↓reduceIte, Nat.reduceEqDiff, Nat.reduceAdd, Nat.reduceMul, Nat.reduceLeDiff, Nat.reduceLT, Nat.reduceBNe, reduceCtorEq, setG, rn, e16, e15, e14, e1, e3]
      have hCI := eCompactInts ((0 :: ds.map (·.day)).mergeSort fun x y => decide (x ≤ y)) (by simp; omega) R2
      rw [List.length_mergeSort, hlen, compact_sorted] at hCI
      refine vhand [1] [.sl 0 (ds.length + 1)] [.row 3 1 (((0 :: ds.map (·.day)).mergeSort fun x y => decide (x ≤ y)).map (.int .i64))] hCI rfl rfl rfl ?_ (by simp) rfl rfl ?_
      · try simp only [go_sem, ↓reduceIte, Nat.reduceEqDiff, Nat.reduceAdd, Nat.reduceMul, Nat.reduceLeDiff, Nat.reduceLT, Nat.reduceBNe, reduceCtorEq]
        rfl
      rintro R3 bs r hle3 ⟨rfl, rfl, rfl⟩ _
      simp only [go_sem, ↓reduceIte, Nat.reduceEqDiff, Nat.reduceAdd, Nat.reduceMul, Nat.reduceLeDiff, Nat.reduceLT, Nat.reduceBNe, reduceCtorEq, setG, rn, e16, e15, e14, e1, e3]
      obtain ⟨days, hdays⟩ : ∃ days, days = rising (0 :: ds.map (·.day)) := ⟨_, rfl⟩
      have hdl1 : days.length ≤ ds.length + 1 := by rw [hdays, ← hlen]; exact rising_len _
      have hd0 : days ≠ [] := by
        have : (0 : Int) ∈ days := by rw [hdays, mem_rising]; simp
        intro e; rw [e] at this; simp at this
      rw [← hdays]
      refine vcLoopR (Nat × List Pp) (fun x => [(31, .val (.int .i64 x.1)), (30, .val (.int .i64 days.length)), (29, .sl 1 days.length), (1, .loc 0 0), (6, gs 2 x.2.length)])
        (fun x => [.box [.val sr, .val (.int .i64 sm), .val (.int .i64 sl), .val (.string sz), .val (.int .i64 sg), .val (.int .i64 sf), .val smv, .val (.slice a ds.length cap), .val (.int .i64 e)], .row 3 1 ((days ++ List.replicate (ds.length + 1 - days.length) 0).map (.int .i64)), gb 57 8 (rowPp x.2)])
        (fun x R' => x.1 ≤ days.length ∧ (0 < x.1 → x.2 ≠ []) ∧ x.2.length ≤ x.1 ∧ (∀ p ∈ x.2, p.OK (newR R R')) ∧ partsGo e (tiOn ⟨.slice none 0 0, sm, sl, sz, sg, sf, .slice none 0 0⟩ rl ds) (days.drop x.1) (x.2.map fun p => (p.1, p.2.1)) = partsGo e (tiOn ⟨.slice none 0 0, sm, sl, sz, sg, sf, .slice none 0 0⟩ rl ds) days []) (fun x => days.length - x.1) (0, []) [] ?_ ?_ ?_ ?_
      · (try simp only [go_sem, ↓reduceIte, Nat.reduceEqDiff, Nat.reduceAdd, Nat.reduceMul, Nat.reduceLeDiff, Nat.reduceLT, Nat.reduceBNe, reduceCtorEq]) <;> (repeat' (first | rfl | trivial | constructor | (intro h; exact absurd rfl h)))
      · try simp only [go_sem, ↓reduceIte, Nat.reduceEqDiff, Nat.reduceAdd, Nat.reduceMul, Nat.reduceLeDiff, Nat.reduceLT, Nat.reduceBNe, reduceCtorEq]
      · exact ⟨Nat.zero_le _, by simp, Nat.le_refl _, by simp, rfl⟩
      rintro ⟨i, ps⟩ env R4 hle4 hE ⟨hi, hne, hpl, hpo, hgo⟩
      (simp only [go_sem] at hE; obtain ⟨e31, e30, e29, e1', e6⟩ := hE; simp only [go_sem, ↓reduceIte, Nat.reduceEqDiff, Nat.reduceAdd, Nat.reduceMul, Nat.reduceLeDiff, Nat.reduceLT, Nat.reduceBNe, reduceCtorEq, e31, e30, e29, e1', e6]; dsimp only at *)
      refine ⟨fun hlt => ⟨hlt, ?_⟩, fun hge => ?_⟩
      · have hlt' : i < days.length := by omega
        refine ⟨.int .i64 days[i], by rw [List.getElem?_map, List.getElem?_append_left hlt', List.getElem?_eq_getElem hlt']; rfl, ?_⟩
        have hdrop := List.drop_eq_getElem_cons hlt'
        rw [hdrop] at hgo
        simp only [go_sem, ↓reduceIte, Nat.reduceEqDiff, Nat.reduceAdd, Nat.reduceMul, Nat.reduceLeDiff, Nat.reduceLT, Nat.reduceBNe, reduceCtorEq, e31, e30, e29, e1', e6]
        refine ⟨fun hge2 => ?_, fun hlt2 => ?_⟩
        · refine vgrow (rowPp ps) (fun h0 => by rw [gb_ne h0]; rfl) (fun h0 => by rw [h0, gb_nil]; rfl) (by rw [rowPp_len]) (by omega) (by omega) (by omega) ?_
          simp only [go_sem, ↓reduceIte, Nat.reduceEqDiff, Nat.reduceAdd, Nat.reduceMul, Nat.reduceLeDiff, Nat.reduceLT, Nat.reduceBNe, reduceCtorEq, e31, e30, e29, e1', e6]
          rw [partsGo_end hge2] at hgo
          refine ⟨ps ++ [(days[i], Ti.zero, .slice none 0 0)], by simp, fun p hp => ?_, ?_, 4, by simp, by rw [rowPp_snoc]; rfl⟩
          · rcases List.mem_append.1 hp with hp | hp
            · exact hpo p hp
            · simp only [List.mem_cons, List.not_mem_nil, or_false] at hp; subst hp; exact RuleV.nil _
          · rw [List.map_append]
            refine hgo.trans ?_
            rw [hdays]; rfl
        · refine vcall (eOnN ⟨sr, sm, sl, sz, sg, sf, smv⟩ rl ds _ e days[i] R4 (hr.mono (RO.le_trans hle1 (RO.le_trans hle2 (RO.le_trans hle3 hle4)))) (h0.mono (RO.le_trans hle1 (RO.le_trans hle2 (RO.le_trans hle3 hle4))))) ?_
          rintro R5 v hle5 ⟨rv, rfl, hrv⟩
          replace hrv := hrv.mono (newR_sub (R0 := R) (RO.le_trans hle1 (RO.le_trans hle2 (RO.le_trans hle3 hle4))))
          have hrv1 := hrv.one
          obtain ⟨ra, rn, rc, rfl⟩ := hrv.form
          simp only [go_sem, ↓reduceIte, Nat.reduceEqDiff, Nat.reduceAdd, Nat.reduceMul, Nat.reduceLeDiff, Nat.reduceLT, Nat.reduceBNe, reduceCtorEq, Se.cells, e31, e30, e29, e1', e6]
          have hpo5 : ∀ p ∈ ps, p.OK (newR R R5) := fun p hp => (hpo p hp).mono (newR_mono hle5)
          obtain ⟨ti, hti⟩ : ∃ ti, ti = tiOn ⟨.slice none 0 0, sm, sl, sz, sg, sf, .slice none 0 0⟩ rl ds days[i] := ⟨_, rfl⟩
          have happ : ∀ R6 : RO, RO.le R5 R6 → ∀ {k : SV → St → Prop} {t : Tok k} {e : Nat → SV} {b : List Blk}, b[2]? = some (gb 57 8 (rowPp ps)) → k (.sl b.length (ps.length + 1)) ⟨e, b.set 2 .dead ++ [.row 57 8 (rowPp (ps ++ [(days[i], ti, .slice ra rn rc)]))], R6⟩ →
              AppT 57 8 104 (gs 2 ps.length) 1 (Pp.cells (days[i], ti, .slice ra rn rc)) ⟨e, b, R6⟩ k t := by
            intro R6 hle6 k t e b hb hk
            refine vgrow (rowPp ps) (fun h0 => by rw [hb]) (fun h0 => set_dead_gb (by rw [hb, h0, gb_nil])) (by rw [rowPp_len]) (by omega) (by omega) (by omega) ?_
            rw [← rowPp_snoc]
            exact hk
          rcases List.eq_nil_or_concat ps with hps | ⟨qs, y, hps⟩
          · subst hps
            refine ⟨fun h => by simp at h, fun _ => ?_⟩
            rw [List.map_nil, partsGo_first (by omega), ← hti] at hgo
            have hcl : Pp.cells (days[i], ti, .slice ra rn rc) = [.int .i64 days[i], .slice ra rn rc, .int .i64 (onE days[i] ⟨rl, sm, sl, sz⟩ ds).minute, .int .i64 (onE days[i] ⟨rl, sm, sl, sz⟩ ds).length, .string (onE days[i] ⟨rl, sm, sl, sz⟩ ds).zone, .int .i64 sg, .int .i64 sf, .slice none 0 0] := by rw [hti]; rfl
            rw [← hcl]
            refine happ R5 (RO.le_refl _) rfl ?_
            simp only [go_sem, ↓reduceIte, Nat.reduceEqDiff, Nat.reduceAdd, Nat.reduceMul, Nat.reduceLeDiff, Nat.reduceLT, Nat.reduceBNe, reduceCtorEq, e31, e30, e29, e1', e6]
            refine ⟨_, W.in64 (by omega), (i + 1, [(days[i], ti, .slice ra rn rc)]), [0, 1, 5], ?_⟩
            try simp only [go_sem, ↓reduceIte, Nat.reduceEqDiff, Nat.reduceAdd, Nat.reduceMul, Nat.reduceLeDiff, Nat.reduceLT, Nat.reduceBNe, reduceCtorEq]
            exact ⟨by omega, rfl, by decide, by omega, by rw [hti]; exact hrv, hgo⟩
          · rw [List.concat_eq_append] at hps
            have hpl2 : ps.length = qs.length + 1 := by rw [hps]; simp
            refine ⟨fun _ => ⟨_, W.in64 (by omega), ?_⟩, fun h => by omega⟩
            obtain ⟨yd, yt, yv⟩ := y
            have hyo : RuleV (newR R R5) yv yt.rule := hpo5 (yd, yt, yv) (by rw [hps]; simp)
            obtain ⟨ya, yn, yc, rfl⟩ := hyo.form
            have hgb : gb 57 8 (rowPp ps) = .row 57 8 (rowPp ps) := gb_ne (fun e => by have := rowPp_len ps; rw [e] at this; simp at this; omega)
            have hcell : ∀ j, (rowPp ps)[qs.length * 8 + j]? = (Pp.cells (yd, yt, .slice ya yn yc))[j]? := fun j => by rw [hps]; exact rowPp_last qs _ j
            have hidx : ((ps.length : Int) - 1).toNat = qs.length := by omega
            rw [gs_pos (by omega), hgb]
            try simp only [go_sem, ↓reduceIte, Nat.reduceEqDiff, Nat.reduceAdd, Nat.reduceMul, Nat.reduceLeDiff, Nat.reduceLT, Nat.reduceBNe, reduceCtorEq]
            rw [hidx]
            refine ⟨by omega, by omega, ?_⟩
            try simp only [go_sem, ↓reduceIte, Nat.reduceEqDiff, Nat.reduceAdd, Nat.reduceMul, Nat.reduceLeDiff, Nat.reduceLT, Nat.reduceBNe, reduceCtorEq]
            refine ⟨_, (hcell 1).trans rfl, _, (hcell 2).trans rfl, _, (hcell 3).trans rfl, _, (hcell 4).trans rfl, _, (hcell 5).trans rfl, _, (hcell 6).trans rfl, _, (hcell 7).trans rfl, ?_⟩
            simp only [go_sem, ↓reduceIte, Nat.reduceEqDiff, Nat.reduceAdd, Nat.reduceMul, Nat.reduceLeDiff, Nat.reduceLT, Nat.reduceBNe, reduceCtorEq, Pp.se, e31, e30, e29, e1', e6]
            rw [hps, List.map_append] at hgo
            have hcl : Pp.cells (days[i], ti, .slice ra rn rc) = [.int .i64 days[i], .slice ra rn rc, .int .i64 (onE days[i] ⟨rl, sm, sl, sz⟩ ds).minute, .int .i64 (onE days[i] ⟨rl, sm, sl, sz⟩ ds).length, .string (onE days[i] ⟨rl, sm, sl, sz⟩ ds).zone, .int .i64 sg, .int .i64 sf, .slice none 0 0] := by rw [hti]; rfl
            have hst : sameTi ti yt = (decide (yt.minute = (onE days[i] ⟨rl, sm, sl, sz⟩ ds).minute) && decide (yt.length = (onE days[i] ⟨rl, sm, sl, sz⟩ ds).length) && decide ((onE days[i] ⟨rl, sm, sl, sz⟩ ds).rule = yt.rule)) := by rw [hti]; rfl
            have hold : sameTi ti yt = true → partsGo e (tiOn ⟨.slice none 0 0, sm, sl, sz, sg, sf, .slice none 0 0⟩ rl ds) (days.drop (i + 1)) (ps.map fun p => (p.1, p.2.1)) = partsGo e (tiOn ⟨.slice none 0 0, sm, sl, sz, sg, sf, .slice none 0 0⟩ rl ds) days [] := fun hs => by
              rw [← hgo, hps, List.map_append]
              exact (partsGo_same (by omega) (by rw [← hti]; exact hs)).symm
            have hnew : sameTi ti yt = false → partsGo e (tiOn ⟨.slice none 0 0, sm, sl, sz, sg, sf, .slice none 0 0⟩ rl ds) (days.drop (i + 1)) ((ps ++ [(days[i], ti, Value.slice ra rn rc)]).map fun p => (p.1, p.2.1)) = partsGo e (tiOn ⟨.slice none 0 0, sm, sl, sz, sg, sf, .slice none 0 0⟩ rl ds) days [] := fun hs => by
              rw [← hgo, List.map_append, hps, List.map_append, hti]
              exact (partsGo_new (by omega) (by rw [← hti]; exact hs)).symm
            clear hgo
            have hpo6 : ∀ R6 : RO, RO.le R5 R6 → ∀ p ∈ ps ++ [(days[i], ti, Value.slice ra rn rc)], Pp.OK (newR R R6) p := fun R6 hle6 p hp => by
              rcases List.mem_append.1 hp with hp | hp
              · exact (hpo5 p hp).mono (newR_mono hle6)
              · simp only [List.mem_cons, List.not_mem_nil, or_false] at hp; subst hp; rw [hti]; exact hrv.mono (newR_mono hle6)
            refine ⟨fun q1 => ⟨fun q2 => ?_, fun q2 => ?_⟩, fun q1 => ?_⟩
            · refine vcall (eSameRule _ yt.rule _ _ R5 (hrv.mono newR_le) (hyo.mono newR_le)) ?_
              rintro R6 v hle6 rfl
              simp only [go_sem, ↓reduceIte, Nat.reduceEqDiff, Nat.reduceAdd, Nat.reduceMul, Nat.reduceLeDiff, Nat.reduceLT, Nat.reduceBNe, reduceCtorEq, e31, e30, e29, e1', e6]
              refine ⟨fun q3 => ?_, fun q3 => ?_⟩
              · refine ⟨_, W.in64 (by omega), (i + 1, ps), [], ?_⟩
                try simp only [go_sem, ↓reduceIte, Nat.reduceEqDiff, Nat.reduceAdd, Nat.reduceMul, Nat.reduceLeDiff, Nat.reduceLT, Nat.reduceBNe, reduceCtorEq]
                exact ⟨by omega, rfl, by decide, by omega, fun _ => by rw [hps]; simp, by omega, fun p hp => (hpo5 p hp).mono (newR_mono hle6), hold (by rw [hst]; simp [q1, q2, q3])⟩
              · rw [← hcl, ← gs_pos (show ps.length ≠ 0 by omega), ← hgb]
                refine happ R6 hle6 rfl ?_
                simp only [go_sem, ↓reduceIte, Nat.reduceEqDiff, Nat.reduceAdd, Nat.reduceMul, Nat.reduceLeDiff, Nat.reduceLT, Nat.reduceBNe, reduceCtorEq, e31, e30, e29, e1', e6]
                refine ⟨_, W.in64 (by omega), (i + 1, ps ++ [(days[i], ti, .slice ra rn rc)]), [0, 1, 6], ?_⟩
                try simp only [go_sem, ↓reduceIte, Nat.reduceEqDiff, Nat.reduceAdd, Nat.reduceMul, Nat.reduceLeDiff, Nat.reduceLT, Nat.reduceBNe, reduceCtorEq]
                exact ⟨by omega, rfl, by decide, by omega, fun _ => by simp, by omega, hpo6 R6 hle6, hnew (by rw [hst]; simp [q1, q2, q3])⟩
            · rw [← hcl, ← gs_pos (show ps.length ≠ 0 by omega), ← hgb]
              refine happ R5 (RO.le_refl _) rfl ?_
              simp only [go_sem, ↓reduceIte, Nat.reduceEqDiff, Nat.reduceAdd, Nat.reduceMul, Nat.reduceLeDiff, Nat.reduceLT, Nat.reduceBNe, reduceCtorEq, e31, e30, e29, e1', e6]
              refine ⟨_, W.in64 (by omega), (i + 1, ps ++ [(days[i], ti, .slice ra rn rc)]), [0, 1, 6], ?_⟩
              try simp only [go_sem, ↓reduceIte, Nat.reduceEqDiff, Nat.reduceAdd, Nat.reduceMul, Nat.reduceLeDiff, Nat.reduceLT, Nat.reduceBNe, reduceCtorEq]
              exact ⟨by omega, rfl, by decide, by omega, fun _ => by simp, by omega, hpo6 R5 (RO.le_refl _), hnew (by rw [hst]; simp [q1, q2])⟩
            · rw [← hcl, ← gs_pos (show ps.length ≠ 0 by omega), ← hgb]
              refine happ R5 (RO.le_refl _) rfl ?_
              simp only [go_sem, ↓reduceIte, Nat.reduceEqDiff, Nat.reduceAdd, Nat.reduceMul, Nat.reduceLeDiff, Nat.reduceLT, Nat.reduceBNe, reduceCtorEq, e31, e30, e29, e1', e6]
              refine ⟨_, W.in64 (by omega), (i + 1, ps ++ [(days[i], ti, .slice ra rn rc)]), [0, 1, 6], ?_⟩
              try simp only [go_sem, ↓reduceIte, Nat.reduceEqDiff, Nat.reduceAdd, Nat.reduceMul, Nat.reduceLeDiff, Nat.reduceLT, Nat.reduceBNe, reduceCtorEq]
              exact ⟨by omega, rfl, by decide, by omega, fun _ => by simp, by omega, hpo6 R5 (RO.le_refl _), hnew (by rw [hst]; simp [q1])⟩
      · obtain rfl : i = days.length := by omega
        rw [List.drop_length, partsGo_nil] at hgo
        have h1 : ps ≠ [] := hne (List.length_pos_iff.2 hd0)
        have h2 : ps.length ≠ 0 := fun h => h1 (List.eq_nil_of_length_eq_zero h)
        refine ⟨ps, h1, hpo, ?_, 2, gs_pos h2, ?_⟩
        · rw [hgo, hdays]; rfl
        · rw [gb_ne (fun e => h2 (by have := rowPp_len ps; rw [e] at this; simp at this; omega))]; rfl
end Go.Proofs.Ytpnhiknfcpkfbaa
