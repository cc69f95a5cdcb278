import Derived.Test.YtpnhiknfcpkfbaaEv
namespace Go.Proofs.Ytpnhiknfcpkfbaa
set_option linter.unusedSimpArgs false
set_option linter.unusedVariables false
open Go.Proofs.Ytpnhiknfcpkfbaa.Vc
def prevM (ms : List Mv) (i : Nat) : Option Int := if i = 0 then none else (ms[i - 1]?).map (·.day)
/-- A part, where its rule lies and what its moves' slice is. -/
abbrev Pq := Pa × Value × Value
def Pq.cells (p : Pq) : List Value := paCells p.1.day ⟨p.2.1, p.1.ti.minute, p.1.ti.length, p.1.ti.zone, p.1.ti.gap, p.1.ti.fold, p.2.2⟩
def Pq.OK (R : RO) (p : Pq) : Prop := RuleV R p.2.1 p.1.ti.rule ∧ EncV Mv.cells 5 R p.2.2 p.1.moves
def rowPq (ps : List Pq) : List Value := (ps.map Pq.cells).flatten
theorem rowPq_cl (ps : List Pq) : ∀ c ∈ ps.map Pq.cells, c.length = 8 := fun c hc => by obtain ⟨x, _, rfl⟩ := List.mem_map.1 hc; rfl
theorem rowPq_len (ps : List Pq) : (rowPq ps).length = ps.length * 8 := by
  unfold rowPq
  rw [length_flattenK (rowPq_cl ps)]
  simp
theorem rowPq_get (ps : List Pq) (i j : Nat) (hi : i < ps.length) (hj : j < 8) : (rowPq ps)[i * 8 + j]? = (ps[i].cells)[j]? :=
  getElem?_flatten (rowPq_cl ps) i j _ (by rw [List.getElem?_map, List.getElem?_eq_getElem hi]; rfl) hj
theorem movesOK_nil (p : Option Int) : movesOK p [] = true := by cases p <;> rfl
def ltO : Option Int → Int → Bool
  | none, _ => true
  | some d, x => decide (d < x)
theorem movesOK_cons (p : Option Int) (m : Mv) (r : List Mv) : movesOK p (m :: r) = (moveOK m && (ltO p m.day && movesOK (some m.day) r)) := by cases p <;> rfl
theorem rowPq_set (ps : List Pq) (i : Nat) (hi : i < ps.length) (ms : List Mv) (v : Value) : (rowPq ps).set (i * 8 + 7) v = rowPq (ps.set i (⟨ps[i].1.day, ps[i].1.ti, ms⟩, ps[i].2.1, v)) := by
  unfold rowPq
  rw [flat_set _ (rowPq_cl ps) i 7 v (ps[i].cells) (by rw [List.getElem?_map, List.getElem?_eq_getElem hi]; rfl) (by omega), List.map_set]
  rfl
/-- The memory of the moves that were appended last. -/
def shrM (b cap : Nat) (cur : List Mv) : Blk := if cur = [] then .dead else .shr b cap 23 5 (rowM cur)
theorem shrM_nil (b cap : Nat) : shrM b cap [] = .dead := rfl
theorem shrM_ne {b cap : Nat} {cur : List Mv} (h : cur ≠ []) : shrM b cap cur = .shr b cap 23 5 (rowM cur) := if_neg h
theorem scB_shrM (n b cap : Nat) (cur : List Mv) : scB n (shrM b cap cur) = true := by unfold shrM; split <;> rfl
theorem blkM_shrM (ρ sb i b cap cur r) : blkM ρ sb i (shrM b cap cur :: r) = ((cur ≠ [] → sb[rn ρ i]? = some (shrM b cap cur)) ∧ blkM ρ sb (i + 1) r) := by
  unfold shrM
  split
  · rename_i h; simp [h, tBlkM_dead]
  · rename_i h; simp [h, tBlkM_shr]
theorem unslB_shrM (k b' c' b cap : Nat) (cur : List Mv) : unslB k b' c' (shrM b cap cur) = shrM b cap cur := by unfold shrM; split <;> rfl
theorem movesOK_all : ∀ {ms : List Mv} {p : Option Int}, movesOK p ms = true → ∀ m ∈ ms, moveOK m = true
  | [], _, _, m, hm => by simp at hm
  | x :: r, p, h, m, hm => by
    have h' : (moveOK x && ((match p with | none => true | some d => decide (d < x.day)) && movesOK (some x.day) r)) = true := by cases p <;> exact h
    simp only [Bool.and_eq_true] at h'
    rcases List.mem_cons.1 hm with rfl | hm
    · exact h'.1
    · exact movesOK_all h'.2.2 m hm
theorem moveOK_day {m : Mv} (h : moveOK m = true) : 0 ≤ m.day := by
  unfold moveOK betw at h
  simp only [Bool.and_eq_true, decide_eq_true_eq] at h
  exact h.1.1
theorem movesD_day {ms : List Mv} {ds : List De} {e : Int} (h1 : ∀ m ∈ ms, moveOK m = true) (h2 : ∀ d ∈ ds, validD d = true) : ∀ m ∈ movesD ms ds e, 0 ≤ m.day := by
  intro m hm
  rcases List.mem_append.1 hm with hm | hm
  · obtain ⟨d, hd, rfl⟩ := List.mem_map.1 hm
    obtain ⟨hd1, hd2⟩ := List.mem_filter.1 hd
    exact moveOK_day (validD_move (h2 d hd1) (by simpa [isMove] using hd2)).1
  · exact moveOK_day (h1 m (List.mem_filter.1 hm).1)
attribute [local go_sem] scB_shrM blkM_shrM unslB_shrM
theorem EncV.len0 {α : Type} {enc : α → List Value} {k : Nat} {R : RO} {a : Option Addr} {c : Nat} {xs : List α} (h : EncV enc k R (.slice a 0 c) xs) : xs = [] := by
  obtain ⟨a', cap, e, _⟩ := h.form
  simp only [Value.slice.injEq] at e
  exact List.eq_nil_of_length_eq_zero (by omega)
theorem setG_nil (l x : List Blk) : setG l [] x = l ++ x := by cases x <;> rfl
theorem eMerge (s : Se) (rl : List Nd) (ms : List Mv) (ds : List De) (v : Value) (R : RO) (hr : RuleV R s.rule rl) (hm : EncV Mv.cells 5 R s.moves ms) (h : EdsV R v ds) (hsz : ms.length + ds.length ≤ 63) : CallsR Try.prog 18 [.agg s.cells.toArray, v] R fun R' r => MergeV R' r s rl ms ds := by
  have hS := eRebase ds v R h
  have hsr := hr.one
  obtain ⟨a0, cap0, rfl, _⟩ := h.form
  have hm0 := hm
  obtain ⟨sr, sm, sl, sz, sg, sf, smv⟩ := s
  dsimp only at hr hm hsr hm0
  obtain ⟨ra0, rn0, rc0, rfl⟩ := hr.form
  obtain ⟨ma, mcap, rfl, hmc, hmf⟩ := hm.form
  simp only [Se.cells]
  refine callsT mix Try.func18 comp18 (by simp [Try.ntmps18]) ?_; simp only [go_sem, ↓reduceIte, Nat.reduceEqDiff, Nat.reduceAdd, Nat.reduceMul, Nat.reduceLeDiff, Nat.reduceLT, Nat.reduceBNe, reduceCtorEq, vc18, rs18]
  refine vcall hS ?_
  intro R1 r hle1 hr1
  unfold MergeV
  unfold RebV at hr1
  cases hall : allD ds with
  | error k =>
    have hk := allD_error hall
    rw [hall] at hr1
    dsimp only at hr1
    subst hr1
    try simp only [go_sem, ↓reduceIte, Nat.reduceEqDiff, Nat.reduceAdd, Nat.reduceMul, Nat.reduceLeDiff, Nat.reduceLT, Nat.reduceBNe, reduceCtorEq]
    exact fun h0 => by omega
  | ok o =>
    rw [hall] at hr1
    dsimp only at hr1
    obtain ⟨u, w, rfl, hu, hw⟩ := hr1
    obtain ⟨a, cap, rfl, _⟩ := hu.form
    obtain ⟨wa, wcap, rfl, _⟩ := hw.form
    try simp only [go_sem, ↓reduceIte, Nat.reduceEqDiff, Nat.reduceAdd, Nat.reduceMul, Nat.reduceLeDiff, Nat.reduceLT, Nat.reduceBNe, reduceCtorEq]
    refine ⟨fun hl => ?_, fun hl => ?_⟩
    · rw [if_pos (.inl hl)]; trivial
    refine vcLoop Nat (fun i => [(33, .val (.int .i64 i)), (32, .val (.int .i64 ms.length)), (31, .val (.slice ma ms.length mcap)), (2, .loc 0 0), (7, .val (.slice a (forceD o).length cap)), (8, .val (.slice wa (recsD o).length wcap))])
      (fun i => [.box [.val (.slice ra0 rn0 rc0), .val (.int .i64 sm), .val (.int .i64 sl), .val (.string sz), .val (.int .i64 sg), .val (.int .i64 sf), .val (.slice ma ms.length mcap)]])
      (fun i R => i ≤ ms.length ∧ movesOK none ms = movesOK (prevM ms i) (ms.drop i)) (fun i => ms.length - i) 0 ?_ ?_ ?_ ?_
    · (try simp only [go_sem, ↓reduceIte, Nat.reduceEqDiff, Nat.reduceAdd, Nat.reduceMul, Nat.reduceLeDiff, Nat.reduceLT, Nat.reduceBNe, reduceCtorEq]) <;> (repeat' (first | rfl | trivial | constructor | (intro h; exact absurd rfl h)))
    · try simp only [go_sem, ↓reduceIte, Nat.reduceEqDiff, Nat.reduceAdd, Nat.reduceMul, Nat.reduceLeDiff, Nat.reduceLT, Nat.reduceBNe, reduceCtorEq]
    · exact ⟨Nat.zero_le _, rfl⟩
    · rintro i env R2 hle2 hE ⟨hi, hok⟩
      (simp only [go_sem] at hE; obtain ⟨e33, e32, e31, e2, e7, e8⟩ := hE; simp only [go_sem, ↓reduceIte, Nat.reduceEqDiff, Nat.reduceAdd, Nat.reduceMul, Nat.reduceLeDiff, Nat.reduceLT, Nat.reduceBNe, reduceCtorEq, e33, e32, e31, e2, e7, e8]; dsimp only at *)
      refine ⟨fun hlt => ⟨hlt, ?_⟩, fun hge => ?_⟩
      · have hlt' : i < ms.length := by omega
        obtain ⟨ad, had, hR⟩ := hmf i hlt'
        have hdrop := List.drop_eq_getElem_cons hlt'
        rw [hdrop, movesOK_cons] at hok
        refine vat ad had ?_
        try simp only [go_sem, ↓reduceIte, Nat.reduceEqDiff, Nat.reduceAdd, Nat.reduceMul, Nat.reduceLeDiff, Nat.reduceLT, Nat.reduceBNe, reduceCtorEq]
        refine vloadn (ms[i]).cells rfl (fun j u hj => hle2 _ _ (hle1 _ _ (hR j u hj))) ?_
        simp only [go_sem, ↓reduceIte, Nat.reduceEqDiff, Nat.reduceAdd, Nat.reduceMul, Nat.reduceLeDiff, Nat.reduceLT, Nat.reduceBNe, reduceCtorEq, Mv.cells, e33, e32, e31, e2, e7, e8]
        refine vcall (eValidMove ms[i] R2) ?_
        rintro R3 v hle3 rfl
        simp only [go_sem, ↓reduceIte, Nat.reduceEqDiff, Nat.reduceAdd, Nat.reduceMul, Nat.reduceLeDiff, Nat.reduceLT, Nat.reduceBNe, reduceCtorEq, e33, e32, e31, e2, e7, e8]
        have hnext : movesOK (some ms[i].day) (ms.drop (i + 1)) = movesOK (prevM ms (i + 1)) (ms.drop (i + 1)) := by
          unfold prevM
          rw [if_neg (by omega), show i + 1 - 1 = i by omega, List.getElem?_eq_getElem hlt']
          rfl
        refine ⟨fun hv => ⟨fun hpos => ?_, fun hz => ?_⟩, fun hv => ?_⟩
        · obtain ⟨ad', had', hR'⟩ := hmf (i - 1) (by omega)
          have hti : ((i : Int) - 1).toNat = i - 1 := by omega
          have hp : prevM ms i = some (ms[i - 1]).day := by
            unfold prevM
            rw [if_neg (by omega), List.getElem?_eq_getElem (by omega)]
            rfl
          rw [hp, hv] at hok
          refine ⟨_, W.in64 (by omega), by omega, by omega, ?_⟩
          rw [hti]
          refine vat ad' had' ?_
          try simp only [go_sem, ↓reduceIte, Nat.reduceEqDiff, Nat.reduceAdd, Nat.reduceMul, Nat.reduceLeDiff, Nat.reduceLT, Nat.reduceBNe, reduceCtorEq]
          refine vload _ (hle3 _ _ (hle2 _ _ (hle1 _ _ (hR' 0 _ rfl)))) ?_
          simp only [go_sem, ↓reduceIte, Nat.reduceEqDiff, Nat.reduceAdd, Nat.reduceMul, Nat.reduceLeDiff, Nat.reduceLT, Nat.reduceBNe, reduceCtorEq, e33, e32, e31, e2, e7, e8]
          refine ⟨fun hge => ?_, fun hlt2 => ?_⟩
          · rw [hok, if_pos (.inr (by simp [ltO]; omega))]
            trivial
          · refine ⟨_, W.in64 (by omega), i + 1, by omega, by constructor, by omega, ?_⟩
            rw [hok, ← hnext]
            simp [ltO]; omega
        · obtain rfl : i = 0 := by omega
          refine ⟨_, W.in64 (by omega), 1, by omega, by constructor, by omega, ?_⟩
          rw [hok, ← hnext, hv]
          rfl
        · rw [hok, hv, if_pos (.inr rfl)]
          trivial
      · obtain rfl : i = ms.length := by omega
        rw [List.drop_length, movesOK_nil] at hok
        have hm2 : (Value.slice ma ms.length mcap).oneCell' = true := rfl
        refine vcall (eBegin ⟨.slice ra0 rn0 rc0, sm, sl, sz, sg, sf, .slice ma ms.length mcap⟩ (forceD o) _ R2 hsr hm2 (hu.mono hle2)) ?_
        rintro R3 v hle3 rfl
        simp only [go_sem, ↓reduceIte, Nat.reduceEqDiff, Nat.reduceAdd, Nat.reduceMul, Nat.reduceLeDiff, Nat.reduceLT, Nat.reduceBNe, reduceCtorEq, Se.cells, e33, e32, e31, e2, e7, e8]
        have hol := allD_len hall
        have hfl : (forceD o).length ≤ o.length := List.length_filter_le _ _
        have hle13 := RO.le_trans hle1 (RO.le_trans hle2 hle3)
        have hday : ∀ d ∈ forceD o, 0 ≤ d.day := fun d hd => validD_day (allD_valid hall d (List.mem_filter.1 hd).1)
        obtain ⟨hinc, hzero, hpl⟩ := partsD_days ⟨.slice ra0 rn0 rc0, sm, sl, sz, sg, sf, .slice ma ms.length mcap⟩ rl (forceD o) (endE (forceD o)) hday
        have hP := eParts ⟨.slice ra0 rn0 rc0, sm, sl, sz, sg, sf, .slice ma ms.length mcap⟩ rl (forceD o) _ (endE (forceD o)) R3 (hr.mono hle13) hm2 (hu.mono (RO.le_trans hle2 hle3)) (by omega)
        have hM := eMoves ⟨.slice ra0 rn0 rc0, sm, sl, sz, sg, sf, .slice ma ms.length mcap⟩ ms (forceD o) (.slice a (forceD o).length cap) (endE (forceD o))
        obtain ⟨pd, hpd⟩ : ∃ pd, pd = partsD ⟨.slice ra0 rn0 rc0, sm, sl, sz, sg, sf, .slice ma ms.length mcap⟩ rl (forceD o) (endE (forceD o)) := ⟨_, rfl⟩
        rw [← hpd] at hinc hzero hpl hP
        refine vhand0 [] [.val (.agg #[.slice ra0 rn0 rc0, .int .i64 sm, .int .i64 sl, .string sz, .int .i64 sg, .int .i64 sf, .slice ma ms.length mcap, .slice a (forceD o).length cap, .int .i64 (endE (forceD o))])] [] hP rfl rfl rfl trivial (by simp) rfl rfl ?_
        rintro R4 bs r hle4 ⟨ps, hne, hpo, hps, j, rfl, hbj⟩ _
        have hpsl : ps.length = pd.length := by rw [← hps]; simp
        have hjl : j < bs.length := (List.getElem?_eq_some_iff.1 hbj).1
        have hrj : ren ([] ++ List.range' 2 (bs.length - 0)) (.sl j ps.length) = .sl (2 + j) ps.length := by
          simp [ren, rn, hjl]
        obtain ⟨bs', hbs'⟩ : ∃ bs', bs' = bs.map (renB ([] ++ List.range' 2 (bs.length - 0))) := ⟨_, rfl⟩
        have hb'j : bs'[j]? = some (.row 57 8 (rowPp ps)) := by
          rw [hbs', List.getElem?_map, hbj]; rfl
        simp only [go_sem, ↓reduceIte, Nat.reduceEqDiff, Nat.reduceAdd, Nat.reduceMul, Nat.reduceLeDiff, Nat.reduceLT, Nat.reduceBNe, reduceCtorEq, setG_nil, hrj]
        rw [List.nil_append] at hbs'
        rw [← hbs']
        refine ⟨fun h => by omega, fun _ => ?_⟩
        refine vcall (hM R4 rfl (hm0.mono (RO.le_trans hle13 hle4)) (hu.mono (RO.le_trans hle2 (RO.le_trans hle3 hle4))) (by omega)) ?_
        rintro R5 v hle5 ⟨ys, hys, hperm, hpw⟩
        obtain ⟨ya, ycap, rfl, hyc, hyf⟩ := hys.form
        try simp only [go_sem, ↓reduceIte, Nat.reduceEqDiff, Nat.reduceAdd, Nat.reduceMul, Nat.reduceLeDiff, Nat.reduceLT, Nat.reduceBNe, reduceCtorEq]
        obtain ⟨days, hdays⟩ : ∃ days, days = pd.map (·.1) := ⟨_, rfl⟩
        rw [← hdays] at hinc hzero
        have hdl : days.length = pd.length := by rw [hdays]; simp
        have hyl : ys.length ≤ 63 := by
          have h1 := hperm.length_eq
          have h2 : (movesD ms (forceD o) (endE (forceD o))).length ≤ (forceD o).length + ms.length := by
            unfold movesD
            rw [List.length_append, List.length_map]
            exact Nat.add_le_add (List.length_filter_le _ _) (List.length_filter_le _ _)
          omega
        have hyday : ∀ m ∈ ys, 0 ≤ m.day := fun m hm => movesD_day (movesOK_all hok) (fun d hd => allD_valid hall d (List.mem_filter.1 hd).1) m (hperm.mem_iff.1 hm)
        refine vcLoopR (Nat × List Pq × Nat × Nat × Nat × List Mv) (fun x => [(69, .val (.int .i64 x.1)), (68, .val (.int .i64 ys.length)), (67, .val (.slice ya ys.length ycap)), (13, .sl 0 pd.length), (8, .val (.slice wa (recsD o).length wcap))])
          (fun x => [.row 57 8 (rowPq x.2.1), shrM x.2.2.2.1 x.2.2.2.2.1 x.2.2.2.2.2])
          (fun x R => x.1 ≤ ys.length ∧ x.2.1.length = pd.length ∧ x.2.2.1 < pd.length ∧
            (∀ (i : Nat) (p : Pq), x.2.1[i]? = some p → pd[i]? = some (p.1.day, p.1.ti) ∧ p.1.moves = (ys.take x.1).filter (fun m => decide (partAt days m.day = i)) ∧ Pq.OK R p ∧ (x.2.2.1 < i → p.2.2 = .slice none 0 0)) ∧
            (∀ p : Pq, x.2.1[x.2.2.1]? = some p → p.1.moves = x.2.2.2.2.2 ∧ (x.2.2.2.2.2 = [] → p.2.2 = .slice none 0 0) ∧ (x.2.2.2.2.2 ≠ [] → p.2.2 = .slice (some ⟨x.2.2.2.1, 0, none⟩) x.2.2.2.2.2.length x.2.2.2.2.1)) ∧
            (∀ (j : Nat) (h : j < ys.length), x.1 ≤ j → ∀ d, days[x.2.2.1]? = some d → d ≤ (ys[j]).day)) (fun x => ys.length - x.1)
          (0, ps.map (fun p => (⟨p.1, p.2.1, []⟩, p.2.2, .slice none 0 0)), 0, 0, 0, []) [2 + j, 0] ?_ ?_ ?_ ?_
        · (try simp only [go_sem, ↓reduceIte, Nat.reduceEqDiff, Nat.reduceAdd, Nat.reduceMul, Nat.reduceLeDiff, Nat.reduceLT, Nat.reduceBNe, reduceCtorEq]) <;> (repeat' (first | rfl | trivial | constructor | (intro h; exact absurd rfl h)))
          · simp [hjl, hpsl]
          · rw [show (2 : Nat) + j = j + 1 + 1 by omega, List.getElem?_cons_succ, List.getElem?_cons_succ, hb'j]
            unfold rowPp rowPq
            rw [List.map_map]
            rfl
        · try simp only [go_sem, ↓reduceIte, Nat.reduceEqDiff, Nat.reduceAdd, Nat.reduceMul, Nat.reduceLeDiff, Nat.reduceLT, Nat.reduceBNe, reduceCtorEq]
          simp [rnInj, rn, List.range_succ]
          omega
        · dsimp only
          have hpl0 : pd ≠ [] := by
            obtain ⟨r, hz⟩ := hzero
            intro e
            rw [hdays, e] at hz; simp at hz
          refine ⟨Nat.zero_le _, by simp [hpsl], List.length_pos_iff.2 hpl0, fun i p hp => ?_, fun p hp => ?_, fun j h _ d hd => ?_⟩
          · rw [List.getElem?_map] at hp
            obtain ⟨q, hq, rfl⟩ := Option.map_eq_some_iff.1 hp
            refine ⟨?_, by simp, ⟨(hpo q (List.mem_of_getElem? hq)).mono hle5, EncV.nil _ _ _⟩, fun _ => rfl⟩
            rw [← hps, List.getElem?_map, hq]; rfl
          · rw [List.getElem?_map] at hp
            obtain ⟨q, hq, rfl⟩ := Option.map_eq_some_iff.1 hp
            exact ⟨rfl, fun _ => rfl, fun h => absurd rfl h⟩
          · obtain ⟨r, hz⟩ := hzero
            rw [hz] at hd
            simp only [List.getElem?_cons_zero, Option.some.injEq] at hd
            have := hyday _ (List.getElem_mem h)
            omega
        rintro ⟨k, pqs, c, b, cap2, cur⟩ env R6 hle6 hE ⟨hk, hpl2, hc, hparts, hcur, hrest⟩
        (simp only [go_sem] at hE; obtain ⟨e69, e68, e67, e13, e8⟩ := hE; simp only [go_sem, ↓reduceIte, Nat.reduceEqDiff, Nat.reduceAdd, Nat.reduceMul, Nat.reduceLeDiff, Nat.reduceLT, Nat.reduceBNe, reduceCtorEq, e69, e68, e67, e13, e8]; dsimp only at *)
        refine ⟨fun hlt => ⟨hlt, ?_⟩, fun hge => ?_⟩
        · have hlt' : k < ys.length := by omega
          obtain ⟨ad, had, hR⟩ := hyf k hlt'
          obtain ⟨m, hm⟩ : ∃ m, m = ys[k] := ⟨_, rfl⟩
          rw [← hm] at hR
          refine vat ad had ?_
          try simp only [go_sem, ↓reduceIte, Nat.reduceEqDiff, Nat.reduceAdd, Nat.reduceMul, Nat.reduceLeDiff, Nat.reduceLT, Nat.reduceBNe, reduceCtorEq]
          refine vloadn m.cells rfl (fun j u hj => hle6 _ _ (hR j u hj)) ?_
          simp only [go_sem, ↓reduceIte, Nat.reduceEqDiff, Nat.reduceAdd, Nat.reduceMul, Nat.reduceLeDiff, Nat.reduceLT, Nat.reduceBNe, reduceCtorEq, Mv.cells, e69, e68, e67, e13, e8]
          refine ⟨_, W.in64 (by omega), ?_⟩
          refine vcLoop Nat (fun i => [(16, .val (.int .i64 i)), (15, .loc 2 0), (13, .sl 0 pd.length), (69, .val (.int .i64 k)), (68, .val (.int .i64 ys.length)), (67, .val (.slice ya ys.length ycap)), (8, .val (.slice wa (recsD o).length wcap))])
            (fun _ => [.row 57 8 (rowPq pqs), shrM b cap2 cur, .box [.val (.int .i64 m.day), .val (.bool m.drop), .val (.int .i64 m.toDay), .val (.int .i64 m.minute), .val (.int .i64 m.length)]])
            (fun i _ => i < pd.length ∧ ∀ j, (hj : j < days.length) → i < j → m.day < days[j]) (fun i => i) (pd.length - 1) ?_ ?_ ?_ ?_
          · (try simp only [go_sem, ↓reduceIte, Nat.reduceEqDiff, Nat.reduceAdd, Nat.reduceMul, Nat.reduceLeDiff, Nat.reduceLT, Nat.reduceBNe, reduceCtorEq]) <;> (repeat' (first | rfl | trivial | constructor | (intro h; exact absurd rfl h)))
            congr 2; omega
          · try simp only [go_sem, ↓reduceIte, Nat.reduceEqDiff, Nat.reduceAdd, Nat.reduceMul, Nat.reduceLeDiff, Nat.reduceLT, Nat.reduceBNe, reduceCtorEq]
          · exact ⟨by omega, fun j hj hij => by omega⟩
          rintro i env R7 hle7 hE ⟨hi, hnot⟩
          (simp only [go_sem] at hE; obtain ⟨e16, e15, e13', e69', e68', e67', e8'⟩ := hE; simp only [go_sem, ↓reduceIte, Nat.reduceEqDiff, Nat.reduceAdd, Nat.reduceMul, Nat.reduceLeDiff, Nat.reduceLT, Nat.reduceBNe, reduceCtorEq, e16, e15, e13', e69', e68', e67', e8']; dsimp only at *)
          have hil : i < pqs.length := by omega
          obtain ⟨p, hp⟩ : ∃ p, p = pqs[i] := ⟨_, rfl⟩
          obtain ⟨hq1, hq2, hq3, hq4⟩ := hparts i p (by rw [hp]; exact List.getElem?_eq_getElem hil)
          have hcell : ∀ j, j < 8 → (rowPq pqs)[i * 8 + j]? = p.cells[j]? := fun j hj => by rw [rowPq_get pqs i j hil hj, hp]
          have hdi : days[i]? = some p.1.day := by rw [hdays, List.getElem?_map, hq1]; rfl
          try simp only [go_sem, ↓reduceIte, Nat.reduceEqDiff, Nat.reduceAdd, Nat.reduceMul, Nat.reduceLeDiff, Nat.reduceLT, Nat.reduceBNe, reduceCtorEq]
          have hc0 := hcell 0 (by omega)
          rw [Nat.add_zero] at hc0
          refine ⟨by omega, _, hc0.trans rfl, ?_⟩
          try simp only [go_sem, ↓reduceIte, Nat.reduceEqDiff, Nat.reduceAdd, Nat.reduceMul, Nat.reduceLeDiff, Nat.reduceLT, Nat.reduceBNe, reduceCtorEq]
          refine ⟨fun hgt => ?_, fun hle => ?_⟩
          · have hi0 : i ≠ 0 := by
              rintro rfl
              obtain ⟨r, hz⟩ := hzero
              rw [hz] at hdi
              simp only [List.getElem?_cons_zero, Option.some.injEq] at hdi
              have := hyday m (by rw [hm]; exact List.getElem_mem hlt')
              omega
            simp only [go_sem, ↓reduceIte, Nat.reduceEqDiff, Nat.reduceAdd, Nat.reduceMul, Nat.reduceLeDiff, Nat.reduceLT, Nat.reduceBNe, reduceCtorEq, e16, e15, e13', e69', e68', e67', e8']
            refine ⟨_, W.in64 (by omega), i - 1, by omega, ?_, by omega, fun j hj hij => ?_⟩
            · congr 2; omega
            · by_cases hji : j = i
              · subst hji
                have := (List.getElem?_eq_some_iff.1 hdi).2
                omega
              · exact hnot j hj (by omega)
          · have hpart : partAt days m.day = i := partAt_eq hinc (by omega) m.day (by have := (List.getElem?_eq_some_iff.1 hdi).2; omega) (fun j hj hij => hnot j hj hij)
            have hci : c ≤ i := by
              rcases Nat.lt_or_ge i c with h | h
              · have h1 := hnot c (by omega) h
                have h2 := hrest k hlt' (Nat.le_refl _) _ (List.getElem?_eq_getElem (by omega : c < days.length))
                rw [← hm] at h2
                omega
              · exact h
            have hmv : (p.2.2 = .slice none 0 0 ∧ p.1.moves = []) ∨ (c = i ∧ cur ≠ [] ∧ p.2.2 = .slice (some ⟨b, 0, none⟩) cur.length cap2 ∧ p.1.moves = cur) := by
              rcases Nat.lt_or_ge c i with h | h
              · have h1 := hq4 h
                have h2 := hq3.2
                rw [h1] at h2
                exact .inl ⟨h1, EncV.len0 h2⟩
              · have hce : c = i := by omega
                subst hce
                obtain ⟨g1, g2, g3⟩ := hcur p (by rw [hp]; exact List.getElem?_eq_getElem hil)
                by_cases hn : cur = []
                · exact .inl ⟨g2 hn, by rw [g1, hn]⟩
                · exact .inr ⟨rfl, hn, g3 hn, g1⟩
            obtain ⟨pa, prv, pmv⟩ := p
            dsimp only at hmv hq1 hq2 hq3 hq4 hdi hle
            simp only [go_sem, ↓reduceIte, Nat.reduceEqDiff, Nat.reduceAdd, Nat.reduceMul, Nat.reduceLeDiff, Nat.reduceLT, Nat.reduceBNe, reduceCtorEq, e16, e15, e13', e69', e68', e67', e8']
            refine ⟨by omega, _, (hcell 7 (by omega)).trans rfl, ?_⟩
            simp only [go_sem, ↓reduceIte, Nat.reduceEqDiff, Nat.reduceAdd, Nat.reduceMul, Nat.reduceLeDiff, Nat.reduceLT, Nat.reduceBNe, reduceCtorEq, e16, e15, e13', e69', e68', e67', e8']
            have hnew : ∀ (R8 : RO) (nv : Value), RO.le R6 R8 → EncV Mv.cells 5 R8 nv (pa.moves ++ [m]) → ∀ (i' : Nat) (p' : Pq), (pqs.set i (⟨pqs[i].1.day, pqs[i].1.ti, pa.moves ++ [m]⟩, pqs[i].2.1, nv))[i']? = some p' →
                pd[i']? = some (p'.1.day, p'.1.ti) ∧ p'.1.moves = (ys.take (k + 1)).filter (fun m => decide (partAt days m.day = i')) ∧ Pq.OK R8 p' ∧ (i < i' → p'.2.2 = .slice none 0 0) := by
              intro R8 nv hle8 hE i' p' hp'
              have hflt := filter_snoc (fun m => decide (partAt days m.day = i')) ys k hlt'
              rw [← hm] at hflt
              rw [List.getElem?_set] at hp'
              split at hp'
              · rename_i hii
                subst hii
                simp only [Option.some.injEq] at hp'
                subst hp'
                rw [← hp]
                refine ⟨hq1, ?_, ⟨hq3.1.mono hle8, hE⟩, fun h => by omega⟩
                rw [hflt, if_pos (by simpa using hpart), ← hq2]
              · rename_i hii
                obtain ⟨g1, g2, g3, g4⟩ := hparts i' p' hp'
                refine ⟨g1, ?_, ⟨g3.1.mono hle8, g3.2.mono hle8⟩, fun h => g4 (by omega)⟩
                rw [hflt, if_neg (by simp only [decide_eq_true_eq]; omega), List.append_nil, ← g2]
            have hrest' : ∀ (j : Nat) (h : j < ys.length), k + 1 ≤ j → ∀ d, days[i]? = some d → d ≤ (ys[j]).day := fun j h hkj d hd => by
              rw [hdi] at hd
              simp only [Option.some.injEq] at hd
              have h1 := (List.pairwise_iff_getElem.1 hpw) k j hlt' h (by omega)
              rw [← hm] at h1
              omega
            have hself : ∀ nv : Value, ∀ p' : Pq, (pqs.set i (⟨pqs[i].1.day, pqs[i].1.ti, pa.moves ++ [m]⟩, pqs[i].2.1, nv))[i]? = some p' → p'.1.moves = pa.moves ++ [m] ∧ p'.2.2 = nv := fun nv p' hp' => by
              rw [List.getElem?_set, if_pos rfl, if_pos hil] at hp'
              simp only [Option.some.injEq] at hp'
              subst hp'
              exact ⟨rfl, rfl⟩
            have hset := rowPq_set pqs i hil (pa.moves ++ [m])
            have hrl := rowPq_len pqs
            rcases hmv with ⟨rfl, hmn⟩ | ⟨rfl, hcn, rfl, hmc⟩
            · try simp only [go_sem, ↓reduceIte, Nat.reduceEqDiff, Nat.reduceAdd, Nat.reduceMul, Nat.reduceLeDiff, Nat.reduceLT, Nat.reduceBNe, reduceCtorEq]
              refine ⟨fun h => by simp at h, fun _ => ?_⟩
              simp only [go_sem, ↓reduceIte, Nat.reduceEqDiff, Nat.reduceAdd, Nat.reduceMul, Nat.reduceLeDiff, Nat.reduceLT, Nat.reduceBNe, reduceCtorEq, e16, e15, e13', e69', e68', e67', e8']
              refine ⟨by omega, ?_⟩
              intro b1 cap1 R8 hle8 hrow hcap8 hfr
              have hE : EncV Mv.cells 5 R8 (.slice (some ⟨b1, 0, none⟩) 1 cap1) [m] := RowIn.enc (enc := Mv.cells) (k := 5) (xs := [m]) (fun _ => rfl) (by omega) hrow hcap8 (by simp)
              rw [hmn, List.nil_append] at hnew hself hset
              refine ⟨by omega, _, W.in64 (by omega), (k + 1, pqs.set i (⟨pqs[i].1.day, pqs[i].1.ti, [m]⟩, pqs[i].2.1, .slice (some ⟨b1, 0, none⟩) 1 cap1), i, b1, cap1, [m]), [0, 4], ?_⟩
              try simp only [go_sem, ↓reduceIte, Nat.reduceEqDiff, Nat.reduceAdd, Nat.reduceMul, Nat.reduceLeDiff, Nat.reduceLT, Nat.reduceBNe, reduceCtorEq]
              refine ⟨by omega, ⟨rfl, hset _, rfl⟩, by decide, by omega, hpl2, hi, hnew R8 _ (RO.le_trans hle7 hle8) hE, hself _, hrest'⟩
            · have hcl : cur.length ≤ k := by
                rw [← hmc, hq2]
                exact Nat.le_trans (List.length_filter_le _ _) (by rw [List.length_take]; omega)
              try simp only [go_sem, ↓reduceIte, Nat.reduceEqDiff, Nat.reduceAdd, Nat.reduceMul, Nat.reduceLeDiff, Nat.reduceLT, Nat.reduceBNe, reduceCtorEq]
              refine ⟨fun h => by omega, fun _ => ?_⟩
              simp only [go_sem, ↓reduceIte, Nat.reduceEqDiff, Nat.reduceAdd, Nat.reduceMul, Nat.reduceLeDiff, Nat.reduceLT, Nat.reduceBNe, reduceCtorEq, e16, e15, e13', e69', e68', e67', e8']
              obtain ⟨n, hn⟩ : ∃ n, cur.length = n + 1 := ⟨cur.length - 1, by have := List.length_pos_iff.2 hcn; omega⟩
              rw [hn]
              try simp only [go_sem, ↓reduceIte, Nat.reduceEqDiff, Nat.reduceAdd, Nat.reduceMul, Nat.reduceLeDiff, Nat.reduceLT, Nat.reduceBNe, reduceCtorEq]
              refine vapp 1 (rowM cur) (by rw [shrM_ne hcn]; rfl) rfl rfl (by rw [rowM_len, hn]) (by omega) ?_
              intro b' cap' R8 hle8 hrow hcap8
              simp only [go_sem, ↓reduceIte, Nat.reduceEqDiff, Nat.reduceAdd, Nat.reduceMul, Nat.reduceLeDiff, Nat.reduceLT, Nat.reduceBNe, reduceCtorEq, e16, e15, e13', e69', e68', e67', e8']
              have hE : EncV Mv.cells 5 R8 (.slice (some ⟨b', 0, none⟩) (n + 1 + 1) cap') (cur ++ [m]) := by
                have h1 := RowIn.enc (enc := Mv.cells) (k := 5) (xs := cur ++ [m]) (R := R8) (b := b') (cap := cap') (fun _ => rfl) (by omega) (by have := rowM_snoc cur m; unfold rowM at this; rw [this]; exact hrow) (by have := rowM_snoc cur m; unfold rowM at this; rw [this]; exact hcap8) (by simp; omega)
                rw [List.length_append, hn] at h1
                exact h1
              rw [hmc] at hnew hself hset
              refine ⟨by omega, by omega, _, W.in64 (by omega), (k + 1, pqs.set c (⟨pqs[c].1.day, pqs[c].1.ti, cur ++ [m]⟩, pqs[c].2.1, .slice (some ⟨b', 0, none⟩) (n + 1 + 1) cap'), c, b', cap', cur ++ [m]), [0, 1], ?_⟩
              try simp only [go_sem, ↓reduceIte, Nat.reduceEqDiff, Nat.reduceAdd, Nat.reduceMul, Nat.reduceLeDiff, Nat.reduceLT, Nat.reduceBNe, reduceCtorEq]
              refine ⟨by omega, ⟨rfl, hset _, fun h => by rw [shrM_ne h, rowM_snoc]; rfl⟩, by decide, by omega, hpl2, hi, hnew R8 _ (RO.le_trans hle7 hle8) hE, fun p hp => ⟨(hself _ p hp).1, by simp, fun _ => ?_⟩, hrest'⟩
              rw [(hself _ p hp).2]
              simp [hn]
        · obtain rfl : k = ys.length := by omega
          rw [List.take_length] at hparts
          intro b1 cap1 R7 hle7 hrow hcap hfr
          rw [if_neg (by simp [hok]; omega)]
          have hye : ys = sortM (movesD ms (forceD o) (endE (forceD o))) := sortM_eq (movesD_ne (allD_sorted hall) (allD_valid hall) hok) hperm hpw
          have hsl := RowIn.slK hrow (rowPq_cl pqs) (by omega) hcap
          rw [List.length_map, hpl2] at hsl
          have hml : (mergeP ⟨.slice ra0 rn0 rc0, sm, sl, sz, sg, sf, .slice ma ms.length mcap⟩ rl ms o).length = pd.length := by
            unfold mergeP placeD
            rw [List.length_mapIdx, ← hpd]
          refine ⟨_, _, rfl, ⟨_, hsl, by rw [List.length_map, hml, hpl2], fun i q pa hq hpa => ?_, by rw [hml]; omega⟩, hw.mono (RO.le_trans hle2 (RO.le_trans hle3 (RO.le_trans hle4 (RO.le_trans hle5 (RO.le_trans hle6 hle7)))))⟩
          rw [List.getElem?_map] at hq
          obtain ⟨p, hp, rfl⟩ := Option.map_eq_some_iff.1 hq
          obtain ⟨g1, g2, g3, _⟩ := hparts i p hp
          unfold mergeP placeD at hpa
          rw [List.getElem?_mapIdx, ← hpd, g1, ← hdays, ← hye] at hpa
          simp only [Option.map_some, Option.some.injEq] at hpa
          subst hpa
          refine ⟨p.2.1, p.2.2, rfl, g3.1.mono hle7, ?_⟩
          dsimp only
          rw [← g2]
          exact g3.2.mono hle7
end Go.Proofs.Ytpnhiknfcpkfbaa
