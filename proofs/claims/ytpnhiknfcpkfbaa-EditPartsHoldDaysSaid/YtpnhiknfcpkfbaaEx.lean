import Derived.Test.YtpnhiknfcpkfbaaEw
namespace Go.Proofs.Ytpnhiknfcpkfbaa
set_option linter.unusedSimpArgs false
set_option linter.unusedVariables false
open Go.Proofs.Ytpnhiknfcpkfbaa.Vc
def isRuleTo (day : Int) (d : De) : Bool := decide (d.kind = 3) && decide (d.day ≤ day)
theorem eRuleF (b : De) (cb : List Value) (ad : Addr) (day : Int) (R : RO) (ha : R ad (.int .i64 day)) (hb : EdV R cb b) : CallsR Try.prog 52 [.agg cb.toArray, .pointer (some ad)] R fun _ r => r = .bool (isRuleTo day b) := by
  obtain ⟨ra, rn, rc, rfl, _⟩ := hb.form
  simp only [Ed.cells, De.ed] at *
  refine callsT mix Try.func52 comp52 (by simp [Try.ntmps52]) ?_; simp only [go_sem, ↓reduceIte, Nat.reduceEqDiff, Nat.reduceAdd, Nat.reduceMul, Nat.reduceLeDiff, Nat.reduceLT, Nat.reduceBNe, reduceCtorEq, vc52, rs52]
  unfold isRuleTo
  refine ⟨fun h3 => ?_, fun h3 => ?_⟩
  · refine vload _ ha ?_
    try simp only [go_sem, ↓reduceIte, Nat.reduceEqDiff, Nat.reduceAdd, Nat.reduceMul, Nat.reduceLeDiff, Nat.reduceLT, Nat.reduceBNe, reduceCtorEq]
    simp [h3]
  · simp [h3]
theorem idxE_any (p : De → Bool) (l : List De) : decide (0 ≤ idxE p 0 l) = l.any p := by
  cases h : l.any p with
  | false => rw [idxE_neg h]; rfl
  | true =>
    cases hf : l.find? p with
    | none => rw [List.find?_eq_none] at hf; rw [List.any_eq_true] at h; obtain ⟨x, hx, hx'⟩ := h; exact absurd hx' (hf x hx)
    | some b => obtain ⟨j, hj, _⟩ := idxE_pos (i := 0) hf; rw [hj]; simp
theorem eContainsFunc (g : FuncId) (caps : List Value) (hb : hasBody Try.prog g = true) (p : De → Bool) (ds : List De) (v : Value) (R : RO) (h : EdsV R v ds)
    (hcl : ∀ d cs R', RO.le R R' → EdV R' cs d → CallsR Try.prog g (.agg cs.toArray :: caps) R' fun _ r => r = .bool (p d)) : CallsR Try.prog 51 [v, .func (.func g) #[] caps.toArray] R fun _ r => r = .bool (ds.any p) := by
  have hI := eIndexFunc g caps hb p ds v R h hcl
  obtain ⟨a, cap, rfl, hc, _⟩ := h.form
  refine callsT mix Try.func51 comp51 (by simp [Try.ntmps51]) ?_; simp only [go_sem, ↓reduceIte, Nat.reduceEqDiff, Nat.reduceAdd, Nat.reduceMul, Nat.reduceLeDiff, Nat.reduceLT, Nat.reduceBNe, reduceCtorEq, vc51, rs51]
  refine vcall hI ?_
  rintro R1 w hle rfl
  try simp only [go_sem, ↓reduceIte, Nat.reduceEqDiff, Nat.reduceAdd, Nat.reduceMul, Nat.reduceLeDiff, Nat.reduceLT, Nat.reduceBNe, reduceCtorEq]
  rw [← idxE_any]
theorem hbRuleF : hasBody Try.prog 52 = true := by kernel_rfl
theorem eRulesF (ds : List De) (v : Value) (ad : Addr) (day : Int) (R : RO) (ha : R (ad.add 7) v) (h : EdsV R v ds) : CallsR Try.prog 50 [.int .i64 day, .pointer (some ad)] R fun _ r => r = .bool (ds.any (isRuleTo day)) := by
  have h' := h
  obtain ⟨a, cap, rfl, hc, _⟩ := h.form
  refine callsT mix Try.func50 comp50 (by simp [Try.ntmps50]) ?_; simp only [go_sem, ↓reduceIte, Nat.reduceEqDiff, Nat.reduceAdd, Nat.reduceMul, Nat.reduceLeDiff, Nat.reduceLT, Nat.reduceBNe, reduceCtorEq, vc50, rs50]
  refine vload _ ha ?_
  try simp only [go_sem, ↓reduceIte, Nat.reduceEqDiff, Nat.reduceAdd, Nat.reduceMul, Nat.reduceLeDiff, Nat.reduceLT, Nat.reduceBNe, reduceCtorEq]
  refine vlend ?_
  intro β κ R3 hL
  have hbox := hL.2 0 _ rfl
  refine ⟨_, eContainsFunc 52 [.pointer (some ⟨β 0, 0, none⟩)] hbRuleF (isRuleTo day) ds _ R3 (h'.mono hL.1) ?_, ?_⟩
  · intro d cs R4 hle4 hd
    exact eRuleF d cs ⟨β 0, 0, none⟩ day R4 (hle4 _ _ (hbox 0 _ rfl)) hd
  rintro R4 v R5 hle4 rfl hle5 _
  try simp only [go_sem, ↓reduceIte, Nat.reduceEqDiff, Nat.reduceAdd, Nat.reduceMul, Nat.reduceLeDiff, Nat.reduceLT, Nat.reduceBNe, reduceCtorEq]
def isMove (d : De) : Bool := decide (d.kind = 1)
def isMoveOn (day : Int) (d : De) : Bool := decide (d.kind = 1) && decide (d.day = day)
/-- The moves in force, unsorted. -/
def movesD (ms : List Mv) (ds : List De) (e : Int) : List Mv :=
  (ds.filter isMove).map (·.mv) ++ ms.filter fun m => decide (m.day < e) && (!(ds.any (isMoveOn m.day)) && !(ds.any (isRuleTo m.day)))
theorem hbRulesF : hasBody Try.prog 50 = true := by kernel_rfl
def edMap (ds : List De) : Int → Option Value := fun k => if ds.any (isMoveOn k) = true then some (.bool true) else none
theorem eMoves (s : Se) (ms : List Mv) (ds : List De) (v : Value) (e : Int) (R : RO) (hr : s.rule.oneCell' = true) (hm : EncV Mv.cells 5 R s.moves ms) (h : EdsV R v ds) (hsz : ms.length + ds.length ≤ 1000000000) : CallsR Try.prog 37 [.agg (s.cells ++ [v, .int .i64 e]).toArray] R fun R' u =>
    ∃ ys : List Mv, EncV Mv.cells 5 R' u ys ∧ ys.Perm (movesD ms ds e) ∧ ys.Pairwise fun x y => x.day ≤ y.day := by
  have hdl : ds.length ≤ 1000000000 := by obtain ⟨_, _, _, _, h⟩ := h; exact h
  have hml := hm.2
  have h0 := h
  obtain ⟨a, cap, rfl, hc, hf⟩ := h.form
  obtain ⟨sr, sm, sl, sz, sg, sf, smv⟩ := s
  dsimp only at hr hm
  obtain ⟨ma, mcap, rfl, hmc, hmf⟩ := hm.form
  simp only [Se.cells, List.cons_append, List.nil_append]
  refine callsT mix Try.func37 comp37 (by simp [Try.ntmps37]) ?_; simp only [go_sem, ↓reduceIte, Nat.reduceEqDiff, Nat.reduceAdd, Nat.reduceMul, Nat.reduceLeDiff, Nat.reduceLT, Nat.reduceBNe, reduceCtorEq, vc37, rs37]
  refine vcLoopR (Nat × List MapEntry × Nat × List Mv) (fun x => [(15, .val (.int .i64 x.1)), (14, .val (.int .i64 ds.length)), (13, .val (.slice a ds.length cap)), (1, .loc 0 0), (3, .fn 50 [.l 0 0]), (4, .mp 1), (5, gs 2 x.2.2.2.length)])
    (fun x => [.box [.val sr, .val (.int .i64 sm), .val (.int .i64 sl), .val (.string sz), .val (.int .i64 sg), .val (.int .i64 sf), .val (.slice ma ms.length mcap), .val (.slice a ds.length cap), .val (.int .i64 e)], .mp x.2.1 x.2.2.1, gb 23 5 (rowM x.2.2.2)])
    (fun x R => x.1 ≤ ds.length ∧ MapOf (Value.int .i64) x.2.1 (edMap (ds.take x.1)) ∧ x.2.2.2 = ((ds.take x.1).filter isMove).map (·.mv) ∧ x.2.2.2.length ≤ x.1) (fun x => ds.length - x.1) (0, [], 0, []) [] ?_ ?_ ?_ ?_
  · (try simp only [go_sem, ↓reduceIte, Nat.reduceEqDiff, Nat.reduceAdd, Nat.reduceMul, Nat.reduceLeDiff, Nat.reduceLT, Nat.reduceBNe, reduceCtorEq]) <;> (repeat' (first | rfl | trivial | constructor | (intro h; exact absurd rfl h)))
  · try simp only [go_sem, ↓reduceIte, Nat.reduceEqDiff, Nat.reduceAdd, Nat.reduceMul, Nat.reduceLeDiff, Nat.reduceLT, Nat.reduceBNe, reduceCtorEq]
    rfl
  · exact ⟨Nat.zero_le _, MapOf.nil _, rfl, Nat.le_refl _⟩
  · rintro ⟨i, es, clock, os⟩ env R1 hle1 hE ⟨hi, hmap, hos, hol⟩
    (simp only [go_sem] at hE; obtain ⟨e15, e14, e13, e1, e3, e4, e5⟩ := hE; simp only [go_sem, ↓reduceIte, Nat.reduceEqDiff, Nat.reduceAdd, Nat.reduceMul, Nat.reduceLeDiff, Nat.reduceLT, Nat.reduceBNe, reduceCtorEq, e15, e14, e13, e1, e3, e4, e5]; dsimp only at *)
    refine ⟨fun hlt => ⟨hlt, ?_⟩, fun hge => ?_⟩
    · have hlt' : i < ds.length := by omega
      obtain ⟨ad, ra, rn, rc, had, hR, _⟩ := hf i hlt'
      obtain ⟨d, hd⟩ : ∃ d, d = ds[i] := ⟨_, rfl⟩
      rw [← hd] at hR
      refine vat ad had ?_
      try simp only [go_sem, ↓reduceIte, Nat.reduceEqDiff, Nat.reduceAdd, Nat.reduceMul, Nat.reduceLeDiff, Nat.reduceLT, Nat.reduceBNe, reduceCtorEq]
      refine vloadn (d.ed ra rn rc).cells rfl (fun j u hj => hle1 _ _ (hR j u hj)) ?_
      simp only [go_sem, ↓reduceIte, Nat.reduceEqDiff, Nat.reduceAdd, Nat.reduceMul, Nat.reduceLeDiff, Nat.reduceLT, Nat.reduceBNe, reduceCtorEq, Ed.cells, De.ed, e15, e14, e13, e1, e3, e4, e5]
      have hflt := filter_snoc isMove ds i hlt'
      have hany : ∀ k, (ds.take (i + 1)).any (isMoveOn k) = ((ds.take i).any (isMoveOn k) || isMoveOn k d) := fun k => by
        rw [List.take_succ_eq_append_getElem hlt', List.any_append, ← hd]; simp
      rw [← hd] at hflt
      refine ⟨fun hk => ?_, fun hk => ?_⟩
      · obtain ⟨r, es', clock', g1, g2, g3⟩ := MapOf.put none (Value.int .i64) mEq_int hmap d.day (.bool true) clock
        refine ⟨by rw [mEq_int]; simp, vmput es clock r rfl g1 ?_⟩
        rw [g2]
        simp only [go_sem, ↓reduceIte, Nat.reduceEqDiff, Nat.reduceAdd, Nat.reduceMul, Nat.reduceLeDiff, Nat.reduceLT, Nat.reduceBNe, reduceCtorEq, e15, e14, e13, e1, e3, e4, e5]
        refine vgrow (rowM os) (fun h0 => by rw [gb_ne h0]; rfl) (fun h0 => by rw [h0, gb_nil]; rfl) (by rw [rowM_len]) (by omega) (by omega) (by omega) ?_
        simp only [go_sem, ↓reduceIte, Nat.reduceEqDiff, Nat.reduceAdd, Nat.reduceMul, Nat.reduceLeDiff, Nat.reduceLT, Nat.reduceBNe, reduceCtorEq, e15, e14, e13, e1, e3, e4, e5]
        refine ⟨_, W.in64 (by omega), (i + 1, es', clock', os ++ [d.mv]), [0, 1, 5], ?_⟩
        try simp only [go_sem, ↓reduceIte, Nat.reduceEqDiff, Nat.reduceAdd, Nat.reduceMul, Nat.reduceLeDiff, Nat.reduceLT, Nat.reduceBNe, reduceCtorEq]
        refine ⟨by omega, ⟨⟨rfl, rfl⟩, fun _ => by rw [rowM_snoc]; rfl⟩, ⟨rfl, by decide⟩, by omega, ?_, by rw [hflt, if_pos (by simp [isMove, hk]), List.map_append, ← hos]; rfl, by omega⟩
        have : edMap (ds.take (i + 1)) = fun k' => if k' = d.day then some (.bool true) else edMap (ds.take i) k' := by
          funext k
          unfold edMap
          rw [hany]
          by_cases hkd : k = d.day
          · subst hkd; simp [isMoveOn, hk]
          · have : isMoveOn k d = false := by simp [isMoveOn, Ne.symm hkd]
            rw [this, Bool.or_false, if_neg hkd]
        rw [this]
        exact g3
      · refine ⟨_, W.in64 (by omega), (i + 1, es, clock, os), [], ?_⟩
        try simp only [go_sem, ↓reduceIte, Nat.reduceEqDiff, Nat.reduceAdd, Nat.reduceMul, Nat.reduceLeDiff, Nat.reduceLT, Nat.reduceBNe, reduceCtorEq]
        refine ⟨by omega, ⟨rfl, fun h => gb_ne h⟩, ⟨rfl, by decide⟩, by omega, ?_, by rw [hflt, if_neg (by simp [isMove, hk]), List.append_nil, ← hos], by omega⟩
        have : edMap (ds.take (i + 1)) = edMap (ds.take i) := by
          funext k
          unfold edMap
          rw [hany]
          have : isMoveOn k d = false := by simp [isMoveOn, hk]
          rw [this, Bool.or_false]
        rw [this]
        exact hmap
    · obtain rfl : i = ds.length := by omega
      rw [List.take_length] at hmap hos
      refine vcLoopR (Nat × List Mv) (fun x => [(35, .val (.int .i64 x.1)), (34, .val (.int .i64 ms.length)), (33, .val (.slice ma ms.length mcap)), (1, .loc 0 0), (3, .fn 50 [.l 0 0]), (4, .mp 1), (5, gs 2 x.2.length)])
        (fun x => [.box [.val sr, .val (.int .i64 sm), .val (.int .i64 sl), .val (.string sz), .val (.int .i64 sg), .val (.int .i64 sf), .val (.slice ma ms.length mcap), .val (.slice a ds.length cap), .val (.int .i64 e)], .mp es clock, gb 23 5 (rowM x.2)])
        (fun x R => x.1 ≤ ms.length ∧ x.2 = os ++ (ms.take x.1).filter (fun m => decide (m.day < e) && (!(ds.any (isMoveOn m.day)) && !(ds.any (isRuleTo m.day)))) ∧ x.2.length ≤ os.length + x.1) (fun x => ms.length - x.1) (0, os) [] ?_ ?_ ?_ ?_
      · (try simp only [go_sem, ↓reduceIte, Nat.reduceEqDiff, Nat.reduceAdd, Nat.reduceMul, Nat.reduceLeDiff, Nat.reduceLT, Nat.reduceBNe, reduceCtorEq]) <;> (repeat' (first | rfl | trivial | constructor | (intro h; exact absurd rfl h)))
        exact fun h => gb_ne h
      · try simp only [go_sem, ↓reduceIte, Nat.reduceEqDiff, Nat.reduceAdd, Nat.reduceMul, Nat.reduceLeDiff, Nat.reduceLT, Nat.reduceBNe, reduceCtorEq]
        rfl
      · exact ⟨Nat.zero_le _, by simp, Nat.le_refl _⟩
      · rintro ⟨i, qs⟩ env R2 hle2 hE ⟨hi2, hqs, hql⟩
        (simp only [go_sem] at hE; obtain ⟨e35, e34, e33, e1, e3, e4, e5⟩ := hE; simp only [go_sem, ↓reduceIte, Nat.reduceEqDiff, Nat.reduceAdd, Nat.reduceMul, Nat.reduceLeDiff, Nat.reduceLT, Nat.reduceBNe, reduceCtorEq, e35, e34, e33, e1, e3, e4, e5]; dsimp only at *)
        refine ⟨fun hlt => ⟨hlt, ?_⟩, fun hge => ?_⟩
        · have hlt' : i < ms.length := by omega
          obtain ⟨ad, had, hR⟩ := hmf i hlt'
          obtain ⟨m, hm⟩ : ∃ m, m = ms[i] := ⟨_, rfl⟩
          rw [← hm] at hR
          have hflt := filter_snoc (fun m => decide (m.day < e) && (!(ds.any (isMoveOn m.day)) && !(ds.any (isRuleTo m.day)))) ms i hlt'
          rw [← hm] at hflt
          refine vat ad had ?_
          try simp only [go_sem, ↓reduceIte, Nat.reduceEqDiff, Nat.reduceAdd, Nat.reduceMul, Nat.reduceLeDiff, Nat.reduceLT, Nat.reduceBNe, reduceCtorEq]
          refine vloadn m.cells rfl (fun j u hj => hle2 _ _ (hle1 _ _ (hR j u hj))) ?_
          simp only [go_sem, ↓reduceIte, Nat.reduceEqDiff, Nat.reduceAdd, Nat.reduceMul, Nat.reduceLeDiff, Nat.reduceLT, Nat.reduceBNe, reduceCtorEq, Mv.cells, e35, e34, e33, e1, e3, e4, e5]
          refine ⟨fun hlt2 => ?_, fun hge2 => ?_⟩
          · obtain ⟨r, g1, g2⟩ := MapOf.get none (Value.int .i64) mEq_int hmap m.day
            have hr : mres (.bool false) false r = .bool (ds.any (isMoveOn m.day)) := by
              unfold edMap at g2
              cases hq : ds.any (isMoveOn m.day) with
              | true =>
                rw [hq, if_pos rfl] at g2
                obtain ⟨⟨j, v⟩, rfl, rfl⟩ := Option.map_eq_some_iff.1 g2
                rfl
              | false =>
                rw [hq, if_neg (by simp)] at g2
                rw [Option.map_eq_none_iff] at g2
                subst g2
                rfl
            refine vmget es clock r (by rw [mEq_int]; simp) rfl g1 ?_
            rw [hr]
            simp only [go_sem, ↓reduceIte, Nat.reduceEqDiff, Nat.reduceAdd, Nat.reduceMul, Nat.reduceLeDiff, Nat.reduceLT, Nat.reduceBNe, reduceCtorEq, e35, e34, e33, e1, e3, e4, e5]
            refine ⟨fun hq => ?_, fun hq => ?_⟩
            · refine ⟨hbRulesF, vlendT ?_⟩
              intro β κ R3 hL
              have hbox := hL.2 0 _ rfl
              refine ⟨_, eRulesF ds _ ⟨β 0, 0, none⟩ m.day R3 (by rw [Addr.add_lit, Nat.zero_add]; exact hbox 7 _ rfl) (h0.mono (RO.le_trans hle1 (RO.le_trans hle2 hL.1))), ?_⟩
              rintro R4 v R5 hle4 rfl hle5 _
              simp only [go_sem, ↓reduceIte, Nat.reduceEqDiff, Nat.reduceAdd, Nat.reduceMul, Nat.reduceLeDiff, Nat.reduceLT, Nat.reduceBNe, reduceCtorEq, e35, e34, e33, e1, e3, e4, e5]
              refine ⟨fun hq2 => ?_, fun hq2 => ?_⟩
              · refine vgrow (rowM qs) (fun h0 => by rw [gb_ne h0]; rfl) (fun h0 => by rw [h0, gb_nil]; rfl) (by rw [rowM_len]) (by omega) (by omega) (by omega) ?_
                simp only [go_sem, ↓reduceIte, Nat.reduceEqDiff, Nat.reduceAdd, Nat.reduceMul, Nat.reduceLeDiff, Nat.reduceLT, Nat.reduceBNe, reduceCtorEq, e35, e34, e33, e1, e3, e4, e5]
                refine ⟨_, W.in64 (by omega), (i + 1, qs ++ [m]), [0, 1, 5], ?_⟩
                try simp only [go_sem, ↓reduceIte, Nat.reduceEqDiff, Nat.reduceAdd, Nat.reduceMul, Nat.reduceLeDiff, Nat.reduceLT, Nat.reduceBNe, reduceCtorEq]
                refine ⟨by omega, ⟨⟨rfl, rfl⟩, fun _ => by rw [rowM_snoc]; rfl⟩, ⟨rfl, by decide⟩, by omega, by rw [hflt, if_pos (by simp [hlt2, hq, hq2]), hqs, List.append_assoc], by omega⟩
              · refine ⟨_, W.in64 (by omega), (i + 1, qs), [], ?_⟩
                try simp only [go_sem, ↓reduceIte, Nat.reduceEqDiff, Nat.reduceAdd, Nat.reduceMul, Nat.reduceLeDiff, Nat.reduceLT, Nat.reduceBNe, reduceCtorEq]
                exact ⟨by omega, ⟨rfl, fun h => gb_ne h⟩, ⟨rfl, by decide⟩, by omega, by rw [hflt, if_neg (by simp [hlt2, hq, hq2]), List.append_nil, hqs], by omega⟩
            · refine ⟨_, W.in64 (by omega), (i + 1, qs), [], ?_⟩
              try simp only [go_sem, ↓reduceIte, Nat.reduceEqDiff, Nat.reduceAdd, Nat.reduceMul, Nat.reduceLeDiff, Nat.reduceLT, Nat.reduceBNe, reduceCtorEq]
              exact ⟨by omega, ⟨rfl, fun h => gb_ne h⟩, ⟨rfl, by decide⟩, by omega, by rw [hflt, if_neg (by simp [hlt2, hq]), List.append_nil, hqs], by omega⟩
          · refine ⟨_, W.in64 (by omega), (i + 1, qs), [], ?_⟩
            try simp only [go_sem, ↓reduceIte, Nat.reduceEqDiff, Nat.reduceAdd, Nat.reduceMul, Nat.reduceLeDiff, Nat.reduceLT, Nat.reduceBNe, reduceCtorEq]
            exact ⟨by omega, ⟨rfl, fun h => gb_ne h⟩, ⟨rfl, by decide⟩, by omega, by rw [hflt, if_neg (by simp [hge2]), List.append_nil, hqs], by omega⟩
        · obtain rfl : i = ms.length := by omega
          rw [List.take_length] at hqs
          have hqd : qs = movesD ms ds e := by rw [hqs, hos]; rfl
          by_cases h0 : qs.length = 0
          · rw [h0]
            try simp only [go_sem, ↓reduceIte, Nat.reduceEqDiff, Nat.reduceAdd, Nat.reduceMul, Nat.reduceLeDiff, Nat.reduceLT, Nat.reduceBNe, reduceCtorEq]
            refine vcall (eSortMvNil _ R2) ?_
            rintro R3 v hle3 rfl
            simp only [go_sem, ↓reduceIte, Nat.reduceEqDiff, Nat.reduceAdd, Nat.reduceMul, Nat.reduceLeDiff, Nat.reduceLT, Nat.reduceBNe, reduceCtorEq, e35, e34, e33, e1, e3, e4, e5]
            rw [h0]
            try simp only [go_sem, ↓reduceIte, Nat.reduceEqDiff, Nat.reduceAdd, Nat.reduceMul, Nat.reduceLeDiff, Nat.reduceLT, Nat.reduceBNe, reduceCtorEq]
            obtain rfl : qs = [] := List.eq_nil_of_length_eq_zero h0
            exact ⟨[], EncV.nil _ _ _, by rw [← hqd], List.Pairwise.nil⟩
          · rw [gs_pos h0]
            try simp only [go_sem, ↓reduceIte, Nat.reduceEqDiff, Nat.reduceAdd, Nat.reduceMul, Nat.reduceLeDiff, Nat.reduceLT, Nat.reduceBNe, reduceCtorEq]
            refine vhand [2] [.sl 0 qs.length, .val (.func (.func 54) #[] #[])] [.row 23 5 (rowM qs)] (eSortMv qs (by omega) R2) rfl rfl rfl ?_ (by simp) rfl rfl ?_
            · try simp only [go_sem, ↓reduceIte, Nat.reduceEqDiff, Nat.reduceAdd, Nat.reduceMul, Nat.reduceLeDiff, Nat.reduceLT, Nat.reduceBNe, reduceCtorEq]
              exact gb_ne (fun e => h0 (by have := rowM_len qs; rw [e] at this; simp at this; omega))
            rintro R3 bs r hle3 ⟨rfl, rs, hperm, hpw, rfl, rfl⟩ _
            simp only [go_sem, ↓reduceIte, Nat.reduceEqDiff, Nat.reduceAdd, Nat.reduceMul, Nat.reduceLeDiff, Nat.reduceLT, Nat.reduceBNe, reduceCtorEq, e35, e34, e33, e1, e3, e4, e5]
            rw [gs_pos h0]
            simp only [go_sem, ↓reduceIte, Nat.reduceEqDiff, Nat.reduceAdd, Nat.reduceMul, Nat.reduceLeDiff, Nat.reduceLT, Nat.reduceBNe, reduceCtorEq, setG, rn]
            intro b cap' R4 hle4 hrow hcap hfr
            refine ⟨rs, ?_, by rw [← hqd]; exact hperm, hpw⟩
            rw [show qs.length = rs.length from hperm.length_eq.symm]
            exact RowIn.enc (fun _ => rfl) (by omega) hrow hcap (by rw [hperm.length_eq]; omega)
end Go.Proofs.Ytpnhiknfcpkfbaa
