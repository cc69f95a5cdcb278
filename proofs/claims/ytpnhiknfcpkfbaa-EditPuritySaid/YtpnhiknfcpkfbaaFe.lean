import Derived.Test.YtpnhiknfcpkfbaaFf
namespace Go.Proofs.Ytpnhiknfcpkfbaa
set_option linter.unusedSimpArgs false
set_option linter.unusedVariables false
open Go.Proofs.Ytpnhiknfcpkfbaa.Vc
def ed0 (e : Ed) : Ed := ⟨0, e.day, 0, 0, e.mv, 0, 0, none, 0, 0, ⟨#[]⟩⟩
/-- The move that the reference makes of an edit. -/
def mvOf (e : Ed) : Mv := (madeE (ed0 e)).mv
def isOn (day : Int) (e : Ed) : Bool := decide (e.day % 10 = day)
def mvOn (es : List Ed) (day : Nat) : Option Mv := ((es.take 4).find? (isOn day)).map mvOf
def movesOf (es : List Ed) : List Mv := (List.range 10).filterMap (mvOn es)
theorem mvOf_day (e : Ed) : (mvOf e).day = e.day % 10 := by
  unfold mvOf madeE ed0
  simp only [Int.zero_emod, Int.add_zero, if_true]
  split <;> rfl
theorem madeE_day0 (e : Ed) : (madeE (ed0 e)).day = e.day % 10 := by
  unfold madeE ed0; simp
theorem mvOn_day {es : List Ed} {day : Nat} {m : Mv} (h : mvOn es day = some m) : m.day = day := by
  unfold mvOn at h
  obtain ⟨e, he, rfl⟩ := Option.map_eq_some_iff.1 h
  have := List.find?_some he
  rw [mvOf_day]
  simpa [isOn] using this
theorem range_moves_day (es : List Ed) (n : Nat) : ∀ m ∈ (List.range n).filterMap (mvOn es), m.day < n := by
  intro m hm
  obtain ⟨day, hd, hm'⟩ := List.mem_filterMap.1 hm
  rw [mvOn_day hm']
  have := List.mem_range.1 hd
  omega
def serCells (rv : Value) (minute : Int) (mv : SV) : List SV := [.val rv, .val (.int .i64 minute), .val (.int .i64 1), .val (.string zA), .val (.int .i64 0), .val (.int .i64 0), mv]
theorem eMadeSeries (minute : Int) (es : List Ed) (v : Value) (R : RO) (h : EdC R v es) (hl : es.length ≤ 1099511627776) : CallsR Try.prog 16 [.int .i64 minute, v] R fun R' u =>
    ∃ rv mv, u = .agg (Se.cells ⟨rv, minute % 3, 1, zA, 0, 0, mv⟩).toArray ∧ RuleV R' rv (ruleN minute) ∧ EncV Mv.cells 5 R' mv (movesOf es) := by
  obtain ⟨a, cap, rfl, hc, hf⟩ := h.form
  refine callsT mix Try.func16 comp16 (by simp [Try.ntmps16]) ?_; simp only [go_sem, ↓reduceIte, Nat.reduceEqDiff, Nat.reduceAdd, Nat.reduceMul, Nat.reduceLeDiff, Nat.reduceLT, Nat.reduceBNe, reduceCtorEq, vc16, rs16]
  refine vcall (eRule minute R) ?_
  intro R1 rv hle1 hrv
  obtain ⟨ra, rn, rc, rfl⟩ := hrv.form
  try simp only [go_sem, ↓reduceIte, Nat.reduceEqDiff, Nat.reduceAdd, Nat.reduceMul, Nat.reduceLeDiff, Nat.reduceLT, Nat.reduceBNe, reduceCtorEq, Int.reduceLE, Int.reduceLT, Int.reduceToNat, Int.cast_ofNat_Int, Int.reduceEq, Int.reduceNe]
  refine vcall (eIndex minute 3 (by omega) R1) ?_
  rintro R2 v hle2 rfl
  try simp only [go_sem, ↓reduceIte, Nat.reduceEqDiff, Nat.reduceAdd, Nat.reduceMul, Nat.reduceLeDiff, Nat.reduceLT, Nat.reduceBNe, reduceCtorEq, Int.reduceLE, Int.reduceLT, Int.reduceToNat, Int.cast_ofNat_Int, Int.reduceEq, Int.reduceNe]
  refine vcLoopR (Nat × List Mv) (fun x => [(6, .val (.int .i64 x.1)), (4, .loc 0 0), (5, .loc 1 0), (1, .val (.slice a es.length cap))])
    (fun x => [.box [.val (.slice none 0 0), .val (.int .i64 0), .val (.int .i64 0), .val (.string ⟨#[]⟩), .val (.int .i64 0), .val (.int .i64 0), .val (.slice none 0 0)], .box [.val (.slice ra rn rc), .val (.int .i64 (minute % 3)), .val (.int .i64 1), .val (.string zA), .val (.int .i64 0), .val (.int .i64 0), gs 2 x.2.length], gb 23 5 (rowM x.2)])
    (fun x R => x.1 ≤ 10 ∧ x.2 = (List.range x.1).filterMap (mvOn es) ∧ x.2.length ≤ x.1) (fun x => 10 - x.1) (0, []) [] ?_ ?_ ?_ ?_
  · (try simp only [go_sem, ↓reduceIte, Nat.reduceEqDiff, Nat.reduceAdd, Nat.reduceMul, Nat.reduceLeDiff, Nat.reduceLT, Nat.reduceBNe, reduceCtorEq]) <;> (repeat' (first | rfl | trivial | constructor | (intro h; exact absurd rfl h)))
  · try simp only [go_sem, ↓reduceIte, Nat.reduceEqDiff, Nat.reduceAdd, Nat.reduceMul, Nat.reduceLeDiff, Nat.reduceLT, Nat.reduceBNe, reduceCtorEq]
  · exact ⟨Nat.zero_le _, rfl, Nat.le_refl _⟩
  rintro ⟨day, ms⟩ env R3 hle3 hE ⟨hd10, hms, hml⟩
  (simp only [go_sem] at hE; obtain ⟨e6, e4, e5, e1⟩ := hE; simp only [go_sem, ↓reduceIte, Nat.reduceEqDiff, Nat.reduceAdd, Nat.reduceMul, Nat.reduceLeDiff, Nat.reduceLT, Nat.reduceBNe, reduceCtorEq, e6, e4, e5, e1]; dsimp only at *)
  refine ⟨fun hlt => ?_, fun hge => ?_⟩
  · refine vcLoopR (Nat × List Mv) (fun x => [(7, .val (.int .i64 x.1)), (6, .val (.int .i64 day)), (4, .loc 0 0), (5, .loc 1 0), (1, .val (.slice a es.length cap))])
      (fun x => [.box [.val (.slice none 0 0), .val (.int .i64 0), .val (.int .i64 0), .val (.string ⟨#[]⟩), .val (.int .i64 0), .val (.int .i64 0), .val (.slice none 0 0)], .box [.val (.slice ra rn rc), .val (.int .i64 (minute % 3)), .val (.int .i64 1), .val (.string zA), .val (.int .i64 0), .val (.int .i64 0), gs 2 x.2.length], gb 23 5 (rowM x.2)])
      (fun x R => x.1 ≤ 4 ∧ x.1 ≤ es.length ∧ x.2 = ms ++ (((es.take x.1).find? (isOn day)).map mvOf).toList) (fun x => 4 - x.1) (0, ms) [] ?_ ?_ ?_ ?_
    · (try simp only [go_sem, ↓reduceIte, Nat.reduceEqDiff, Nat.reduceAdd, Nat.reduceMul, Nat.reduceLeDiff, Nat.reduceLT, Nat.reduceBNe, reduceCtorEq]) <;> (repeat' (first | rfl | trivial | constructor | (intro h; exact absurd rfl h)))
      exact fun h => gb_ne h
    · try simp only [go_sem, ↓reduceIte, Nat.reduceEqDiff, Nat.reduceAdd, Nat.reduceMul, Nat.reduceLeDiff, Nat.reduceLT, Nat.reduceBNe, reduceCtorEq]
    · exact ⟨Nat.zero_le _, Nat.zero_le _, by simp⟩
    rintro ⟨i, qs⟩ env R4 hle4 hE ⟨hi4, hil, hqs⟩
    (simp only [go_sem] at hE; obtain ⟨e7, e6', e4', e5', e1'⟩ := hE; simp only [go_sem, ↓reduceIte, Nat.reduceEqDiff, Nat.reduceAdd, Nat.reduceMul, Nat.reduceLeDiff, Nat.reduceLT, Nat.reduceBNe, reduceCtorEq, e7, e6', e4', e5', e1']; dsimp only at *)
    have hdm := range_moves_day es day
    rw [← hms] at hdm
    have hql : qs.length ≤ ms.length + 1 := by
      rw [hqs, List.length_append]
      cases (es.take i).find? (isOn day) <;> simp
    have hend : ¬ (i < es.length ∧ i < 4) → qs = (List.range (day + 1)).filterMap (mvOn es) := fun hn => by
      have : es.take 4 = es.take i := by
        by_cases h12 : i = 4
        · rw [h12]
        · rw [List.take_of_length_le (by omega), List.take_of_length_le (by omega)]
      rw [hqs, List.range_succ, List.filterMap_append, ← hms]
      congr 1
      unfold mvOn
      rw [this, List.filterMap_cons, List.filterMap_nil]
      cases (es.take i).find? (isOn day) <;> rfl
    refine ⟨fun hlt2 => ⟨fun hlt3 => ?_, fun hge3 => ?_⟩, fun hge2 => ?_⟩
    · have hlt' : i < es.length := by omega
      obtain ⟨ad, had, hR⟩ := hf i hlt'
      obtain ⟨e, he⟩ : ∃ e, e = es[i] := ⟨_, rfl⟩
      rw [← he] at hR
      have hRR : ∀ j u, e.cells[j]? = some u → R4 ((ad.add (i * 13)).add j) u := fun j u hj => hle4 _ _ (hle3 _ _ (hle2 _ _ (hle1 _ _ (hR j u hj))))
      have hfs : (es.take (i + 1)).find? (isOn day) = ((es.take i).find? (isOn day)).or (if isOn day e = true then some e else none) := by
        rw [List.take_succ_eq_append_getElem hlt', List.find?_append, ← he, List.find?_cons, List.find?_nil]
        cases isOn day e <;> rfl
      refine ⟨by omega, vat ad had ?_⟩
      try simp only [go_sem, ↓reduceIte, Nat.reduceEqDiff, Nat.reduceAdd, Nat.reduceMul, Nat.reduceLeDiff, Nat.reduceLT, Nat.reduceBNe, reduceCtorEq]
      refine vload _ (hRR 1 _ rfl) ?_
      simp only [go_sem, ↓reduceIte, Nat.reduceEqDiff, Nat.reduceAdd, Nat.reduceMul, Nat.reduceLeDiff, Nat.reduceLT, Nat.reduceBNe, reduceCtorEq, e7, e6', e4', e5', e1']
      refine ⟨by omega, vat ad had ?_⟩
      try simp only [go_sem, ↓reduceIte, Nat.reduceEqDiff, Nat.reduceAdd, Nat.reduceMul, Nat.reduceLeDiff, Nat.reduceLT, Nat.reduceBNe, reduceCtorEq]
      refine vloadn e.mv.cells rfl (fun j u hj => ?_) ?_
      · show R4 (((ad.add (i * 13)).add 4).add j) u
        rw [addr_add _ (4 + j) 4 j rfl]
        refine hRR (4 + j) u ?_
        have hj5 : j < 5 := (List.getElem?_eq_some_iff.1 hj).1
        match j, hj5 with
        | 0, _ => exact hj
        | 1, _ => exact hj
        | 2, _ => exact hj
        | 3, _ => exact hj
        | 4, _ => exact hj
      simp only [go_sem, ↓reduceIte, Nat.reduceEqDiff, Nat.reduceAdd, Nat.reduceMul, Nat.reduceLeDiff, Nat.reduceLT, Nat.reduceBNe, reduceCtorEq, Mv.cells, e7, e6', e4', e5', e1']
      refine vcall (eMadeEdit (ed0 e) R4) ?_
      rintro R5 u hle5 ⟨cs, rfl, hd⟩
      obtain ⟨da, dn, dc, rfl, _⟩ := hd.form
      have hdd := madeE_day0 e
      have hdm2 : (madeE (ed0 e)).mv = mvOf e := rfl
      simp only [go_sem, ↓reduceIte, Nat.reduceEqDiff, Nat.reduceAdd, Nat.reduceMul, Nat.reduceLeDiff, Nat.reduceLT, Nat.reduceBNe, reduceCtorEq, Ed.cells, De.ed, hdd, hdm2, e7, e6', e4', e5', e1']
      have hskip : (((es.take (i + 1)).find? (isOn day)) = ((es.take i).find? (isOn day))) → qs = ms ++ (((es.take (i + 1)).find? (isOn day)).map mvOf).toList := fun h => by rw [h]; exact hqs
      refine ⟨fun hday => ⟨fun hz => ?_, fun hz => ?_⟩, fun hday => ?_⟩
      · have hz' : qs.length ≠ 0 := by omega
        have hne : qs ≠ [] := fun e => hz' (by rw [e]; rfl)
        obtain ⟨q0, lst, hq0⟩ : ∃ q0 lst, qs = q0 ++ [lst] := by
          rcases List.eq_nil_or_concat qs with h | ⟨q0, l, h⟩
          · exact absurd h hne
          · exact ⟨q0, l, by rw [h, List.concat_eq_append]⟩
        have hq0l : qs.length = q0.length + 1 := by rw [hq0]; simp
        have hgb : gb 23 5 (rowM qs) = .row 23 5 (rowM qs) := gb_ne (fun e => hz' (by have := rowM_len qs; rw [e] at this; simp at this; omega))
        have hidx : ((qs.length : Int) - 1).toNat = q0.length := by omega
        have hcell : (rowM qs)[q0.length * 5]? = some (.int .i64 lst.day) := by
          rw [hq0, rowM_snoc, List.getElem?_append_right (by rw [rowM_len]; omega), rowM_len, Nat.sub_self]
          rfl
        refine ⟨_, W.in64 (by omega), ?_⟩
        rw [gs_pos hz', hgb]
        try simp only [go_sem, ↓reduceIte, Nat.reduceEqDiff, Nat.reduceAdd, Nat.reduceMul, Nat.reduceLeDiff, Nat.reduceLT, Nat.reduceBNe, reduceCtorEq]
        rw [hidx]
        refine ⟨by omega, by omega, ?_⟩
        try simp only [go_sem, ↓reduceIte, Nat.reduceEqDiff, Nat.reduceAdd, Nat.reduceMul, Nat.reduceLeDiff, Nat.reduceLT, Nat.reduceBNe, reduceCtorEq]
        refine ⟨_, hcell, ?_⟩
        simp only [go_sem, ↓reduceIte, Nat.reduceEqDiff, Nat.reduceAdd, Nat.reduceMul, Nat.reduceLeDiff, Nat.reduceLT, Nat.reduceBNe, reduceCtorEq, e7, e6', e4', e5', e1']
        refine ⟨fun hl2 => ?_, fun hl2 => ?_⟩
        · have hnf : (es.take i).find? (isOn day) = none := by
            cases hq : (es.take i).find? (isOn day) with
            | none => rfl
            | some x =>
              exfalso
              have hx := List.find?_some hq
              rw [hq] at hqs
              simp only [Option.map_some, Option.toList_some] at hqs
              have h1 : lst = mvOf x := by
                have h2 := hq0.symm.trans hqs
                have := List.append_inj_right' h2 rfl
                simpa using this
              rw [h1, mvOf_day] at hl2
              have : x.day % 10 = day := by simpa [isOn] using hx
              omega
          refine ⟨by rw [rowM_len]; omega, fun u hu => ?_, ?_⟩
          · unfold rowM at hu
            obtain ⟨c, hc', hu'⟩ := List.mem_flatten.1 hu
            obtain ⟨m, _, rfl⟩ := List.mem_map.1 hc'
            exact mvcells_one m u hu'
          rw [show qs.length * 5 = (rowM qs).length from (rowM_len qs).symm, List.take_length]
          refine vappO [] rfl rfl (by omega) ?_
          simp only [go_sem, ↓reduceIte, Nat.reduceEqDiff, Nat.reduceAdd, Nat.reduceMul, Nat.reduceLeDiff, Nat.reduceLT, Nat.reduceBNe, reduceCtorEq, e7, e6', e4', e5', e1']
          refine vappO (rowM qs) rfl (by rw [rowM_len]) (by omega) ?_
          simp only [go_sem, ↓reduceIte, Nat.reduceEqDiff, Nat.reduceAdd, Nat.reduceMul, Nat.reduceLeDiff, Nat.reduceLT, Nat.reduceBNe, reduceCtorEq, e7, e6', e4', e5', e1']
          refine ⟨_, W.in64 (by omega), (i + 1, qs ++ [mvOf e]), [0, 1, 7], ?_⟩
          try simp only [go_sem, ↓reduceIte, Nat.reduceEqDiff, Nat.reduceAdd, Nat.reduceMul, Nat.reduceLeDiff, Nat.reduceLT, Nat.reduceBNe, reduceCtorEq]
          have hon : isOn day e = true := by simp [isOn, hday]
          rw [hnf] at hqs hfs
          refine ⟨by omega, ⟨rfl, fun _ => by rw [rowM_snoc]; rfl⟩, by decide, by omega, by omega, ?_⟩
          rw [hfs, hon, hqs]
          simp
        · have hsf : ∃ x, (es.take i).find? (isOn day) = some x := by
            cases hq : (es.take i).find? (isOn day) with
            | some x => exact ⟨x, rfl⟩
            | none =>
              exfalso
              rw [hq] at hqs
              simp only [Option.map_none, Option.toList_none, List.append_nil] at hqs
              exact hl2 (hdm lst (by rw [← hqs, hq0]; simp))
          obtain ⟨x, hx⟩ := hsf
          refine ⟨_, W.in64 (by omega), (i + 1, qs), [], ?_⟩
          try simp only [go_sem, ↓reduceIte, Nat.reduceEqDiff, Nat.reduceAdd, Nat.reduceMul, Nat.reduceLeDiff, Nat.reduceLT, Nat.reduceBNe, reduceCtorEq]
          exact ⟨by omega, ⟨rfl, (gs_pos hz').symm⟩, by decide, by omega, by omega, hskip (by rw [hfs, hx]; rfl)⟩
      · have hqe : qs = [] := List.eq_nil_of_length_eq_zero (by omega)
        subst hqe
        try simp only [go_sem, ↓reduceIte, Nat.reduceEqDiff, Nat.reduceAdd, Nat.reduceMul, Nat.reduceLeDiff, Nat.reduceLT, Nat.reduceBNe, reduceCtorEq, Int.reduceLE, Int.reduceLT, Int.reduceToNat, Int.cast_ofNat_Int, Int.reduceEq, Int.reduceNe]
        refine vsrc [] (by simp) (by simp) (by simp) ?_
        try simp only [go_sem, ↓reduceIte, Nat.reduceEqDiff, Nat.reduceAdd, Nat.reduceMul, Nat.reduceLeDiff, Nat.reduceLT, Nat.reduceBNe, reduceCtorEq]
        have hnf : (es.take i).find? (isOn day) = none := by
          cases hq : (es.take i).find? (isOn day) with
          | none => rfl
          | some x => rw [hq] at hqs; simp at hqs
        rw [hnf] at hqs
        have hms0 : ms = [] := by simpa using hqs.symm
        refine vappO [] rfl rfl (by omega) ?_
        simp only [go_sem, ↓reduceIte, Nat.reduceEqDiff, Nat.reduceAdd, Nat.reduceMul, Nat.reduceLeDiff, Nat.reduceLT, Nat.reduceBNe, reduceCtorEq, e7, e6', e4', e5', e1']
        refine vappO [] rfl rfl (by omega) ?_
        simp only [go_sem, ↓reduceIte, Nat.reduceEqDiff, Nat.reduceAdd, Nat.reduceMul, Nat.reduceLeDiff, Nat.reduceLT, Nat.reduceBNe, reduceCtorEq, e7, e6', e4', e5', e1']
        refine ⟨_, W.in64 (by omega), (i + 1, [mvOf e]), [0, 1, 7], ?_⟩
        try simp only [go_sem, ↓reduceIte, Nat.reduceEqDiff, Nat.reduceAdd, Nat.reduceMul, Nat.reduceLeDiff, Nat.reduceLT, Nat.reduceBNe, reduceCtorEq]
        have hon : isOn day e = true := by simp [isOn, hday]
        refine ⟨by omega, ⟨rfl, fun _ => rfl⟩, by decide, by omega, by omega, ?_⟩
        rw [hfs, hnf, hon, hms0]
        simp
      · refine ⟨_, W.in64 (by omega), (i + 1, qs), [], ?_⟩
        try simp only [go_sem, ↓reduceIte, Nat.reduceEqDiff, Nat.reduceAdd, Nat.reduceMul, Nat.reduceLeDiff, Nat.reduceLT, Nat.reduceBNe, reduceCtorEq]
        have hno : isOn day e = false := by simp [isOn, hday]
        exact ⟨by omega, ⟨rfl, fun h => gb_ne h⟩, by decide, by omega, by omega, hskip (by rw [hfs, hno]; simp)⟩
    · refine ⟨_, W.in64 (by omega), (day + 1, qs), [], ?_⟩
      try simp only [go_sem, ↓reduceIte, Nat.reduceEqDiff, Nat.reduceAdd, Nat.reduceMul, Nat.reduceLeDiff, Nat.reduceLT, Nat.reduceBNe, reduceCtorEq]
      exact ⟨by omega, ⟨rfl, fun h => gb_ne h⟩, by decide, by omega, by rw [← List.range_succ]; exact hend (by omega), by omega⟩
    · refine ⟨_, W.in64 (by omega), (day + 1, qs), [], ?_⟩
      try simp only [go_sem, ↓reduceIte, Nat.reduceEqDiff, Nat.reduceAdd, Nat.reduceMul, Nat.reduceLeDiff, Nat.reduceLT, Nat.reduceBNe, reduceCtorEq]
      exact ⟨by omega, ⟨rfl, fun h => gb_ne h⟩, by decide, by omega, by rw [← List.range_succ]; exact hend (by omega), by omega⟩
  · obtain rfl : day = 10 := by omega
    by_cases h0 : ms.length = 0
    · rw [h0]
      try simp only [go_sem, ↓reduceIte, Nat.reduceEqDiff, Nat.reduceAdd, Nat.reduceMul, Nat.reduceLeDiff, Nat.reduceLT, Nat.reduceBNe, reduceCtorEq, e6, e4, e5, e1]
      refine ⟨_, _, rfl, hrv.mono (RO.le_trans hle2 hle3), ?_⟩
      have : movesOf es = ms := hms.symm
      rw [this, List.eq_nil_of_length_eq_zero h0]
      exact EncV.nil _ _ _
    · rw [gs_pos h0]
      try simp only [go_sem, ↓reduceIte, Nat.reduceEqDiff, Nat.reduceAdd, Nat.reduceMul, Nat.reduceLeDiff, Nat.reduceLT, Nat.reduceBNe, reduceCtorEq]
      rw [gb_ne (fun e => h0 (by have := rowM_len ms; rw [e] at this; simp at this; omega))]
      try simp only [go_sem, ↓reduceIte, Nat.reduceEqDiff, Nat.reduceAdd, Nat.reduceMul, Nat.reduceLeDiff, Nat.reduceLT, Nat.reduceBNe, reduceCtorEq, e6, e4, e5, e1]
      intro b cap' R4 hle4 hrow hcap hfr
      refine ⟨_, _, rfl, hrv.mono (RO.le_trans hle2 (RO.le_trans hle3 hle4)), ?_⟩
      have : movesOf es = ms := hms.symm
      rw [this]
      exact RowIn.enc (fun _ => rfl) (by omega) hrow hcap (by omega)
end Go.Proofs.Ytpnhiknfcpkfbaa
