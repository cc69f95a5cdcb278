import Derived.Test.YtpnhiknfcpkfbaaEx
namespace Go.Proofs.Ytpnhiknfcpkfbaa
set_option linter.unusedSimpArgs false
set_option linter.unusedVariables false
open Go.Proofs.Ytpnhiknfcpkfbaa.Vc
/-- A part, with its series' slices as they lie: a part's cells. -/
def paCells (f : Int) (s : Se) : List Value := .int .i64 f :: s.cells
def Ti.zero : Ti := ⟨[], 0, 0, ⟨#[]⟩, 0, 0⟩
/-- A part of a series. -/
structure Pa where
  day : Int
  ti : Ti
  moves : List Mv
  deriving DecidableEq
/-- A part without moves, and where its rule lies. -/
abbrev Pp := Int × Ti × Value
def Pp.se (p : Pp) : Se := ⟨p.2.2, p.2.1.minute, p.2.1.length, p.2.1.zone, p.2.1.gap, p.2.1.fold, .slice none 0 0⟩
def Pp.cells (p : Pp) : List Value := paCells p.1 (Pp.se p)
def Pp.OK (R : RO) (p : Pp) : Prop := RuleV R p.2.2 p.2.1.rule
def rowPp (ps : List Pp) : List Value := (ps.map Pp.cells).flatten
theorem rowPp_len (ps : List Pp) : (rowPp ps).length = ps.length * 8 := by
  unfold rowPp
  rw [length_flattenK (k := 8) (fun us hus => by obtain ⟨x, _, rfl⟩ := List.mem_map.1 hus; rfl)]
  simp
theorem rowPp_snoc (ps : List Pp) (o : Pp) : rowPp (ps ++ [o]) = rowPp ps ++ o.cells := by simp [rowPp]
/-- What is in force on a day. -/
def tiOn (s : Se) (rl : List Nd) (ds : List De) (day : Int) : Ti := ⟨(onE day (s.on rl) ds).rule, (onE day (s.on rl) ds).minute, (onE day (s.on rl) ds).length, (onE day (s.on rl) ds).zone, s.gap, s.fold⟩
def sameTi (x y : Ti) : Bool := decide (y.minute = x.minute) && decide (y.length = x.length) && decide (x.rule = y.rule)
/-- The parts without moves, day by day. -/
def partsGo (e : Int) (f : Int → Ti) : List Int → List (Int × Ti) → List (Int × Ti)
  | [], out => out
  | day :: r, out =>
    if e ≤ day then out ++ [(day, Ti.zero)]
    else match out.getLast? with
      | some y => if sameTi (f day) y.2 = true then partsGo e f r out else partsGo e f r (out ++ [(day, f day)])
      | none => partsGo e f r (out ++ [(day, f day)])
def partsD (s : Se) (rl : List Nd) (ds : List De) (e : Int) : List (Int × Ti) := partsGo e (tiOn s rl ds) (rising (0 :: ds.map (·.day))) []
theorem rowPp_last (ps : List Pp) (o : Pp) (j : Nat) : (rowPp (ps ++ [o]))[ps.length * 8 + j]? = o.cells[j]? := by
  rw [rowPp_snoc, List.getElem?_append_right (by rw [rowPp_len]; omega), rowPp_len]
  congr 1; omega
theorem compact_sorted (xs : List Int) : Lib.compact (xs.mergeSort fun x y => decide (x ≤ y)) = rising xs := by
  rw [← compact_rising]; simp [Lib.compact]
theorem partsGo_nil (e : Int) (f : Int → Ti) (out : List (Int × Ti)) : partsGo e f [] out = out := rfl
theorem partsGo_end {e : Int} {f : Int → Ti} {day : Int} {r : List Int} {out : List (Int × Ti)} (h : e ≤ day) : partsGo e f (day :: r) out = out ++ [(day, Ti.zero)] := by rw [partsGo, if_pos h]
theorem partsGo_first {e : Int} {f : Int → Ti} {day : Int} {r : List Int} (h : ¬ e ≤ day) : partsGo e f (day :: r) [] = partsGo e f r [(day, f day)] := by rw [partsGo, if_neg h]; rfl
theorem partsGo_same {e : Int} {f : Int → Ti} {day : Int} {r : List Int} {out : List (Int × Ti)} {y : Int × Ti} (h : ¬ e ≤ day) (k : sameTi (f day) y.2 = true) : partsGo e f (day :: r) (out ++ [y]) = partsGo e f r (out ++ [y]) := by rw [partsGo, if_neg h]; simp [k]
theorem partsGo_new {e : Int} {f : Int → Ti} {day : Int} {r : List Int} {out : List (Int × Ti)} {y : Int × Ti} (h : ¬ e ≤ day) (k : sameTi (f day) y.2 = false) : partsGo e f (day :: r) (out ++ [y]) = partsGo e f r (out ++ [y] ++ [(day, f day)]) := by rw [partsGo, if_neg h]; simp [k]
theorem eParts (s : Se) (rl : List Nd) (ds : List De) (v : Value) (e : Int) (R : RO) (hr : RuleV R s.rule rl) (hm : s.moves.oneCell' = true) (h : EdsV R v ds) (hsz : ds.length ≤ 100000000) : CallsS Try.prog 36 [.val (.agg (s.cells ++ [v, .int .i64 e]).toArray)] [] R fun R' bs r =>
    ∃ ps : List Pp, ps ≠ [] ∧ (∀ p ∈ ps, p.OK R') ∧ ps.map (fun p => (p.1, p.2.1)) = partsD s rl ds e ∧ ∃ j, r = .sl j ps.length ∧ bs[j]? = some (.row 57 8 (rowPp ps)) := by
  have hdl : ds.length ≤ 1000000000 := by omega
  have h0 := h
  have hron := hr.one
  obtain ⟨a, cap, rfl, hc, hf⟩ := h.form
  obtain ⟨sr, sm, sl, sz, sg, sf, smv⟩ := s
  dsimp only at hr hm hron
  simp only [Se.cells, List.cons_append, List.nil_append]
  refine callsTS mix Try.func36 comp36 (by simp [Try.ntmps36]) rfl rfl ?_; simp only [go_sem, ↓reduceIte, Nat.reduceEqDiff, Nat.reduceAdd, Nat.reduceMul, Nat.reduceLeDiff, Nat.reduceLT, Nat.reduceBNe, reduceCtorEq, vc36, rs36]
  refine vcLoopR Nat (fun i => [(16, .val (.int .i64 i)), (15, .val (.int .i64 ds.length)), (14, .val (.slice a ds.length cap)), (1, .loc 0 0), (3, .sl 1 (i + 1))])
    (fun i => [.box [.val sr, .val (.int .i64 sm), .val (.int .i64 sl), .val (.string sz), .val (.int .i64 sg), .val (.int .i64 sf), .val smv, .val (.slice a ds.length cap), .val (.int .i64 e)], .row 3 1 ((0 :: (ds.take i).map (·.day)).map (.int .i64))])
    (fun i R => i ≤ ds.length) (fun i => ds.length - i) 0 [] ?_ ?_ ?_ ?_
  · (try simp only [go_sem, ↓reduceIte, Nat.reduceEqDiff, Nat.reduceAdd, Nat.reduceMul, Nat.reduceLeDiff, Nat.reduceLT, Nat.reduceBNe, reduceCtorEq]) <;> (repeat' (first | rfl | trivial | constructor | (intro h; exact absurd rfl h)))
  · try simp only [go_sem, ↓reduceIte, Nat.reduceEqDiff, Nat.reduceAdd, Nat.reduceMul, Nat.reduceLeDiff, Nat.reduceLT, Nat.reduceBNe, reduceCtorEq]
  · exact Nat.zero_le _
  · rintro i env R1 hle1 hE hi
    (simp only [go_sem] at hE; obtain ⟨e16, e15, e14, e1, e3⟩ := hE; simp only [go_sem, ↓reduceIte, Nat.reduceEqDiff, Nat.reduceAdd, Nat.reduceMul, Nat.reduceLeDiff, Nat.reduceLT, Nat.reduceBNe, reduceCtorEq, e16, e15, e14, e1, e3]; dsimp only at *)
    refine ⟨fun hlt => ⟨hlt, ?_⟩, fun hge => ?_⟩
    · have hlt' : i < ds.length := by omega
      obtain ⟨ad, ra, rn, rc, had, hR, _⟩ := hf i hlt'
      refine vat ad had ?_
      try simp only [go_sem, ↓reduceIte, Nat.reduceEqDiff, Nat.reduceAdd, Nat.reduceMul, Nat.reduceLeDiff, Nat.reduceLT, Nat.reduceBNe, reduceCtorEq]
      refine vloadn (ds[i].ed ra rn rc).cells rfl (fun j u hj => hle1 _ _ (hR j u hj)) ?_
      simp only [go_sem, ↓reduceIte, Nat.reduceEqDiff, Nat.reduceAdd, Nat.reduceMul, Nat.reduceLeDiff, Nat.reduceLT, Nat.reduceBNe, reduceCtorEq, Ed.cells, De.ed, e16, e15, e14, e1, e3]
      refine vappO _ rfl (by simp; omega) (by omega) ?_
      simp only [go_sem, ↓reduceIte, Nat.reduceEqDiff, Nat.reduceAdd, Nat.reduceMul, Nat.reduceLeDiff, Nat.reduceLT, Nat.reduceBNe, reduceCtorEq, e16, e15, e14, e1, e3]
      refine ⟨_, W.in64 (by omega), i + 1, [0, 4], ?_⟩
      try simp only [go_sem, ↓reduceIte, Nat.reduceEqDiff, Nat.reduceAdd, Nat.reduceMul, Nat.reduceLeDiff, Nat.reduceLT, Nat.reduceBNe, reduceCtorEq]
      refine ⟨by omega, ⟨rfl, ?_⟩, by decide, by omega⟩
      rw [List.take_succ_eq_append_getElem hlt', List.map_append, List.map_append]
      rfl
    · obtain rfl : i = ds.length := by omega
      rw [List.take_length]
      have hlen : (0 :: ds.map (·.day)).length = ds.length + 1 := by simp
      have hSI := eSortInts (0 :: ds.map (·.day)) (by simp; omega) R1
      rw [hlen] at hSI
      refine vhand [1] [.sl 0 (ds.length + 1)] [.row 3 1 ((0 :: ds.map (·.day)).map (.int .i64))] hSI rfl rfl rfl ?_ (by simp) rfl rfl ?_
      · try simp only [go_sem, ↓reduceIte, Nat.reduceEqDiff, Nat.reduceAdd, Nat.reduceMul, Nat.reduceLeDiff, Nat.reduceLT, Nat.reduceBNe, reduceCtorEq]
      rintro R2 bs r hle2 ⟨rfl, rfl, rfl⟩ _
      simp only [go_sem, ↓reduceIte, Nat.reduceEqDiff, Nat.reduceAdd, Nat.reduceMul, Nat.reduceLeDiff, Nat.reduceLT, Nat.reduceBNe, reduceCtorEq, setG, rn, e16, e15, e14, e1, e3]
      have hCI := eCompactInts ((0 :: ds.map (·.day)).mergeSort fun x y => decide (x ≤ y)) (by simp; omega) R2
      rw [List.length_mergeSort, hlen, compact_sorted] at hCI
      refine vhand [1] [.sl 0 (ds.length + 1)] [.row 3 1 (((0 :: ds.map (·.day)).mergeSort fun x y => decide (x ≤ y)).map (.int .i64))] hCI rfl rfl rfl ?_ (by simp) rfl rfl ?_
      · try simp only [go_sem, ↓reduceIte, Nat.reduceEqDiff, Nat.reduceAdd, Nat.reduceMul, Nat.reduceLeDiff, Nat.reduceLT, Nat.reduceBNe, reduceCtorEq]
        rfl
      rintro R3 bs r hle3 ⟨rfl, rfl, rfl⟩ _
      simp only [go_sem, ↓reduceIte, Nat.reduceEqDiff, Nat.reduceAdd, Nat.reduceMul, Nat.reduceLeDiff, Nat.reduceLT, Nat.reduceBNe, reduceCtorEq, setG, rn, e16, e15, e14, e1, e3]
      obtain ⟨days, hdays⟩ : ∃ days, days = rising (0 :: ds.map (·.day)) := ⟨_, rfl⟩
      have hdl1 : days.length ≤ ds.length + 1 := by rw [hdays, ← hlen]; exact rising_len _
      have hd0 : days ≠ [] := by
        have : (0 : Int) ∈ days := by rw [hdays, mem_rising]; simp
        intro e; rw [e] at this; simp at this
      rw [← hdays]
      refine vcLoopR (Nat × List Pp) (fun x => [(31, .val (.int .i64 x.1)), (30, .val (.int .i64 days.length)), (29, .sl 1 days.length), (1, .loc 0 0), (6, gs 2 x.2.length)])
        (fun x => [.box [.val sr, .val (.int .i64 sm), .val (.int .i64 sl), .val (.string sz), .val (.int .i64 sg), .val (.int .i64 sf), .val smv, .val (.slice a ds.length cap), .val (.int .i64 e)], .row 3 1 ((days ++ List.replicate (ds.length + 1 - days.length) 0).map (.int .i64)), gb 57 8 (rowPp x.2)])
        (fun x R => x.1 ≤ days.length ∧ (0 < x.1 → x.2 ≠ []) ∧ x.2.length ≤ x.1 ∧ (∀ p ∈ x.2, p.OK R) ∧ partsGo e (tiOn ⟨.slice none 0 0, sm, sl, sz, sg, sf, .slice none 0 0⟩ rl ds) (days.drop x.1) (x.2.map fun p => (p.1, p.2.1)) = partsGo e (tiOn ⟨.slice none 0 0, sm, sl, sz, sg, sf, .slice none 0 0⟩ rl ds) days []) (fun x => days.length - x.1) (0, []) [] ?_ ?_ ?_ ?_
      · (try simp only [go_sem, ↓reduceIte, Nat.reduceEqDiff, Nat.reduceAdd, Nat.reduceMul, Nat.reduceLeDiff, Nat.reduceLT, Nat.reduceBNe, reduceCtorEq]) <;> (repeat' (first | rfl | trivial | constructor | (intro h; exact absurd rfl h)))
      · try simp only [go_sem, ↓reduceIte, Nat.reduceEqDiff, Nat.reduceAdd, Nat.reduceMul, Nat.reduceLeDiff, Nat.reduceLT, Nat.reduceBNe, reduceCtorEq]
      · exact ⟨Nat.zero_le _, by simp, Nat.le_refl _, by simp, rfl⟩
      rintro ⟨i, ps⟩ env R4 hle4 hE ⟨hi, hne, hpl, hpo, hgo⟩
      (simp only [go_sem] at hE; obtain ⟨e31, e30, e29, e1', e6⟩ := hE; simp only [go_sem, ↓reduceIte, Nat.reduceEqDiff, Nat.reduceAdd, Nat.reduceMul, Nat.reduceLeDiff, Nat.reduceLT, Nat.reduceBNe, reduceCtorEq, e31, e30, e29, e1', e6]; dsimp only at *)
      refine ⟨fun hlt => ⟨hlt, ?_⟩, fun hge => ?_⟩
      · have hlt' : i < days.length := by omega
        refine ⟨.int .i64 days[i], by rw [List.getElem?_map, List.getElem?_append_left hlt', List.getElem?_eq_getElem hlt']; rfl, ?_⟩
        have hdrop := List.drop_eq_getElem_cons hlt'
        rw [hdrop] at hgo
        simp only [go_sem, ↓reduceIte, Nat.reduceEqDiff, Nat.reduceAdd, Nat.reduceMul, Nat.reduceLeDiff, Nat.reduceLT, Nat.reduceBNe, reduceCtorEq, e31, e30, e29, e1', e6]
        refine ⟨fun hge2 => ?_, fun hlt2 => ?_⟩
        · refine vgrow (rowPp ps) (fun h0 => by rw [gb_ne h0]; rfl) (fun h0 => by rw [h0, gb_nil]; rfl) (by rw [rowPp_len]) (by omega) (by omega) (by omega) ?_
          simp only [go_sem, ↓reduceIte, Nat.reduceEqDiff, Nat.reduceAdd, Nat.reduceMul, Nat.reduceLeDiff, Nat.reduceLT, Nat.reduceBNe, reduceCtorEq, e31, e30, e29, e1', e6]
          rw [partsGo_end hge2] at hgo
          refine ⟨ps ++ [(days[i], Ti.zero, .slice none 0 0)], by simp, fun p hp => ?_, ?_, 4, by simp, by rw [rowPp_snoc]; rfl⟩
          · rcases List.mem_append.1 hp with hp | hp
            · exact hpo p hp
            · simp only [List.mem_cons, List.not_mem_nil, or_false] at hp; subst hp; exact RuleV.nil _
          · rw [List.map_append]
            refine hgo.trans ?_
            rw [hdays]; rfl
        · refine vcall (eOn ⟨sr, sm, sl, sz, sg, sf, smv⟩ rl ds _ e days[i] R4 (hr.mono (RO.le_trans hle1 (RO.le_trans hle2 (RO.le_trans hle3 hle4)))) (h0.mono (RO.le_trans hle1 (RO.le_trans hle2 (RO.le_trans hle3 hle4))))) ?_
          rintro R5 v hle5 ⟨rv, rfl, hrv⟩
          have hrv1 := hrv.one
          obtain ⟨ra, rn, rc, rfl⟩ := hrv.form
          simp only [go_sem, ↓reduceIte, Nat.reduceEqDiff, Nat.reduceAdd, Nat.reduceMul, Nat.reduceLeDiff, Nat.reduceLT, Nat.reduceBNe, reduceCtorEq, Se.cells, e31, e30, e29, e1', e6]
          have hpo5 : ∀ p ∈ ps, p.OK R5 := fun p hp => (hpo p hp).mono hle5
          obtain ⟨ti, hti⟩ : ∃ ti, ti = tiOn ⟨.slice none 0 0, sm, sl, sz, sg, sf, .slice none 0 0⟩ rl ds days[i] := ⟨_, rfl⟩
          have happ : ∀ R6 : RO, RO.le R5 R6 → ∀ {k : SV → St → Prop} {t : Tok k} {e : Nat → SV} {b : List Blk}, b[2]? = some (gb 57 8 (rowPp ps)) → k (.sl b.length (ps.length + 1)) ⟨e, b.set 2 .dead ++ [.row 57 8 (rowPp (ps ++ [(days[i], ti, .slice ra rn rc)]))], R6⟩ →
              AppT 57 8 104 (gs 2 ps.length) 1 (Pp.cells (days[i], ti, .slice ra rn rc)) ⟨e, b, R6⟩ k t := by
            intro R6 hle6 k t e b hb hk
            refine vgrow (rowPp ps) (fun h0 => by rw [hb]) (fun h0 => set_dead_gb (by rw [hb, h0, gb_nil])) (by rw [rowPp_len]) (by omega) (by omega) (by omega) ?_
            rw [← rowPp_snoc]
            exact hk
          rcases List.eq_nil_or_concat ps with hps | ⟨qs, y, hps⟩
          · subst hps
            refine ⟨fun h => by simp at h, fun _ => ?_⟩
            rw [List.map_nil, partsGo_first (by omega), ← hti] at hgo
            have hcl : Pp.cells (days[i], ti, .slice ra rn rc) = [.int .i64 days[i], .slice ra rn rc, .int .i64 (onE days[i] ⟨rl, sm, sl, sz⟩ ds).minute, .int .i64 (onE days[i] ⟨rl, sm, sl, sz⟩ ds).length, .string (onE days[i] ⟨rl, sm, sl, sz⟩ ds).zone, .int .i64 sg, .int .i64 sf, .slice none 0 0] := by rw [hti]; rfl
            rw [← hcl]
            refine happ R5 (RO.le_refl _) rfl ?_
            simp only [go_sem, ↓reduceIte, Nat.reduceEqDiff, Nat.reduceAdd, Nat.reduceMul, Nat.reduceLeDiff, Nat.reduceLT, Nat.reduceBNe, reduceCtorEq, e31, e30, e29, e1', e6]
            refine ⟨_, W.in64 (by omega), (i + 1, [(days[i], ti, .slice ra rn rc)]), [0, 1, 5], ?_⟩
            try simp only [go_sem, ↓reduceIte, Nat.reduceEqDiff, Nat.reduceAdd, Nat.reduceMul, Nat.reduceLeDiff, Nat.reduceLT, Nat.reduceBNe, reduceCtorEq]
            exact ⟨by omega, rfl, by decide, by omega, by rw [hti]; exact hrv, hgo⟩
          · rw [List.concat_eq_append] at hps
            have hpl2 : ps.length = qs.length + 1 := by rw [hps]; simp
            refine ⟨fun _ => ⟨_, W.in64 (by omega), ?_⟩, fun h => by omega⟩
            obtain ⟨yd, yt, yv⟩ := y
            have hyo : RuleV R5 yv yt.rule := hpo5 (yd, yt, yv) (by rw [hps]; simp)
            obtain ⟨ya, yn, yc, rfl⟩ := hyo.form
            have hgb : gb 57 8 (rowPp ps) = .row 57 8 (rowPp ps) := gb_ne (fun e => by have := rowPp_len ps; rw [e] at this; simp at this; omega)
            have hcell : ∀ j, (rowPp ps)[qs.length * 8 + j]? = (Pp.cells (yd, yt, .slice ya yn yc))[j]? := fun j => by rw [hps]; exact rowPp_last qs _ j
            have hidx : ((ps.length : Int) - 1).toNat = qs.length := by omega
            rw [gs_pos (by omega), hgb]
            try simp only [go_sem, ↓reduceIte, Nat.reduceEqDiff, Nat.reduceAdd, Nat.reduceMul, Nat.reduceLeDiff, Nat.reduceLT, Nat.reduceBNe, reduceCtorEq]
            rw [hidx]
            refine ⟨by omega, by omega, ?_⟩
            try simp only [go_sem, ↓reduceIte, Nat.reduceEqDiff, Nat.reduceAdd, Nat.reduceMul, Nat.reduceLeDiff, Nat.reduceLT, Nat.reduceBNe, reduceCtorEq]
            refine ⟨_, (hcell 1).trans rfl, _, (hcell 2).trans rfl, _, (hcell 3).trans rfl, _, (hcell 4).trans rfl, _, (hcell 5).trans rfl, _, (hcell 6).trans rfl, _, (hcell 7).trans rfl, ?_⟩
            simp only [go_sem, ↓reduceIte, Nat.reduceEqDiff, Nat.reduceAdd, Nat.reduceMul, Nat.reduceLeDiff, Nat.reduceLT, Nat.reduceBNe, reduceCtorEq, Pp.se, e31, e30, e29, e1', e6]
            rw [hps, List.map_append] at hgo
            have hcl : Pp.cells (days[i], ti, .slice ra rn rc) = [.int .i64 days[i], .slice ra rn rc, .int .i64 (onE days[i] ⟨rl, sm, sl, sz⟩ ds).minute, .int .i64 (onE days[i] ⟨rl, sm, sl, sz⟩ ds).length, .string (onE days[i] ⟨rl, sm, sl, sz⟩ ds).zone, .int .i64 sg, .int .i64 sf, .slice none 0 0] := by rw [hti]; rfl
            have hst : sameTi ti yt = (decide (yt.minute = (onE days[i] ⟨rl, sm, sl, sz⟩ ds).minute) && decide (yt.length = (onE days[i] ⟨rl, sm, sl, sz⟩ ds).length) && decide ((onE days[i] ⟨rl, sm, sl, sz⟩ ds).rule = yt.rule)) := by rw [hti]; rfl
            have hold : sameTi ti yt = true → partsGo e (tiOn ⟨.slice none 0 0, sm, sl, sz, sg, sf, .slice none 0 0⟩ rl ds) (days.drop (i + 1)) (ps.map fun p => (p.1, p.2.1)) = partsGo e (tiOn ⟨.slice none 0 0, sm, sl, sz, sg, sf, .slice none 0 0⟩ rl ds) days [] := fun hs => by
              rw [← hgo, hps, List.map_append]
              exact (partsGo_same (by omega) (by rw [← hti]; exact hs)).symm
            have hnew : sameTi ti yt = false → partsGo e (tiOn ⟨.slice none 0 0, sm, sl, sz, sg, sf, .slice none 0 0⟩ rl ds) (days.drop (i + 1)) ((ps ++ [(days[i], ti, Value.slice ra rn rc)]).map fun p => (p.1, p.2.1)) = partsGo e (tiOn ⟨.slice none 0 0, sm, sl, sz, sg, sf, .slice none 0 0⟩ rl ds) days [] := fun hs => by
              rw [← hgo, List.map_append, hps, List.map_append, hti]
              exact (partsGo_new (by omega) (by rw [← hti]; exact hs)).symm
            clear hgo
            have hpo6 : ∀ R6 : RO, RO.le R5 R6 → ∀ p ∈ ps ++ [(days[i], ti, Value.slice ra rn rc)], Pp.OK R6 p := fun R6 hle6 p hp => by
              rcases List.mem_append.1 hp with hp | hp
              · exact (hpo5 p hp).mono hle6
              · simp only [List.mem_cons, List.not_mem_nil, or_false] at hp; subst hp; rw [hti]; exact hrv.mono hle6
            refine ⟨fun q1 => ⟨fun q2 => ?_, fun q2 => ?_⟩, fun q1 => ?_⟩
            · refine vcall (eSameRule _ yt.rule _ _ R5 hrv hyo) ?_
              rintro R6 v hle6 rfl
              simp only [go_sem, ↓reduceIte, Nat.reduceEqDiff, Nat.reduceAdd, Nat.reduceMul, Nat.reduceLeDiff, Nat.reduceLT, Nat.reduceBNe, reduceCtorEq, e31, e30, e29, e1', e6]
              refine ⟨fun q3 => ?_, fun q3 => ?_⟩
              · refine ⟨_, W.in64 (by omega), (i + 1, ps), [], ?_⟩
                try simp only [go_sem, ↓reduceIte, Nat.reduceEqDiff, Nat.reduceAdd, Nat.reduceMul, Nat.reduceLeDiff, Nat.reduceLT, Nat.reduceBNe, reduceCtorEq]
                exact ⟨by omega, rfl, by decide, by omega, fun _ => by rw [hps]; simp, by omega, fun p hp => (hpo5 p hp).mono hle6, hold (by rw [hst]; simp [q1, q2, q3])⟩
              · rw [← hcl, ← gs_pos (show ps.length ≠ 0 by omega), ← hgb]
                refine happ R6 hle6 rfl ?_
                simp only [go_sem, ↓reduceIte, Nat.reduceEqDiff, Nat.reduceAdd, Nat.reduceMul, Nat.reduceLeDiff, Nat.reduceLT, Nat.reduceBNe, reduceCtorEq, e31, e30, e29, e1', e6]
                refine ⟨_, W.in64 (by omega), (i + 1, ps ++ [(days[i], ti, .slice ra rn rc)]), [0, 1, 6], ?_⟩
                try simp only [go_sem, ↓reduceIte, Nat.reduceEqDiff, Nat.reduceAdd, Nat.reduceMul, Nat.reduceLeDiff, Nat.reduceLT, Nat.reduceBNe, reduceCtorEq]
                exact ⟨by omega, rfl, by decide, by omega, fun _ => by simp, by omega, hpo6 R6 hle6, hnew (by rw [hst]; simp [q1, q2, q3])⟩
            · rw [← hcl, ← gs_pos (show ps.length ≠ 0 by omega), ← hgb]
              refine happ R5 (RO.le_refl _) rfl ?_
              simp only [go_sem, ↓reduceIte, Nat.reduceEqDiff, Nat.reduceAdd, Nat.reduceMul, Nat.reduceLeDiff, Nat.reduceLT, Nat.reduceBNe, reduceCtorEq, e31, e30, e29, e1', e6]
              refine ⟨_, W.in64 (by omega), (i + 1, ps ++ [(days[i], ti, .slice ra rn rc)]), [0, 1, 6], ?_⟩
              try simp only [go_sem, ↓reduceIte, Nat.reduceEqDiff, Nat.reduceAdd, Nat.reduceMul, Nat.reduceLeDiff, Nat.reduceLT, Nat.reduceBNe, reduceCtorEq]
              exact ⟨by omega, rfl, by decide, by omega, fun _ => by simp, by omega, hpo6 R5 (RO.le_refl _), hnew (by rw [hst]; simp [q1, q2])⟩
            · rw [← hcl, ← gs_pos (show ps.length ≠ 0 by omega), ← hgb]
              refine happ R5 (RO.le_refl _) rfl ?_
              simp only [go_sem, ↓reduceIte, Nat.reduceEqDiff, Nat.reduceAdd, Nat.reduceMul, Nat.reduceLeDiff, Nat.reduceLT, Nat.reduceBNe, reduceCtorEq, e31, e30, e29, e1', e6]
              refine ⟨_, W.in64 (by omega), (i + 1, ps ++ [(days[i], ti, .slice ra rn rc)]), [0, 1, 6], ?_⟩
              try simp only [go_sem, ↓reduceIte, Nat.reduceEqDiff, Nat.reduceAdd, Nat.reduceMul, Nat.reduceLeDiff, Nat.reduceLT, Nat.reduceBNe, reduceCtorEq]
              exact ⟨by omega, rfl, by decide, by omega, fun _ => by simp, by omega, hpo6 R5 (RO.le_refl _), hnew (by rw [hst]; simp [q1])⟩
      · obtain rfl : i = days.length := by omega
        rw [List.drop_length, partsGo_nil] at hgo
        have h1 : ps ≠ [] := hne (List.length_pos_iff.2 hd0)
        have h2 : ps.length ≠ 0 := fun h => h1 (List.eq_nil_of_length_eq_zero h)
        refine ⟨ps, h1, hpo, ?_, 2, gs_pos h2, ?_⟩
        · rw [hgo, hdays]; rfl
        · rw [gb_ne (fun e => h2 (by have := rowPp_len ps; rw [e] at this; simp at this; omega))]; rfl
end Go.Proofs.Ytpnhiknfcpkfbaa
