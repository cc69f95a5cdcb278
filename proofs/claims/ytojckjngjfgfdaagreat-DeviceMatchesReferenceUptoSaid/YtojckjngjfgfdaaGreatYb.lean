import Derived.Test.YtojckjngjfgfdaaGreatYa
import Derived.Test.YtojckjngjfgfdaaGreatZi
import Derived.Test.YtojckjngjfgfdaaGreatSu
import Derived.Test.YtojckjngjfgfdaaGreatCt
import Derived.Test.YtojckjngjfgfdaaGreatDn
namespace Go.Proofs.YtojckjngjfgfdaaGreat
set_option linter.unusedSimpArgs false
set_option linter.unusedVariables false
open Go.Proofs.YtojckjngjfgfdaaGreat.Vc
/-! ### The reference's insertion -/
def insR (l : List De) (e : De) : List De := l.take (insAt l e) ++ e :: l.drop (insAt l e)
theorem insR_eq {l : List De} {e : De} (h : ∀ q ∈ l, keyEq q e = false) : insR l e = insD l e := by
  unfold insR insD
  rw [if_neg]
  intro hk
  rcases Nat.lt_or_ge (insAt l e) l.length with h1 | h1
  · rw [List.getElem?_eq_getElem h1] at hk
    have := h _ (List.getElem_mem h1)
    simp [this] at hk
  · rw [List.getElem?_eq_none h1] at hk; simp at hk
theorem insR_len (l : List De) (e : De) : (insR l e).length = l.length + 1 := by
  have := insAt_le l e
  unfold insR
  rw [List.length_append, List.length_take, List.length_cons, List.length_drop]; omega
theorem rInserted (l : List De) (e : Pl) (lv : Value) (R : RO) (h : EdsV R lv l) (he : PlOK R e) (hl : l.length ≤ 100000) : CallsR Tryz.prog 64 [lv, e.ed.val] R fun R' r => EdsV R' r (insR l e.1) := by
  have hL := fun p R' => rLess p e.ed R'
  obtain ⟨a, cap, rfl, hc, hf⟩ := PlOK.of h
  simp only [Ed.val, Ed.cells, Pl.ed, De.ed] at hL ⊢
  have hale := insAt_le l e.1
  refine callsT mix Tryz.func64 comp64 (by simp [Tryz.ntmps64]) ?_; simp only [go_sem, ↓reduceIte, Nat.reduceEqDiff, Nat.reduceAdd, Nat.reduceMul, Nat.reduceLeDiff, Nat.reduceLT, Nat.reduceBNe, reduceCtorEq, vc64, rs64]
  refine cutL (fun s' => ∃ env R1 ps, s' = ⟨env, [.box (boxc e.ed.cells), gb 31 13 (rowP ps)], R1⟩ ∧ RO.le R R1 ∧ env 6 = .val (.int .i64 (insAt l e.1)) ∧ env 0 = .val (.slice a l.length cap) ∧ env 3 = .loc 0 0 ∧ env 5 = gs 1 ps.length ∧ ps.map (·.1) = l.take (insAt l e.1) ∧ ∀ p ∈ ps, PlOK R1 p) ?_ ?_
  · refine vcLoopR (Nat × List Pl) (fun x => [(6, .val (.int .i64 x.1)), (0, .val (.slice a l.length cap)), (3, .loc 0 0), (5, gs 1 x.2.length)]) (fun x => [.box (boxc e.ed.cells), gb 31 13 (rowP x.2)])
      (fun x R => x.1 ≤ insAt l e.1 ∧ x.2.map (·.1) = l.take x.1 ∧ x.2.length = x.1 ∧ ∀ p ∈ x.2, PlOK R p) (fun x => l.length - x.1) (0, []) [] ?_ ?_ ?_ ?_
    · (try simp only [go_sem, ↓reduceIte, Nat.reduceEqDiff, Nat.reduceAdd, Nat.reduceMul, Nat.reduceLeDiff, Nat.reduceLT, Nat.reduceBNe, reduceCtorEq]) <;> (repeat' (first | rfl | trivial | constructor | (intro h; exact absurd rfl h)))
    · try simp only [go_sem, ↓reduceIte, Nat.reduceEqDiff, Nat.reduceAdd, Nat.reduceMul, Nat.reduceLeDiff, Nat.reduceLT, Nat.reduceBNe, reduceCtorEq]
      exact boxc_ok _ _
    · exact ⟨Nat.zero_le _, rfl, rfl, by simp⟩
    rintro ⟨i, ps⟩ env R1 hle1 hE ⟨hi, hps, hpl, hpo⟩
    simp only [] at hi hps hpl hpo
    simp only [boxc, Ed.cells, Pl.ed, De.ed, List.map_cons, List.map_nil] at hE ⊢
    (simp only [go_sem] at hE; obtain ⟨e6, e0, e3, e5⟩ := hE; simp only [go_sem, ↓reduceIte, Nat.reduceEqDiff, Nat.reduceAdd, Nat.reduceMul, Nat.reduceLeDiff, Nat.reduceLT, Nat.reduceBNe, reduceCtorEq, e6, e0, e3, e5]; dsimp only at *)
    refine ⟨fun hlt => ?_, fun hge => ?_⟩
    · have hlt' : i < l.length := by omega
      obtain ⟨ad, p, had, hp1, hR, hpok⟩ := hf i hlt'
      have hcells : ∀ j u, (p.ed.cells)[j]? = some u → R1 ((ad.add (i * 13)).add j) u := fun j u hj => hle1 _ _ (hR j u hj)
      refine ⟨by omega, vat ad had ?_⟩
      try simp only [go_sem, ↓reduceIte, Nat.reduceEqDiff, Nat.reduceAdd, Nat.reduceMul, Nat.reduceLeDiff, Nat.reduceLT, Nat.reduceBNe, reduceCtorEq]
      refine vloadn p.ed.cells rfl hcells ?_
      simp only [go_sem, ↓reduceIte, Nat.reduceEqDiff, Nat.reduceAdd, Nat.reduceMul, Nat.reduceLeDiff, Nat.reduceLT, Nat.reduceBNe, reduceCtorEq, Ed.cells, Pl.ed, De.ed, e6, e0, e3, e5]
      have hLp := hL p.ed R1
      simp only [Ed.val, Ed.cells, Pl.ed, De.ed] at hLp
      refine vcall hLp ?_
      rintro R2 v hle2 rfl
      have hle : lessE p.ed e.ed = lessD p.1 e.1 := rfl
      simp only [Pl.ed, De.ed] at hle
      rw [hle]
      try simp only [go_sem, ↓reduceIte, Nat.reduceEqDiff, Nat.reduceAdd, Nat.reduceMul, Nat.reduceLeDiff, Nat.reduceLT, Nat.reduceBNe, reduceCtorEq, Int.reduceLE, Int.reduceLT, Int.reduceToNat, Int.cast_ofNat_Int, Int.reduceEq, Int.reduceNe, e6, e0, e3, e5]
      refine ⟨fun hl => ?_, fun hl => ?_⟩
      · refine ⟨by omega, vat ad had ?_⟩
        try simp only [go_sem, ↓reduceIte, Nat.reduceEqDiff, Nat.reduceAdd, Nat.reduceMul, Nat.reduceLeDiff, Nat.reduceLT, Nat.reduceBNe, reduceCtorEq]
        refine vloadn p.ed.cells rfl (fun j u hj => hle2 _ _ (hcells j u hj)) ?_
        simp only [go_sem, ↓reduceIte, Nat.reduceEqDiff, Nat.reduceAdd, Nat.reduceMul, Nat.reduceLeDiff, Nat.reduceLT, Nat.reduceBNe, reduceCtorEq, Ed.cells, Pl.ed, De.ed, e6, e0, e3, e5]
        refine vgrow (rowP ps) (fun h0 => by rw [gb_ne h0]; rfl) (fun h0 => by rw [h0, gb_nil]; rfl) (by rw [rowP_len]) (by omega) (by omega) (by omega) ?_
        simp only [go_sem, ↓reduceIte, Nat.reduceEqDiff, Nat.reduceAdd, Nat.reduceMul, Nat.reduceLeDiff, Nat.reduceLT, Nat.reduceBNe, reduceCtorEq, e6, e0, e3, e5]
        refine ⟨_, W.in64 (by omega), (i + 1, ps ++ [p]), [0, 3], ?_⟩
        try simp only [go_sem, ↓reduceIte, Nat.reduceEqDiff, Nat.reduceAdd, Nat.reduceMul, Nat.reduceLeDiff, Nat.reduceLT, Nat.reduceBNe, reduceCtorEq]
        refine ⟨by omega, (by repeat' (first | rfl | exact fun _ => by rw [rowP_snoc]; rfl | exact fun h => gb_ne h | constructor)), (by first | decide | exact ⟨boxc_ok _ _, by decide⟩), ?_, by rw [List.map_append, hps, List.take_succ_eq_append_getElem hlt', ← hp1]; rfl, by simp [hpl], fun q hq => ?_⟩
        · rcases Nat.lt_or_ge i (insAt l e.1) with h1 | h1
          · exact h1
          · exfalso
            obtain rfl : i = insAt l e.1 := by omega
            have := insAt_not (by omega : insAt l e.1 < l.length)
            rw [← hp1, hl] at this
            cases this
        · rcases List.mem_append.1 hq with hq | hq
          · exact (hpo q hq).mono hle2
          · simp only [List.mem_cons, List.not_mem_nil, or_false] at hq
            subst hq
            exact hpok.mono (RO.le_trans hle1 hle2)
      · have hia : i = insAt l e.1 := by
          rcases Nat.lt_or_ge i (insAt l e.1) with h1 | h1
          · have := insAt_less h1 hlt'
            rw [← hp1, hl] at this; cases this
          · omega
        rw [← hia]
        exact ⟨_, _, ps, rfl, RO.le_trans hle1 hle2, e6, e0, e3, e5, hps, fun q hq => (hpo q hq).mono hle2⟩
    · have hia : i = insAt l e.1 := by omega
      rw [← hia]
      exact ⟨_, _, ps, rfl, hle1, e6, e0, e3, e5, hps, hpo⟩
  rintro s' ⟨env, R1, ps, rfl, hle1, e6, e0, e3, e5, hps, hpo⟩
  have hpl : ps.length = insAt l e.1 := by
    have := congrArg List.length hps
    rw [List.length_map, List.length_take] at this; omega
  simp only [boxc, Ed.cells, Pl.ed, De.ed, List.map_cons, List.map_nil]
  try simp only [go_sem, ↓reduceIte, Nat.reduceEqDiff, Nat.reduceAdd, Nat.reduceMul, Nat.reduceLeDiff, Nat.reduceLT, Nat.reduceBNe, reduceCtorEq, Int.reduceLE, Int.reduceLT, Int.reduceToNat, Int.cast_ofNat_Int, Int.reduceEq, Int.reduceNe, e6, e0, e3, e5]
  refine vgrow (rowP ps) (fun h0 => by rw [gb_ne h0]; rfl) (fun h0 => by rw [h0, gb_nil]; rfl) (by rw [rowP_len]) (by omega) (by omega) (by omega) ?_
  try simp only [go_sem, ↓reduceIte, Nat.reduceEqDiff, Nat.reduceAdd, Nat.reduceMul, Nat.reduceLeDiff, Nat.reduceLT, Nat.reduceBNe, reduceCtorEq, Int.reduceLE, Int.reduceLT, Int.reduceToNat, Int.cast_ofNat_Int, Int.reduceEq, Int.reduceNe, e6, e0, e3, e5]
  refine ⟨insAt l e.1, l.length, rfl, rfl, by omega, by omega, ?_⟩
  have hsub := EdsV.sub (h.mono hle1) hale (Nat.le_refl _)
  rw [List.take_length] at hsub
  have hdl : (l.drop (insAt l e.1)).length = l.length - insAt l e.1 := List.length_drop
  rw [← hdl] at hsub ⊢
  obtain ⟨a2, cap2, qs, e1, hqs, hqo, hsrc⟩ := hsub.src
  obtain ⟨rfl, _, rfl⟩ := Value.slice.inj e1
  refine hsrc ?_
  try simp only [go_sem, ↓reduceIte, Nat.reduceEqDiff, Nat.reduceAdd, Nat.reduceMul, Nat.reduceLeDiff, Nat.reduceLT, Nat.reduceBNe, reduceCtorEq, Int.reduceLE, Int.reduceLT, Int.reduceToNat, Int.cast_ofNat_Int, Int.reduceEq, Int.reduceNe, e6, e0, e3, e5]
  refine vappO (rowP (ps ++ [e])) (by rw [rowP_snoc]; rfl) (by rw [rowP_len]; simp) (by rw [hdl]; omega) ?_
  try simp only [go_sem, ↓reduceIte, Nat.reduceEqDiff, Nat.reduceAdd, Nat.reduceMul, Nat.reduceLeDiff, Nat.reduceLT, Nat.reduceBNe, reduceCtorEq, Int.reduceLE, Int.reduceLT, Int.reduceToNat, Int.cast_ofNat_Int, Int.reduceEq, Int.reduceNe, e6, e0, e3, e5]
  rw [← rowP_app]
  intro bb bc R2 hle2 hrow hcap _
  try simp only [go_sem, ↓reduceIte, Nat.reduceEqDiff, Nat.reduceAdd, Nat.reduceMul, Nat.reduceLeDiff, Nat.reduceLT, Nat.reduceBNe, reduceCtorEq]
  have hlen : ps.length + 1 + (l.drop (insAt l e.1)).length = (ps ++ [e] ++ qs).length := by
    have := congrArg List.length hqs
    rw [List.length_map] at this
    simp only [List.length_append, List.length_cons, List.length_nil]; omega
  have hm : insR l e.1 = (ps ++ [e] ++ qs).map (·.1) := by
    unfold insR
    rw [List.map_append, List.map_append, hps, hqs]; simp
  rw [hlen, hm]
  refine EdsV.row hrow (by rw [rowP_app, List.length_append]; exact hcap) (fun q hq => ?_) (by rw [← hlen, hdl]; omega)
  rcases List.mem_append.1 hq with hq | hq
  · rcases List.mem_append.1 hq with hq | hq
    · exact (hpo q hq).mono hle2
    · simp only [List.mem_cons, List.not_mem_nil, or_false] at hq
      subst hq
      exact he.mono (RO.le_trans hle1 hle2)
  · exact (hqo q hq).mono hle2
/-! ### Add, Sync of the reference -/
theorem rAddD (d : Dv) (v : Value) (e : De) (ra : Option Addr) (rn rc : Nat) (R : RO) (h : EdsV R v d.edits) (he : RuleV R (.slice ra rn rc) e.rule) :
    CallsR Tryz.prog 18 [.agg (dvCells d v).toArray, .agg ((e.ed ra rn rc).cells).toArray] R fun R' r => DvR R' r (dvAdd d e) := by
  have hV := rValidD d v
  have h0 := h
  have hrn := he.len
  have hVe := fun R' => rValid ((bareD e).ed ra rn rc) R'
  obtain ⟨vb, hvb⟩ : ∃ vb, validD (bareD e) = vb := ⟨_, rfl⟩
  have hve : validE ((bareD e).ed ra rn rc) = vb := (validE_ed (bareD e, ra, rn, rc) hrn).trans hvb
  obtain ⟨a, cap, rfl, hc, _⟩ := h.form
  simp only [Ed.val, Ed.cells, De.ed, bareD] at hVe hve
  simp only [dvCells, Ed.cells, De.ed] at hV ⊢
  refine callsT mix Tryz.func18 comp18 (by simp [Tryz.ntmps18]) ?_; simp only [go_sem, ↓reduceIte, Nat.reduceEqDiff, Nat.reduceAdd, Nat.reduceMul, Nat.reduceLeDiff, Nat.reduceLT, Nat.reduceBNe, reduceCtorEq, vc18, rs18]
  refine vcall (hV R h0) ?_
  rintro R1 r hle1 rfl
  unfold dvAdd
  rw [hvb]
  cases hv : validV d with
  | false =>
    try simp only [go_sem, ↓reduceIte, Nat.reduceEqDiff, Nat.reduceAdd, Nat.reduceMul, Nat.reduceLeDiff, Nat.reduceLT, Nat.reduceBNe, reduceCtorEq]
    try rw [if_neg (by simp)]
    try exact rfl
  | true =>
  have hh := validV_hdr hv
  try simp only [go_sem, ↓reduceIte, Nat.reduceEqDiff, Nat.reduceAdd, Nat.reduceMul, Nat.reduceLeDiff, Nat.reduceLT, Nat.reduceBNe, reduceCtorEq]
  refine vcall (hVe R1) ?_
  rintro R2 r hle2 rfl
  rw [hve]
  cases vb with
  | false =>
    try simp only [go_sem, ↓reduceIte, Nat.reduceEqDiff, Nat.reduceAdd, Nat.reduceMul, Nat.reduceLeDiff, Nat.reduceLT, Nat.reduceBNe, reduceCtorEq]
    try rw [if_neg (by simp)]
    try exact rfl
  | true =>
  try simp only [go_sem, ↓reduceIte, Nat.reduceEqDiff, Nat.reduceAdd, Nat.reduceMul, Nat.reduceLeDiff, Nat.reduceLT, Nat.reduceBNe, reduceCtorEq]
  refine ⟨fun h1 => ⟨fun h2 => ?_, fun h2 => ?_⟩, fun h1 => ?_⟩
  · rw [if_pos (.inr h2)]; exact rfl
  · rw [if_neg (show ¬ (4096 ≤ d.edits.length ∨ 17179869184 ≤ d.next) by omega)]
    refine ⟨_, W.in64 (by omega), _, W.in64 (by omega), ?_⟩
    have hle02 := RO.le_trans hle1 hle2
    obtain ⟨a', cap', ps, e1, hps, hpo, hsrc⟩ := (h0.mono hle02).src
    obtain ⟨rfl, _, rfl⟩ := Value.slice.inj e1
    have hpl : ps.length = d.edits.length := by rw [← hps, List.length_map]
    refine hsrc ?_
    try simp only [go_sem, ↓reduceIte, Nat.reduceEqDiff, Nat.reduceAdd, Nat.reduceMul, Nat.reduceLeDiff, Nat.reduceLT, Nat.reduceBNe, reduceCtorEq]
    refine vappO [] rfl rfl (by omega) ?_
    try simp only [go_sem, ↓reduceIte, Nat.reduceEqDiff, Nat.reduceAdd, Nat.reduceMul, Nat.reduceLeDiff, Nat.reduceLT, Nat.reduceBNe, reduceCtorEq]
    refine vappO (rowP ps) rfl (by rw [rowP_len, hpl]) (by omega) ?_
    try simp only [go_sem, ↓reduceIte, Nat.reduceEqDiff, Nat.reduceAdd, Nat.reduceMul, Nat.reduceLeDiff, Nat.reduceLT, Nat.reduceBNe, reduceCtorEq]
    refine ⟨_, W.in64 (by omega), ?_⟩
    try simp only [go_sem, ↓reduceIte, Nat.reduceEqDiff, Nat.reduceAdd, Nat.reduceMul, Nat.reduceLeDiff, Nat.reduceLT, Nat.reduceBNe, reduceCtorEq]
    intro bb bc R3 hle3 hrow hcap _
    try simp only [go_sem, ↓reduceIte, Nat.reduceEqDiff, Nat.reduceAdd, Nat.reduceMul, Nat.reduceLeDiff, Nat.reduceLT, Nat.reduceBNe, reduceCtorEq]
    refine ⟨_, rfl, ?_⟩
    have hrow' : RowIn R3 bb (rowP (ps ++ [(stampD d e, ra, rn, rc)])) := by rw [rowP_snoc]; exact hrow
    have := EdsV.row hrow' (by rw [rowP_snoc, List.length_append]; exact hcap) (fun q hq => ?_) (by rw [List.length_append, hpl]; show d.edits.length + 1 ≤ _; omega)
    · rw [List.map_append, hps, List.length_append, hpl] at this
      exact this
    · rcases List.mem_append.1 hq with hq | hq
      · exact (hpo q hq).mono hle3
      · simp only [List.mem_cons, List.not_mem_nil, or_false] at hq
        subst hq
        exact he.mono (RO.le_trans hle02 hle3)
  · rw [if_pos (.inl (by omega))]; exact rfl
end Go.Proofs.YtojckjngjfgfdaaGreat
