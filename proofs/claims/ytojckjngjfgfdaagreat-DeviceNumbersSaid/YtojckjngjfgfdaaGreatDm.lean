import Derived.Test.YtojckjngjfgfdaaGreatDr
namespace Go.Proofs.YtojckjngjfgfdaaGreat
set_option linter.unusedSimpArgs false
set_option linter.unusedVariables false
open Go.Proofs.YtojckjngjfgfdaaGreat.Vc
/-! ### Numbers of new edits (plain) -/
theorem run_other {n : Nat} {M : List De} {w : Wd} (h : Inv n M w) (hn : n ≤ 40) {o : Opn} (hk : 2 < o.kind % 6) : Inv (n + 1) M (runW w o) := by
  by_cases h3 : o.kind % 6 = 3
  · obtain ⟨r, _, h, _⟩ := run_sync h hn h3; exact h
  by_cases h4 : o.kind % 6 = 4
  · exact (run_copy h h4).2
  · exact run_restore h hn (by omega)
theorem run_made {n : Nat} {M : List De} {w : Wd} (h : Inv n M w) (hn : n ≤ 40) {o : Opn} (hk : ¬ 2 < o.kind % 6) : ∃ e, Inv (n + 1) (M ++ [e]) (runW w o) ∧ ((runW w o).now o.i).edits = (w.now o.i).edits ++ [e] ∧ e.device = ((runW w o).now o.i).id ∧ (∀ y ∈ (w.now o.i).edits, y.seq < e.seq) ∧ ∀ m ∈ M, keyEq m e = false := by
  have hi := o.i_lt
  obtain ⟨e1, e2⟩ := run_add h hn (o := o) (by omega) (by omega) (by omega)
  refine ⟨_, e2, ?_, ?_, fun y hy => ?_, h.newKey hn hi _⟩
  · rw [e1, now_setNow _ _ hi hi, if_pos rfl]
  · rw [e1, now_setNow _ _ hi hi, if_pos rfl]; rfl
  · have h1 := ((validV_all (h.val o.i hi).1).1 y hy).2
    have h2 := validV_hdr (h.val o.i hi).1
    show y.seq < 64 * (w.now o.i).next + (w.now o.i).epoch
    omega
/-! ### The law DeviceNumbers -/
set_option maxHeartbeats 8000000 in
theorem lNumbers (R : RO) (os : List Opn) (v : Value) (h : OpC R v os) : CallsR Tryz.prog 5 [v] R fun _ v => v = .bool true := by
  obtain ⟨a, cap, rfl, hc, hf⟩ := h.form
  obtain ⟨_, hok, hl⟩ := h
  refine callsT mix Tryz.func5 comp5 (by simp [Tryz.ntmps5]) ?_; simp only [go_sem, ↓reduceIte, Nat.reduceEqDiff, Nat.reduceAdd, Nat.reduceMul, Nat.reduceLeDiff, Nat.reduceLT, Nat.reduceBNe, reduceCtorEq, vc5, rs5]
  refine vcall (dSanity R) ?_
  rintro R1 v hle1 rfl
  try simp only [go_sem, ↓reduceIte, Nat.reduceEqDiff, Nat.reduceAdd, Nat.reduceMul, Nat.reduceLeDiff, Nat.reduceLT, Nat.reduceBNe, reduceCtorEq]
  refine vcall (eStart R1) ?_
  rintro R2 u hle2 ⟨x0, x1, x2, y0, y1, y2, rfl, h0, h1, h2, h3, h4, h5⟩
  obtain ⟨a0, c0, rfl, _⟩ := h0.form
  obtain ⟨a1, c1, rfl, _⟩ := h1.form
  obtain ⟨a2, c2, rfl, _⟩ := h2.form
  obtain ⟨a3, c3, rfl, _⟩ := h3.form
  obtain ⟨a4, c4, rfl, _⟩ := h4.form
  obtain ⟨a5, c5, rfl, _⟩ := h5.form
  simp only [wdCells]
  try simp only [go_sem, ↓reduceIte, Nat.reduceEqDiff, Nat.reduceAdd, Nat.reduceMul, Nat.reduceLeDiff, Nat.reduceLT, Nat.reduceBNe, reduceCtorEq]
  refine vcLoopR (Nat × Wd × (List Value) × List Pl) (fun x => [(6, .val (.int .i64 x.1)), (0, .val (.slice a os.length cap)), (3, .val (.bool true)), (4, .loc 0 0), (5, gs 1 x.2.2.2.length)])
    (fun x => [.box (boxc x.2.2.1), gb 31 13 (rowP x.2.2.2)])
    (fun x R => x.1 ≤ os.length ∧ x.1 ≤ 20 ∧ WdV R (.agg x.2.2.1.toArray) x.2.1 ∧ Inv x.1 (x.2.2.2.map (·.1)) x.2.1 ∧ ∀ p ∈ x.2.2.2, PlOK R p) (fun x => os.length - x.1) (0, startW, wdCells startW (.slice a0 0 c0) (.slice a1 0 c1) (.slice a2 0 c2) (.slice a3 0 c3) (.slice a4 0 c4) (.slice a5 0 c5), []) [] ?_ ?_ ?_ ?_
  · (try simp only [go_sem, ↓reduceIte, Nat.reduceEqDiff, Nat.reduceAdd, Nat.reduceMul, Nat.reduceLeDiff, Nat.reduceLT, Nat.reduceBNe, reduceCtorEq]) <;> (repeat' (first | rfl | trivial | constructor | (intro h; exact absurd rfl h)))
  · try simp only [go_sem, ↓reduceIte, Nat.reduceEqDiff, Nat.reduceAdd, Nat.reduceMul, Nat.reduceLeDiff, Nat.reduceLT, Nat.reduceBNe, reduceCtorEq]
    exact boxc_ok _ _
  · exact ⟨Nat.zero_le _, Nat.zero_le _, ⟨_, _, _, _, _, _, rfl, h0, h1, h2, h3, h4, h5⟩, inv_start, by simp⟩
  rintro ⟨i, w, xs, ps⟩ env R3 hle3 hE ⟨hi, hi20, hW, hI, hpo⟩
  simp only [] at hW hI hpo hi hi20
  obtain ⟨x0, x1, x2, y0, y1, y2, e, g0, g1, g2, g3, g4, g5⟩ := hW
  have e := congrArg Array.toList (Value.agg.inj e)
  rw [List.toList_toArray, List.toList_toArray] at e
  subst e
  simp only [wdCells, boxc, List.map_cons, List.map_nil] at hE ⊢
  obtain ⟨a0, c0, rfl, _⟩ := g0.form
  obtain ⟨a1, c1, rfl, _⟩ := g1.form
  obtain ⟨a2, c2, rfl, _⟩ := g2.form
  obtain ⟨a3, c3, rfl, _⟩ := g3.form
  obtain ⟨a4, c4, rfl, _⟩ := g4.form
  obtain ⟨a5, c5, rfl, _⟩ := g5.form
  (simp only [go_sem] at hE; obtain ⟨e6, e0, e3, e4, e5⟩ := hE; simp only [go_sem, ↓reduceIte, Nat.reduceEqDiff, Nat.reduceAdd, Nat.reduceMul, Nat.reduceLeDiff, Nat.reduceLT, Nat.reduceBNe, reduceCtorEq, e6, e0, e3, e4, e5]; dsimp only at *)
  intro hlt hlt2
  have hlt' : i < os.length := by omega
  obtain ⟨ad, had, hR⟩ := hf i hlt'
  obtain ⟨o, ho⟩ : ∃ o, o = os[i] := ⟨_, rfl⟩
  rw [← ho] at hR
  have hoo : o.ok := by rw [ho]; exact hok _ (List.getElem_mem hlt')
  have hR' : ∀ j u, (o.cells)[j]? = some u → R3 ((ad.add (i * 16)).add j) u := fun j u hj => hle3 _ _ (hle2 _ _ (hle1 _ _ (hR j u hj)))
  obtain ⟨k, hk⟩ : ∃ k : Nat, k = o.i := ⟨_, rfl⟩
  have hk3 : k < 3 := by rw [hk]; exact o.i_lt
  have hka : o.a.tmod 3 = (k : Int) := by
    have := rem3 hoo.2.1.1
    rw [hk]; unfold Opn.i; omega
  have hkm : o.kind.tmod 6 = o.kind % 6 := tmod_nonneg' hoo.1.1
  obtain ⟨d, dd⟩ : ∃ d, d = w.now k := ⟨_, rfl⟩
  obtain ⟨da, dc, d0, d1, d2, d3, dE⟩ : ∃ da dc, ([.val (.int .i64 w.n0.id), .val (.int .i64 w.n0.epoch), .val (.int .i64 w.n0.next), .val (.slice a0 w.n0.edits.length c0), .val (.int .i64 w.n1.id), .val (.int .i64 w.n1.epoch), .val (.int .i64 w.n1.next), .val (.slice a1 w.n1.edits.length c1), .val (.int .i64 w.n2.id), .val (.int .i64 w.n2.epoch), .val (.int .i64 w.n2.next), .val (.slice a2 w.n2.edits.length c2), .val (.int .i64 w.c0.id), .val (.int .i64 w.c0.epoch), .val (.int .i64 w.c0.next), .val (.slice a3 w.c0.edits.length c3), .val (.int .i64 w.c1.id), .val (.int .i64 w.c1.epoch), .val (.int .i64 w.c1.next), .val (.slice a4 w.c1.edits.length c4), .val (.int .i64 w.c2.id), .val (.int .i64 w.c2.epoch), .val (.int .i64 w.c2.next), .val (.slice a5 w.c2.edits.length c5), .val (.int .i64 w.e0), .val (.int .i64 w.e1), .val (.int .i64 w.e2)] : List SV)[k * 4]? = some (.val (.int .i64 d.id)) ∧ ([.val (.int .i64 w.n0.id), .val (.int .i64 w.n0.epoch), .val (.int .i64 w.n0.next), .val (.slice a0 w.n0.edits.length c0), .val (.int .i64 w.n1.id), .val (.int .i64 w.n1.epoch), .val (.int .i64 w.n1.next), .val (.slice a1 w.n1.edits.length c1), .val (.int .i64 w.n2.id), .val (.int .i64 w.n2.epoch), .val (.int .i64 w.n2.next), .val (.slice a2 w.n2.edits.length c2), .val (.int .i64 w.c0.id), .val (.int .i64 w.c0.epoch), .val (.int .i64 w.c0.next), .val (.slice a3 w.c0.edits.length c3), .val (.int .i64 w.c1.id), .val (.int .i64 w.c1.epoch), .val (.int .i64 w.c1.next), .val (.slice a4 w.c1.edits.length c4), .val (.int .i64 w.c2.id), .val (.int .i64 w.c2.epoch), .val (.int .i64 w.c2.next), .val (.slice a5 w.c2.edits.length c5), .val (.int .i64 w.e0), .val (.int .i64 w.e1), .val (.int .i64 w.e2)] : List SV)[k * 4 + 1]? = some (.val (.int .i64 d.epoch)) ∧ ([.val (.int .i64 w.n0.id), .val (.int .i64 w.n0.epoch), .val (.int .i64 w.n0.next), .val (.slice a0 w.n0.edits.length c0), .val (.int .i64 w.n1.id), .val (.int .i64 w.n1.epoch), .val (.int .i64 w.n1.next), .val (.slice a1 w.n1.edits.length c1), .val (.int .i64 w.n2.id), .val (.int .i64 w.n2.epoch), .val (.int .i64 w.n2.next), .val (.slice a2 w.n2.edits.length c2), .val (.int .i64 w.c0.id), .val (.int .i64 w.c0.epoch), .val (.int .i64 w.c0.next), .val (.slice a3 w.c0.edits.length c3), .val (.int .i64 w.c1.id), .val (.int .i64 w.c1.epoch), .val (.int .i64 w.c1.next), .val (.slice a4 w.c1.edits.length c4), .val (.int .i64 w.c2.id), .val (.int .i64 w.c2.epoch), .val (.int .i64 w.c2.next), .val (.slice a5 w.c2.edits.length c5), .val (.int .i64 w.e0), .val (.int .i64 w.e1), .val (.int .i64 w.e2)] : List SV)[k * 4 + 2]? = some (.val (.int .i64 d.next)) ∧ ([.val (.int .i64 w.n0.id), .val (.int .i64 w.n0.epoch), .val (.int .i64 w.n0.next), .val (.slice a0 w.n0.edits.length c0), .val (.int .i64 w.n1.id), .val (.int .i64 w.n1.epoch), .val (.int .i64 w.n1.next), .val (.slice a1 w.n1.edits.length c1), .val (.int .i64 w.n2.id), .val (.int .i64 w.n2.epoch), .val (.int .i64 w.n2.next), .val (.slice a2 w.n2.edits.length c2), .val (.int .i64 w.c0.id), .val (.int .i64 w.c0.epoch), .val (.int .i64 w.c0.next), .val (.slice a3 w.c0.edits.length c3), .val (.int .i64 w.c1.id), .val (.int .i64 w.c1.epoch), .val (.int .i64 w.c1.next), .val (.slice a4 w.c1.edits.length c4), .val (.int .i64 w.c2.id), .val (.int .i64 w.c2.epoch), .val (.int .i64 w.c2.next), .val (.slice a5 w.c2.edits.length c5), .val (.int .i64 w.e0), .val (.int .i64 w.e1), .val (.int .i64 w.e2)] : List SV)[k * 4 + 3]? = some (.val (.slice da d.edits.length dc)) ∧ EdsV R3 (.slice da d.edits.length dc) d.edits := by
    subst dd
    rcases lt3 hk3 with rfl | rfl | rfl
    · exact ⟨a0, c0, rfl, rfl, rfl, rfl, g0⟩
    · exact ⟨a1, c1, rfl, rfl, rfl, rfl, g1⟩
    · exact ⟨a2, c2, rfl, rfl, rfl, rfl, g2⟩
  have hM := eRun w o _ R3 ⟨_, _, _, _, _, _, rfl, g0, g1, g2, g3, g4, g5⟩ hoo (hI.eps (by omega))
  simp only [wdCells] at hM
  refine ⟨by omega, vat ad had ?_⟩
  try simp only [go_sem, ↓reduceIte, Nat.reduceEqDiff, Nat.reduceAdd, Nat.reduceMul, Nat.reduceLeDiff, Nat.reduceLT, Nat.reduceBNe, reduceCtorEq]
  refine vload (.int .u8 o.a) (hR' 1 _ rfl) ?_
  try simp only [go_sem, ↓reduceIte, Nat.reduceEqDiff, Nat.reduceAdd, Nat.reduceMul, Nat.reduceLeDiff, Nat.reduceLT, Nat.reduceBNe, reduceCtorEq, Int.reduceLE, Int.reduceLT, Int.reduceToNat, Int.cast_ofNat_Int, Int.reduceEq, Int.reduceNe, e6, e0, e3, e4, e5, hka]
  refine ⟨_, W.in64 (by omega), ?_⟩
  try simp only [go_sem, ↓reduceIte, Nat.reduceEqDiff, Nat.reduceAdd, Nat.reduceMul, Nat.reduceLeDiff, Nat.reduceLT, Nat.reduceBNe, reduceCtorEq, Int.reduceLE, Int.reduceLT, Int.reduceToNat, Int.cast_ofNat_Int, Int.reduceEq, Int.reduceNe, e6, e0, e3, e4, e5, hka]
  refine ⟨by omega, ?_⟩
  try simp only [go_sem, ↓reduceIte, Nat.reduceEqDiff, Nat.reduceAdd, Nat.reduceMul, Nat.reduceLeDiff, Nat.reduceLT, Nat.reduceBNe, reduceCtorEq, Int.reduceLE, Int.reduceLT, Int.reduceToNat, Int.cast_ofNat_Int, Int.reduceEq, Int.reduceNe, e6, e0, e3, e4, e5, d0, d1, d2, d3]
  refine ⟨by omega, vat ad had ?_⟩
  try simp only [go_sem, ↓reduceIte, Nat.reduceEqDiff, Nat.reduceAdd, Nat.reduceMul, Nat.reduceLeDiff, Nat.reduceLT, Nat.reduceBNe, reduceCtorEq]
  refine vloadn o.cells rfl hR' ?_
  simp only [go_sem, ↓reduceIte, Nat.reduceEqDiff, Nat.reduceAdd, Nat.reduceMul, Nat.reduceLeDiff, Nat.reduceLT, Nat.reduceBNe, reduceCtorEq, Ed.cells, e6, e0, e3, e4, e5]
  refine vcall hM ?_
  rintro R4 u hle4 ⟨z0, z1, z2, z3, z4, z5, rfl, q0, q1, q2, q3, q4, q5⟩
  obtain ⟨w2, hw2⟩ : ∃ w2, w2 = runW w o := ⟨_, rfl⟩
  rw [← hw2] at q0 q1 q2 q3 q4 q5 ⊢
  obtain ⟨b0, f0, rfl, _⟩ := q0.form
  obtain ⟨b1, f1, rfl, _⟩ := q1.form
  obtain ⟨b2, f2, rfl, _⟩ := q2.form
  obtain ⟨b3, f3, rfl, _⟩ := q3.form
  obtain ⟨b4, f4, rfl, _⟩ := q4.form
  obtain ⟨b5, f5, rfl, _⟩ := q5.form
  obtain ⟨t, td⟩ : ∃ t, t = w2.now k := ⟨_, rfl⟩
  obtain ⟨ta, tc, t0, t1, t2, t3, tE⟩ : ∃ da dc, ([.val (.int .i64 w2.n0.id), .val (.int .i64 w2.n0.epoch), .val (.int .i64 w2.n0.next), .val (.slice b0 w2.n0.edits.length f0), .val (.int .i64 w2.n1.id), .val (.int .i64 w2.n1.epoch), .val (.int .i64 w2.n1.next), .val (.slice b1 w2.n1.edits.length f1), .val (.int .i64 w2.n2.id), .val (.int .i64 w2.n2.epoch), .val (.int .i64 w2.n2.next), .val (.slice b2 w2.n2.edits.length f2), .val (.int .i64 w2.c0.id), .val (.int .i64 w2.c0.epoch), .val (.int .i64 w2.c0.next), .val (.slice b3 w2.c0.edits.length f3), .val (.int .i64 w2.c1.id), .val (.int .i64 w2.c1.epoch), .val (.int .i64 w2.c1.next), .val (.slice b4 w2.c1.edits.length f4), .val (.int .i64 w2.c2.id), .val (.int .i64 w2.c2.epoch), .val (.int .i64 w2.c2.next), .val (.slice b5 w2.c2.edits.length f5), .val (.int .i64 w2.e0), .val (.int .i64 w2.e1), .val (.int .i64 w2.e2)] : List SV)[k * 4]? = some (.val (.int .i64 t.id)) ∧ ([.val (.int .i64 w2.n0.id), .val (.int .i64 w2.n0.epoch), .val (.int .i64 w2.n0.next), .val (.slice b0 w2.n0.edits.length f0), .val (.int .i64 w2.n1.id), .val (.int .i64 w2.n1.epoch), .val (.int .i64 w2.n1.next), .val (.slice b1 w2.n1.edits.length f1), .val (.int .i64 w2.n2.id), .val (.int .i64 w2.n2.epoch), .val (.int .i64 w2.n2.next), .val (.slice b2 w2.n2.edits.length f2), .val (.int .i64 w2.c0.id), .val (.int .i64 w2.c0.epoch), .val (.int .i64 w2.c0.next), .val (.slice b3 w2.c0.edits.length f3), .val (.int .i64 w2.c1.id), .val (.int .i64 w2.c1.epoch), .val (.int .i64 w2.c1.next), .val (.slice b4 w2.c1.edits.length f4), .val (.int .i64 w2.c2.id), .val (.int .i64 w2.c2.epoch), .val (.int .i64 w2.c2.next), .val (.slice b5 w2.c2.edits.length f5), .val (.int .i64 w2.e0), .val (.int .i64 w2.e1), .val (.int .i64 w2.e2)] : List SV)[k * 4 + 1]? = some (.val (.int .i64 t.epoch)) ∧ ([.val (.int .i64 w2.n0.id), .val (.int .i64 w2.n0.epoch), .val (.int .i64 w2.n0.next), .val (.slice b0 w2.n0.edits.length f0), .val (.int .i64 w2.n1.id), .val (.int .i64 w2.n1.epoch), .val (.int .i64 w2.n1.next), .val (.slice b1 w2.n1.edits.length f1), .val (.int .i64 w2.n2.id), .val (.int .i64 w2.n2.epoch), .val (.int .i64 w2.n2.next), .val (.slice b2 w2.n2.edits.length f2), .val (.int .i64 w2.c0.id), .val (.int .i64 w2.c0.epoch), .val (.int .i64 w2.c0.next), .val (.slice b3 w2.c0.edits.length f3), .val (.int .i64 w2.c1.id), .val (.int .i64 w2.c1.epoch), .val (.int .i64 w2.c1.next), .val (.slice b4 w2.c1.edits.length f4), .val (.int .i64 w2.c2.id), .val (.int .i64 w2.c2.epoch), .val (.int .i64 w2.c2.next), .val (.slice b5 w2.c2.edits.length f5), .val (.int .i64 w2.e0), .val (.int .i64 w2.e1), .val (.int .i64 w2.e2)] : List SV)[k * 4 + 2]? = some (.val (.int .i64 t.next)) ∧ ([.val (.int .i64 w2.n0.id), .val (.int .i64 w2.n0.epoch), .val (.int .i64 w2.n0.next), .val (.slice b0 w2.n0.edits.length f0), .val (.int .i64 w2.n1.id), .val (.int .i64 w2.n1.epoch), .val (.int .i64 w2.n1.next), .val (.slice b1 w2.n1.edits.length f1), .val (.int .i64 w2.n2.id), .val (.int .i64 w2.n2.epoch), .val (.int .i64 w2.n2.next), .val (.slice b2 w2.n2.edits.length f2), .val (.int .i64 w2.c0.id), .val (.int .i64 w2.c0.epoch), .val (.int .i64 w2.c0.next), .val (.slice b3 w2.c0.edits.length f3), .val (.int .i64 w2.c1.id), .val (.int .i64 w2.c1.epoch), .val (.int .i64 w2.c1.next), .val (.slice b4 w2.c1.edits.length f4), .val (.int .i64 w2.c2.id), .val (.int .i64 w2.c2.epoch), .val (.int .i64 w2.c2.next), .val (.slice b5 w2.c2.edits.length f5), .val (.int .i64 w2.e0), .val (.int .i64 w2.e1), .val (.int .i64 w2.e2)] : List SV)[k * 4 + 3]? = some (.val (.slice da t.edits.length dc)) ∧ EdsV R4 (.slice da t.edits.length dc) t.edits := by
    subst td
    rcases lt3 hk3 with rfl | rfl | rfl
    · exact ⟨b0, f0, rfl, rfl, rfl, rfl, q0⟩
    · exact ⟨b1, f1, rfl, rfl, rfl, rfl, q1⟩
    · exact ⟨b2, f2, rfl, rfl, rfl, rfl, q2⟩
  simp only [wdCells]
  try simp only [go_sem, ↓reduceIte, Nat.reduceEqDiff, Nat.reduceAdd, Nat.reduceMul, Nat.reduceLeDiff, Nat.reduceLT, Nat.reduceBNe, reduceCtorEq, Int.reduceLE, Int.reduceLT, Int.reduceToNat, Int.cast_ofNat_Int, Int.reduceEq, Int.reduceNe, e6, e0, e3, e4, e5]
  refine ⟨by omega, ?_⟩
  try simp only [go_sem, ↓reduceIte, Nat.reduceEqDiff, Nat.reduceAdd, Nat.reduceMul, Nat.reduceLeDiff, Nat.reduceLT, Nat.reduceBNe, reduceCtorEq, Int.reduceLE, Int.reduceLT, Int.reduceToNat, Int.cast_ofNat_Int, Int.reduceEq, Int.reduceNe, e6, e0, e3, e4, e5, t0, t1, t2, t3]
  refine ⟨by omega, vat ad had ?_⟩
  try simp only [go_sem, ↓reduceIte, Nat.reduceEqDiff, Nat.reduceAdd, Nat.reduceMul, Nat.reduceLeDiff, Nat.reduceLT, Nat.reduceBNe, reduceCtorEq]
  refine vload (.int .u8 o.kind) (hle4 _ _ (hR' 0 _ rfl)) ?_
  try simp only [go_sem, ↓reduceIte, Nat.reduceEqDiff, Nat.reduceAdd, Nat.reduceMul, Nat.reduceLeDiff, Nat.reduceLT, Nat.reduceBNe, reduceCtorEq, Int.reduceLE, Int.reduceLT, Int.reduceToNat, Int.cast_ofNat_Int, Int.reduceEq, Int.reduceNe, e6, e0, e3, e4, e5, hkm]
  have hdl : d.edits.length ≤ i := by rw [dd]; exact hI.shape hk3
  refine ⟨fun hk2 => ?_, fun hk2 => ?_⟩
  · have hI2 := run_other hI (by omega) hk2
    rw [← hw2] at hI2
    refine ⟨_, W.in64 (by omega), (i + 1, w2, (wdCells w2 (.slice b0 w2.n0.edits.length f0) (.slice b1 w2.n1.edits.length f1) (.slice b2 w2.n2.edits.length f2) (.slice b3 w2.c0.edits.length f3) (.slice b4 w2.c1.edits.length f4) (.slice b5 w2.c2.edits.length f5)), ps), [], ?_⟩
    try simp only [go_sem, ↓reduceIte, Nat.reduceEqDiff, Nat.reduceAdd, Nat.reduceMul, Nat.reduceLeDiff, Nat.reduceLT, Nat.reduceBNe, reduceCtorEq]
    refine ⟨by omega, (by repeat' (first | rfl | exact fun h => gb_ne h | constructor)), ⟨boxc_ok _ _, by decide⟩, by omega, by omega, ⟨_, _, _, _, _, _, rfl, q0, q1, q2, q3, q4, q5⟩, hI2, fun p hp => (hpo p hp).mono hle4⟩
  · obtain ⟨e, hI2, hed, hdv, hsq, hnk⟩ := run_made hI (by omega) hk2
    rw [← hw2] at hI2 hed hdv
    rw [← hk] at hed hdv hsq
    rw [← td, ← dd] at hed
    rw [← td] at hdv
    rw [← dd] at hsq
    have htl : t.edits.length = d.edits.length + 1 := by rw [hed]; simp
    refine ⟨_, W.in64 (by omega), fun hne => by omega, fun _ => ⟨_, W.in64 (by omega), by omega, by omega, ?_⟩⟩
    obtain ⟨ta', tc', heq, _, htf⟩ := PlOK.of tE
    obtain ⟨rfl, _, rfl⟩ := Value.slice.inj heq
    obtain ⟨da', dc', heq, _, hdf⟩ := PlOK.of dE
    obtain ⟨rfl, _, rfl⟩ := Value.slice.inj heq
    obtain ⟨ad3, p, had3, hp1, hpR, hpok⟩ := htf d.edits.length (by omega)
    have hpe : p.1 = e := by
      rw [hp1]
      simp only [hed]
      simp
    rw [show ((t.edits.length : Int) - 1).toNat = d.edits.length by omega]
    refine vat ad3 had3 ?_
    try simp only [go_sem, ↓reduceIte, Nat.reduceEqDiff, Nat.reduceAdd, Nat.reduceMul, Nat.reduceLeDiff, Nat.reduceLT, Nat.reduceBNe, reduceCtorEq]
    refine vloadn p.ed.cells rfl hpR ?_
    simp only [go_sem, ↓reduceIte, Nat.reduceEqDiff, Nat.reduceAdd, Nat.reduceMul, Nat.reduceLeDiff, Nat.reduceLT, Nat.reduceBNe, reduceCtorEq, Ed.cells, Pl.ed, De.ed, e6, e0, e3, e4, e5]
    refine vcLoop Nat (fun j => [(12, .val (.int .i64 j)), (6, .val (.int .i64 i)), (0, .val (.slice a os.length cap)), (3, .val (.bool true)), (4, .loc 0 0), (5, gs 1 ps.length), (8, .loc 2 0), (9, .loc 3 0), (11, .loc 4 0)])
      (fun _ => [.box (boxc ((wdCells w2 (.slice b0 w2.n0.edits.length f0) (.slice b1 w2.n1.edits.length f1) (.slice b2 w2.n2.edits.length f2) (.slice b3 w2.c0.edits.length f3) (.slice b4 w2.c1.edits.length f4) (.slice b5 w2.c2.edits.length f5)))), gb 31 13 (rowP ps), .box [.val (.int .i64 d.id), .val (.int .i64 d.epoch), .val (.int .i64 d.next), .val (.slice da d.edits.length dc)], .box [.val (.int .i64 t.id), .val (.int .i64 t.epoch), .val (.int .i64 t.next), .val (.slice ta t.edits.length tc)], .box (boxc p.ed.cells)]) (fun j _ => j ≤ d.edits.length) (fun j => d.edits.length - j) 0 ?_ ?_ ?_ ?_
    · try simp only [go_sem, ↓reduceIte, Nat.reduceEqDiff, Nat.reduceAdd, Nat.reduceMul, Nat.reduceLeDiff, Nat.reduceLT, Nat.reduceBNe, reduceCtorEq, Int.reduceLE, Int.reduceLT, Int.reduceToNat, Int.cast_ofNat_Int, Int.reduceEq, Int.reduceNe, e6, e0, e3, e4, e5]
      repeat' (first | rfl | exact fun h => gb_ne h | constructor)
    · try simp only [go_sem, ↓reduceIte, Nat.reduceEqDiff, Nat.reduceAdd, Nat.reduceMul, Nat.reduceLeDiff, Nat.reduceLT, Nat.reduceBNe, reduceCtorEq]
      exact ⟨boxc_ok _ _, boxc_ok _ _⟩
    · exact Nat.zero_le _
    rintro j env R5 hle5 hE' hj
    have hE := hE'
    clear hE'
    simp only [boxc, wdCells, Ed.cells, Pl.ed, De.ed, List.map_cons, List.map_nil] at hE ⊢
    (simp only [go_sem] at hE; obtain ⟨r12, r6, r0, r3, r4, r5, r8, r9, r11⟩ := hE; simp only [go_sem, ↓reduceIte, Nat.reduceEqDiff, Nat.reduceAdd, Nat.reduceMul, Nat.reduceLeDiff, Nat.reduceLT, Nat.reduceBNe, reduceCtorEq, r12, r6, r0, r3, r4, r5, r8, r9, r11]; dsimp only at *)
    refine ⟨fun hlt => ?_, fun hge => ?_⟩
    · have hlt' : j < d.edits.length := by omega
      obtain ⟨ad4, q, had4, hq1, hqR, hqok⟩ := hdf j hlt'
      have hqs := hsq q.1 (by rw [hq1]; exact List.getElem_mem hlt')
      rw [← hpe] at hqs
      refine ⟨by omega, vat ad4 had4 ?_⟩
      try simp only [go_sem, ↓reduceIte, Nat.reduceEqDiff, Nat.reduceAdd, Nat.reduceMul, Nat.reduceLeDiff, Nat.reduceLT, Nat.reduceBNe, reduceCtorEq]
      refine vload (.int .i64 q.1.seq) (hle5 _ _ (hle4 _ _ (hqR 3 _ rfl))) ?_
      simp only [go_sem, ↓reduceIte, Nat.reduceEqDiff, Nat.reduceAdd, Nat.reduceMul, Nat.reduceLeDiff, Nat.reduceLT, Nat.reduceBNe, reduceCtorEq, r12, r6, r0, r3, r4, r5, r8, r9, r11]
      refine ⟨fun h => by omega, fun _ => ⟨_, W.in64 (by omega), j + 1, by omega, ?_, by omega⟩⟩
      try simp only [go_sem, ↓reduceIte, Nat.reduceEqDiff, Nat.reduceAdd, Nat.reduceMul, Nat.reduceLeDiff, Nat.reduceLT, Nat.reduceBNe, reduceCtorEq]
      exact ⟨rfl, fun h => gb_ne h⟩
    · have hF := fun l v R' hl => dFind l v p.1 p.2.1 p.2.2.1 p.2.2.2 R' hl
      simp only [Ed.cells, De.ed] at hF
      have hno : ∀ kk : Int, (0 ≤ kk ↔ ∃ x ∈ ps.map (·.1), keyEq p.1 x = true) → ¬ 0 ≤ kk := fun kk h h0 => by
        obtain ⟨x, hx, hkx⟩ := h.1 h0
        have := hnk x hx
        rw [hpe, keyEq_symm, this] at hkx
        cases hkx
      have hpd : p.1.device = t.id := by rw [hpe]; exact hdv
      have hpo5 : ∀ q ∈ ps, PlOK R5 q := fun q hq => (hpo q hq).mono (RO.le_trans hle4 hle5)
      have hpl : ps.length ≤ i := by have := hI.len; rw [List.length_map] at this; omega
      by_cases hp0 : ps = []
      · subst hp0
        simp only [List.length_nil, gs_zero, rowP_nil, gb_nil]
        try simp only [go_sem, ↓reduceIte, Nat.reduceEqDiff, Nat.reduceAdd, Nat.reduceMul, Nat.reduceLeDiff, Nat.reduceLT, Nat.reduceBNe, reduceCtorEq, Int.reduceLE, Int.reduceLT, Int.reduceToNat, Int.cast_ofNat_Int, Int.reduceEq, Int.reduceNe, r12, r6, r0, r3, r4, r5, r8, r9, r11]
        refine vcall (hF [] _ R5 (EdsV.nil R5)) ?_
        rintro R6 v hle6 ⟨kk, rfl, hkk, _⟩
        have hk0 := hno kk hkk
        try simp only [go_sem, ↓reduceIte, Nat.reduceEqDiff, Nat.reduceAdd, Nat.reduceMul, Nat.reduceLeDiff, Nat.reduceLT, Nat.reduceBNe, reduceCtorEq, Int.reduceLE, Int.reduceLT, Int.reduceToNat, Int.cast_ofNat_Int, Int.reduceEq, Int.reduceNe, r12, r6, r0, r3, r4, r5, r8, r9, r11, eq_false hk0, eq_true hpd]
        refine ⟨_, W.in64 (by omega), (i + 1, w2, (wdCells w2 (.slice b0 w2.n0.edits.length f0) (.slice b1 w2.n1.edits.length f1) (.slice b2 w2.n2.edits.length f2) (.slice b3 w2.c0.edits.length f3) (.slice b4 w2.c1.edits.length f4) (.slice b5 w2.c2.edits.length f5)), [p]), [0, 6], ?_⟩
        try simp only [go_sem, ↓reduceIte, Nat.reduceEqDiff, Nat.reduceAdd, Nat.reduceMul, Nat.reduceLeDiff, Nat.reduceLT, Nat.reduceBNe, reduceCtorEq]
        refine ⟨by omega, (by repeat' (first | rfl | exact fun _ => rfl | constructor)), ⟨boxc_ok _ _, by decide⟩, by omega, by omega, WdV.mono (R := R4) ⟨_, _, _, _, _, _, rfl, q0, q1, q2, q3, q4, q5⟩ (RO.le_trans hle5 hle6), by rw [hpe]; exact hI2, hpok.mono (RO.le_trans hle5 hle6)⟩
      · have hp1 : ps.length ≠ 0 := fun h => hp0 (List.eq_nil_of_length_eq_zero h)
        rw [gs_pos hp1] at r5 ⊢
        rw [gb_ne (fun h => hp1 (by have := rowP_len ps; rw [h] at this; simp at this; omega))]
        try simp only [go_sem, ↓reduceIte, Nat.reduceEqDiff, Nat.reduceAdd, Nat.reduceMul, Nat.reduceLeDiff, Nat.reduceLT, Nat.reduceBNe, reduceCtorEq, Int.reduceLE, Int.reduceLT, Int.reduceToNat, Int.cast_ofNat_Int, Int.reduceEq, Int.reduceNe, r12, r6, r0, r3, r4, r5, r8, r9, r11]
        refine vlend fun β κ R6 hL => ⟨_, hF (ps.map (·.1)) (.slice (some ⟨β 1, 0, none⟩) ps.length (κ 1)) R6 (EdsV.row (hL.2 1 _ rfl).1 (hL.2 1 _ rfl).2 (fun q hq => (hpo5 q hq).mono hL.1) (by omega)), ?_⟩
        rintro R7 v R8 hle7 ⟨kk, rfl, hkk, _⟩ hle8 _
        have hk0 := hno kk hkk
        try simp only [go_sem, ↓reduceIte, Nat.reduceEqDiff, Nat.reduceAdd, Nat.reduceMul, Nat.reduceLeDiff, Nat.reduceLT, Nat.reduceBNe, reduceCtorEq, Int.reduceLE, Int.reduceLT, Int.reduceToNat, Int.cast_ofNat_Int, Int.reduceEq, Int.reduceNe, r12, r6, r0, r3, r4, r5, r8, r9, r11, eq_false hk0, eq_true hpd]
        refine vappO (rowP ps) rfl (by rw [rowP_len]) (by omega) ?_
        try simp only [go_sem, ↓reduceIte, Nat.reduceEqDiff, Nat.reduceAdd, Nat.reduceMul, Nat.reduceLeDiff, Nat.reduceLT, Nat.reduceBNe, reduceCtorEq, Int.reduceLE, Int.reduceLT, Int.reduceToNat, Int.cast_ofNat_Int, Int.reduceEq, Int.reduceNe, r12, r6, r0, r3, r4, r5, r8, r9, r11]
        refine ⟨_, W.in64 (by omega), (i + 1, w2, (wdCells w2 (.slice b0 w2.n0.edits.length f0) (.slice b1 w2.n1.edits.length f1) (.slice b2 w2.n2.edits.length f2) (.slice b3 w2.c0.edits.length f3) (.slice b4 w2.c1.edits.length f4) (.slice b5 w2.c2.edits.length f5)), ps ++ [p]), [0, 6], ?_⟩
        try simp only [go_sem, ↓reduceIte, Nat.reduceEqDiff, Nat.reduceAdd, Nat.reduceMul, Nat.reduceLeDiff, Nat.reduceLT, Nat.reduceBNe, reduceCtorEq]
        refine ⟨by omega, (by repeat' (first | rfl | exact fun _ => by rw [rowP_snoc]; rfl | constructor)), ⟨boxc_ok _ _, by decide⟩, by omega, by omega, WdV.mono (R := R4) ⟨_, _, _, _, _, _, rfl, q0, q1, q2, q3, q4, q5⟩ (RO.le_trans hle5 hle8), by rw [List.map_append]; simpa [hpe] using hI2, fun q hq => ?_⟩
        rcases List.mem_append.1 hq with hq | hq
        · exact (hpo5 q hq).mono hle8
        · simp only [List.mem_cons, List.not_mem_nil, or_false] at hq
          subst hq
          exact hpok.mono (RO.le_trans hle5 hle8)
end Go.Proofs.YtojckjngjfgfdaaGreat
