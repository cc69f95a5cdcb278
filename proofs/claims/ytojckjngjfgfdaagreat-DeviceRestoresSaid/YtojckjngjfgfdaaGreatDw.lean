import Derived.Test.YtojckjngjfgfdaaGreatDv
import Derived.Test.YtojckjngjfgfdaaGreatFd
namespace Go.Proofs.YtojckjngjfgfdaaGreat
set_option linter.unusedSimpArgs false
set_option linter.unusedVariables false
open Go.Proofs.YtojckjngjfgfdaaGreat.Vc
/-! ### The law DeviceRestores -/
/-- Both variables hold the first device; which of them was made first is open. -/
def OldQ (R : RO) (xs ws ds : List Value) (l : Value) (s : St) : Prop :=
  ∃ env i j, s = ⟨env, [.box (boxc xs), .box (boxc ws), .box (boxc ds), .box (boxc ds)], R⟩ ∧ (i = 2 ∧ j = 3 ∨ i = 3 ∧ j = 2) ∧ env 1 = .val l ∧ env 5 = .loc 0 0 ∧ env 7 = .val (.bool true) ∧ env 8 = .loc 1 0 ∧ env 9 = .loc i 0 ∧ env 10 = .loc j 0
theorem tmp_nonneg {n : Nat} : ((n : Int) - (n : Int)) = 0 := by omega
set_option maxHeartbeats 8000000 in
theorem lRestores (R : RO) (os : List Opn) (v : Value) (h : OpC R v os) (es : List Ed) (lv : Value) (hlv : EdC R lv es) (hl : es.length ≤ 1099511627776) (x : Ed) : CallsR Tryz.prog 9 [v, lv, x.val] R fun _ v => v = .bool true := by
  have hP := fun R' hle => ePlayed os v R' (OpC.mono (R' := R') h hle)
  have hMd := fun e R' => eMadeEdit e R'
  obtain ⟨a, cap, rfl, hc, _⟩ := h.form
  obtain ⟨b, bcap, rfl, hbc, hbf⟩ := hlv.form
  simp only [Ed.val, Ed.cells] at hMd ⊢
  refine callsT mix Tryz.func9 comp9 (by simp [Tryz.ntmps9]) ?_; simp only [go_sem, ↓reduceIte, Nat.reduceEqDiff, Nat.reduceAdd, Nat.reduceMul, Nat.reduceLeDiff, Nat.reduceLT, Nat.reduceBNe, reduceCtorEq, vc9, rs9]
  refine vcall (dSanity R) ?_
  rintro R1 v hle1 rfl
  try simp only [go_sem, ↓reduceIte, Nat.reduceEqDiff, Nat.reduceAdd, Nat.reduceMul, Nat.reduceLeDiff, Nat.reduceLT, Nat.reduceBNe, reduceCtorEq]
  obtain ⟨n, M, hn, hI⟩ := inv_play os
  obtain ⟨w, hw'⟩ : ∃ w, w = playW os := ⟨_, rfl⟩
  rw [← hw'] at hP hI
  refine vcall (hP R1 hle1) ?_
  rintro R2 u hle2 ⟨x0, x1, x2, y0, y1, y2, rfl, h0, h1, h2, h3, h4, h5⟩
  obtain ⟨a0, c0, rfl, _⟩ := h0.form
  obtain ⟨a1, c1, rfl, _⟩ := h1.form
  obtain ⟨a2, c2, rfl, _⟩ := h2.form
  obtain ⟨a3, c3, rfl, _⟩ := h3.form
  obtain ⟨a4, c4, rfl, _⟩ := h4.form
  obtain ⟨a5, c5, rfl, _⟩ := h5.form
  have hle02 := RO.le_trans hle1 hle2
  simp only [wdCells]
  (refine cutS (fun s' => s' = ?_) ?_ ?_; rotate_left; (try simp only [go_sem, ↓reduceIte, Nat.reduceEqDiff, Nat.reduceAdd, Nat.reduceMul, Nat.reduceLeDiff, Nat.reduceLT, Nat.reduceBNe, reduceCtorEq, true_and]; rfl); rintro _ rfl)
  simp only [tSteps_none, tSteps_nil, tOp_mov, tEv_tmp, tEv_const, tPut_some, tPut_none, tCode_seq]
  refine cutT (OldQ R2 [.int .i64 x.kind, .int .i64 x.day, .int .i64 x.device, .int .i64 x.seq, .int .i64 x.mv.day, .bool x.mv.drop, .int .i64 x.mv.toDay, .int .i64 x.mv.minute, .int .i64 x.mv.length, .int .i64 x.minute, .int .i64 x.length, .slice x.ra x.rn x.rc, .string x.zone] (wdCells w (.slice a0 w.n0.edits.length c0) (.slice a1 w.n1.edits.length c1) (.slice a2 w.n2.edits.length c2) (.slice a3 w.c0.edits.length c3) (.slice a4 w.c1.edits.length c4) (.slice a5 w.c2.edits.length c5)) (dvCells w.n0 (.slice a0 w.n0.edits.length c0)) (.slice b es.length bcap)) ?_ ?_
  · try simp only [go_sem, ↓reduceIte, Nat.reduceEqDiff, Nat.reduceAdd, Nat.reduceMul, Nat.reduceLeDiff, Nat.reduceLT, Nat.reduceBNe, reduceCtorEq, Int.reduceLE, Int.reduceLT, Int.reduceToNat, Int.cast_ofNat_Int, Int.reduceEq, Int.reduceNe]
    (repeat' (with_reducible refine And.intro ?_ ?_)) <;> first | exact ⟨_, 2, 3, rfl, .inl ⟨rfl, rfl⟩, rfl, rfl, rfl, rfl, rfl, rfl⟩ | exact ⟨_, 3, 2, rfl, .inr ⟨rfl, rfl⟩, rfl, rfl, rfl, rfl, rfl, rfl⟩
  rintro s ⟨env, i, j, rfl, hij, e1, e5, e7, e8, e9, e10⟩
  simp only [boxc, wdCells, dvCells, List.map_cons, List.map_nil]
  try simp only [go_sem, ↓reduceIte, Nat.reduceEqDiff, Nat.reduceAdd, Nat.reduceMul, Nat.reduceLeDiff, Nat.reduceLT, Nat.reduceBNe, reduceCtorEq, Int.reduceLE, Int.reduceLT, Int.reduceToNat, Int.cast_ofNat_Int, Int.reduceEq, Int.reduceNe, e1, e5, e7, e8, e9, e10]
  refine cutL (fun s' => ∃ env R3 k d da dc, s' = ⟨env, [.box [.val (.int .i64 x.kind), .val (.int .i64 x.day), .val (.int .i64 x.device), .val (.int .i64 x.seq), .val (.int .i64 x.mv.day), .val (.bool x.mv.drop), .val (.int .i64 x.mv.toDay), .val (.int .i64 x.mv.minute), .val (.int .i64 x.mv.length), .val (.int .i64 x.minute), .val (.int .i64 x.length), .val (.slice x.ra x.rn x.rc), .val (.string x.zone)], .box [.val (.int .i64 w.n0.id), .val (.int .i64 w.n0.epoch), .val (.int .i64 w.n0.next), .val (.slice a0 w.n0.edits.length c0), .val (.int .i64 w.n1.id), .val (.int .i64 w.n1.epoch), .val (.int .i64 w.n1.next), .val (.slice a1 w.n1.edits.length c1), .val (.int .i64 w.n2.id), .val (.int .i64 w.n2.epoch), .val (.int .i64 w.n2.next), .val (.slice a2 w.n2.edits.length c2), .val (.int .i64 w.c0.id), .val (.int .i64 w.c0.epoch), .val (.int .i64 w.c0.next), .val (.slice a3 w.c0.edits.length c3), .val (.int .i64 w.c1.id), .val (.int .i64 w.c1.epoch), .val (.int .i64 w.c1.next), .val (.slice a4 w.c1.edits.length c4), .val (.int .i64 w.c2.id), .val (.int .i64 w.c2.epoch), .val (.int .i64 w.c2.next), .val (.slice a5 w.c2.edits.length c5), .val (.int .i64 w.e0), .val (.int .i64 w.e1), .val (.int .i64 w.e2)], .box [.val (.int .i64 w.n0.id), .val (.int .i64 w.n0.epoch), .val (.int .i64 w.n0.next), .val (.slice a0 w.n0.edits.length c0)], .box [.val (.int .i64 d.id), .val (.int .i64 d.epoch), .val (.int .i64 d.next), .val (.slice da d.edits.length dc)]], R3⟩ ∧ RO.le R2 R3 ∧ env 5 = .loc 0 0 ∧ env 7 = .val (.bool true) ∧ env 8 = .loc 1 0 ∧ env 9 = .loc 2 0 ∧ env 10 = .loc 3 0 ∧ k ≤ 4 ∧ Lost n M w k d ∧ EdsV R3 (.slice da d.edits.length dc) d.edits) ?_ ?_
  · refine vcLoopR (Nat × Dv × Option Addr × Nat) (fun y => [(11, .val (.int .i64 y.1)), (1, .val (.slice b es.length bcap)), (5, .loc 0 0), (7, .val (.bool true)), (8, .loc 1 0), (9, .loc 2 0), (10, .loc 3 0)])
      (fun y => [.box [.val (.int .i64 x.kind), .val (.int .i64 x.day), .val (.int .i64 x.device), .val (.int .i64 x.seq), .val (.int .i64 x.mv.day), .val (.bool x.mv.drop), .val (.int .i64 x.mv.toDay), .val (.int .i64 x.mv.minute), .val (.int .i64 x.mv.length), .val (.int .i64 x.minute), .val (.int .i64 x.length), .val (.slice x.ra x.rn x.rc), .val (.string x.zone)], .box [.val (.int .i64 w.n0.id), .val (.int .i64 w.n0.epoch), .val (.int .i64 w.n0.next), .val (.slice a0 w.n0.edits.length c0), .val (.int .i64 w.n1.id), .val (.int .i64 w.n1.epoch), .val (.int .i64 w.n1.next), .val (.slice a1 w.n1.edits.length c1), .val (.int .i64 w.n2.id), .val (.int .i64 w.n2.epoch), .val (.int .i64 w.n2.next), .val (.slice a2 w.n2.edits.length c2), .val (.int .i64 w.c0.id), .val (.int .i64 w.c0.epoch), .val (.int .i64 w.c0.next), .val (.slice a3 w.c0.edits.length c3), .val (.int .i64 w.c1.id), .val (.int .i64 w.c1.epoch), .val (.int .i64 w.c1.next), .val (.slice a4 w.c1.edits.length c4), .val (.int .i64 w.c2.id), .val (.int .i64 w.c2.epoch), .val (.int .i64 w.c2.next), .val (.slice a5 w.c2.edits.length c5), .val (.int .i64 w.e0), .val (.int .i64 w.e1), .val (.int .i64 w.e2)], .box [.val (.int .i64 w.n0.id), .val (.int .i64 w.n0.epoch), .val (.int .i64 w.n0.next), .val (.slice a0 w.n0.edits.length c0)], .box [.val (.int .i64 y.2.1.id), .val (.int .i64 y.2.1.epoch), .val (.int .i64 y.2.1.next), .val (.slice y.2.2.1 y.2.1.edits.length y.2.2.2)]]) (fun y R => y.1 ≤ es.length ∧ y.1 ≤ 4 ∧ Lost n M w y.1 y.2.1 ∧ EdsV R (.slice y.2.2.1 y.2.1.edits.length y.2.2.2) y.2.1.edits) (fun y => es.length - y.1) (0, w.n0, a0, c0) [0, 1, i, j] ?_ ?_ ?_ ?_
    · rcases hij with ⟨rfl, rfl⟩ | ⟨rfl, rfl⟩ <;> (try simp only [go_sem, ↓reduceIte, Nat.reduceEqDiff, Nat.reduceAdd, Nat.reduceMul, Nat.reduceLeDiff, Nat.reduceLT, Nat.reduceBNe, reduceCtorEq, Int.reduceLE, Int.reduceLT, Int.reduceToNat, Int.cast_ofNat_Int, Int.reduceEq, Int.reduceNe, e1, e5, e7, e8, e9, e10]) <;> (repeat' (first | rfl | trivial | constructor | (intro h; exact absurd rfl h)))
    · rcases hij with ⟨rfl, rfl⟩ | ⟨rfl, rfl⟩ <;> (try simp only [go_sem, ↓reduceIte, Nat.reduceEqDiff, Nat.reduceAdd, Nat.reduceMul, Nat.reduceLeDiff, Nat.reduceLT, Nat.reduceBNe, reduceCtorEq]) <;> decide
    · exact ⟨Nat.zero_le _, Nat.zero_le _, Lost.start hI, h0⟩
    rintro ⟨k, d, da, dc⟩ env R3 hle3 hE ⟨hk, hk4, hL, hdE⟩
    simp only [] at hk hk4 hL hdE
    (simp only [go_sem] at hE; obtain ⟨f11, f1, f5, f7, f8, f9, f10⟩ := hE; simp only [go_sem, ↓reduceIte, Nat.reduceEqDiff, Nat.reduceAdd, Nat.reduceMul, Nat.reduceLeDiff, Nat.reduceLT, Nat.reduceBNe, reduceCtorEq, f11, f1, f5, f7, f8, f9, f10]; dsimp only at *)
    refine ⟨fun hlt => ⟨fun hlt2 => ?_, fun hge => ⟨_, _, k, d, da, dc, rfl, hle3, f5, f7, f8, f9, f10, hk4, hL, hdE⟩⟩, fun hge => ⟨_, _, k, d, da, dc, rfl, hle3, f5, f7, f8, f9, f10, hk4, hL, hdE⟩⟩
    have hlt' : k < es.length := by omega
    obtain ⟨ad, had, hR⟩ := hbf k hlt'
    refine ⟨by omega, vat ad had ?_⟩
    try simp only [go_sem, ↓reduceIte, Nat.reduceEqDiff, Nat.reduceAdd, Nat.reduceMul, Nat.reduceLeDiff, Nat.reduceLT, Nat.reduceBNe, reduceCtorEq]
    refine vloadn (es[k]).cells rfl (fun j u hj => hle3 _ _ (hle02 _ _ (hR j u hj))) ?_
    simp only [go_sem, ↓reduceIte, Nat.reduceEqDiff, Nat.reduceAdd, Nat.reduceMul, Nat.reduceLeDiff, Nat.reduceLT, Nat.reduceBNe, reduceCtorEq, Ed.cells, f11, f1, f5, f7, f8, f9, f10]
    refine vcall (hMd es[k] R3) ?_
    rintro R4 v hle4 ⟨cs, rfl, hdv⟩
    obtain ⟨ra, rn, rc, rfl, hr⟩ := hdv.form
    simp only [Ed.cells, De.ed]
    try simp only [go_sem, ↓reduceIte, Nat.reduceEqDiff, Nat.reduceAdd, Nat.reduceMul, Nat.reduceLeDiff, Nat.reduceLT, Nat.reduceBNe, reduceCtorEq, Int.reduceLE, Int.reduceLT, Int.reduceToNat, Int.cast_ofNat_Int, Int.reduceEq, Int.reduceNe, f11, f1, f5, f7, f8, f9, f10]
    have hAdd := dAdd d (.slice da d.edits.length dc) (madeE es[k]) ra rn rc R4 (hdE.mono hle4) hr
    obtain ⟨r, hr1, hr2⟩ := hL.step (by omega) es[k]
    rw [hr1] at hAdd
    simp only [dvCells, Ed.cells, De.ed] at hAdd
    refine vcall hAdd ?_
    rintro R5 v hle5 ⟨u, rfl, hu⟩
    obtain ⟨ua, uc, rfl, _⟩ := hu.form
    simp only [dvCells]
    try simp only [go_sem, ↓reduceIte, Nat.reduceEqDiff, Nat.reduceAdd, Nat.reduceMul, Nat.reduceLeDiff, Nat.reduceLT, Nat.reduceBNe, reduceCtorEq, Int.reduceLE, Int.reduceLT, Int.reduceToNat, Int.cast_ofNat_Int, Int.reduceEq, Int.reduceNe, f11, f1, f5, f7, f8, f9, f10]
    refine ⟨_, W.in64 (by omega), (k + 1, r, ua, uc), [], ?_⟩
    try simp only [go_sem, ↓reduceIte, Nat.reduceEqDiff, Nat.reduceAdd, Nat.reduceMul, Nat.reduceLeDiff, Nat.reduceLT, Nat.reduceBNe, reduceCtorEq]
    exact ⟨by omega, rfl, by decide, by omega, by omega, hr2, hu⟩
  rintro s ⟨env, R3, k, d, da, dc, rfl, hle3, f5, f7, f8, f9, f10, hk4, hL, hdE⟩
  obtain ⟨other, back, again, known, p1, p2, p3, p4, hae, hal, hdl, hdk, hmk⟩ := hL.back hI (by omega) x
  obtain ⟨mine, hmine⟩ : ∃ mine, mine = stampD back (madeE x) := ⟨_, rfl⟩
  rw [← hmine] at hae hdk hmk
  have hep := hI.ep 0 (by omega)
  have hep0 : (w.now 0).epoch = w.n0.epoch := rfl
  rw [hep0] at hep
  have hal2 : again.edits.length = w.n0.edits.length + 1 := by rw [hae]; simp
  have hS1 := dSync w.n1 d _ _ R3 (h1.mono hle3) hdE
  rw [p1] at hS1
  simp only [dvCells] at hS1
  try simp only [go_sem, ↓reduceIte, Nat.reduceEqDiff, Nat.reduceAdd, Nat.reduceMul, Nat.reduceLeDiff, Nat.reduceLT, Nat.reduceBNe, reduceCtorEq, Int.reduceLE, Int.reduceLT, Int.reduceToNat, Int.cast_ofNat_Int, Int.reduceEq, Int.reduceNe, f5, f7, f8, f9, f10]
  refine vcall hS1 ?_
  rintro R4 v hle4 ⟨u1, rfl, hu1⟩
  obtain ⟨u1a, u1c, rfl, _⟩ := hu1.form
  simp only [dvCells]
  try simp only [go_sem, ↓reduceIte, Nat.reduceEqDiff, Nat.reduceAdd, Nat.reduceMul, Nat.reduceLeDiff, Nat.reduceLT, Nat.reduceBNe, reduceCtorEq, Int.reduceLE, Int.reduceLT, Int.reduceToNat, Int.cast_ofNat_Int, Int.reduceEq, Int.reduceNe, f5, f7, f8, f9, f10]
  refine ⟨_, W.in64 (by omega), ?_⟩
  have hS2 := dRestore w.n0 _ (w.n0.epoch + 20) R4 (h0.mono (RO.le_trans hle3 hle4))
  rw [p2] at hS2
  simp only [dvCells] at hS2
  refine vcall hS2 ?_
  rintro R5 v hle5 ⟨u2, rfl, hu2⟩
  obtain ⟨u2a, u2c, rfl, _⟩ := hu2.form
  simp only [dvCells]
  try simp only [go_sem, ↓reduceIte, Nat.reduceEqDiff, Nat.reduceAdd, Nat.reduceMul, Nat.reduceLeDiff, Nat.reduceLT, Nat.reduceBNe, reduceCtorEq, Int.reduceLE, Int.reduceLT, Int.reduceToNat, Int.cast_ofNat_Int, Int.reduceEq, Int.reduceNe, f5, f7, f8, f9, f10]
  refine vcall (hMd x R5) ?_
  rintro R6 v hle6 ⟨cs, rfl, hdv⟩
  obtain ⟨ra, rn, rc, rfl, hr⟩ := hdv.form
  simp only [Ed.cells, De.ed]
  try simp only [go_sem, ↓reduceIte, Nat.reduceEqDiff, Nat.reduceAdd, Nat.reduceMul, Nat.reduceLeDiff, Nat.reduceLT, Nat.reduceBNe, reduceCtorEq, Int.reduceLE, Int.reduceLT, Int.reduceToNat, Int.cast_ofNat_Int, Int.reduceEq, Int.reduceNe, f5, f7, f8, f9, f10]
  have hS3 := dAdd back _ (madeE x) ra rn rc R6 (hu2.mono hle6) hr
  rw [p3] at hS3
  simp only [dvCells, Ed.cells, De.ed] at hS3
  refine vcall hS3 ?_
  rintro R7 v hle7 ⟨u3, rfl, hu3⟩
  obtain ⟨u3a, u3c, rfl, _, hu3f⟩ := PlOK.of hu3
  simp only [dvCells]
  try simp only [go_sem, ↓reduceIte, Nat.reduceEqDiff, Nat.reduceAdd, Nat.reduceMul, Nat.reduceLeDiff, Nat.reduceLT, Nat.reduceBNe, reduceCtorEq, Int.reduceLE, Int.reduceLT, Int.reduceToNat, Int.cast_ofNat_Int, Int.reduceEq, Int.reduceNe, f5, f7, f8, f9, f10]
  have hS4 := dSync again other _ _ R7 hu3 (hu1.mono (RO.le_trans hle5 (RO.le_trans hle6 hle7)))
  rw [p4] at hS4
  simp only [dvCells] at hS4
  refine vcall hS4 ?_
  rintro R8 v hle8 ⟨u4, rfl, hu4⟩
  obtain ⟨u4a, u4c, rfl, _⟩ := hu4.form
  simp only [dvCells]
  try simp only [go_sem, ↓reduceIte, Nat.reduceEqDiff, Nat.reduceAdd, Nat.reduceMul, Nat.reduceLeDiff, Nat.reduceLT, Nat.reduceBNe, reduceCtorEq, Int.reduceLE, Int.reduceLT, Int.reduceToNat, Int.cast_ofNat_Int, Int.reduceEq, Int.reduceNe, f5, f7, f8, f9, f10]
  refine ⟨_, W.in64 (by omega), ?_⟩
  refine ⟨fun hne => by omega, fun _ => ?_⟩
  refine ⟨_, W.in64 (by omega), by omega, by omega, ?_⟩
  obtain ⟨ad, q, had, hq1, hqR, hqok⟩ := hu3f w.n0.edits.length (by omega)
  have hqm : q.1 = mine := by rw [hq1]; simp only [hae]; simp
  rw [show ((again.edits.length : Int) - 1).toNat = w.n0.edits.length by omega]
  refine vat ad had ?_
  try simp only [go_sem, ↓reduceIte, Nat.reduceEqDiff, Nat.reduceAdd, Nat.reduceMul, Nat.reduceLeDiff, Nat.reduceLT, Nat.reduceBNe, reduceCtorEq]
  refine vloadn q.ed.cells rfl (fun j u hj => hle8 _ _ (hqR j u hj)) ?_
  simp only [go_sem, ↓reduceIte, Nat.reduceEqDiff, Nat.reduceAdd, Nat.reduceMul, Nat.reduceLeDiff, Nat.reduceLT, Nat.reduceBNe, reduceCtorEq, Ed.cells, Pl.ed, De.ed, f5, f7, f8, f9, f10]
  obtain ⟨da', dc', heq, _, hdf⟩ := PlOK.of hdE
  obtain ⟨rfl, _, rfl⟩ := Value.slice.inj heq
  have hle38 : RO.le R3 R8 := RO.le_trans hle4 (RO.le_trans hle5 (RO.le_trans hle6 (RO.le_trans hle7 hle8)))
  refine vcLoop Nat (fun i => [(23, .val (.int .i64 i)), (7, .val (.bool true)), (10, .loc 3 0), (20, .loc 7 0), (22, .loc 8 0)]) (fun _ => [.dead, .dead, .dead, .box [.val (.int .i64 d.id), .val (.int .i64 d.epoch), .val (.int .i64 d.next), .val (.slice da d.edits.length dc)], .dead, .dead, .dead, .box [.val (.int .i64 known.id), .val (.int .i64 known.epoch), .val (.int .i64 known.next), .val (.slice u4a known.edits.length u4c)], .box (boxc q.ed.cells)]) (fun i _ => i ≤ d.edits.length) (fun i => d.edits.length - i) 0 ?_ ?_ ?_ ?_
  · (try simp only [go_sem, ↓reduceIte, Nat.reduceEqDiff, Nat.reduceAdd, Nat.reduceMul, Nat.reduceLeDiff, Nat.reduceLT, Nat.reduceBNe, reduceCtorEq]) <;> (repeat' (first | rfl | trivial | constructor | (intro h; exact absurd rfl h)))
  · try simp only [go_sem, ↓reduceIte, Nat.reduceEqDiff, Nat.reduceAdd, Nat.reduceMul, Nat.reduceLeDiff, Nat.reduceLT, Nat.reduceBNe, reduceCtorEq]
    exact boxc_ok _ _
  · exact Nat.zero_le _
  rintro i env R9 hle9 hE' hi
  have hE := hE'
  clear hE'
  simp only [boxc, Ed.cells, Pl.ed, De.ed, List.map_cons, List.map_nil] at hE ⊢
  (simp only [go_sem] at hE; obtain ⟨g23, g7, g10, g20, g22⟩ := hE; simp only [go_sem, ↓reduceIte, Nat.reduceEqDiff, Nat.reduceAdd, Nat.reduceMul, Nat.reduceLeDiff, Nat.reduceLT, Nat.reduceBNe, reduceCtorEq, g23, g7, g10, g20, g22]; dsimp only at *)
  have hle39 : RO.le R3 R9 := RO.le_trans hle38 hle9
  refine ⟨fun hlt => ?_, fun hge => ?_⟩
  · have hlt' : i < d.edits.length := by omega
    obtain ⟨ad2, p, had2, hp1, hpR, hpok⟩ := hdf i hlt'
    have hpm : p.1 ∈ d.edits := by rw [hp1]; exact List.getElem_mem hlt'
    obtain ⟨hkn, hkk⟩ := hdk p.1 hpm
    refine ⟨by omega, vat ad2 had2 ?_⟩
    try simp only [go_sem, ↓reduceIte, Nat.reduceEqDiff, Nat.reduceAdd, Nat.reduceMul, Nat.reduceLeDiff, Nat.reduceLT, Nat.reduceBNe, reduceCtorEq]
    refine vloadn p.ed.cells rfl (fun j u hj => hle39 _ _ (hpR j u hj)) ?_
    simp only [go_sem, ↓reduceIte, Nat.reduceEqDiff, Nat.reduceAdd, Nat.reduceMul, Nat.reduceLeDiff, Nat.reduceLT, Nat.reduceBNe, reduceCtorEq, Ed.cells, Pl.ed, De.ed, g23, g7, g10, g20, g22]
    have hF := dFind known.edits _ p.1 p.2.1 p.2.2.1 p.2.2.2 R9 (hu4.mono hle9)
    simp only [Ed.cells, De.ed] at hF
    refine vcall hF ?_
    rintro R10 v hle10 ⟨kk, rfl, hkk2, _⟩
    have hk0 : ¬ kk < 0 := by have := hkk2.2 ⟨p.1, hkn, keyEq_refl _⟩; omega
    try simp only [go_sem, ↓reduceIte, Nat.reduceEqDiff, Nat.reduceAdd, Nat.reduceMul, Nat.reduceLeDiff, Nat.reduceLT, Nat.reduceBNe, reduceCtorEq, Int.reduceLE, Int.reduceLT, Int.reduceToNat, Int.cast_ofNat_Int, Int.reduceEq, Int.reduceNe, g23, g7, g10, g20, g22, eq_false hk0]
    refine ⟨by omega, vat ad2 had2 ?_⟩
    try simp only [go_sem, ↓reduceIte, Nat.reduceEqDiff, Nat.reduceAdd, Nat.reduceMul, Nat.reduceLeDiff, Nat.reduceLT, Nat.reduceBNe, reduceCtorEq]
    refine vload (.int .i64 p.1.seq) (hle10 _ _ (hle39 _ _ (hpR 3 _ rfl))) ?_
    simp only [go_sem, ↓reduceIte, Nat.reduceEqDiff, Nat.reduceAdd, Nat.reduceMul, Nat.reduceLeDiff, Nat.reduceLT, Nat.reduceBNe, reduceCtorEq, g23, g7, g10, g20, g22]
    refine ⟨fun hs => ⟨by omega, vat ad2 had2 ?_⟩, fun hs => ?_⟩
    · try simp only [go_sem, ↓reduceIte, Nat.reduceEqDiff, Nat.reduceAdd, Nat.reduceMul, Nat.reduceLeDiff, Nat.reduceLT, Nat.reduceBNe, reduceCtorEq]
      refine vload (.int .i64 p.1.device) (hle10 _ _ (hle39 _ _ (hpR 2 _ rfl))) ?_
      simp only [go_sem, ↓reduceIte, Nat.reduceEqDiff, Nat.reduceAdd, Nat.reduceMul, Nat.reduceLeDiff, Nat.reduceLT, Nat.reduceBNe, reduceCtorEq, g23, g7, g10, g20, g22]
      refine ⟨fun hdv => ?_, fun hdv => ⟨_, W.in64 (by omega), i + 1, by omega, rfl, by omega⟩⟩
      exfalso
      rw [hqm] at hs hdv
      have : keyEq p.1 mine = true := (keyEq_iff _ _).2 ⟨hdv, hs⟩
      rw [hkk] at this
      cases this
    · exact ⟨_, W.in64 (by omega), i + 1, by omega, rfl, by omega⟩
  · have hF := dFind known.edits _ q.1 q.2.1 q.2.2.1 q.2.2.2 R9 (hu4.mono hle9)
    simp only [Ed.cells, De.ed] at hF
    refine vcall hF ?_
    rintro R10 v hle10 ⟨kk, rfl, hkk2, _⟩
    have hk0 : 0 ≤ kk := hkk2.2 ⟨mine, hmk, by rw [hqm]; exact keyEq_refl _⟩
    try simp only [go_sem, ↓reduceIte, Nat.reduceEqDiff, Nat.reduceAdd, Nat.reduceMul, Nat.reduceLeDiff, Nat.reduceLT, Nat.reduceBNe, reduceCtorEq, Int.reduceLE, Int.reduceLT, Int.reduceToNat, Int.cast_ofNat_Int, Int.reduceEq, Int.reduceNe, g23, g7, g10, g20, g22, hk0]
end Go.Proofs.YtojckjngjfgfdaaGreat
