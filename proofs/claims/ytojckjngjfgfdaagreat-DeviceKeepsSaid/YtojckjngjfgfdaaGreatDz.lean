import Derived.Test.YtojckjngjfgfdaaGreatDu
import Derived.Test.YtojckjngjfgfdaaGreatFj
namespace Go.Proofs.YtojckjngjfgfdaaGreat
set_option linter.unusedSimpArgs false
set_option linter.unusedVariables false
open Go.Proofs.YtojckjngjfgfdaaGreat.Vc
/-! ### The law DeviceKeeps -/
set_option maxHeartbeats 16000000 in
theorem lKeeps (R : RO) (os : List Opn) (v : Value) (h : OpC R v os) (o : Opn) (ho : o.ok) : CallsR Tryz.prog 7 [v, .agg o.cells.toArray] R fun _ v => v = .bool true := by
  have hP := fun R' hle => ePlayed os v R' (OpC.mono (R' := R') h hle)
  obtain ⟨a, cap, rfl, hc, _⟩ := h.form
  simp only [Opn.cells, Ed.cells, List.cons_append, List.nil_append]
  refine callsT mix Tryz.func7 comp7 (by simp [Tryz.ntmps7]) ?_; simp only [go_sem, ↓reduceIte, Nat.reduceEqDiff, Nat.reduceAdd, Nat.reduceMul, Nat.reduceLeDiff, Nat.reduceLT, Nat.reduceBNe, reduceCtorEq, vc7, rs7]
  refine vcall (dSanity R) ?_
  rintro R1 v hle1 rfl
  try simp only [go_sem, ↓reduceIte, Nat.reduceEqDiff, Nat.reduceAdd, Nat.reduceMul, Nat.reduceLeDiff, Nat.reduceLT, Nat.reduceBNe, reduceCtorEq]
  obtain ⟨n, M, hn, hI⟩ := inv_play os
  obtain ⟨w, hw'⟩ : ∃ w, w = playW os := ⟨_, rfl⟩
  rw [← hw'] at hP hI
  refine vcall (hP R1 hle1) ?_
  rintro R2 u hle2 ⟨x0, x1, x2, y0, y1, y2, rfl, h0, h1, h2, h3, h4, h5⟩
  obtain ⟨a0, c0, rfl, _⟩ := h0.form
  obtain ⟨a1, c1, rfl, _⟩ := h1.form
  obtain ⟨a2, c2, rfl, _⟩ := h2.form
  obtain ⟨a3, c3, rfl, _⟩ := h3.form
  obtain ⟨a4, c4, rfl, _⟩ := h4.form
  obtain ⟨a5, c5, rfl, _⟩ := h5.form
  have hW : WdV R2 (.agg (wdCells w (.slice a0 w.n0.edits.length c0) (.slice a1 w.n1.edits.length c1) (.slice a2 w.n2.edits.length c2) (.slice a3 w.c0.edits.length c3) (.slice a4 w.c1.edits.length c4) (.slice a5 w.c2.edits.length c5)).toArray) w := ⟨_, _, _, _, _, _, rfl, h0, h1, h2, h3, h4, h5⟩
  have hM := fun R' hle => eRun w o _ R' (WdV.mono (R' := R') hW hle) ho (hI.eps (by omega))
  have hHd := fun R' hle => eHeard w n M hI (by omega) 1 (by omega) _ R' (WdV.mono (R' := R') hW hle)
  have hkeep := fun (hk5 : ¬ o.kind % 6 = 5) (i : Nat) (hi : i < 3) => run_keeps (o := o) hI (by omega) hk5 hi
  simp only [wdCells, Opn.cells, Ed.cells, List.cons_append, List.nil_append , Int.cast_ofNat_Int] at hM hHd ⊢
  try simp only [go_sem, ↓reduceIte, Nat.reduceEqDiff, Nat.reduceAdd, Nat.reduceMul, Nat.reduceLeDiff, Nat.reduceLT, Nat.reduceBNe, reduceCtorEq]
  refine vcall (hM R2 (RO.le_refl _)) ?_
  rintro R3 u hle3 ⟨z0, z1, z2, z3, z4, z5, rfl, g0, g1, g2, g3, g4, g5⟩
  obtain ⟨b0, d0, rfl, _⟩ := g0.form
  obtain ⟨b1, d1, rfl, _⟩ := g1.form
  obtain ⟨b2, d2, rfl, _⟩ := g2.form
  obtain ⟨b3, d3, rfl, _⟩ := g3.form
  obtain ⟨b4, d4, rfl, _⟩ := g4.form
  obtain ⟨b5, d5, rfl, _⟩ := g5.form
  simp only [wdCells]
  try simp only [go_sem, ↓reduceIte, Nat.reduceEqDiff, Nat.reduceAdd, Nat.reduceMul, Nat.reduceLeDiff, Nat.reduceLT, Nat.reduceBNe, reduceCtorEq]
  refine vcLoop Nat (fun i => [(8, .val (.int .i64 i)), (3, .loc 0 0), (6, .loc 1 0), (7, .loc 2 0), (5, .val (.bool true))]) (fun _ => [.box (boxc o.cells), .box (boxc (wdCells w (.slice a0 w.n0.edits.length c0) (.slice a1 w.n1.edits.length c1) (.slice a2 w.n2.edits.length c2) (.slice a3 w.c0.edits.length c3) (.slice a4 w.c1.edits.length c4) (.slice a5 w.c2.edits.length c5))), .box (boxc (wdCells (runW w o) (.slice b0 (runW w o).n0.edits.length d0) (.slice b1 (runW w o).n1.edits.length d1) (.slice b2 (runW w o).n2.edits.length d2) (.slice b3 (runW w o).c0.edits.length d3) (.slice b4 (runW w o).c1.edits.length d4) (.slice b5 (runW w o).c2.edits.length d5)))]) (fun i _ => i ≤ 3) (fun i => 3 - i) 0 ?_ ?_ ?_ ?_
  · (try simp only [go_sem, ↓reduceIte, Nat.reduceEqDiff, Nat.reduceAdd, Nat.reduceMul, Nat.reduceLeDiff, Nat.reduceLT, Nat.reduceBNe, reduceCtorEq]) <;> (repeat' (first | rfl | trivial | constructor | (intro h; exact absurd rfl h)))
  · try simp only [go_sem, ↓reduceIte, Nat.reduceEqDiff, Nat.reduceAdd, Nat.reduceMul, Nat.reduceLeDiff, Nat.reduceLT, Nat.reduceBNe, reduceCtorEq]
    exact ⟨boxc_ok _ _, boxc_ok _ _, boxc_ok _ _⟩
  · exact Nat.zero_le _
  rintro i env R4 hle4 hE hi
  have hci : i = 0 ∨ i = 1 ∨ i = 2 ∨ i = 3 := by omega
  simp only [boxc, wdCells, Opn.cells, Ed.cells, List.cons_append, List.nil_append, List.map_cons, List.map_nil] at hE ⊢
  have hkm : o.kind.tmod 6 = o.kind % 6 := tmod_nonneg' ho.1.1
  rcases hci with rfl | rfl | rfl | rfl
  · simp only [go_sem] at hE
    obtain ⟨e8, e3, e6, e7, e5⟩ := hE
    rw [show ((0 : Nat) : Int) = 0 from rfl] at e8
    try simp only [go_sem, ↓reduceIte, Nat.reduceEqDiff, Nat.reduceAdd, Nat.reduceMul, Nat.reduceLeDiff, Nat.reduceLT, Nat.reduceBNe, reduceCtorEq, Int.reduceLE, Int.reduceLT, Int.reduceToNat, Int.cast_ofNat_Int, Int.reduceEq, Int.reduceNe, e8, e3, e6, e7, e5]
    refine vcLoop Nat (fun k => [(9, .val (.int .i64 k)), (8, .val (.int .i64 0)), (3, .loc 0 0), (6, .loc 1 0), (7, .loc 2 0), (5, .val (.bool true))]) (fun _ => [.box (boxc o.cells), .box (boxc (wdCells w (.slice a0 w.n0.edits.length c0) (.slice a1 w.n1.edits.length c1) (.slice a2 w.n2.edits.length c2) (.slice a3 w.c0.edits.length c3) (.slice a4 w.c1.edits.length c4) (.slice a5 w.c2.edits.length c5))), .box (boxc (wdCells (runW w o) (.slice b0 (runW w o).n0.edits.length d0) (.slice b1 (runW w o).n1.edits.length d1) (.slice b2 (runW w o).n2.edits.length d2) (.slice b3 (runW w o).c0.edits.length d3) (.slice b4 (runW w o).c1.edits.length d4) (.slice b5 (runW w o).c2.edits.length d5)))]) (fun k _ => k ≤ w.n0.edits.length) (fun k => w.n0.edits.length - k) 0 ?_ ?_ ?_ ?_
    · (try simp only [go_sem, ↓reduceIte, Nat.reduceEqDiff, Nat.reduceAdd, Nat.reduceMul, Nat.reduceLeDiff, Nat.reduceLT, Nat.reduceBNe, reduceCtorEq]) <;> (repeat' (first | rfl | trivial | constructor | (intro h; exact absurd rfl h)))
    · try simp only [go_sem, ↓reduceIte, Nat.reduceEqDiff, Nat.reduceAdd, Nat.reduceMul, Nat.reduceLeDiff, Nat.reduceLT, Nat.reduceBNe, reduceCtorEq]
      exact ⟨boxc_ok _ _, boxc_ok _ _, boxc_ok _ _⟩
    · exact Nat.zero_le _
    rintro k env R5 hle5 hE hk
    simp only [boxc, wdCells, Opn.cells, Ed.cells, List.cons_append, List.nil_append, List.map_cons, List.map_nil] at hE ⊢
    simp only [go_sem] at hE
    obtain ⟨f9, f8, f3, f6, f7, f5⟩ := hE
    try simp only [go_sem, ↓reduceIte, Nat.reduceEqDiff, Nat.reduceAdd, Nat.reduceMul, Nat.reduceLeDiff, Nat.reduceLT, Nat.reduceBNe, reduceCtorEq, Int.reduceLE, Int.reduceLT, Int.reduceToNat, Int.cast_ofNat_Int, Int.reduceEq, Int.reduceNe, f9, f8, f3, f6, f7, f5]
    rw [hkm]
    have hsh : w.n0.edits.length ≤ n := hI.shape (i := 0) (by omega)
    refine ⟨fun hlt => ⟨fun h5 => ?_, fun h5 => ?_⟩, fun hge => ?_⟩
    · have hlt' : k < w.n0.edits.length := by omega
      obtain ⟨wa, wc, heq, _, hwf⟩ := PlOK.of h0
      obtain ⟨rfl, _, rfl⟩ := Value.slice.inj heq
      obtain ⟨ad, p, had, hp1, hpR, hpok⟩ := hwf k hlt'
      have hmem : p.1 ∈ (w.now 0).edits := by rw [hp1]; exact List.getElem_mem hlt'
      refine ⟨by omega, vat ad had ?_⟩
      try simp only [go_sem, ↓reduceIte, Nat.reduceEqDiff, Nat.reduceAdd, Nat.reduceMul, Nat.reduceLeDiff, Nat.reduceLT, Nat.reduceBNe, reduceCtorEq]
      refine vloadn p.ed.cells rfl (fun j u hj => hle5 _ _ (hle4 _ _ (hle3 _ _ (hpR j u hj)))) ?_
      simp only [go_sem, ↓reduceIte, Nat.reduceEqDiff, Nat.reduceAdd, Nat.reduceMul, Nat.reduceLeDiff, Nat.reduceLT, Nat.reduceBNe, reduceCtorEq, Ed.cells, Pl.ed, De.ed, f9, f8, f3, f6, f7, f5]
      have hF := dFind (runW w o).n0.edits _ p.1 p.2.1 p.2.2.1 p.2.2.2 R5 (g0.mono (RO.le_trans hle4 hle5))
      simp only [Ed.cells, De.ed] at hF
      refine vcall hF ?_
      rintro R6 v hle6 ⟨kk, rfl, hkk, _⟩
      have hk0 : ¬ kk < 0 := by
        have := hkk.2 ⟨p.1, hkeep h5 0 (by omega) _ hmem, keyEq_refl _⟩
        omega
      try simp only [go_sem, ↓reduceIte, Nat.reduceEqDiff, Nat.reduceAdd, Nat.reduceMul, Nat.reduceLeDiff, Nat.reduceLT, Nat.reduceBNe, reduceCtorEq, Int.reduceLE, Int.reduceLT, Int.reduceToNat, Int.cast_ofNat_Int, Int.reduceEq, Int.reduceNe, f9, f8, f3, f6, f7, f5, eq_false hk0]
      refine ⟨_, W.in64 (by omega), k + 1, by omega, ?_, by omega⟩
      try simp only [go_sem, ↓reduceIte, Nat.reduceEqDiff, Nat.reduceAdd, Nat.reduceMul, Nat.reduceLeDiff, Nat.reduceLT, Nat.reduceBNe, reduceCtorEq]
      rfl
    · refine ⟨_, W.in64 (by omega), k + 1, by omega, ?_, by omega⟩
      try simp only [go_sem, ↓reduceIte, Nat.reduceEqDiff, Nat.reduceAdd, Nat.reduceMul, Nat.reduceLeDiff, Nat.reduceLT, Nat.reduceBNe, reduceCtorEq]
      rfl
    · refine ⟨_, W.in64 (by decide), 0 + 1, by decide, ?_, by decide⟩
      try simp only [go_sem, ↓reduceIte, Nat.reduceEqDiff, Nat.reduceAdd, Nat.reduceMul, Nat.reduceLeDiff, Nat.reduceLT, Nat.reduceBNe, reduceCtorEq]
      rfl
  · simp only [go_sem] at hE
    obtain ⟨e8, e3, e6, e7, e5⟩ := hE
    rw [show ((1 : Nat) : Int) = 1 from rfl] at e8
    try simp only [go_sem, ↓reduceIte, Nat.reduceEqDiff, Nat.reduceAdd, Nat.reduceMul, Nat.reduceLeDiff, Nat.reduceLT, Nat.reduceBNe, reduceCtorEq, Int.reduceLE, Int.reduceLT, Int.reduceToNat, Int.cast_ofNat_Int, Int.reduceEq, Int.reduceNe, e8, e3, e6, e7, e5]
    refine vcLoop Nat (fun k => [(9, .val (.int .i64 k)), (8, .val (.int .i64 1)), (3, .loc 0 0), (6, .loc 1 0), (7, .loc 2 0), (5, .val (.bool true))]) (fun _ => [.box (boxc o.cells), .box (boxc (wdCells w (.slice a0 w.n0.edits.length c0) (.slice a1 w.n1.edits.length c1) (.slice a2 w.n2.edits.length c2) (.slice a3 w.c0.edits.length c3) (.slice a4 w.c1.edits.length c4) (.slice a5 w.c2.edits.length c5))), .box (boxc (wdCells (runW w o) (.slice b0 (runW w o).n0.edits.length d0) (.slice b1 (runW w o).n1.edits.length d1) (.slice b2 (runW w o).n2.edits.length d2) (.slice b3 (runW w o).c0.edits.length d3) (.slice b4 (runW w o).c1.edits.length d4) (.slice b5 (runW w o).c2.edits.length d5)))]) (fun k _ => k ≤ w.n1.edits.length) (fun k => w.n1.edits.length - k) 0 ?_ ?_ ?_ ?_
    · (try simp only [go_sem, ↓reduceIte, Nat.reduceEqDiff, Nat.reduceAdd, Nat.reduceMul, Nat.reduceLeDiff, Nat.reduceLT, Nat.reduceBNe, reduceCtorEq]) <;> (repeat' (first | rfl | trivial | constructor | (intro h; exact absurd rfl h)))
    · try simp only [go_sem, ↓reduceIte, Nat.reduceEqDiff, Nat.reduceAdd, Nat.reduceMul, Nat.reduceLeDiff, Nat.reduceLT, Nat.reduceBNe, reduceCtorEq]
      exact ⟨boxc_ok _ _, boxc_ok _ _, boxc_ok _ _⟩
    · exact Nat.zero_le _
    rintro k env R5 hle5 hE hk
    simp only [boxc, wdCells, Opn.cells, Ed.cells, List.cons_append, List.nil_append, List.map_cons, List.map_nil] at hE ⊢
    simp only [go_sem] at hE
    obtain ⟨f9, f8, f3, f6, f7, f5⟩ := hE
    try simp only [go_sem, ↓reduceIte, Nat.reduceEqDiff, Nat.reduceAdd, Nat.reduceMul, Nat.reduceLeDiff, Nat.reduceLT, Nat.reduceBNe, reduceCtorEq, Int.reduceLE, Int.reduceLT, Int.reduceToNat, Int.cast_ofNat_Int, Int.reduceEq, Int.reduceNe, f9, f8, f3, f6, f7, f5]
    rw [hkm]
    have hsh : w.n1.edits.length ≤ n := hI.shape (i := 1) (by omega)
    refine ⟨fun hlt => ⟨fun h5 => ?_, fun h5 => ?_⟩, fun hge => ?_⟩
    · have hlt' : k < w.n1.edits.length := by omega
      obtain ⟨wa, wc, heq, _, hwf⟩ := PlOK.of h1
      obtain ⟨rfl, _, rfl⟩ := Value.slice.inj heq
      obtain ⟨ad, p, had, hp1, hpR, hpok⟩ := hwf k hlt'
      have hmem : p.1 ∈ (w.now 1).edits := by rw [hp1]; exact List.getElem_mem hlt'
      refine ⟨by omega, vat ad had ?_⟩
      try simp only [go_sem, ↓reduceIte, Nat.reduceEqDiff, Nat.reduceAdd, Nat.reduceMul, Nat.reduceLeDiff, Nat.reduceLT, Nat.reduceBNe, reduceCtorEq]
      refine vloadn p.ed.cells rfl (fun j u hj => hle5 _ _ (hle4 _ _ (hle3 _ _ (hpR j u hj)))) ?_
      simp only [go_sem, ↓reduceIte, Nat.reduceEqDiff, Nat.reduceAdd, Nat.reduceMul, Nat.reduceLeDiff, Nat.reduceLT, Nat.reduceBNe, reduceCtorEq, Ed.cells, Pl.ed, De.ed, f9, f8, f3, f6, f7, f5]
      have hF := dFind (runW w o).n1.edits _ p.1 p.2.1 p.2.2.1 p.2.2.2 R5 (g1.mono (RO.le_trans hle4 hle5))
      simp only [Ed.cells, De.ed] at hF
      refine vcall hF ?_
      rintro R6 v hle6 ⟨kk, rfl, hkk, _⟩
      have hk0 : ¬ kk < 0 := by
        have := hkk.2 ⟨p.1, hkeep h5 1 (by omega) _ hmem, keyEq_refl _⟩
        omega
      try simp only [go_sem, ↓reduceIte, Nat.reduceEqDiff, Nat.reduceAdd, Nat.reduceMul, Nat.reduceLeDiff, Nat.reduceLT, Nat.reduceBNe, reduceCtorEq, Int.reduceLE, Int.reduceLT, Int.reduceToNat, Int.cast_ofNat_Int, Int.reduceEq, Int.reduceNe, f9, f8, f3, f6, f7, f5, eq_false hk0]
      refine ⟨_, W.in64 (by omega), k + 1, by omega, ?_, by omega⟩
      try simp only [go_sem, ↓reduceIte, Nat.reduceEqDiff, Nat.reduceAdd, Nat.reduceMul, Nat.reduceLeDiff, Nat.reduceLT, Nat.reduceBNe, reduceCtorEq]
      rfl
    · refine ⟨_, W.in64 (by omega), k + 1, by omega, ?_, by omega⟩
      try simp only [go_sem, ↓reduceIte, Nat.reduceEqDiff, Nat.reduceAdd, Nat.reduceMul, Nat.reduceLeDiff, Nat.reduceLT, Nat.reduceBNe, reduceCtorEq]
      rfl
    · refine ⟨_, W.in64 (by decide), 1 + 1, by decide, ?_, by decide⟩
      try simp only [go_sem, ↓reduceIte, Nat.reduceEqDiff, Nat.reduceAdd, Nat.reduceMul, Nat.reduceLeDiff, Nat.reduceLT, Nat.reduceBNe, reduceCtorEq]
      rfl
  · simp only [go_sem] at hE
    obtain ⟨e8, e3, e6, e7, e5⟩ := hE
    rw [show ((2 : Nat) : Int) = 2 from rfl] at e8
    try simp only [go_sem, ↓reduceIte, Nat.reduceEqDiff, Nat.reduceAdd, Nat.reduceMul, Nat.reduceLeDiff, Nat.reduceLT, Nat.reduceBNe, reduceCtorEq, Int.reduceLE, Int.reduceLT, Int.reduceToNat, Int.cast_ofNat_Int, Int.reduceEq, Int.reduceNe, e8, e3, e6, e7, e5]
    refine vcLoop Nat (fun k => [(9, .val (.int .i64 k)), (8, .val (.int .i64 2)), (3, .loc 0 0), (6, .loc 1 0), (7, .loc 2 0), (5, .val (.bool true))]) (fun _ => [.box (boxc o.cells), .box (boxc (wdCells w (.slice a0 w.n0.edits.length c0) (.slice a1 w.n1.edits.length c1) (.slice a2 w.n2.edits.length c2) (.slice a3 w.c0.edits.length c3) (.slice a4 w.c1.edits.length c4) (.slice a5 w.c2.edits.length c5))), .box (boxc (wdCells (runW w o) (.slice b0 (runW w o).n0.edits.length d0) (.slice b1 (runW w o).n1.edits.length d1) (.slice b2 (runW w o).n2.edits.length d2) (.slice b3 (runW w o).c0.edits.length d3) (.slice b4 (runW w o).c1.edits.length d4) (.slice b5 (runW w o).c2.edits.length d5)))]) (fun k _ => k ≤ w.n2.edits.length) (fun k => w.n2.edits.length - k) 0 ?_ ?_ ?_ ?_
    · (try simp only [go_sem, ↓reduceIte, Nat.reduceEqDiff, Nat.reduceAdd, Nat.reduceMul, Nat.reduceLeDiff, Nat.reduceLT, Nat.reduceBNe, reduceCtorEq]) <;> (repeat' (first | rfl | trivial | constructor | (intro h; exact absurd rfl h)))
    · try simp only [go_sem, ↓reduceIte, Nat.reduceEqDiff, Nat.reduceAdd, Nat.reduceMul, Nat.reduceLeDiff, Nat.reduceLT, Nat.reduceBNe, reduceCtorEq]
      exact ⟨boxc_ok _ _, boxc_ok _ _, boxc_ok _ _⟩
    · exact Nat.zero_le _
    rintro k env R5 hle5 hE hk
    simp only [boxc, wdCells, Opn.cells, Ed.cells, List.cons_append, List.nil_append, List.map_cons, List.map_nil] at hE ⊢
    simp only [go_sem] at hE
    obtain ⟨f9, f8, f3, f6, f7, f5⟩ := hE
    try simp only [go_sem, ↓reduceIte, Nat.reduceEqDiff, Nat.reduceAdd, Nat.reduceMul, Nat.reduceLeDiff, Nat.reduceLT, Nat.reduceBNe, reduceCtorEq, Int.reduceLE, Int.reduceLT, Int.reduceToNat, Int.cast_ofNat_Int, Int.reduceEq, Int.reduceNe, f9, f8, f3, f6, f7, f5]
    rw [hkm]
    have hsh : w.n2.edits.length ≤ n := hI.shape (i := 2) (by omega)
    refine ⟨fun hlt => ⟨fun h5 => ?_, fun h5 => ?_⟩, fun hge => ?_⟩
    · have hlt' : k < w.n2.edits.length := by omega
      obtain ⟨wa, wc, heq, _, hwf⟩ := PlOK.of h2
      obtain ⟨rfl, _, rfl⟩ := Value.slice.inj heq
      obtain ⟨ad, p, had, hp1, hpR, hpok⟩ := hwf k hlt'
      have hmem : p.1 ∈ (w.now 2).edits := by rw [hp1]; exact List.getElem_mem hlt'
      refine ⟨by omega, vat ad had ?_⟩
      try simp only [go_sem, ↓reduceIte, Nat.reduceEqDiff, Nat.reduceAdd, Nat.reduceMul, Nat.reduceLeDiff, Nat.reduceLT, Nat.reduceBNe, reduceCtorEq]
      refine vloadn p.ed.cells rfl (fun j u hj => hle5 _ _ (hle4 _ _ (hle3 _ _ (hpR j u hj)))) ?_
      simp only [go_sem, ↓reduceIte, Nat.reduceEqDiff, Nat.reduceAdd, Nat.reduceMul, Nat.reduceLeDiff, Nat.reduceLT, Nat.reduceBNe, reduceCtorEq, Ed.cells, Pl.ed, De.ed, f9, f8, f3, f6, f7, f5]
      have hF := dFind (runW w o).n2.edits _ p.1 p.2.1 p.2.2.1 p.2.2.2 R5 (g2.mono (RO.le_trans hle4 hle5))
      simp only [Ed.cells, De.ed] at hF
      refine vcall hF ?_
      rintro R6 v hle6 ⟨kk, rfl, hkk, _⟩
      have hk0 : ¬ kk < 0 := by
        have := hkk.2 ⟨p.1, hkeep h5 2 (by omega) _ hmem, keyEq_refl _⟩
        omega
      try simp only [go_sem, ↓reduceIte, Nat.reduceEqDiff, Nat.reduceAdd, Nat.reduceMul, Nat.reduceLeDiff, Nat.reduceLT, Nat.reduceBNe, reduceCtorEq, Int.reduceLE, Int.reduceLT, Int.reduceToNat, Int.cast_ofNat_Int, Int.reduceEq, Int.reduceNe, f9, f8, f3, f6, f7, f5, eq_false hk0]
      refine ⟨_, W.in64 (by omega), k + 1, by omega, ?_, by omega⟩
      try simp only [go_sem, ↓reduceIte, Nat.reduceEqDiff, Nat.reduceAdd, Nat.reduceMul, Nat.reduceLeDiff, Nat.reduceLT, Nat.reduceBNe, reduceCtorEq]
      rfl
    · refine ⟨_, W.in64 (by omega), k + 1, by omega, ?_, by omega⟩
      try simp only [go_sem, ↓reduceIte, Nat.reduceEqDiff, Nat.reduceAdd, Nat.reduceMul, Nat.reduceLeDiff, Nat.reduceLT, Nat.reduceBNe, reduceCtorEq]
      rfl
    · refine ⟨_, W.in64 (by decide), 2 + 1, by decide, ?_, by decide⟩
      try simp only [go_sem, ↓reduceIte, Nat.reduceEqDiff, Nat.reduceAdd, Nat.reduceMul, Nat.reduceLeDiff, Nat.reduceLT, Nat.reduceBNe, reduceCtorEq]
      rfl
  · simp only [go_sem] at hE
    obtain ⟨e8, e3, e6, e7, e5⟩ := hE
    rw [show ((3 : Nat) : Int) = 3 from rfl] at e8
    try simp only [go_sem, ↓reduceIte, Nat.reduceEqDiff, Nat.reduceAdd, Nat.reduceMul, Nat.reduceLeDiff, Nat.reduceLT, Nat.reduceBNe, reduceCtorEq, Int.reduceLE, Int.reduceLT, Int.reduceToNat, Int.cast_ofNat_Int, Int.reduceEq, Int.reduceNe, e8, e3, e6, e7, e5]
    have hle24 := RO.le_trans hle3 hle4
    refine vcall (hHd R4 hle24) ?_
    rintro R5 r hle5 ⟨d, u, rfl, hu, hd⟩
    obtain ⟨ua, uc, rfl, _⟩ := hu.form
    simp only [dvCells]
    try simp only [go_sem, ↓reduceIte, Nat.reduceEqDiff, Nat.reduceAdd, Nat.reduceMul, Nat.reduceLeDiff, Nat.reduceLT, Nat.reduceBNe, reduceCtorEq, Int.reduceLE, Int.reduceLT, Int.reduceToNat, Int.cast_ofNat_Int, Int.reduceEq, Int.reduceNe, e6, e5]
    have hcd := validV_cons hd.val
    have hld := validV_len hd.val
    have hsd := (validV_all hd.val).2
    obtain ⟨oo, ho1, ho2, ho3⟩ := allD_cons hcd hld
    refine vcall (eRebase d.edits _ R5 hu) ?_
    intro R6 r hle6 hr
    unfold RebV at hr
    rw [ho1] at hr
    obtain ⟨u1, w1, rfl, hf, hw⟩ := hr
    have hlen := force_recs_len oo oo
    obtain ⟨fs, hfs⟩ : ∃ fs, fs = forceD oo := ⟨_, rfl⟩
    obtain ⟨rs, hrs⟩ : ∃ rs, rs = recsD oo := ⟨_, rfl⟩
    have hol : oo.length = d.edits.length := by
      have h1 := ho2.len fun x hx => (ho3 x).1 hx
      have h2 := hsd.len fun x hx => (ho3 x).2 hx
      omega
    rw [show oo.filter (fun a => !(oo.any (overD a))) = fs from hfs.symm, show oo.filterMap (fun a => (oo.find? (overD a)).map (ovOf a)) = rs from hrs.symm] at hlen
    rw [← hfs] at hf
    rw [← hrs] at hw
    obtain ⟨fa, fcap, rfl, _⟩ := hf.form
    obtain ⟨wa, wcap, rfl, hwc, hwf⟩ := hw.form
    try simp only [go_sem, ↓reduceIte, Nat.reduceEqDiff, Nat.reduceAdd, Nat.reduceMul, Nat.reduceLeDiff, Nat.reduceLT, Nat.reduceBNe, reduceCtorEq, Int.reduceLE, Int.reduceLT, Int.reduceToNat, Int.cast_ofNat_Int, Int.reduceEq, Int.reduceNe, e6, e5]
    have hnl : d.edits.length ≤ 4096 := hld
    refine ⟨_, W.in64 (by omega), fun hne => by omega, fun _ => ?_⟩
    refine vcLoop Nat (fun i => [(15, .val (.int .i64 i)), (6, .loc 1 0), (12, .val (.slice fa fs.length fcap)), (13, .val (.slice wa rs.length wcap)), (5, .val (.bool true))]) (fun _ => [.dead, .box (boxc (wdCells w (.slice a0 w.n0.edits.length c0) (.slice a1 w.n1.edits.length c1) (.slice a2 w.n2.edits.length c2) (.slice a3 w.c0.edits.length c3) (.slice a4 w.c1.edits.length c4) (.slice a5 w.c2.edits.length c5)))]) (fun i _ => i ≤ 3) (fun i => 3 - i) 0 ?_ ?_ ?_ ?_
    · (try simp only [go_sem, ↓reduceIte, Nat.reduceEqDiff, Nat.reduceAdd, Nat.reduceMul, Nat.reduceLeDiff, Nat.reduceLT, Nat.reduceBNe, reduceCtorEq]) <;> (repeat' (first | rfl | trivial | constructor | (intro h; exact absurd rfl h)))
    · try simp only [go_sem, ↓reduceIte, Nat.reduceEqDiff, Nat.reduceAdd, Nat.reduceMul, Nat.reduceLeDiff, Nat.reduceLT, Nat.reduceBNe, reduceCtorEq]
      exact boxc_ok _ _
    · exact Nat.zero_le _
    rintro i env R7 hle7 hE hi
    have hci : i = 0 ∨ i = 1 ∨ i = 2 ∨ i = 3 := by omega
    simp only [boxc, wdCells, List.map_cons, List.map_nil] at hE ⊢
    rcases hci with rfl | rfl | rfl | rfl
    · simp only [go_sem] at hE
      obtain ⟨e15, e6', e12, e13, e5'⟩ := hE
      rw [show ((0 : Nat) : Int) = 0 from rfl] at e15
      try simp only [go_sem, ↓reduceIte, Nat.reduceEqDiff, Nat.reduceAdd, Nat.reduceMul, Nat.reduceLeDiff, Nat.reduceLT, Nat.reduceBNe, reduceCtorEq, Int.reduceLE, Int.reduceLT, Int.reduceToNat, Int.cast_ofNat_Int, Int.reduceEq, Int.reduceNe, e15, e6', e12, e13, e5']
      have hsh : w.n0.edits.length ≤ n := hI.shape (i := 0) (by omega)
      refine vcLoop Nat (fun k => [(16, .val (.int .i64 k)), (15, .val (.int .i64 0)), (6, .loc 1 0), (12, .val (.slice fa fs.length fcap)), (13, .val (.slice wa rs.length wcap)), (5, .val (.bool true))]) (fun _ => [.dead, .box (boxc (wdCells w (.slice a0 w.n0.edits.length c0) (.slice a1 w.n1.edits.length c1) (.slice a2 w.n2.edits.length c2) (.slice a3 w.c0.edits.length c3) (.slice a4 w.c1.edits.length c4) (.slice a5 w.c2.edits.length c5)))]) (fun k _ => k ≤ w.n0.edits.length) (fun k => w.n0.edits.length - k) 0 ?_ ?_ ?_ ?_
      · (try simp only [go_sem, ↓reduceIte, Nat.reduceEqDiff, Nat.reduceAdd, Nat.reduceMul, Nat.reduceLeDiff, Nat.reduceLT, Nat.reduceBNe, reduceCtorEq]) <;> (repeat' (first | rfl | trivial | constructor | (intro h; exact absurd rfl h)))
      · try simp only [go_sem, ↓reduceIte, Nat.reduceEqDiff, Nat.reduceAdd, Nat.reduceMul, Nat.reduceLeDiff, Nat.reduceLT, Nat.reduceBNe, reduceCtorEq]
        exact boxc_ok _ _
      · exact Nat.zero_le _
      rintro k env R8 hle8 hE hk
      simp only [boxc, wdCells, List.map_cons, List.map_nil] at hE ⊢
      simp only [go_sem] at hE
      obtain ⟨f16, f15, f6, f12, f13, f5⟩ := hE
      try simp only [go_sem, ↓reduceIte, Nat.reduceEqDiff, Nat.reduceAdd, Nat.reduceMul, Nat.reduceLeDiff, Nat.reduceLT, Nat.reduceBNe, reduceCtorEq, Int.reduceLE, Int.reduceLT, Int.reduceToNat, Int.cast_ofNat_Int, Int.reduceEq, Int.reduceNe, f16, f15, f6, f12, f13, f5]
      refine ⟨fun hlt => ?_, fun hge => ?_⟩
      · have hlt' : k < w.n0.edits.length := by omega
        obtain ⟨wa', wc', heq, _, hwf'⟩ := PlOK.of h0
        obtain ⟨rfl, _, rfl⟩ := Value.slice.inj heq
        obtain ⟨ad, p, had, hp1, hpR, hpok⟩ := hwf' k hlt'
        have hmem : p.1 ∈ (w.now 0).edits := by rw [hp1]; exact List.getElem_mem hlt'
        have hxo : p.1 ∈ oo := (ho3 _).2 (hd.hs 0 (by omega) _ hmem)
        have hle28 : RO.le R2 R8 := RO.le_trans hle24 (RO.le_trans hle5 (RO.le_trans hle6 (RO.le_trans hle7 hle8)))
        refine ⟨by omega, vat ad had ?_⟩
        try simp only [go_sem, ↓reduceIte, Nat.reduceEqDiff, Nat.reduceAdd, Nat.reduceMul, Nat.reduceLeDiff, Nat.reduceLT, Nat.reduceBNe, reduceCtorEq]
        refine vloadn p.ed.cells rfl (fun j u hj => hle28 _ _ (hpR j u hj)) ?_
        simp only [go_sem, ↓reduceIte, Nat.reduceEqDiff, Nat.reduceAdd, Nat.reduceMul, Nat.reduceLeDiff, Nat.reduceLT, Nat.reduceBNe, reduceCtorEq, Ed.cells, Pl.ed, De.ed, f16, f15, f6, f12, f13, f5]
        have hF := dFind fs _ p.1 p.2.1 p.2.2.1 p.2.2.2 R8 (hf.mono (RO.le_trans hle7 hle8))
        simp only [Ed.cells, De.ed] at hF
        refine vcall hF ?_
        rintro R9 v hle9 ⟨kk, rfl, hkk, _⟩
        rw [hfs, find_force ho2 hxo] at hkk
        have hcnt := recCount_one oo p.1 oo (ho2.imp fun h => lessD_key h) hxo
        have hq : rs.countP (fun r => decide (r.device = p.1.device) && decide (r.seq = p.1.seq)) = if oo.any (overD p.1) = true then 1 else 0 := by rw [hrs]; exact hcnt
        have hsx : ∀ j (hj : j < rs.length), (rs.take (j + 1)).countP (fun r => decide (r.device = p.1.device) && decide (r.seq = p.1.seq)) = (rs.take j).countP (fun r => decide (r.device = p.1.device) && decide (r.seq = p.1.seq)) + (if (decide (rs[j].device = p.1.device) && decide (rs[j].seq = p.1.seq)) = true then 1 else 0) := fun j hj => by
          rw [List.take_succ_eq_append_getElem hj, List.countP_append, List.countP_singleton]
        have hcl : ∀ j, (rs.take j).countP (fun r => decide (r.device = p.1.device) && decide (r.seq = p.1.seq)) ≤ j := fun j => Nat.le_trans List.countP_le_length (by rw [List.length_take]; omega)
        have hrl : rs.length ≤ 4096 := by omega
        have hle69 : RO.le R6 R9 := RO.le_trans hle7 (RO.le_trans hle8 hle9)
        try simp only [go_sem, ↓reduceIte, Nat.reduceEqDiff, Nat.reduceAdd, Nat.reduceMul, Nat.reduceLeDiff, Nat.reduceLT, Nat.reduceBNe, reduceCtorEq, Int.reduceLE, Int.reduceLT, Int.reduceToNat, Int.cast_ofNat_Int, Int.reduceEq, Int.reduceNe, f16, f15, f6, f12, f13, f5]
        refine ⟨fun h0 => ⟨1, W.in64 (r := 1) (by decide), ?_⟩, fun h0 => ?_⟩
        · have hany : oo.any (overD p.1) = false := hkk.1 h0
          rw [hany] at hq
          have hfull : 1 + rs.countP (fun r => decide (r.device = p.1.device) && decide (r.seq = p.1.seq)) = 1 := by rw [hq]; rfl
          refine vcLoop Nat (fun j => [(19, .val (.int .i64 j)), (18, .val (.int .i64 ((1 + (rs.take j).countP (fun r => decide (r.device = p.1.device) && decide (r.seq = p.1.seq)) : Nat)))), (17, .loc 2 0), (16, .val (.int .i64 k)), (15, .val (.int .i64 0)), (6, .loc 1 0), (12, .val (.slice fa fs.length fcap)), (13, .val (.slice wa rs.length wcap)), (5, .val (.bool true))]) (fun _ => [.dead, .box (boxc (wdCells w (.slice a0 w.n0.edits.length c0) (.slice a1 w.n1.edits.length c1) (.slice a2 w.n2.edits.length c2) (.slice a3 w.c0.edits.length c3) (.slice a4 w.c1.edits.length c4) (.slice a5 w.c2.edits.length c5))), .box (boxc p.ed.cells)]) (fun j _ => j ≤ rs.length) (fun j => rs.length - j) 0 ?_ ?_ ?_ ?_
          · (try simp only [go_sem, ↓reduceIte, Nat.reduceEqDiff, Nat.reduceAdd, Nat.reduceMul, Nat.reduceLeDiff, Nat.reduceLT, Nat.reduceBNe, reduceCtorEq]) <;> (repeat' (first | rfl | trivial | constructor | (intro h; exact absurd rfl h)))
          · try simp only [go_sem, ↓reduceIte, Nat.reduceEqDiff, Nat.reduceAdd, Nat.reduceMul, Nat.reduceLeDiff, Nat.reduceLT, Nat.reduceBNe, reduceCtorEq]
            exact ⟨boxc_ok _ _, boxc_ok _ _⟩
          · exact Nat.zero_le _
          rintro j env R10 hle10 hE hj
          simp only [boxc, wdCells, Ed.cells, Pl.ed, De.ed, List.map_cons, List.map_nil] at hE ⊢
          simp only [go_sem] at hE
          obtain ⟨g19, g18, g17, g16, g15, g6, g12, g13, g5⟩ := hE
          try simp only [go_sem, ↓reduceIte, Nat.reduceEqDiff, Nat.reduceAdd, Nat.reduceMul, Nat.reduceLeDiff, Nat.reduceLT, Nat.reduceBNe, reduceCtorEq, Int.reduceLE, Int.reduceLT, Int.reduceToNat, Int.cast_ofNat_Int, Int.reduceEq, Int.reduceNe, g19, g18, g17, g16, g15, g6, g12, g13, g5]
          have hclj := hcl j
          refine ⟨fun hlt2 => ?_, fun hge2 => ?_⟩
          · have hj' : j < rs.length := by omega
            have hs1 := hsx j hj'
            obtain ⟨ad3, had3, hR3⟩ := hwf j hj'
            refine ⟨by omega, vat ad3 had3 ?_⟩
            try simp only [go_sem, ↓reduceIte, Nat.reduceEqDiff, Nat.reduceAdd, Nat.reduceMul, Nat.reduceLeDiff, Nat.reduceLT, Nat.reduceBNe, reduceCtorEq]
            refine vload (.int .i64 (rs[j]).device) (hle10 _ _ (hle69 _ _ (hR3 0 _ rfl))) ?_
            simp only [go_sem, ↓reduceIte, Nat.reduceEqDiff, Nat.reduceAdd, Nat.reduceMul, Nat.reduceLeDiff, Nat.reduceLT, Nat.reduceBNe, reduceCtorEq, g19, g18, g17, g16, g15, g6, g12, g13, g5]
            refine ⟨fun hdv => ⟨by omega, vat ad3 had3 ?_⟩, fun hdv => ?_⟩
            · try simp only [go_sem, ↓reduceIte, Nat.reduceEqDiff, Nat.reduceAdd, Nat.reduceMul, Nat.reduceLeDiff, Nat.reduceLT, Nat.reduceBNe, reduceCtorEq]
              refine vload (.int .i64 (rs[j]).seq) (hle10 _ _ (hle69 _ _ (hR3 1 _ rfl))) ?_
              simp only [go_sem, ↓reduceIte, Nat.reduceEqDiff, Nat.reduceAdd, Nat.reduceMul, Nat.reduceLeDiff, Nat.reduceLT, Nat.reduceBNe, reduceCtorEq, g19, g18, g17, g16, g15, g6, g12, g13, g5]
              refine ⟨fun hsq => ?_, fun hsq => ?_⟩
              · rw [decide_eq_true hdv, decide_eq_true hsq, Bool.and_self, if_pos rfl] at hs1
                refine ⟨_, W.in64 (by omega), _, W.in64 (by omega), j + 1, by omega, ?_, by omega⟩
                try simp only [go_sem, ↓reduceIte, Nat.reduceEqDiff, Nat.reduceAdd, Nat.reduceMul, Nat.reduceLeDiff, Nat.reduceLT, Nat.reduceBNe, reduceCtorEq]
                rw [hs1]
                exact ⟨by congr 2, by congr 2⟩
              · rw [decide_eq_true hdv, decide_eq_false hsq, Bool.and_false, if_neg (by simp)] at hs1
                refine ⟨_, W.in64 (by omega), j + 1, by omega, ?_, by omega⟩
                try simp only [go_sem, ↓reduceIte, Nat.reduceEqDiff, Nat.reduceAdd, Nat.reduceMul, Nat.reduceLeDiff, Nat.reduceLT, Nat.reduceBNe, reduceCtorEq]
                rw [hs1]
                exact ⟨by congr 2, by congr 2⟩
            · rw [decide_eq_false hdv, Bool.false_and, if_neg (by simp)] at hs1
              refine ⟨_, W.in64 (by omega), j + 1, by omega, ?_, by omega⟩
              try simp only [go_sem, ↓reduceIte, Nat.reduceEqDiff, Nat.reduceAdd, Nat.reduceMul, Nat.reduceLeDiff, Nat.reduceLT, Nat.reduceBNe, reduceCtorEq]
              rw [hs1]
              exact ⟨by congr 2, by congr 2⟩
          · obtain rfl : j = rs.length := by omega
            rw [List.take_length]
            refine ⟨fun hx => absurd (by omega) hx, fun _ => ⟨_, W.in64 (by omega), k + 1, by omega, rfl, by omega⟩⟩
        · have hany : oo.any (overD p.1) = true := by
            cases ha : oo.any (overD p.1) with
            | true => rfl
            | false => exact absurd (hkk.2 ha) h0
          rw [hany] at hq
          have hfull : 0 + rs.countP (fun r => decide (r.device = p.1.device) && decide (r.seq = p.1.seq)) = 1 := by rw [hq]; rfl
          refine vcLoop Nat (fun j => [(19, .val (.int .i64 j)), (18, .val (.int .i64 ((0 + (rs.take j).countP (fun r => decide (r.device = p.1.device) && decide (r.seq = p.1.seq)) : Nat)))), (17, .loc 2 0), (16, .val (.int .i64 k)), (15, .val (.int .i64 0)), (6, .loc 1 0), (12, .val (.slice fa fs.length fcap)), (13, .val (.slice wa rs.length wcap)), (5, .val (.bool true))]) (fun _ => [.dead, .box (boxc (wdCells w (.slice a0 w.n0.edits.length c0) (.slice a1 w.n1.edits.length c1) (.slice a2 w.n2.edits.length c2) (.slice a3 w.c0.edits.length c3) (.slice a4 w.c1.edits.length c4) (.slice a5 w.c2.edits.length c5))), .box (boxc p.ed.cells)]) (fun j _ => j ≤ rs.length) (fun j => rs.length - j) 0 ?_ ?_ ?_ ?_
          · (try simp only [go_sem, ↓reduceIte, Nat.reduceEqDiff, Nat.reduceAdd, Nat.reduceMul, Nat.reduceLeDiff, Nat.reduceLT, Nat.reduceBNe, reduceCtorEq]) <;> (repeat' (first | rfl | trivial | constructor | (intro h; exact absurd rfl h)))
          · try simp only [go_sem, ↓reduceIte, Nat.reduceEqDiff, Nat.reduceAdd, Nat.reduceMul, Nat.reduceLeDiff, Nat.reduceLT, Nat.reduceBNe, reduceCtorEq]
            exact ⟨boxc_ok _ _, boxc_ok _ _⟩
          · exact Nat.zero_le _
          rintro j env R10 hle10 hE hj
          simp only [boxc, wdCells, Ed.cells, Pl.ed, De.ed, List.map_cons, List.map_nil] at hE ⊢
          simp only [go_sem] at hE
          obtain ⟨g19, g18, g17, g16, g15, g6, g12, g13, g5⟩ := hE
          try simp only [go_sem, ↓reduceIte, Nat.reduceEqDiff, Nat.reduceAdd, Nat.reduceMul, Nat.reduceLeDiff, Nat.reduceLT, Nat.reduceBNe, reduceCtorEq, Int.reduceLE, Int.reduceLT, Int.reduceToNat, Int.cast_ofNat_Int, Int.reduceEq, Int.reduceNe, g19, g18, g17, g16, g15, g6, g12, g13, g5]
          have hclj := hcl j
          refine ⟨fun hlt2 => ?_, fun hge2 => ?_⟩
          · have hj' : j < rs.length := by omega
            have hs1 := hsx j hj'
            obtain ⟨ad3, had3, hR3⟩ := hwf j hj'
            refine ⟨by omega, vat ad3 had3 ?_⟩
            try simp only [go_sem, ↓reduceIte, Nat.reduceEqDiff, Nat.reduceAdd, Nat.reduceMul, Nat.reduceLeDiff, Nat.reduceLT, Nat.reduceBNe, reduceCtorEq]
            refine vload (.int .i64 (rs[j]).device) (hle10 _ _ (hle69 _ _ (hR3 0 _ rfl))) ?_
            simp only [go_sem, ↓reduceIte, Nat.reduceEqDiff, Nat.reduceAdd, Nat.reduceMul, Nat.reduceLeDiff, Nat.reduceLT, Nat.reduceBNe, reduceCtorEq, g19, g18, g17, g16, g15, g6, g12, g13, g5]
            refine ⟨fun hdv => ⟨by omega, vat ad3 had3 ?_⟩, fun hdv => ?_⟩
            · try simp only [go_sem, ↓reduceIte, Nat.reduceEqDiff, Nat.reduceAdd, Nat.reduceMul, Nat.reduceLeDiff, Nat.reduceLT, Nat.reduceBNe, reduceCtorEq]
              refine vload (.int .i64 (rs[j]).seq) (hle10 _ _ (hle69 _ _ (hR3 1 _ rfl))) ?_
              simp only [go_sem, ↓reduceIte, Nat.reduceEqDiff, Nat.reduceAdd, Nat.reduceMul, Nat.reduceLeDiff, Nat.reduceLT, Nat.reduceBNe, reduceCtorEq, g19, g18, g17, g16, g15, g6, g12, g13, g5]
              refine ⟨fun hsq => ?_, fun hsq => ?_⟩
              · rw [decide_eq_true hdv, decide_eq_true hsq, Bool.and_self, if_pos rfl] at hs1
                refine ⟨_, W.in64 (by omega), _, W.in64 (by omega), j + 1, by omega, ?_, by omega⟩
                try simp only [go_sem, ↓reduceIte, Nat.reduceEqDiff, Nat.reduceAdd, Nat.reduceMul, Nat.reduceLeDiff, Nat.reduceLT, Nat.reduceBNe, reduceCtorEq]
                rw [hs1]
                exact ⟨by congr 2, by congr 2⟩
              · rw [decide_eq_true hdv, decide_eq_false hsq, Bool.and_false, if_neg (by simp)] at hs1
                refine ⟨_, W.in64 (by omega), j + 1, by omega, ?_, by omega⟩
                try simp only [go_sem, ↓reduceIte, Nat.reduceEqDiff, Nat.reduceAdd, Nat.reduceMul, Nat.reduceLeDiff, Nat.reduceLT, Nat.reduceBNe, reduceCtorEq]
                rw [hs1]
                exact ⟨by congr 2, by congr 2⟩
            · rw [decide_eq_false hdv, Bool.false_and, if_neg (by simp)] at hs1
              refine ⟨_, W.in64 (by omega), j + 1, by omega, ?_, by omega⟩
              try simp only [go_sem, ↓reduceIte, Nat.reduceEqDiff, Nat.reduceAdd, Nat.reduceMul, Nat.reduceLeDiff, Nat.reduceLT, Nat.reduceBNe, reduceCtorEq]
              rw [hs1]
              exact ⟨by congr 2, by congr 2⟩
          · obtain rfl : j = rs.length := by omega
            rw [List.take_length]
            refine ⟨fun hx => absurd (by omega) hx, fun _ => ⟨_, W.in64 (by omega), k + 1, by omega, rfl, by omega⟩⟩
      · refine ⟨_, W.in64 (by decide), 0 + 1, by decide, ?_, by decide⟩
        try simp only [go_sem, ↓reduceIte, Nat.reduceEqDiff, Nat.reduceAdd, Nat.reduceMul, Nat.reduceLeDiff, Nat.reduceLT, Nat.reduceBNe, reduceCtorEq]
        rfl
    · simp only [go_sem] at hE
      obtain ⟨e15, e6', e12, e13, e5'⟩ := hE
      rw [show ((1 : Nat) : Int) = 1 from rfl] at e15
      try simp only [go_sem, ↓reduceIte, Nat.reduceEqDiff, Nat.reduceAdd, Nat.reduceMul, Nat.reduceLeDiff, Nat.reduceLT, Nat.reduceBNe, reduceCtorEq, Int.reduceLE, Int.reduceLT, Int.reduceToNat, Int.cast_ofNat_Int, Int.reduceEq, Int.reduceNe, e15, e6', e12, e13, e5']
      have hsh : w.n1.edits.length ≤ n := hI.shape (i := 1) (by omega)
      refine vcLoop Nat (fun k => [(16, .val (.int .i64 k)), (15, .val (.int .i64 1)), (6, .loc 1 0), (12, .val (.slice fa fs.length fcap)), (13, .val (.slice wa rs.length wcap)), (5, .val (.bool true))]) (fun _ => [.dead, .box (boxc (wdCells w (.slice a0 w.n0.edits.length c0) (.slice a1 w.n1.edits.length c1) (.slice a2 w.n2.edits.length c2) (.slice a3 w.c0.edits.length c3) (.slice a4 w.c1.edits.length c4) (.slice a5 w.c2.edits.length c5)))]) (fun k _ => k ≤ w.n1.edits.length) (fun k => w.n1.edits.length - k) 0 ?_ ?_ ?_ ?_
      · (try simp only [go_sem, ↓reduceIte, Nat.reduceEqDiff, Nat.reduceAdd, Nat.reduceMul, Nat.reduceLeDiff, Nat.reduceLT, Nat.reduceBNe, reduceCtorEq]) <;> (repeat' (first | rfl | trivial | constructor | (intro h; exact absurd rfl h)))
      · try simp only [go_sem, ↓reduceIte, Nat.reduceEqDiff, Nat.reduceAdd, Nat.reduceMul, Nat.reduceLeDiff, Nat.reduceLT, Nat.reduceBNe, reduceCtorEq]
        exact boxc_ok _ _
      · exact Nat.zero_le _
      rintro k env R8 hle8 hE hk
      simp only [boxc, wdCells, List.map_cons, List.map_nil] at hE ⊢
      simp only [go_sem] at hE
      obtain ⟨f16, f15, f6, f12, f13, f5⟩ := hE
      try simp only [go_sem, ↓reduceIte, Nat.reduceEqDiff, Nat.reduceAdd, Nat.reduceMul, Nat.reduceLeDiff, Nat.reduceLT, Nat.reduceBNe, reduceCtorEq, Int.reduceLE, Int.reduceLT, Int.reduceToNat, Int.cast_ofNat_Int, Int.reduceEq, Int.reduceNe, f16, f15, f6, f12, f13, f5]
      refine ⟨fun hlt => ?_, fun hge => ?_⟩
      · have hlt' : k < w.n1.edits.length := by omega
        obtain ⟨wa', wc', heq, _, hwf'⟩ := PlOK.of h1
        obtain ⟨rfl, _, rfl⟩ := Value.slice.inj heq
        obtain ⟨ad, p, had, hp1, hpR, hpok⟩ := hwf' k hlt'
        have hmem : p.1 ∈ (w.now 1).edits := by rw [hp1]; exact List.getElem_mem hlt'
        have hxo : p.1 ∈ oo := (ho3 _).2 (hd.hs 1 (by omega) _ hmem)
        have hle28 : RO.le R2 R8 := RO.le_trans hle24 (RO.le_trans hle5 (RO.le_trans hle6 (RO.le_trans hle7 hle8)))
        refine ⟨by omega, vat ad had ?_⟩
        try simp only [go_sem, ↓reduceIte, Nat.reduceEqDiff, Nat.reduceAdd, Nat.reduceMul, Nat.reduceLeDiff, Nat.reduceLT, Nat.reduceBNe, reduceCtorEq]
        refine vloadn p.ed.cells rfl (fun j u hj => hle28 _ _ (hpR j u hj)) ?_
        simp only [go_sem, ↓reduceIte, Nat.reduceEqDiff, Nat.reduceAdd, Nat.reduceMul, Nat.reduceLeDiff, Nat.reduceLT, Nat.reduceBNe, reduceCtorEq, Ed.cells, Pl.ed, De.ed, f16, f15, f6, f12, f13, f5]
        have hF := dFind fs _ p.1 p.2.1 p.2.2.1 p.2.2.2 R8 (hf.mono (RO.le_trans hle7 hle8))
        simp only [Ed.cells, De.ed] at hF
        refine vcall hF ?_
        rintro R9 v hle9 ⟨kk, rfl, hkk, _⟩
        rw [hfs, find_force ho2 hxo] at hkk
        have hcnt := recCount_one oo p.1 oo (ho2.imp fun h => lessD_key h) hxo
        have hq : rs.countP (fun r => decide (r.device = p.1.device) && decide (r.seq = p.1.seq)) = if oo.any (overD p.1) = true then 1 else 0 := by rw [hrs]; exact hcnt
        have hsx : ∀ j (hj : j < rs.length), (rs.take (j + 1)).countP (fun r => decide (r.device = p.1.device) && decide (r.seq = p.1.seq)) = (rs.take j).countP (fun r => decide (r.device = p.1.device) && decide (r.seq = p.1.seq)) + (if (decide (rs[j].device = p.1.device) && decide (rs[j].seq = p.1.seq)) = true then 1 else 0) := fun j hj => by
          rw [List.take_succ_eq_append_getElem hj, List.countP_append, List.countP_singleton]
        have hcl : ∀ j, (rs.take j).countP (fun r => decide (r.device = p.1.device) && decide (r.seq = p.1.seq)) ≤ j := fun j => Nat.le_trans List.countP_le_length (by rw [List.length_take]; omega)
        have hrl : rs.length ≤ 4096 := by omega
        have hle69 : RO.le R6 R9 := RO.le_trans hle7 (RO.le_trans hle8 hle9)
        try simp only [go_sem, ↓reduceIte, Nat.reduceEqDiff, Nat.reduceAdd, Nat.reduceMul, Nat.reduceLeDiff, Nat.reduceLT, Nat.reduceBNe, reduceCtorEq, Int.reduceLE, Int.reduceLT, Int.reduceToNat, Int.cast_ofNat_Int, Int.reduceEq, Int.reduceNe, f16, f15, f6, f12, f13, f5]
        refine ⟨fun h0 => ⟨1, W.in64 (r := 1) (by decide), ?_⟩, fun h0 => ?_⟩
        · have hany : oo.any (overD p.1) = false := hkk.1 h0
          rw [hany] at hq
          have hfull : 1 + rs.countP (fun r => decide (r.device = p.1.device) && decide (r.seq = p.1.seq)) = 1 := by rw [hq]; rfl
          refine vcLoop Nat (fun j => [(19, .val (.int .i64 j)), (18, .val (.int .i64 ((1 + (rs.take j).countP (fun r => decide (r.device = p.1.device) && decide (r.seq = p.1.seq)) : Nat)))), (17, .loc 2 0), (16, .val (.int .i64 k)), (15, .val (.int .i64 1)), (6, .loc 1 0), (12, .val (.slice fa fs.length fcap)), (13, .val (.slice wa rs.length wcap)), (5, .val (.bool true))]) (fun _ => [.dead, .box (boxc (wdCells w (.slice a0 w.n0.edits.length c0) (.slice a1 w.n1.edits.length c1) (.slice a2 w.n2.edits.length c2) (.slice a3 w.c0.edits.length c3) (.slice a4 w.c1.edits.length c4) (.slice a5 w.c2.edits.length c5))), .box (boxc p.ed.cells)]) (fun j _ => j ≤ rs.length) (fun j => rs.length - j) 0 ?_ ?_ ?_ ?_
          · (try simp only [go_sem, ↓reduceIte, Nat.reduceEqDiff, Nat.reduceAdd, Nat.reduceMul, Nat.reduceLeDiff, Nat.reduceLT, Nat.reduceBNe, reduceCtorEq]) <;> (repeat' (first | rfl | trivial | constructor | (intro h; exact absurd rfl h)))
          · try simp only [go_sem, ↓reduceIte, Nat.reduceEqDiff, Nat.reduceAdd, Nat.reduceMul, Nat.reduceLeDiff, Nat.reduceLT, Nat.reduceBNe, reduceCtorEq]
            exact ⟨boxc_ok _ _, boxc_ok _ _⟩
          · exact Nat.zero_le _
          rintro j env R10 hle10 hE hj
          simp only [boxc, wdCells, Ed.cells, Pl.ed, De.ed, List.map_cons, List.map_nil] at hE ⊢
          simp only [go_sem] at hE
          obtain ⟨g19, g18, g17, g16, g15, g6, g12, g13, g5⟩ := hE
          try simp only [go_sem, ↓reduceIte, Nat.reduceEqDiff, Nat.reduceAdd, Nat.reduceMul, Nat.reduceLeDiff, Nat.reduceLT, Nat.reduceBNe, reduceCtorEq, Int.reduceLE, Int.reduceLT, Int.reduceToNat, Int.cast_ofNat_Int, Int.reduceEq, Int.reduceNe, g19, g18, g17, g16, g15, g6, g12, g13, g5]
          have hclj := hcl j
          refine ⟨fun hlt2 => ?_, fun hge2 => ?_⟩
          · have hj' : j < rs.length := by omega
            have hs1 := hsx j hj'
            obtain ⟨ad3, had3, hR3⟩ := hwf j hj'
            refine ⟨by omega, vat ad3 had3 ?_⟩
            try simp only [go_sem, ↓reduceIte, Nat.reduceEqDiff, Nat.reduceAdd, Nat.reduceMul, Nat.reduceLeDiff, Nat.reduceLT, Nat.reduceBNe, reduceCtorEq]
            refine vload (.int .i64 (rs[j]).device) (hle10 _ _ (hle69 _ _ (hR3 0 _ rfl))) ?_
            simp only [go_sem, ↓reduceIte, Nat.reduceEqDiff, Nat.reduceAdd, Nat.reduceMul, Nat.reduceLeDiff, Nat.reduceLT, Nat.reduceBNe, reduceCtorEq, g19, g18, g17, g16, g15, g6, g12, g13, g5]
            refine ⟨fun hdv => ⟨by omega, vat ad3 had3 ?_⟩, fun hdv => ?_⟩
            · try simp only [go_sem, ↓reduceIte, Nat.reduceEqDiff, Nat.reduceAdd, Nat.reduceMul, Nat.reduceLeDiff, Nat.reduceLT, Nat.reduceBNe, reduceCtorEq]
              refine vload (.int .i64 (rs[j]).seq) (hle10 _ _ (hle69 _ _ (hR3 1 _ rfl))) ?_
              simp only [go_sem, ↓reduceIte, Nat.reduceEqDiff, Nat.reduceAdd, Nat.reduceMul, Nat.reduceLeDiff, Nat.reduceLT, Nat.reduceBNe, reduceCtorEq, g19, g18, g17, g16, g15, g6, g12, g13, g5]
              refine ⟨fun hsq => ?_, fun hsq => ?_⟩
              · rw [decide_eq_true hdv, decide_eq_true hsq, Bool.and_self, if_pos rfl] at hs1
                refine ⟨_, W.in64 (by omega), _, W.in64 (by omega), j + 1, by omega, ?_, by omega⟩
                try simp only [go_sem, ↓reduceIte, Nat.reduceEqDiff, Nat.reduceAdd, Nat.reduceMul, Nat.reduceLeDiff, Nat.reduceLT, Nat.reduceBNe, reduceCtorEq]
                rw [hs1]
                exact ⟨by congr 2, by congr 2⟩
              · rw [decide_eq_true hdv, decide_eq_false hsq, Bool.and_false, if_neg (by simp)] at hs1
                refine ⟨_, W.in64 (by omega), j + 1, by omega, ?_, by omega⟩
                try simp only [go_sem, ↓reduceIte, Nat.reduceEqDiff, Nat.reduceAdd, Nat.reduceMul, Nat.reduceLeDiff, Nat.reduceLT, Nat.reduceBNe, reduceCtorEq]
                rw [hs1]
                exact ⟨by congr 2, by congr 2⟩
            · rw [decide_eq_false hdv, Bool.false_and, if_neg (by simp)] at hs1
              refine ⟨_, W.in64 (by omega), j + 1, by omega, ?_, by omega⟩
              try simp only [go_sem, ↓reduceIte, Nat.reduceEqDiff, Nat.reduceAdd, Nat.reduceMul, Nat.reduceLeDiff, Nat.reduceLT, Nat.reduceBNe, reduceCtorEq]
              rw [hs1]
              exact ⟨by congr 2, by congr 2⟩
          · obtain rfl : j = rs.length := by omega
            rw [List.take_length]
            refine ⟨fun hx => absurd (by omega) hx, fun _ => ⟨_, W.in64 (by omega), k + 1, by omega, rfl, by omega⟩⟩
        · have hany : oo.any (overD p.1) = true := by
            cases ha : oo.any (overD p.1) with
            | true => rfl
            | false => exact absurd (hkk.2 ha) h0
          rw [hany] at hq
          have hfull : 0 + rs.countP (fun r => decide (r.device = p.1.device) && decide (r.seq = p.1.seq)) = 1 := by rw [hq]; rfl
          refine vcLoop Nat (fun j => [(19, .val (.int .i64 j)), (18, .val (.int .i64 ((0 + (rs.take j).countP (fun r => decide (r.device = p.1.device) && decide (r.seq = p.1.seq)) : Nat)))), (17, .loc 2 0), (16, .val (.int .i64 k)), (15, .val (.int .i64 1)), (6, .loc 1 0), (12, .val (.slice fa fs.length fcap)), (13, .val (.slice wa rs.length wcap)), (5, .val (.bool true))]) (fun _ => [.dead, .box (boxc (wdCells w (.slice a0 w.n0.edits.length c0) (.slice a1 w.n1.edits.length c1) (.slice a2 w.n2.edits.length c2) (.slice a3 w.c0.edits.length c3) (.slice a4 w.c1.edits.length c4) (.slice a5 w.c2.edits.length c5))), .box (boxc p.ed.cells)]) (fun j _ => j ≤ rs.length) (fun j => rs.length - j) 0 ?_ ?_ ?_ ?_
          · (try simp only [go_sem, ↓reduceIte, Nat.reduceEqDiff, Nat.reduceAdd, Nat.reduceMul, Nat.reduceLeDiff, Nat.reduceLT, Nat.reduceBNe, reduceCtorEq]) <;> (repeat' (first | rfl | trivial | constructor | (intro h; exact absurd rfl h)))
          · try simp only [go_sem, ↓reduceIte, Nat.reduceEqDiff, Nat.reduceAdd, Nat.reduceMul, Nat.reduceLeDiff, Nat.reduceLT, Nat.reduceBNe, reduceCtorEq]
            exact ⟨boxc_ok _ _, boxc_ok _ _⟩
          · exact Nat.zero_le _
          rintro j env R10 hle10 hE hj
          simp only [boxc, wdCells, Ed.cells, Pl.ed, De.ed, List.map_cons, List.map_nil] at hE ⊢
          simp only [go_sem] at hE
          obtain ⟨g19, g18, g17, g16, g15, g6, g12, g13, g5⟩ := hE
          try simp only [go_sem, ↓reduceIte, Nat.reduceEqDiff, Nat.reduceAdd, Nat.reduceMul, Nat.reduceLeDiff, Nat.reduceLT, Nat.reduceBNe, reduceCtorEq, Int.reduceLE, Int.reduceLT, Int.reduceToNat, Int.cast_ofNat_Int, Int.reduceEq, Int.reduceNe, g19, g18, g17, g16, g15, g6, g12, g13, g5]
          have hclj := hcl j
          refine ⟨fun hlt2 => ?_, fun hge2 => ?_⟩
          · have hj' : j < rs.length := by omega
            have hs1 := hsx j hj'
            obtain ⟨ad3, had3, hR3⟩ := hwf j hj'
            refine ⟨by omega, vat ad3 had3 ?_⟩
            try simp only [go_sem, ↓reduceIte, Nat.reduceEqDiff, Nat.reduceAdd, Nat.reduceMul, Nat.reduceLeDiff, Nat.reduceLT, Nat.reduceBNe, reduceCtorEq]
            refine vload (.int .i64 (rs[j]).device) (hle10 _ _ (hle69 _ _ (hR3 0 _ rfl))) ?_
            simp only [go_sem, ↓reduceIte, Nat.reduceEqDiff, Nat.reduceAdd, Nat.reduceMul, Nat.reduceLeDiff, Nat.reduceLT, Nat.reduceBNe, reduceCtorEq, g19, g18, g17, g16, g15, g6, g12, g13, g5]
            refine ⟨fun hdv => ⟨by omega, vat ad3 had3 ?_⟩, fun hdv => ?_⟩
            · try simp only [go_sem, ↓reduceIte, Nat.reduceEqDiff, Nat.reduceAdd, Nat.reduceMul, Nat.reduceLeDiff, Nat.reduceLT, Nat.reduceBNe, reduceCtorEq]
              refine vload (.int .i64 (rs[j]).seq) (hle10 _ _ (hle69 _ _ (hR3 1 _ rfl))) ?_
              simp only [go_sem, ↓reduceIte, Nat.reduceEqDiff, Nat.reduceAdd, Nat.reduceMul, Nat.reduceLeDiff, Nat.reduceLT, Nat.reduceBNe, reduceCtorEq, g19, g18, g17, g16, g15, g6, g12, g13, g5]
              refine ⟨fun hsq => ?_, fun hsq => ?_⟩
              · rw [decide_eq_true hdv, decide_eq_true hsq, Bool.and_self, if_pos rfl] at hs1
                refine ⟨_, W.in64 (by omega), _, W.in64 (by omega), j + 1, by omega, ?_, by omega⟩
                try simp only [go_sem, ↓reduceIte, Nat.reduceEqDiff, Nat.reduceAdd, Nat.reduceMul, Nat.reduceLeDiff, Nat.reduceLT, Nat.reduceBNe, reduceCtorEq]
                rw [hs1]
                exact ⟨by congr 2, by congr 2⟩
              · rw [decide_eq_true hdv, decide_eq_false hsq, Bool.and_false, if_neg (by simp)] at hs1
                refine ⟨_, W.in64 (by omega), j + 1, by omega, ?_, by omega⟩
                try simp only [go_sem, ↓reduceIte, Nat.reduceEqDiff, Nat.reduceAdd, Nat.reduceMul, Nat.reduceLeDiff, Nat.reduceLT, Nat.reduceBNe, reduceCtorEq]
                rw [hs1]
                exact ⟨by congr 2, by congr 2⟩
            · rw [decide_eq_false hdv, Bool.false_and, if_neg (by simp)] at hs1
              refine ⟨_, W.in64 (by omega), j + 1, by omega, ?_, by omega⟩
              try simp only [go_sem, ↓reduceIte, Nat.reduceEqDiff, Nat.reduceAdd, Nat.reduceMul, Nat.reduceLeDiff, Nat.reduceLT, Nat.reduceBNe, reduceCtorEq]
              rw [hs1]
              exact ⟨by congr 2, by congr 2⟩
          · obtain rfl : j = rs.length := by omega
            rw [List.take_length]
            refine ⟨fun hx => absurd (by omega) hx, fun _ => ⟨_, W.in64 (by omega), k + 1, by omega, rfl, by omega⟩⟩
      · refine ⟨_, W.in64 (by decide), 1 + 1, by decide, ?_, by decide⟩
        try simp only [go_sem, ↓reduceIte, Nat.reduceEqDiff, Nat.reduceAdd, Nat.reduceMul, Nat.reduceLeDiff, Nat.reduceLT, Nat.reduceBNe, reduceCtorEq]
        rfl
    · simp only [go_sem] at hE
      obtain ⟨e15, e6', e12, e13, e5'⟩ := hE
      rw [show ((2 : Nat) : Int) = 2 from rfl] at e15
      try simp only [go_sem, ↓reduceIte, Nat.reduceEqDiff, Nat.reduceAdd, Nat.reduceMul, Nat.reduceLeDiff, Nat.reduceLT, Nat.reduceBNe, reduceCtorEq, Int.reduceLE, Int.reduceLT, Int.reduceToNat, Int.cast_ofNat_Int, Int.reduceEq, Int.reduceNe, e15, e6', e12, e13, e5']
      have hsh : w.n2.edits.length ≤ n := hI.shape (i := 2) (by omega)
      refine vcLoop Nat (fun k => [(16, .val (.int .i64 k)), (15, .val (.int .i64 2)), (6, .loc 1 0), (12, .val (.slice fa fs.length fcap)), (13, .val (.slice wa rs.length wcap)), (5, .val (.bool true))]) (fun _ => [.dead, .box (boxc (wdCells w (.slice a0 w.n0.edits.length c0) (.slice a1 w.n1.edits.length c1) (.slice a2 w.n2.edits.length c2) (.slice a3 w.c0.edits.length c3) (.slice a4 w.c1.edits.length c4) (.slice a5 w.c2.edits.length c5)))]) (fun k _ => k ≤ w.n2.edits.length) (fun k => w.n2.edits.length - k) 0 ?_ ?_ ?_ ?_
      · (try simp only [go_sem, ↓reduceIte, Nat.reduceEqDiff, Nat.reduceAdd, Nat.reduceMul, Nat.reduceLeDiff, Nat.reduceLT, Nat.reduceBNe, reduceCtorEq]) <;> (repeat' (first | rfl | trivial | constructor | (intro h; exact absurd rfl h)))
      · try simp only [go_sem, ↓reduceIte, Nat.reduceEqDiff, Nat.reduceAdd, Nat.reduceMul, Nat.reduceLeDiff, Nat.reduceLT, Nat.reduceBNe, reduceCtorEq]
        exact boxc_ok _ _
      · exact Nat.zero_le _
      rintro k env R8 hle8 hE hk
      simp only [boxc, wdCells, List.map_cons, List.map_nil] at hE ⊢
      simp only [go_sem] at hE
      obtain ⟨f16, f15, f6, f12, f13, f5⟩ := hE
      try simp only [go_sem, ↓reduceIte, Nat.reduceEqDiff, Nat.reduceAdd, Nat.reduceMul, Nat.reduceLeDiff, Nat.reduceLT, Nat.reduceBNe, reduceCtorEq, Int.reduceLE, Int.reduceLT, Int.reduceToNat, Int.cast_ofNat_Int, Int.reduceEq, Int.reduceNe, f16, f15, f6, f12, f13, f5]
      refine ⟨fun hlt => ?_, fun hge => ?_⟩
      · have hlt' : k < w.n2.edits.length := by omega
        obtain ⟨wa', wc', heq, _, hwf'⟩ := PlOK.of h2
        obtain ⟨rfl, _, rfl⟩ := Value.slice.inj heq
        obtain ⟨ad, p, had, hp1, hpR, hpok⟩ := hwf' k hlt'
        have hmem : p.1 ∈ (w.now 2).edits := by rw [hp1]; exact List.getElem_mem hlt'
        have hxo : p.1 ∈ oo := (ho3 _).2 (hd.hs 2 (by omega) _ hmem)
        have hle28 : RO.le R2 R8 := RO.le_trans hle24 (RO.le_trans hle5 (RO.le_trans hle6 (RO.le_trans hle7 hle8)))
        refine ⟨by omega, vat ad had ?_⟩
        try simp only [go_sem, ↓reduceIte, Nat.reduceEqDiff, Nat.reduceAdd, Nat.reduceMul, Nat.reduceLeDiff, Nat.reduceLT, Nat.reduceBNe, reduceCtorEq]
        refine vloadn p.ed.cells rfl (fun j u hj => hle28 _ _ (hpR j u hj)) ?_
        simp only [go_sem, ↓reduceIte, Nat.reduceEqDiff, Nat.reduceAdd, Nat.reduceMul, Nat.reduceLeDiff, Nat.reduceLT, Nat.reduceBNe, reduceCtorEq, Ed.cells, Pl.ed, De.ed, f16, f15, f6, f12, f13, f5]
        have hF := dFind fs _ p.1 p.2.1 p.2.2.1 p.2.2.2 R8 (hf.mono (RO.le_trans hle7 hle8))
        simp only [Ed.cells, De.ed] at hF
        refine vcall hF ?_
        rintro R9 v hle9 ⟨kk, rfl, hkk, _⟩
        rw [hfs, find_force ho2 hxo] at hkk
        have hcnt := recCount_one oo p.1 oo (ho2.imp fun h => lessD_key h) hxo
        have hq : rs.countP (fun r => decide (r.device = p.1.device) && decide (r.seq = p.1.seq)) = if oo.any (overD p.1) = true then 1 else 0 := by rw [hrs]; exact hcnt
        have hsx : ∀ j (hj : j < rs.length), (rs.take (j + 1)).countP (fun r => decide (r.device = p.1.device) && decide (r.seq = p.1.seq)) = (rs.take j).countP (fun r => decide (r.device = p.1.device) && decide (r.seq = p.1.seq)) + (if (decide (rs[j].device = p.1.device) && decide (rs[j].seq = p.1.seq)) = true then 1 else 0) := fun j hj => by
          rw [List.take_succ_eq_append_getElem hj, List.countP_append, List.countP_singleton]
        have hcl : ∀ j, (rs.take j).countP (fun r => decide (r.device = p.1.device) && decide (r.seq = p.1.seq)) ≤ j := fun j => Nat.le_trans List.countP_le_length (by rw [List.length_take]; omega)
        have hrl : rs.length ≤ 4096 := by omega
        have hle69 : RO.le R6 R9 := RO.le_trans hle7 (RO.le_trans hle8 hle9)
        try simp only [go_sem, ↓reduceIte, Nat.reduceEqDiff, Nat.reduceAdd, Nat.reduceMul, Nat.reduceLeDiff, Nat.reduceLT, Nat.reduceBNe, reduceCtorEq, Int.reduceLE, Int.reduceLT, Int.reduceToNat, Int.cast_ofNat_Int, Int.reduceEq, Int.reduceNe, f16, f15, f6, f12, f13, f5]
        refine ⟨fun h0 => ⟨1, W.in64 (r := 1) (by decide), ?_⟩, fun h0 => ?_⟩
        · have hany : oo.any (overD p.1) = false := hkk.1 h0
          rw [hany] at hq
          have hfull : 1 + rs.countP (fun r => decide (r.device = p.1.device) && decide (r.seq = p.1.seq)) = 1 := by rw [hq]; rfl
          refine vcLoop Nat (fun j => [(19, .val (.int .i64 j)), (18, .val (.int .i64 ((1 + (rs.take j).countP (fun r => decide (r.device = p.1.device) && decide (r.seq = p.1.seq)) : Nat)))), (17, .loc 2 0), (16, .val (.int .i64 k)), (15, .val (.int .i64 2)), (6, .loc 1 0), (12, .val (.slice fa fs.length fcap)), (13, .val (.slice wa rs.length wcap)), (5, .val (.bool true))]) (fun _ => [.dead, .box (boxc (wdCells w (.slice a0 w.n0.edits.length c0) (.slice a1 w.n1.edits.length c1) (.slice a2 w.n2.edits.length c2) (.slice a3 w.c0.edits.length c3) (.slice a4 w.c1.edits.length c4) (.slice a5 w.c2.edits.length c5))), .box (boxc p.ed.cells)]) (fun j _ => j ≤ rs.length) (fun j => rs.length - j) 0 ?_ ?_ ?_ ?_
          · (try simp only [go_sem, ↓reduceIte, Nat.reduceEqDiff, Nat.reduceAdd, Nat.reduceMul, Nat.reduceLeDiff, Nat.reduceLT, Nat.reduceBNe, reduceCtorEq]) <;> (repeat' (first | rfl | trivial | constructor | (intro h; exact absurd rfl h)))
          · try simp only [go_sem, ↓reduceIte, Nat.reduceEqDiff, Nat.reduceAdd, Nat.reduceMul, Nat.reduceLeDiff, Nat.reduceLT, Nat.reduceBNe, reduceCtorEq]
            exact ⟨boxc_ok _ _, boxc_ok _ _⟩
          · exact Nat.zero_le _
          rintro j env R10 hle10 hE hj
          simp only [boxc, wdCells, Ed.cells, Pl.ed, De.ed, List.map_cons, List.map_nil] at hE ⊢
          simp only [go_sem] at hE
          obtain ⟨g19, g18, g17, g16, g15, g6, g12, g13, g5⟩ := hE
          try simp only [go_sem, ↓reduceIte, Nat.reduceEqDiff, Nat.reduceAdd, Nat.reduceMul, Nat.reduceLeDiff, Nat.reduceLT, Nat.reduceBNe, reduceCtorEq, Int.reduceLE, Int.reduceLT, Int.reduceToNat, Int.cast_ofNat_Int, Int.reduceEq, Int.reduceNe, g19, g18, g17, g16, g15, g6, g12, g13, g5]
          have hclj := hcl j
          refine ⟨fun hlt2 => ?_, fun hge2 => ?_⟩
          · have hj' : j < rs.length := by omega
            have hs1 := hsx j hj'
            obtain ⟨ad3, had3, hR3⟩ := hwf j hj'
            refine ⟨by omega, vat ad3 had3 ?_⟩
            try simp only [go_sem, ↓reduceIte, Nat.reduceEqDiff, Nat.reduceAdd, Nat.reduceMul, Nat.reduceLeDiff, Nat.reduceLT, Nat.reduceBNe, reduceCtorEq]
            refine vload (.int .i64 (rs[j]).device) (hle10 _ _ (hle69 _ _ (hR3 0 _ rfl))) ?_
            simp only [go_sem, ↓reduceIte, Nat.reduceEqDiff, Nat.reduceAdd, Nat.reduceMul, Nat.reduceLeDiff, Nat.reduceLT, Nat.reduceBNe, reduceCtorEq, g19, g18, g17, g16, g15, g6, g12, g13, g5]
            refine ⟨fun hdv => ⟨by omega, vat ad3 had3 ?_⟩, fun hdv => ?_⟩
            · try simp only [go_sem, ↓reduceIte, Nat.reduceEqDiff, Nat.reduceAdd, Nat.reduceMul, Nat.reduceLeDiff, Nat.reduceLT, Nat.reduceBNe, reduceCtorEq]
              refine vload (.int .i64 (rs[j]).seq) (hle10 _ _ (hle69 _ _ (hR3 1 _ rfl))) ?_
              simp only [go_sem, ↓reduceIte, Nat.reduceEqDiff, Nat.reduceAdd, Nat.reduceMul, Nat.reduceLeDiff, Nat.reduceLT, Nat.reduceBNe, reduceCtorEq, g19, g18, g17, g16, g15, g6, g12, g13, g5]
              refine ⟨fun hsq => ?_, fun hsq => ?_⟩
              · rw [decide_eq_true hdv, decide_eq_true hsq, Bool.and_self, if_pos rfl] at hs1
                refine ⟨_, W.in64 (by omega), _, W.in64 (by omega), j + 1, by omega, ?_, by omega⟩
                try simp only [go_sem, ↓reduceIte, Nat.reduceEqDiff, Nat.reduceAdd, Nat.reduceMul, Nat.reduceLeDiff, Nat.reduceLT, Nat.reduceBNe, reduceCtorEq]
                rw [hs1]
                exact ⟨by congr 2, by congr 2⟩
              · rw [decide_eq_true hdv, decide_eq_false hsq, Bool.and_false, if_neg (by simp)] at hs1
                refine ⟨_, W.in64 (by omega), j + 1, by omega, ?_, by omega⟩
                try simp only [go_sem, ↓reduceIte, Nat.reduceEqDiff, Nat.reduceAdd, Nat.reduceMul, Nat.reduceLeDiff, Nat.reduceLT, Nat.reduceBNe, reduceCtorEq]
                rw [hs1]
                exact ⟨by congr 2, by congr 2⟩
            · rw [decide_eq_false hdv, Bool.false_and, if_neg (by simp)] at hs1
              refine ⟨_, W.in64 (by omega), j + 1, by omega, ?_, by omega⟩
              try simp only [go_sem, ↓reduceIte, Nat.reduceEqDiff, Nat.reduceAdd, Nat.reduceMul, Nat.reduceLeDiff, Nat.reduceLT, Nat.reduceBNe, reduceCtorEq]
              rw [hs1]
              exact ⟨by congr 2, by congr 2⟩
          · obtain rfl : j = rs.length := by omega
            rw [List.take_length]
            refine ⟨fun hx => absurd (by omega) hx, fun _ => ⟨_, W.in64 (by omega), k + 1, by omega, rfl, by omega⟩⟩
        · have hany : oo.any (overD p.1) = true := by
            cases ha : oo.any (overD p.1) with
            | true => rfl
            | false => exact absurd (hkk.2 ha) h0
          rw [hany] at hq
          have hfull : 0 + rs.countP (fun r => decide (r.device = p.1.device) && decide (r.seq = p.1.seq)) = 1 := by rw [hq]; rfl
          refine vcLoop Nat (fun j => [(19, .val (.int .i64 j)), (18, .val (.int .i64 ((0 + (rs.take j).countP (fun r => decide (r.device = p.1.device) && decide (r.seq = p.1.seq)) : Nat)))), (17, .loc 2 0), (16, .val (.int .i64 k)), (15, .val (.int .i64 2)), (6, .loc 1 0), (12, .val (.slice fa fs.length fcap)), (13, .val (.slice wa rs.length wcap)), (5, .val (.bool true))]) (fun _ => [.dead, .box (boxc (wdCells w (.slice a0 w.n0.edits.length c0) (.slice a1 w.n1.edits.length c1) (.slice a2 w.n2.edits.length c2) (.slice a3 w.c0.edits.length c3) (.slice a4 w.c1.edits.length c4) (.slice a5 w.c2.edits.length c5))), .box (boxc p.ed.cells)]) (fun j _ => j ≤ rs.length) (fun j => rs.length - j) 0 ?_ ?_ ?_ ?_
          · (try simp only [go_sem, ↓reduceIte, Nat.reduceEqDiff, Nat.reduceAdd, Nat.reduceMul, Nat.reduceLeDiff, Nat.reduceLT, Nat.reduceBNe, reduceCtorEq]) <;> (repeat' (first | rfl | trivial | constructor | (intro h; exact absurd rfl h)))
          · try simp only [go_sem, ↓reduceIte, Nat.reduceEqDiff, Nat.reduceAdd, Nat.reduceMul, Nat.reduceLeDiff, Nat.reduceLT, Nat.reduceBNe, reduceCtorEq]
            exact ⟨boxc_ok _ _, boxc_ok _ _⟩
          · exact Nat.zero_le _
          rintro j env R10 hle10 hE hj
          simp only [boxc, wdCells, Ed.cells, Pl.ed, De.ed, List.map_cons, List.map_nil] at hE ⊢
          simp only [go_sem] at hE
          obtain ⟨g19, g18, g17, g16, g15, g6, g12, g13, g5⟩ := hE
          try simp only [go_sem, ↓reduceIte, Nat.reduceEqDiff, Nat.reduceAdd, Nat.reduceMul, Nat.reduceLeDiff, Nat.reduceLT, Nat.reduceBNe, reduceCtorEq, Int.reduceLE, Int.reduceLT, Int.reduceToNat, Int.cast_ofNat_Int, Int.reduceEq, Int.reduceNe, g19, g18, g17, g16, g15, g6, g12, g13, g5]
          have hclj := hcl j
          refine ⟨fun hlt2 => ?_, fun hge2 => ?_⟩
          · have hj' : j < rs.length := by omega
            have hs1 := hsx j hj'
            obtain ⟨ad3, had3, hR3⟩ := hwf j hj'
            refine ⟨by omega, vat ad3 had3 ?_⟩
            try simp only [go_sem, ↓reduceIte, Nat.reduceEqDiff, Nat.reduceAdd, Nat.reduceMul, Nat.reduceLeDiff, Nat.reduceLT, Nat.reduceBNe, reduceCtorEq]
            refine vload (.int .i64 (rs[j]).device) (hle10 _ _ (hle69 _ _ (hR3 0 _ rfl))) ?_
            simp only [go_sem, ↓reduceIte, Nat.reduceEqDiff, Nat.reduceAdd, Nat.reduceMul, Nat.reduceLeDiff, Nat.reduceLT, Nat.reduceBNe, reduceCtorEq, g19, g18, g17, g16, g15, g6, g12, g13, g5]
            refine ⟨fun hdv => ⟨by omega, vat ad3 had3 ?_⟩, fun hdv => ?_⟩
            · try simp only [go_sem, ↓reduceIte, Nat.reduceEqDiff, Nat.reduceAdd, Nat.reduceMul, Nat.reduceLeDiff, Nat.reduceLT, Nat.reduceBNe, reduceCtorEq]
              refine vload (.int .i64 (rs[j]).seq) (hle10 _ _ (hle69 _ _ (hR3 1 _ rfl))) ?_
              simp only [go_sem, ↓reduceIte, Nat.reduceEqDiff, Nat.reduceAdd, Nat.reduceMul, Nat.reduceLeDiff, Nat.reduceLT, Nat.reduceBNe, reduceCtorEq, g19, g18, g17, g16, g15, g6, g12, g13, g5]
              refine ⟨fun hsq => ?_, fun hsq => ?_⟩
              · rw [decide_eq_true hdv, decide_eq_true hsq, Bool.and_self, if_pos rfl] at hs1
                refine ⟨_, W.in64 (by omega), _, W.in64 (by omega), j + 1, by omega, ?_, by omega⟩
                try simp only [go_sem, ↓reduceIte, Nat.reduceEqDiff, Nat.reduceAdd, Nat.reduceMul, Nat.reduceLeDiff, Nat.reduceLT, Nat.reduceBNe, reduceCtorEq]
                rw [hs1]
                exact ⟨by congr 2, by congr 2⟩
              · rw [decide_eq_true hdv, decide_eq_false hsq, Bool.and_false, if_neg (by simp)] at hs1
                refine ⟨_, W.in64 (by omega), j + 1, by omega, ?_, by omega⟩
                try simp only [go_sem, ↓reduceIte, Nat.reduceEqDiff, Nat.reduceAdd, Nat.reduceMul, Nat.reduceLeDiff, Nat.reduceLT, Nat.reduceBNe, reduceCtorEq]
                rw [hs1]
                exact ⟨by congr 2, by congr 2⟩
            · rw [decide_eq_false hdv, Bool.false_and, if_neg (by simp)] at hs1
              refine ⟨_, W.in64 (by omega), j + 1, by omega, ?_, by omega⟩
              try simp only [go_sem, ↓reduceIte, Nat.reduceEqDiff, Nat.reduceAdd, Nat.reduceMul, Nat.reduceLeDiff, Nat.reduceLT, Nat.reduceBNe, reduceCtorEq]
              rw [hs1]
              exact ⟨by congr 2, by congr 2⟩
          · obtain rfl : j = rs.length := by omega
            rw [List.take_length]
            refine ⟨fun hx => absurd (by omega) hx, fun _ => ⟨_, W.in64 (by omega), k + 1, by omega, rfl, by omega⟩⟩
      · refine ⟨_, W.in64 (by decide), 2 + 1, by decide, ?_, by decide⟩
        try simp only [go_sem, ↓reduceIte, Nat.reduceEqDiff, Nat.reduceAdd, Nat.reduceMul, Nat.reduceLeDiff, Nat.reduceLT, Nat.reduceBNe, reduceCtorEq]
        rfl
    · simp only [go_sem] at hE
      obtain ⟨e15, e6', e12, e13, e5'⟩ := hE
      rw [show ((3 : Nat) : Int) = 3 from rfl] at e15
      try simp only [go_sem, ↓reduceIte, Nat.reduceEqDiff, Nat.reduceAdd, Nat.reduceMul, Nat.reduceLeDiff, Nat.reduceLT, Nat.reduceBNe, reduceCtorEq, Int.reduceLE, Int.reduceLT, Int.reduceToNat, Int.cast_ofNat_Int, Int.reduceEq, Int.reduceNe, e15, e6', e12, e13, e5']
end Go.Proofs.YtojckjngjfgfdaaGreat
