import Derived.Test.YtojckjngjfgfdaaGreatDo
import Derived.Test.YtojckjngjfgfdaaGreatVl
namespace Go.Proofs.YtojckjngjfgfdaaGreat
set_option linter.unusedSimpArgs false
set_option linter.unusedVariables false
open Go.Proofs.YtojckjngjfgfdaaGreat.Vc
/-! ### Devices compared; the law DeviceExchanges -/
theorem dSameDv (a b : Dv) (u v : Value) (R : RO) (h : EdsV R u a.edits) (k : EdsV R v b.edits) : CallsR Tryz.prog 23 [.agg (dvCells a u).toArray, .agg (dvCells b v).toArray] R fun _ r => r = .bool (decide (a = b)) := by
  have hL := eSameList a.edits b.edits u v R h k
  obtain ⟨ua, uc, rfl, _⟩ := h.form
  obtain ⟨va, vc, rfl, _⟩ := k.form
  have hab : a = b ↔ a.id = b.id ∧ a.epoch = b.epoch ∧ a.next = b.next ∧ a.edits = b.edits := ⟨fun h => by rw [h]; exact ⟨rfl, rfl, rfl, rfl⟩, fun ⟨h1, h2, h3, h4⟩ => Dv.eq_of h1 h2 h3 h4⟩
  simp only [dvCells]
  refine callsT mix Tryz.func23 comp23 (by simp [Tryz.ntmps23]) ?_; simp only [go_sem, ↓reduceIte, Nat.reduceEqDiff, Nat.reduceAdd, Nat.reduceMul, Nat.reduceLeDiff, Nat.reduceLT, Nat.reduceBNe, reduceCtorEq, vc23, rs23]
  refine ⟨fun h1 => ⟨fun h2 => ⟨fun h3 => ?_, fun h3 => ?_⟩, fun h2 => ?_⟩, fun h1 => ?_⟩
  · refine vcall hL ?_
    rintro R1 r hle rfl
    try simp only [go_sem, ↓reduceIte, Nat.reduceEqDiff, Nat.reduceAdd, Nat.reduceMul, Nat.reduceLeDiff, Nat.reduceLT, Nat.reduceBNe, reduceCtorEq]
    congr 1
    rw [decide_eq_decide, hab]
    simp [h1, h2, h3]
  · rw [decide_eq_false]; rw [hab]; exact fun h => h3 h.2.2.1
  · rw [decide_eq_false]; rw [hab]; exact fun h => h2 h.2.1
  · rw [decide_eq_false]; rw [hab]; exact fun h => h1 h.1
/-- The three variables hold the three devices; which was made first is open. -/
def exLay (ws d0 d1 d2 : List Value) (i j k : Nat) : List Blk := [.box (boxc ws), .box (boxc (if i = 1 then d0 else if j = 1 then d1 else d2)), .box (boxc (if i = 2 then d0 else if j = 2 then d1 else d2)), .box (boxc (if i = 3 then d0 else if j = 3 then d1 else d2))]
def ExQ (R : RO) (ws d0 d1 d2 : List Value) (s : St) : Prop :=
  ∃ i j k, s.env 5 = .loc i 0 ∧ s.env 6 = .loc j 0 ∧ s.env 7 = .loc k 0 ∧ s.env 3 = .val (.bool true) ∧ s.R = R ∧ (i, j, k) ∈ [(1, 2, 3), (1, 3, 2), (2, 1, 3), (2, 3, 1), (3, 1, 2), (3, 2, 1)] ∧ s.blk = exLay ws d0 d1 d2 i j k
set_option maxHeartbeats 32000000 in
theorem lExchanges (R : RO) (os : List Opn) (v : Value) (h : OpC R v os) : CallsR Tryz.prog 8 [v] R fun _ v => v = .bool true := by
  have hP := fun R' hle => ePlayed os v R' (OpC.mono (R' := R') h hle)
  obtain ⟨a, cap, rfl, hc, _⟩ := h.form
  refine callsT mix Tryz.func8 comp8 (by simp [Tryz.ntmps8]) ?_; simp only [go_sem, ↓reduceIte, Nat.reduceEqDiff, Nat.reduceAdd, Nat.reduceMul, Nat.reduceLeDiff, Nat.reduceLT, Nat.reduceBNe, reduceCtorEq, vc8, rs8]
  refine vcall (dSanity R) ?_
  rintro R1 v hle1 rfl
  try simp only [go_sem, ↓reduceIte, Nat.reduceEqDiff, Nat.reduceAdd, Nat.reduceMul, Nat.reduceLeDiff, Nat.reduceLT, Nat.reduceBNe, reduceCtorEq]
  obtain ⟨n, M, hn, hI⟩ := inv_play os
  obtain ⟨w, hw'⟩ : ∃ w, w = playW os := ⟨_, rfl⟩
  rw [← hw'] at hP hI
  refine vcall (hP R1 hle1) ?_
  rintro R2 u hle2 ⟨x0, x1, x2, y0, y1, y2, rfl, h0, h1, h2, h3, h4, h5⟩
  obtain ⟨a0, c0, rfl, _⟩ := h0.form
  obtain ⟨a1, c1, rfl, _⟩ := h1.form
  obtain ⟨a2, c2, rfl, _⟩ := h2.form
  obtain ⟨a3, c3, rfl, _⟩ := h3.form
  obtain ⟨a4, c4, rfl, _⟩ := h4.form
  obtain ⟨a5, c5, rfl, _⟩ := h5.form
  simp only [wdCells]
  (refine cutS (fun s' => s' = ?_) ?_ ?_; rotate_left; (try simp only [go_sem, ↓reduceIte, Nat.reduceEqDiff, Nat.reduceAdd, Nat.reduceMul, Nat.reduceLeDiff, Nat.reduceLT, Nat.reduceBNe, reduceCtorEq, true_and]; rfl); rintro _ rfl)
  simp only [tSteps_none, tSteps_nil, tOp_mov, tEv_tmp, tEv_const, tPut_some, tPut_none, tCode_seq]
  refine cutT (ExQ R2 (wdCells w (.slice a0 w.n0.edits.length c0) (.slice a1 w.n1.edits.length c1) (.slice a2 w.n2.edits.length c2) (.slice a3 w.c0.edits.length c3) (.slice a4 w.c1.edits.length c4) (.slice a5 w.c2.edits.length c5)) (dvCells w.n0 (.slice a0 w.n0.edits.length c0)) (dvCells w.n1 (.slice a1 w.n1.edits.length c1)) (dvCells w.n2 (.slice a2 w.n2.edits.length c2))) ?_ ?_
  · try simp only [go_sem, ↓reduceIte, Nat.reduceEqDiff, Nat.reduceAdd, Nat.reduceMul, Nat.reduceLeDiff, Nat.reduceLT, Nat.reduceBNe, reduceCtorEq, Int.reduceLE, Int.reduceLT, Int.reduceToNat, Int.cast_ofNat_Int, Int.reduceEq, Int.reduceNe]
    (repeat' (with_reducible refine And.intro ?_ ?_)) <;> exact ⟨_, _, _, rfl, rfl, rfl, rfl, rfl, by decide, rfl⟩
  rintro ⟨env, blk, R'⟩ ⟨i, j, k, e5, e6, e7, e3, hR, hm, hb⟩
  dsimp only at e5 e6 e7 e3 hR hb
  subst hR hb
  simp only [List.mem_cons, Prod.mk.injEq, List.not_mem_nil, or_false] at hm
  simp only [exLay, wdCells, dvCells, boxc]
  obtain ⟨ab, ba, abc, ac, acb, tw, X⟩ := exch hI hn
  have hl0 : w.n0.edits.length ≤ n := hI.shape (i := 0) (by omega)
  have hl1 : w.n1.edits.length ≤ n := hI.shape (i := 1) (by omega)
  have hlk : (dvLacks w.n0 w.n1).length ≤ w.n1.edits.length := by
    unfold dvLacks
    split
    · exact List.length_filter_le _ _
    · exact Nat.zero_le _
  rcases hm with ⟨hi, hj, hk⟩ | ⟨hi, hj, hk⟩ | ⟨hi, hj, hk⟩ | ⟨hi, hj, hk⟩ | ⟨hi, hj, hk⟩ | ⟨hi, hj, hk⟩
  all_goals (
    try simp only [go_sem, ↓reduceIte, Nat.reduceEqDiff, Nat.reduceAdd, Nat.reduceMul, Nat.reduceLeDiff, Nat.reduceLT, Nat.reduceBNe, reduceCtorEq, Int.reduceLE, Int.reduceLT, Int.reduceToNat, Int.cast_ofNat_Int, Int.reduceEq, Int.reduceNe, e5, e6, e7, e3, hi, hj, hk]
    have hLk := dLacks w.n0 w.n1 _ _ R' h0 h1
    simp only [dvCells] at hLk
    refine vcall hLk ?_
    rintro R3 lv hle3 hlv
    obtain ⟨la, lc, rfl, _, hlf⟩ := PlOK.of hlv
    try simp only [go_sem, ↓reduceIte, Nat.reduceEqDiff, Nat.reduceAdd, Nat.reduceMul, Nat.reduceLeDiff, Nat.reduceLT, Nat.reduceBNe, reduceCtorEq, Int.reduceLE, Int.reduceLT, Int.reduceToNat, Int.cast_ofNat_Int, Int.reduceEq, Int.reduceNe, e5, e6, e7, e3, hi, hj, hk]
    have hS1 := dSync w.n0 w.n1 _ _ R3 (h0.mono hle3) (h1.mono hle3)
    rw [X.e1] at hS1
    simp only [dvCells] at hS1
    refine vcall hS1 ?_
    rintro R4 v hle4 ⟨z1, rfl, v1⟩
    obtain ⟨z1a, z1c, rfl, _⟩ := v1.form
    simp only [dvCells]
    try simp only [go_sem, ↓reduceIte, Nat.reduceEqDiff, Nat.reduceAdd, Nat.reduceMul, Nat.reduceLeDiff, Nat.reduceLT, Nat.reduceBNe, reduceCtorEq, Int.reduceLE, Int.reduceLT, Int.reduceToNat, Int.cast_ofNat_Int, Int.reduceEq, Int.reduceNe, e5, e6, e7, e3, hi, hj, hk]
    have hS2 := dSync w.n1 w.n0 _ _ R4 (h1.mono (RO.le_trans hle3 hle4)) (h0.mono (RO.le_trans hle3 hle4))
    rw [X.e2] at hS2
    simp only [dvCells] at hS2
    refine vcall hS2 ?_
    rintro R5 v hle5 ⟨z2, rfl, v2⟩
    obtain ⟨z2a, z2c, rfl, _⟩ := v2.form
    simp only [dvCells]
    try simp only [go_sem, ↓reduceIte, Nat.reduceEqDiff, Nat.reduceAdd, Nat.reduceMul, Nat.reduceLeDiff, Nat.reduceLT, Nat.reduceBNe, reduceCtorEq, Int.reduceLE, Int.reduceLT, Int.reduceToNat, Int.cast_ofNat_Int, Int.reduceEq, Int.reduceNe, e5, e6, e7, e3, hi, hj, hk]
    have hS3 := dSync ab w.n2 _ _ R5 (v1.mono hle5) (h2.mono (RO.le_trans hle3 (RO.le_trans hle4 hle5)))
    rw [X.e3] at hS3
    simp only [dvCells] at hS3
    refine vcall hS3 ?_
    rintro R6 v hle6 ⟨z3, rfl, v3⟩
    obtain ⟨z3a, z3c, rfl, _⟩ := v3.form
    simp only [dvCells]
    try simp only [go_sem, ↓reduceIte, Nat.reduceEqDiff, Nat.reduceAdd, Nat.reduceMul, Nat.reduceLeDiff, Nat.reduceLT, Nat.reduceBNe, reduceCtorEq, Int.reduceLE, Int.reduceLT, Int.reduceToNat, Int.cast_ofNat_Int, Int.reduceEq, Int.reduceNe, e5, e6, e7, e3, hi, hj, hk]
    have hS4 := dSync w.n0 w.n2 _ _ R6 (h0.mono (RO.le_trans hle3 (RO.le_trans hle4 (RO.le_trans hle5 hle6)))) (h2.mono (RO.le_trans hle3 (RO.le_trans hle4 (RO.le_trans hle5 hle6))))
    rw [X.e4] at hS4
    simp only [dvCells] at hS4
    refine vcall hS4 ?_
    rintro R7 v hle7 ⟨z4, rfl, v4⟩
    obtain ⟨z4a, z4c, rfl, _⟩ := v4.form
    simp only [dvCells]
    try simp only [go_sem, ↓reduceIte, Nat.reduceEqDiff, Nat.reduceAdd, Nat.reduceMul, Nat.reduceLeDiff, Nat.reduceLT, Nat.reduceBNe, reduceCtorEq, Int.reduceLE, Int.reduceLT, Int.reduceToNat, Int.cast_ofNat_Int, Int.reduceEq, Int.reduceNe, e5, e6, e7, e3, hi, hj, hk]
    have hS5 := dSync ac w.n1 _ _ R7 (v4.mono (RO.le_refl _)) (h1.mono (RO.le_trans hle3 (RO.le_trans hle4 (RO.le_trans hle5 (RO.le_trans hle6 hle7)))))
    rw [X.e5] at hS5
    simp only [dvCells] at hS5
    refine vcall hS5 ?_
    rintro R8 v hle8 ⟨z5, rfl, v5⟩
    obtain ⟨z5a, z5c, rfl, _⟩ := v5.form
    simp only [dvCells]
    try simp only [go_sem, ↓reduceIte, Nat.reduceEqDiff, Nat.reduceAdd, Nat.reduceMul, Nat.reduceLeDiff, Nat.reduceLT, Nat.reduceBNe, reduceCtorEq, Int.reduceLE, Int.reduceLT, Int.reduceToNat, Int.cast_ofNat_Int, Int.reduceEq, Int.reduceNe, e5, e6, e7, e3, hi, hj, hk]
    have hS6 := dSync ab w.n1 _ _ R8 (v1.mono (RO.le_trans hle5 (RO.le_trans hle6 (RO.le_trans hle7 hle8)))) (h1.mono (RO.le_trans hle3 (RO.le_trans hle4 (RO.le_trans hle5 (RO.le_trans hle6 (RO.le_trans hle7 hle8))))))
    rw [X.e6] at hS6
    simp only [dvCells] at hS6
    refine vcall hS6 ?_
    rintro R9 v hle9 ⟨z6, rfl, v6⟩
    obtain ⟨z6a, z6c, rfl, _⟩ := v6.form
    simp only [dvCells]
    try simp only [go_sem, ↓reduceIte, Nat.reduceEqDiff, Nat.reduceAdd, Nat.reduceMul, Nat.reduceLeDiff, Nat.reduceLT, Nat.reduceBNe, reduceCtorEq, Int.reduceLE, Int.reduceLT, Int.reduceToNat, Int.cast_ofNat_Int, Int.reduceEq, Int.reduceNe, e5, e6, e7, e3, hi, hj, hk]
    have hlen := X.len
    refine ⟨_, W.in64 (by omega), fun _ => ?_, fun hne => by omega⟩
    refine vcall (eSameList ab.edits ba.edits _ _ R9 (v1.mono (RO.le_trans hle5 (RO.le_trans hle6 (RO.le_trans hle7 (RO.le_trans hle8 hle9))))) (v2.mono (RO.le_trans hle6 (RO.le_trans hle7 (RO.le_trans hle8 hle9))))) ?_
    rintro R10 v hle10 rfl
    rw [decide_eq_true X.same]
    try simp only [go_sem, ↓reduceIte, Nat.reduceEqDiff, Nat.reduceAdd, Nat.reduceMul, Nat.reduceLeDiff, Nat.reduceLT, Nat.reduceBNe, reduceCtorEq, Int.reduceLE, Int.reduceLT, Int.reduceToNat, Int.cast_ofNat_Int, Int.reduceEq, Int.reduceNe, e5, e6, e7, e3, hi, hj, hk]
    have hD1 := dSameDv abc acb _ _ R10 (v3.mono (RO.le_trans hle7 (RO.le_trans hle8 (RO.le_trans hle9 hle10)))) (v5.mono (RO.le_trans hle9 hle10))
    simp only [dvCells] at hD1
    refine vcall hD1 ?_
    rintro R11 v hle11 rfl
    rw [decide_eq_true X.ord]
    try simp only [go_sem, ↓reduceIte, Nat.reduceEqDiff, Nat.reduceAdd, Nat.reduceMul, Nat.reduceLeDiff, Nat.reduceLT, Nat.reduceBNe, reduceCtorEq, Int.reduceLE, Int.reduceLT, Int.reduceToNat, Int.cast_ofNat_Int, Int.reduceEq, Int.reduceNe, e5, e6, e7, e3, hi, hj, hk]
    have hD2 := dSameDv tw ab _ _ R11 (v6.mono (RO.le_trans hle10 hle11)) (v1.mono (RO.le_trans hle5 (RO.le_trans hle6 (RO.le_trans hle7 (RO.le_trans hle8 (RO.le_trans hle9 (RO.le_trans hle10 hle11)))))))
    simp only [dvCells] at hD2
    refine vcall hD2 ?_
    rintro R12 v hle12 rfl
    rw [decide_eq_true X.twi]
    try simp only [go_sem, ↓reduceIte, Nat.reduceEqDiff, Nat.reduceAdd, Nat.reduceMul, Nat.reduceLeDiff, Nat.reduceLT, Nat.reduceBNe, reduceCtorEq, Int.reduceLE, Int.reduceLT, Int.reduceToNat, Int.cast_ofNat_Int, Int.reduceEq, Int.reduceNe, e5, e6, e7, e3, hi, hj, hk]
    have hL2 := dLacks ab w.n1 _ _ R12 (v1.mono (RO.le_trans hle5 (RO.le_trans hle6 (RO.le_trans hle7 (RO.le_trans hle8 (RO.le_trans hle9 (RO.le_trans hle10 (RO.le_trans hle11 hle12)))))))) (h1.mono (RO.le_trans hle3 (RO.le_trans hle4 (RO.le_trans hle5 (RO.le_trans hle6 (RO.le_trans hle7 (RO.le_trans hle8 (RO.le_trans hle9 (RO.le_trans hle10 (RO.le_trans hle11 hle12))))))))))
    rw [X.none] at hL2
    simp only [dvCells] at hL2
    refine vcall hL2 ?_
    rintro R13 lv2 hle13 hlv2
    obtain ⟨la2, lc2, rfl, _⟩ := hlv2.form
    try simp only [go_sem, ↓reduceIte, Nat.reduceEqDiff, Nat.reduceAdd, Nat.reduceMul, Nat.reduceLeDiff, Nat.reduceLT, Nat.reduceBNe, reduceCtorEq, Int.reduceLE, Int.reduceLT, Int.reduceToNat, Int.cast_ofNat_Int, Int.reduceEq, Int.reduceNe, e5, e6, e7, e3, hi, hj, hk]
    refine vcLoopR Nat (fun q => [(21, .val (.int .i64 q)), (8, .val (.slice la (dvLacks w.n0 w.n1).length lc)), (5, .loc 1 0), (6, .loc 2 0), (9, .loc 4 0), (3, .val (.bool true))])
      (fun _ => [.dead, .box [.val (.int .i64 w.n0.id), .val (.int .i64 w.n0.epoch), .val (.int .i64 w.n0.next), .val (.slice a0 w.n0.edits.length c0)], .box [.val (.int .i64 w.n1.id), .val (.int .i64 w.n1.epoch), .val (.int .i64 w.n1.next), .val (.slice a1 w.n1.edits.length c1)], .dead, .box [.val (.int .i64 ab.id), .val (.int .i64 ab.epoch), .val (.int .i64 ab.next), .val (.slice z1a ab.edits.length z1c)]]) (fun q _ => q ≤ (dvLacks w.n0 w.n1).length) (fun q => (dvLacks w.n0 w.n1).length - q) 0 [0, i, j, k, 4] ?_ ?_ ?_ ?_
    · try simp only [go_sem, ↓reduceIte, Nat.reduceEqDiff, Nat.reduceAdd, Nat.reduceMul, Nat.reduceLeDiff, Nat.reduceLT, Nat.reduceBNe, reduceCtorEq, Int.reduceLE, Int.reduceLT, Int.reduceToNat, Int.cast_ofNat_Int, Int.reduceEq, Int.reduceNe, e5, e6, e7, e3, hi, hj, hk]
    · try simp only [go_sem, ↓reduceIte, Nat.reduceEqDiff, Nat.reduceAdd, Nat.reduceMul, Nat.reduceLeDiff, Nat.reduceLT, Nat.reduceBNe, reduceCtorEq]
      rw [hi, hj, hk]
      decide
    · exact Nat.zero_le _
    rintro q env2 R14 hle14 hE hq
    (simp only [go_sem] at hE; obtain ⟨f21, f8, f5, f6, f9, f3⟩ := hE; simp only [go_sem, ↓reduceIte, Nat.reduceEqDiff, Nat.reduceAdd, Nat.reduceMul, Nat.reduceLeDiff, Nat.reduceLT, Nat.reduceBNe, reduceCtorEq, f21, f8, f5, f6, f9, f3]; dsimp only at *)
    intro hlt
    have hlt' : q < (dvLacks w.n0 w.n1).length := by omega
    obtain ⟨ad2, p, had2, hp1, hpR, hpok⟩ := hlf q hlt'
    have hpm : p.1 ∈ dvLacks w.n0 w.n1 := by rw [hp1]; exact List.getElem_mem hlt'
    obtain ⟨hk1, hk2, hk3⟩ := X.lk p.1 hpm
    refine ⟨by omega, vat ad2 had2 ?_⟩
    try simp only [go_sem, ↓reduceIte, Nat.reduceEqDiff, Nat.reduceAdd, Nat.reduceMul, Nat.reduceLeDiff, Nat.reduceLT, Nat.reduceBNe, reduceCtorEq]
    refine vloadn p.ed.cells rfl (fun j u hj => (RO.le_trans hle4 (RO.le_trans hle5 (RO.le_trans hle6 (RO.le_trans hle7 (RO.le_trans hle8 (RO.le_trans hle9 (RO.le_trans hle10 (RO.le_trans hle11 (RO.le_trans hle12 (RO.le_trans hle13 hle14)))))))))) _ _ (hpR j u hj)) ?_
    simp only [go_sem, ↓reduceIte, Nat.reduceEqDiff, Nat.reduceAdd, Nat.reduceMul, Nat.reduceLeDiff, Nat.reduceLT, Nat.reduceBNe, reduceCtorEq, Ed.cells, Pl.ed, De.ed, f21, f8, f5, f6, f9, f3]
    have hF1 := dFind w.n0.edits _ p.1 p.2.1 p.2.2.1 p.2.2.2 R14 (h0.mono (RO.le_trans hle3 (RO.le_trans hle4 (RO.le_trans hle5 (RO.le_trans hle6 (RO.le_trans hle7 (RO.le_trans hle8 (RO.le_trans hle9 (RO.le_trans hle10 (RO.le_trans hle11 (RO.le_trans hle12 (RO.le_trans hle13 hle14))))))))))))
    simp only [Ed.cells, De.ed] at hF1
    refine vcall hF1 ?_
    rintro R15 v hle15 ⟨kk1, rfl, hkk1, _⟩
    have hn1 : ¬ 0 ≤ kk1 := fun h => by
      obtain ⟨y, hy, hky⟩ := hkk1.1 h
      rw [hk1 y hy] at hky; cases hky
    try simp only [go_sem, ↓reduceIte, Nat.reduceEqDiff, Nat.reduceAdd, Nat.reduceMul, Nat.reduceLeDiff, Nat.reduceLT, Nat.reduceBNe, reduceCtorEq, Int.reduceLE, Int.reduceLT, Int.reduceToNat, Int.cast_ofNat_Int, Int.reduceEq, Int.reduceNe, f21, f8, f5, f6, f9, f3, eq_false hn1]
    refine ⟨by omega, vat ad2 had2 ?_⟩
    try simp only [go_sem, ↓reduceIte, Nat.reduceEqDiff, Nat.reduceAdd, Nat.reduceMul, Nat.reduceLeDiff, Nat.reduceLT, Nat.reduceBNe, reduceCtorEq]
    refine vloadn p.ed.cells rfl (fun j u hj => (RO.le_trans hle4 (RO.le_trans hle5 (RO.le_trans hle6 (RO.le_trans hle7 (RO.le_trans hle8 (RO.le_trans hle9 (RO.le_trans hle10 (RO.le_trans hle11 (RO.le_trans hle12 (RO.le_trans hle13 (RO.le_trans hle14 hle15))))))))))) _ _ (hpR j u hj)) ?_
    simp only [go_sem, ↓reduceIte, Nat.reduceEqDiff, Nat.reduceAdd, Nat.reduceMul, Nat.reduceLeDiff, Nat.reduceLT, Nat.reduceBNe, reduceCtorEq, Ed.cells, Pl.ed, De.ed, f21, f8, f5, f6, f9, f3]
    have hF2 := dFind w.n1.edits _ p.1 p.2.1 p.2.2.1 p.2.2.2 R15 (h1.mono (RO.le_trans hle3 (RO.le_trans hle4 (RO.le_trans hle5 (RO.le_trans hle6 (RO.le_trans hle7 (RO.le_trans hle8 (RO.le_trans hle9 (RO.le_trans hle10 (RO.le_trans hle11 (RO.le_trans hle12 (RO.le_trans hle13 (RO.le_trans hle14 hle15)))))))))))))
    simp only [Ed.cells, De.ed] at hF2
    refine vcall hF2 ?_
    rintro R16 v hle16 ⟨kk2, rfl, hkk2, _⟩
    have hn2 : ¬ kk2 < 0 := by have := hkk2.2 ⟨p.1, hk2, keyEq_refl _⟩; omega
    try simp only [go_sem, ↓reduceIte, Nat.reduceEqDiff, Nat.reduceAdd, Nat.reduceMul, Nat.reduceLeDiff, Nat.reduceLT, Nat.reduceBNe, reduceCtorEq, Int.reduceLE, Int.reduceLT, Int.reduceToNat, Int.cast_ofNat_Int, Int.reduceEq, Int.reduceNe, f21, f8, f5, f6, f9, f3, eq_false hn2]
    refine ⟨by omega, vat ad2 had2 ?_⟩
    try simp only [go_sem, ↓reduceIte, Nat.reduceEqDiff, Nat.reduceAdd, Nat.reduceMul, Nat.reduceLeDiff, Nat.reduceLT, Nat.reduceBNe, reduceCtorEq]
    refine vloadn p.ed.cells rfl (fun j u hj => (RO.le_trans hle4 (RO.le_trans hle5 (RO.le_trans hle6 (RO.le_trans hle7 (RO.le_trans hle8 (RO.le_trans hle9 (RO.le_trans hle10 (RO.le_trans hle11 (RO.le_trans hle12 (RO.le_trans hle13 (RO.le_trans hle14 (RO.le_trans hle15 hle16)))))))))))) _ _ (hpR j u hj)) ?_
    simp only [go_sem, ↓reduceIte, Nat.reduceEqDiff, Nat.reduceAdd, Nat.reduceMul, Nat.reduceLeDiff, Nat.reduceLT, Nat.reduceBNe, reduceCtorEq, Ed.cells, Pl.ed, De.ed, f21, f8, f5, f6, f9, f3]
    have hF3 := dFind ab.edits _ p.1 p.2.1 p.2.2.1 p.2.2.2 R16 (v1.mono (RO.le_trans hle5 (RO.le_trans hle6 (RO.le_trans hle7 (RO.le_trans hle8 (RO.le_trans hle9 (RO.le_trans hle10 (RO.le_trans hle11 (RO.le_trans hle12 (RO.le_trans hle13 (RO.le_trans hle14 (RO.le_trans hle15 hle16))))))))))))
    simp only [Ed.cells, De.ed] at hF3
    refine vcall hF3 ?_
    rintro R17 v hle17 ⟨kk3, rfl, hkk3, _⟩
    have hn3 : ¬ kk3 < 0 := by have := hkk3.2 ⟨p.1, hk3, keyEq_refl _⟩; omega
    try simp only [go_sem, ↓reduceIte, Nat.reduceEqDiff, Nat.reduceAdd, Nat.reduceMul, Nat.reduceLeDiff, Nat.reduceLT, Nat.reduceBNe, reduceCtorEq, Int.reduceLE, Int.reduceLT, Int.reduceToNat, Int.cast_ofNat_Int, Int.reduceEq, Int.reduceNe, f21, f8, f5, f6, f9, f3, eq_false hn3]
    exact ⟨_, W.in64 (by omega), q + 1, [], by omega, (by repeat' (first | rfl | constructor)), by decide, by omega⟩)
end Go.Proofs.YtojckjngjfgfdaaGreat
