import Derived.Test.YtojckjngjfgfdaaGreatDq
namespace Go.Proofs.YtojckjngjfgfdaaGreat
set_option linter.unusedSimpArgs false
set_option linter.unusedVariables false
open Go.Proofs.YtojckjngjfgfdaaGreat.Vc
/-! ### A new edit comes last: plain -/
theorem overD_later {a b : De} (h : lessD b a = true) (ho : overD a b = true) : b.kind = 5 ∧ b.day ≤ a.day := by
  have hn : lessE (a.ed none 0 0) (b.ed none 0 0) = false := by
    have := lessD_asymm h
    exact this
  unfold overD overE at ho
  rw [hn] at ho
  simp only [De.ed, Bool.false_and, Bool.and_false, Bool.or_false] at ho
  (repeat' split at ho) <;> first | (cases ho; done) | omega | (simp only [Bool.false_eq_true] at ho; done) | (have ho := of_decide_eq_true ho; omega)
theorem overD_self (a : De) : overD a a = false := by
  have hn : lessE (a.ed none 0 0) (a.ed none 0 0) = false := lessD_irrefl a
  unfold overD overE
  rw [hn]
  simp only [De.ed, Bool.false_and, Bool.and_false, Bool.or_false]
  (repeat' split) <;> first | rfl | omega | (simp; done) | (simp; omega)
/-- The known edits are sorted and consistent. -/
theorem validV_cons {d : Dv} (h : validV d = true) : Cons d.edits := by
  have h3 := validV_all h
  refine ⟨fun e he => (h3.1 e he).1, fun a ha b hb hk => ?_⟩
  have hp : KeysD d.edits := h3.2.imp fun h => lessD_key h
  exact hp.eq ha hb hk
theorem validV_len {d : Dv} (h : validV d = true) : d.edits.length ≤ 4096 := (validV_hdr h).2.2.2.2.2.2
/-! ### DeviceCauses -/
theorem stampLast {d : Dv} (hv : validV d = true) (e : De) : ∀ y ∈ d.edits, lessD y (stampD d e) = true := fun y hy => by
  have h1 := ((validV_all hv).1 y hy).2
  have h2 := validV_hdr hv
  rw [lessD_iff]
  left
  show y.seq < 64 * d.next + d.epoch
  omega
set_option maxHeartbeats 8000000 in
theorem lCauses (R : RO) (os : List Opn) (v : Value) (h : OpC R v os) (x : Ed) (which : Int) (hw : 0 ≤ which ∧ which ≤ 255) : CallsR Tryz.prog 10 [v, x.val, .int .u8 which] R fun _ v => v = .bool true := by
  have hP := fun R' hle => ePlayed os v R' (OpC.mono (R' := R') h hle)
  have hE := fun R' => eMadeEdit x R'
  obtain ⟨a, cap, rfl, hc, _⟩ := h.form
  simp only [Ed.val, Ed.cells] at hE ⊢
  refine callsT mix Tryz.func10 comp10 (by simp [Tryz.ntmps10]) ?_; simp only [go_sem, ↓reduceIte, Nat.reduceEqDiff, Nat.reduceAdd, Nat.reduceMul, Nat.reduceLeDiff, Nat.reduceLT, Nat.reduceBNe, reduceCtorEq, vc10, rs10]
  refine vcall (dSanity R) ?_
  rintro R1 v hle1 rfl
  try simp only [go_sem, ↓reduceIte, Nat.reduceEqDiff, Nat.reduceAdd, Nat.reduceMul, Nat.reduceLeDiff, Nat.reduceLT, Nat.reduceBNe, reduceCtorEq]
  obtain ⟨n, M, hn, hI⟩ := inv_play os
  obtain ⟨w, hw'⟩ : ∃ w, w = playW os := ⟨_, rfl⟩
  rw [← hw'] at hP hI
  refine vcall (hP R1 hle1) ?_
  rintro R2 u hle2 ⟨x0, x1, x2, y0, y1, y2, rfl, h0, h1, h2, h3, h4, h5⟩
  obtain ⟨a0, c0, rfl, _⟩ := h0.form
  obtain ⟨a1, c1, rfl, _⟩ := h1.form
  obtain ⟨a2, c2, rfl, _⟩ := h2.form
  obtain ⟨a3, c3, rfl, _⟩ := h3.form
  obtain ⟨a4, c4, rfl, _⟩ := h4.form
  obtain ⟨a5, c5, rfl, _⟩ := h5.form
  simp only [wdCells]
  obtain ⟨i, hi', hii⟩ : ∃ i : Nat, i < 3 ∧ which.tmod 3 = (i : Int) := ⟨(which % 3).toNat, by omega, by have := rem3 hw.1; omega⟩
  obtain ⟨d, hd⟩ : ∃ d, d = w.now i := ⟨_, rfl⟩
  obtain ⟨da, dc, hcell, hdE⟩ : ∃ da dc, List.take 4 (List.drop (i * 4)
                        [Value.int IntKind.i64 w.n0.id, Value.int IntKind.i64 w.n0.epoch,
                          Value.int IntKind.i64 w.n0.next, Value.slice a0 w.n0.edits.length c0,
                          Value.int IntKind.i64 w.n1.id, Value.int IntKind.i64 w.n1.epoch,
                          Value.int IntKind.i64 w.n1.next, Value.slice a1 w.n1.edits.length c1,
                          Value.int IntKind.i64 w.n2.id, Value.int IntKind.i64 w.n2.epoch,
                          Value.int IntKind.i64 w.n2.next, Value.slice a2 w.n2.edits.length c2]) = [.int .i64 d.id, .int .i64 d.epoch, .int .i64 d.next, .slice da d.edits.length dc] ∧ EdsV R2 (.slice da d.edits.length dc) d.edits := by
    subst hd
    rcases lt3 hi' with rfl | rfl | rfl
    · exact ⟨a0, c0, rfl, h0⟩
    · exact ⟨a1, c1, rfl, h1⟩
    · exact ⟨a2, c2, rfl, h2⟩
  have hv := (hI.val i hi').1
  have hl := hI.shape hi'
  have hnx := (hI.nxt i hi').1
  rw [← hd] at hv hl hnx
  try simp only [go_sem, ↓reduceIte, Nat.reduceEqDiff, Nat.reduceAdd, Nat.reduceMul, Nat.reduceLeDiff, Nat.reduceLT, Nat.reduceBNe, reduceCtorEq, Int.reduceLE, Int.reduceLT, Int.reduceToNat, Int.cast_ofNat_Int, Int.reduceEq, Int.reduceNe, hii]
  refine ⟨(i : Int), W.in64 (by omega), by omega, by omega, ?_⟩
  rw [Int.toNat_natCast, hcell]
  refine ⟨by omega, rfl, rfl, ?_⟩
  try simp only [go_sem, ↓reduceIte, Nat.reduceEqDiff, Nat.reduceAdd, Nat.reduceMul, Nat.reduceLeDiff, Nat.reduceLT, Nat.reduceBNe, reduceCtorEq, Int.reduceLE, Int.reduceLT, Int.reduceToNat, Int.cast_ofNat_Int, Int.reduceEq, Int.reduceNe]
  refine vcall (hE R2) ?_
  rintro R3 v hle3 ⟨cs, rfl, hdv⟩
  obtain ⟨ra, rn, rc, rfl, hr⟩ := hdv.form
  simp only [Ed.cells, De.ed]
  try simp only [go_sem, ↓reduceIte, Nat.reduceEqDiff, Nat.reduceAdd, Nat.reduceMul, Nat.reduceLeDiff, Nat.reduceLT, Nat.reduceBNe, reduceCtorEq, Int.reduceLE, Int.reduceLT, Int.reduceToNat, Int.cast_ofNat_Int, Int.reduceEq, Int.reduceNe]
  have hAdd := dAdd d (.slice da d.edits.length dc) (madeE x) ra rn rc R3 (hdE.mono hle3) hr
  obtain ⟨r, hr1, hr2, hr3, hr4⟩ := add_ok hv x (by omega) (by omega)
  rw [hr1] at hAdd
  simp only [dvCells, Ed.cells, De.ed] at hAdd
  refine vcall hAdd ?_
  rintro R4 v hle4 ⟨v, rfl, hrE⟩
  obtain ⟨na, nc, rfl, hnc, hnf⟩ := PlOK.of hrE
  have hc := validV_cons hr3
  have hrl := validV_len hr3
  have hre : r.edits = d.edits ++ [stampD d (madeE x)] := by rw [hr2]
  have hnl : r.edits.length = d.edits.length + 1 := by rw [hre]; simp
  have hRb := eRebase r.edits (.slice na r.edits.length nc)
  obtain ⟨o, ho1, ho2, ho3⟩ := allD_cons hc hrl
  obtain ⟨e, he⟩ : ∃ e, e = stampD d (madeE x) := ⟨_, rfl⟩
  have hlast := stampLast hv (madeE x)
  rw [← he] at hre hlast
  simp only [dvCells]
  try simp only [go_sem, ↓reduceIte, Nat.reduceEqDiff, Nat.reduceAdd, Nat.reduceMul, Nat.reduceLeDiff, Nat.reduceLT, Nat.reduceBNe, reduceCtorEq, Int.reduceLE, Int.reduceLT, Int.reduceToNat, Int.cast_ofNat_Int, Int.reduceEq, Int.reduceNe]
  refine ⟨_, W.in64 (by omega), ?_⟩
  refine ⟨fun hne => by omega, fun _ => ?_⟩
  try simp only [go_sem, ↓reduceIte, Nat.reduceEqDiff, Nat.reduceAdd, Nat.reduceMul, Nat.reduceLeDiff, Nat.reduceLT, Nat.reduceBNe, reduceCtorEq, Int.reduceLE, Int.reduceLT, Int.reduceToNat, Int.cast_ofNat_Int, Int.reduceEq, Int.reduceNe]
  obtain ⟨ad, p, had, hp1, hpR, hpok⟩ := hnf d.edits.length (by omega)
  have hpe : p.1 = e := by
    rw [hp1]
    simp only [hre]
    simp
  have hti : ((r.edits.length : Int) - 1).toNat = d.edits.length := by omega
  refine ⟨_, W.in64 (by omega), by omega, by omega, ?_⟩
  rw [hti]
  refine vat ad had ?_
  try simp only [go_sem, ↓reduceIte, Nat.reduceEqDiff, Nat.reduceAdd, Nat.reduceMul, Nat.reduceLeDiff, Nat.reduceLT, Nat.reduceBNe, reduceCtorEq]
  refine vloadn p.ed.cells rfl hpR ?_
  simp only [go_sem, ↓reduceIte, Nat.reduceEqDiff, Nat.reduceAdd, Nat.reduceMul, Nat.reduceLeDiff, Nat.reduceLT, Nat.reduceBNe, reduceCtorEq, Ed.cells, Pl.ed, De.ed]
  have hL : ∀ (p q : Pl) (R : RO), CallsR Tryz.prog 42 [p.ed.val, q.ed.val] R fun _ v => v = .bool (lessD p.1 q.1) := fun p q R => eLess p.ed q.ed R
  have hO : ∀ (p q : Pl) (R : RO), CallsR Tryz.prog 43 [p.ed.val, q.ed.val] R fun _ v => v = .bool (overD p.1 q.1) := fun p q R => eOverrules p.ed q.ed R
  simp only [Ed.val, Pl.ed, De.ed] at hL hO
  obtain ⟨da', dc', heq, _, hdf⟩ := PlOK.of hdE
  obtain ⟨rfl, _, rfl⟩ := Value.slice.inj heq
  refine vcLoop Nat (fun i => [(13, .val (.int .i64 i)), (12, .val (.bool ((d.edits.take i).any fun y => decide (y.kind = 5) && decide (y.day ≤ e.day)))), (8, .loc 1 0), (9, .loc 2 0), (11, .loc 3 0), (7, .val (.bool true))])
    (fun _ => [.dead, .box [.val (.int .i64 d.id), .val (.int .i64 d.epoch), .val (.int .i64 d.next), .val (.slice da d.edits.length dc)], .box [.val (.int .i64 r.id), .val (.int .i64 r.epoch), .val (.int .i64 r.next), .val (.slice na r.edits.length nc)], .box (boxc p.ed.cells)]) (fun i _ => i ≤ d.edits.length) (fun i => d.edits.length - i) 0 ?_ ?_ ?_ ?_
  · (try simp only [go_sem, ↓reduceIte, Nat.reduceEqDiff, Nat.reduceAdd, Nat.reduceMul, Nat.reduceLeDiff, Nat.reduceLT, Nat.reduceBNe, reduceCtorEq]) <;> (repeat' (first | rfl | trivial | constructor | (intro h; exact absurd rfl h)))
  · try simp only [go_sem, ↓reduceIte, Nat.reduceEqDiff, Nat.reduceAdd, Nat.reduceMul, Nat.reduceLeDiff, Nat.reduceLT, Nat.reduceBNe, reduceCtorEq]
    exact boxc_ok _ _
  · exact Nat.zero_le _
  rintro i env R5 hle5 hE' hi
  have hE := hE'
  clear hE'
  obtain ⟨wd, hwd⟩ : ∃ wd, wd = (d.edits.take i).any (fun y => decide (y.kind = 5) && decide (y.day ≤ e.day)) := ⟨_, rfl⟩
  rw [← hwd] at hE
  simp only [boxc, Ed.cells, Pl.ed, De.ed, List.map_cons, List.map_nil] at hE ⊢
  (simp only [go_sem] at hE; obtain ⟨e13, e12, e8, e9, e11, e7⟩ := hE; simp only [go_sem, ↓reduceIte, Nat.reduceEqDiff, Nat.reduceAdd, Nat.reduceMul, Nat.reduceLeDiff, Nat.reduceLT, Nat.reduceBNe, reduceCtorEq, e13, e12, e8, e9, e11, e7]; dsimp only at *)
  refine ⟨fun hlt => ?_, fun hge => ?_⟩
  · have hlt' : i < d.edits.length := by omega
    obtain ⟨ad2, q, had2, hq1, hqR, hqok⟩ := hdf i hlt'
    have hqm : q.1 ∈ d.edits := by rw [hq1]; exact List.getElem_mem hlt'
    have hless : lessD q.1 p.1 = true := by rw [hpe]; exact hlast _ hqm
    have hless2 := lessD_asymm hless
    refine ⟨by omega, vat ad2 had2 ?_⟩
    try simp only [go_sem, ↓reduceIte, Nat.reduceEqDiff, Nat.reduceAdd, Nat.reduceMul, Nat.reduceLeDiff, Nat.reduceLT, Nat.reduceBNe, reduceCtorEq]
    refine vloadn q.ed.cells rfl (fun j u hj => hle5 _ _ (hle4 _ _ (hle3 _ _ (hqR j u hj)))) ?_
    simp only [go_sem, ↓reduceIte, Nat.reduceEqDiff, Nat.reduceAdd, Nat.reduceMul, Nat.reduceLeDiff, Nat.reduceLT, Nat.reduceBNe, reduceCtorEq, Ed.cells, Pl.ed, De.ed, e13, e12, e8, e9, e11, e7]
    refine vcall (hL q p R5) ?_
    rintro R6 v hle6 rfl
    rw [hless]
    simp only [go_sem, ↓reduceIte, Nat.reduceEqDiff, Nat.reduceAdd, Nat.reduceMul, Nat.reduceLeDiff, Nat.reduceLT, Nat.reduceBNe, reduceCtorEq, Ed.cells, Pl.ed, De.ed, e13, e12, e8, e9, e11, e7]
    refine vcall (hL p q R6) ?_
    rintro R7 v hle7 rfl
    rw [hless2]
    simp only [go_sem, ↓reduceIte, Nat.reduceEqDiff, Nat.reduceAdd, Nat.reduceMul, Nat.reduceLeDiff, Nat.reduceLT, Nat.reduceBNe, reduceCtorEq, Ed.cells, Pl.ed, De.ed, e13, e12, e8, e9, e11, e7]
    refine vcall (hO p q R7) ?_
    rintro R8 v hle8 rfl
    have hfin : (d.edits.take (i + 1)).any (fun y => decide (y.kind = 5) && decide (y.day ≤ e.day)) = ((d.edits.take i).any (fun y => decide (y.kind = 5) && decide (y.day ≤ e.day)) || (decide (q.1.kind = 5) && decide (q.1.day ≤ p.1.day))) := by
      rw [List.take_succ_eq_append_getElem hlt', List.any_append, hq1, hpe]; simp
    rw [← hwd] at hfin
    cases hov : overD p.1 q.1 with
    | true =>
      obtain ⟨hk5, hday⟩ := overD_later hless hov
      simp only [go_sem, ↓reduceIte, Nat.reduceEqDiff, Nat.reduceAdd, Nat.reduceMul, Nat.reduceLeDiff, Nat.reduceLT, Nat.reduceBNe, reduceCtorEq, Ed.cells, Pl.ed, De.ed, e13, e12, e8, e9, e11, e7, hk5]
      refine ⟨fun h1 => ⟨_, W.in64 (by omega), i + 1, by omega, ⟨by congr 2, ?_⟩, by omega⟩, fun h1 => ⟨_, W.in64 (by omega), i + 1, by omega, ⟨by congr 2, ?_⟩, by omega⟩⟩
      · rw [hfin, h1, decide_eq_true hk5]; simp
      · rw [hfin, h1]; simp
    | false =>
      simp only [go_sem, ↓reduceIte, Nat.reduceEqDiff, Nat.reduceAdd, Nat.reduceMul, Nat.reduceLeDiff, Nat.reduceLT, Nat.reduceBNe, reduceCtorEq, Ed.cells, Pl.ed, De.ed, e13, e12, e8, e9, e11, e7]
      refine ⟨fun h1 => ⟨fun h2 => ⟨_, W.in64 (by omega), i + 1, by omega, ⟨by congr 2, ?_⟩, by omega⟩, fun h2 => ⟨_, W.in64 (by omega), i + 1, by omega, ⟨by congr 2, ?_⟩, by omega⟩⟩, fun h1 => ⟨_, W.in64 (by omega), i + 1, by omega, ⟨by congr 2, ?_⟩, by omega⟩⟩
      · rw [hfin, h1, decide_eq_true h2]; simp
      · rw [hfin, h1, decide_eq_false h2]; simp
      · rw [hfin, h1]; simp
  · obtain rfl : i = d.edits.length := by omega
    rw [List.take_length] at hwd
    refine vcall (hRb R5 (hrE.mono hle5)) ?_
    intro R6 v hle6 hr
    unfold RebV at hr
    rw [ho1] at hr
    obtain ⟨u1, w1, rfl, hu1, hw1⟩ := hr
    obtain ⟨u1a, u1c, rfl, _⟩ := hu1.form
    obtain ⟨w1a, w1c, rfl, _⟩ := hw1.form
    simp only [go_sem, ↓reduceIte, Nat.reduceEqDiff, Nat.reduceAdd, Nat.reduceMul, Nat.reduceLeDiff, Nat.reduceLT, Nat.reduceBNe, reduceCtorEq, Ed.cells, Pl.ed, De.ed, e12, e8, e9, e11, e7]
    intro hwf
    rw [hwd] at hwf
    have hF := dFind (forceD o) _ p.1 p.2.1 p.2.2.1 p.2.2.2 R6 hu1
    simp only [Ed.cells, De.ed] at hF
    refine vcall hF ?_
    rintro R7 v hle7 ⟨k, rfl, hk, _⟩
    have hk0 : 0 ≤ k := by
      rw [hk]
      refine ⟨p.1, mem_forceD.2 ⟨(ho3 _).2 (by rw [hre, hpe]; simp), fun b hb => ?_⟩, keyEq_refl _⟩
      have hbm := (ho3 b).1 hb
      rw [hre] at hbm
      rw [hpe]
      rcases List.mem_append.1 hbm with hbm | hbm
      · cases hov : overD e b with
        | false => rfl
        | true =>
          have h5 := overD_later (hlast b hbm) hov
          have := List.any_eq_false.1 hwf b hbm
          rw [decide_eq_true h5.1, decide_eq_true h5.2] at this
          simp at this
      · simp only [List.mem_cons, List.not_mem_nil, or_false] at hbm
        rw [hbm]; exact overD_self e
    try simp only [go_sem, ↓reduceIte, Nat.reduceEqDiff, Nat.reduceAdd, Nat.reduceMul, Nat.reduceLeDiff, Nat.reduceLT, Nat.reduceBNe, reduceCtorEq, e12, e8, e9, e11, e7, hk0]
end Go.Proofs.YtojckjngjfgfdaaGreat
