import Derived.Test.YtojckjngjfgfdaaGreatDn
namespace Go.Proofs.YtojckjngjfgfdaaGreat
set_option linter.unusedSimpArgs false
set_option linter.unusedVariables false
open Go.Proofs.YtojckjngjfgfdaaGreat.Vc
/-! ### heard -/
/-- A device that has heard from the devices below k. -/
structure HearK (n : Nat) (w : Wd) (i k : Nat) (d : Dv) : Prop where
  id : d.id = (w.now i).id
  ep : d.epoch = (w.now i).epoch
  val : validV d = true
  nxt : d.next ≤ 1 + n
  own : ∀ e ∈ (w.now i).edits, e ∈ d.edits
  hs : ∀ j : Nat, j < k → ∀ e ∈ (w.now j).edits, e ∈ d.edits
  sub : ∀ e ∈ d.edits, ∃ j : Nat, j < 3 ∧ e ∈ (w.now j).edits
theorem HearK.start {n : Nat} {M : List De} {w : Wd} (h : Inv n M w) {i : Nat} (hi : i < 3) : HearK n w i 0 (w.now i) :=
  ⟨rfl, rfl, (h.val i hi).1, (h.nxt i hi).1, fun _ h => h, fun j hj => absurd hj (by omega), fun e he => ⟨i, hi, he⟩⟩
theorem HearK.step {n : Nat} {M : List De} {w : Wd} (h : Inv n M w) (hn : n ≤ 40) {i k : Nat} (hk : k < 3) {d : Dv} (hd : HearK n w i k d) : ∃ r, dvSync d (w.now k) = .ok r ∧ HearK n w i (k + 1) r := by
  have hl := h.len
  obtain ⟨r, e1, e2, e3, e4, e5, e6⟩ := sync_ok (B := 1 + n) hd.val (h.val k hk).1 (M := M) (fun e he => by obtain ⟨j, hj, hx⟩ := hd.sub e he; exact (h.sub j hj).1 e hx) (h.sub k hk).1 h.key (by omega) (by omega) hd.nxt (h.nxt k hk).1
  have hr : r.id = d.id ∧ r.epoch = d.epoch := by rw [e2]; exact ⟨rfl, rfl⟩
  refine ⟨r, e1, hr.1.trans hd.id, hr.2.trans hd.ep, e3, e5, fun e he => (e6 e).2 (.inl (hd.own e he)), fun j hj e he => (e6 e).2 ?_, fun e he => ?_⟩
  · by_cases hjk : j = k
    · subst hjk; exact .inr he
    · exact .inl (hd.hs j (by omega) e he)
  · rcases (e6 e).1 he with h | h
    · exact hd.sub e h
    · exact ⟨k, hk, h⟩
theorem wdNow (w : Wd) {i : Nat} (x0 x1 x2 y0 y1 y2 : Value) (hi : i < 3) : ∃ x, ((wdCells w x0 x1 x2 y0 y1 y2).drop (i * 4)).take 4 = dvCells (w.now i) x ∧ ∀ R : RO, EdsV R x0 w.n0.edits → EdsV R x1 w.n1.edits → EdsV R x2 w.n2.edits → EdsV R x (w.now i).edits := by
  rcases lt3 hi with rfl | rfl | rfl
  · exact ⟨x0, rfl, fun _ h _ _ => h⟩
  · exact ⟨x1, rfl, fun _ _ h _ => h⟩
  · exact ⟨x2, rfl, fun _ _ _ h => h⟩
set_option maxHeartbeats 2000000 in
theorem eHeard (w : Wd) (n : Nat) (M : List De) (hI : Inv n M w) (hn : n ≤ 40) (i : Nat) (hi : i < 3) (v : Value) (R : RO) (h : WdV R v w) : CallsR Tryz.prog 38 [v, .int .i64 i] R fun R' r => ∃ d u, r = .tuple #[.agg (dvCells d u).toArray, .bool true] ∧ EdsV R' u d.edits ∧ HearK n w i 3 d := by
  obtain ⟨x0, x1, x2, y0, y1, y2, rfl, h0, h1, h2, h3, h4, h5⟩ := h
  obtain ⟨a0, c0, rfl, _⟩ := h0.form
  obtain ⟨a1, c1, rfl, _⟩ := h1.form
  obtain ⟨a2, c2, rfl, _⟩ := h2.form
  obtain ⟨a3, c3, rfl, _⟩ := h3.form
  obtain ⟨a4, c4, rfl, _⟩ := h4.form
  obtain ⟨a5, c5, rfl, _⟩ := h5.form
  simp only [wdCells]
  have hst := HearK.start hI hi
  have hstep := fun k hk d => HearK.step (d := d) (i := i) (k := k) hI hn hk
  rcases lt3 hi with rfl | rfl | rfl
  · have e : ((0 : Nat) : Int) = 0 := rfl
    rw [e]
    refine callsT mix Tryz.func38 comp38 (by simp [Tryz.ntmps38]) ?_; simp only [go_sem, ↓reduceIte, Nat.reduceEqDiff, Nat.reduceAdd, Nat.reduceMul, Nat.reduceLeDiff, Nat.reduceLT, Nat.reduceBNe, reduceCtorEq, vc38, rs38]
    try simp only [go_sem, ↓reduceIte, Nat.reduceEqDiff, Nat.reduceAdd, Nat.reduceMul, Nat.reduceLeDiff, Nat.reduceLT, Nat.reduceBNe, reduceCtorEq, Int.reduceLE, Int.reduceLT, Int.reduceToNat, Int.cast_ofNat_Int, Int.reduceEq, Int.reduceNe]
    refine vcLoopR (Nat × Dv × Option Addr × Nat) (fun x => [(7, .val (.int .i64 x.1)), (2, .loc 0 0), (4, .loc 1 0), (6, .loc 2 0)])
      (fun x => [.box (boxc (wdCells w (.slice a0 w.n0.edits.length c0) (.slice a1 w.n1.edits.length c1) (.slice a2 w.n2.edits.length c2) (.slice a3 w.c0.edits.length c3) (.slice a4 w.c1.edits.length c4) (.slice a5 w.c2.edits.length c5))), .box (boxc zeroD), .box [.val (.int .i64 x.2.1.id), .val (.int .i64 x.2.1.epoch), .val (.int .i64 x.2.1.next), .val (.slice x.2.2.1 x.2.1.edits.length x.2.2.2)]])
      (fun x R => x.1 ≤ 3 ∧ HearK n w 0 x.1 x.2.1 ∧ EdsV R (.slice x.2.2.1 x.2.1.edits.length x.2.2.2) x.2.1.edits) (fun x => 3 - x.1) (0, w.n0, a0, c0) [] ?_ ?_ ?_ ?_
    · (try simp only [go_sem, ↓reduceIte, Nat.reduceEqDiff, Nat.reduceAdd, Nat.reduceMul, Nat.reduceLeDiff, Nat.reduceLT, Nat.reduceBNe, reduceCtorEq]) <;> (repeat' (first | rfl | trivial | constructor | (intro h; exact absurd rfl h)))
    · try simp only [go_sem, ↓reduceIte, Nat.reduceEqDiff, Nat.reduceAdd, Nat.reduceMul, Nat.reduceLeDiff, Nat.reduceLT, Nat.reduceBNe, reduceCtorEq]
      exact ⟨boxc_ok _ _, boxc_ok _ _⟩
    · exact ⟨by omega, hst, h0⟩
    rintro ⟨k, d, a, c⟩ env R1 hle1 hE ⟨hk, hd, hv⟩
    simp only [] at hk hd hv
    have hc : k = 0 ∨ k = 1 ∨ k = 2 ∨ k = 3 := by omega
    have hsync := fun o ov ho => dSync d o (.slice a d.edits.length c) ov R1 hv ho
    simp only [dvCells] at hsync
    simp only [wdCells, zeroD, boxc, List.map_cons, List.map_nil] at hE ⊢
    rcases hc with rfl | rfl | rfl | rfl
    · simp only [go_sem] at hE
      obtain ⟨g7, g2, g4, g6⟩ := hE
      rw [show ((0 : Nat) : Int) = 0 from rfl] at g7
      try simp only [go_sem, ↓reduceIte, Nat.reduceEqDiff, Nat.reduceAdd, Nat.reduceMul, Nat.reduceLeDiff, Nat.reduceLT, Nat.reduceBNe, reduceCtorEq, Int.reduceLE, Int.reduceLT, Int.reduceToNat, Int.cast_ofNat_Int, Int.reduceEq, Int.reduceNe, g7, g2, g4, g6]
      obtain ⟨r, hr1, hr2⟩ := hstep 0 (by omega) d hd
      have hs := hsync w.n0 _ (h0.mono hle1)
      rw [show w.n0 = w.now 0 from rfl, hr1] at hs
      refine vcall hs ?_
      rintro R2 u hle2 ⟨u, rfl, hu⟩
      obtain ⟨ua, uc, rfl, _⟩ := hu.form
      simp only [dvCells]
      try simp only [go_sem, ↓reduceIte, Nat.reduceEqDiff, Nat.reduceAdd, Nat.reduceMul, Nat.reduceLeDiff, Nat.reduceLT, Nat.reduceBNe, reduceCtorEq, Int.reduceLE, Int.reduceLT, Int.reduceToNat, Int.cast_ofNat_Int, Int.reduceEq, Int.reduceNe, g7, g2, g4, g6]
      refine ⟨_, W.in64 (by omega), (0 + 1, r, ua, uc), [], ?_⟩
      try simp only [go_sem, ↓reduceIte, Nat.reduceEqDiff, Nat.reduceAdd, Nat.reduceMul, Nat.reduceLeDiff, Nat.reduceLT, Nat.reduceBNe, reduceCtorEq]
      exact ⟨by omega, rfl, by decide, hr2, hu⟩
    · simp only [go_sem] at hE
      obtain ⟨g7, g2, g4, g6⟩ := hE
      rw [show ((1 : Nat) : Int) = 1 from rfl] at g7
      try simp only [go_sem, ↓reduceIte, Nat.reduceEqDiff, Nat.reduceAdd, Nat.reduceMul, Nat.reduceLeDiff, Nat.reduceLT, Nat.reduceBNe, reduceCtorEq, Int.reduceLE, Int.reduceLT, Int.reduceToNat, Int.cast_ofNat_Int, Int.reduceEq, Int.reduceNe, g7, g2, g4, g6]
      obtain ⟨r, hr1, hr2⟩ := hstep 1 (by omega) d hd
      have hs := hsync w.n1 _ (h1.mono hle1)
      rw [show w.n1 = w.now 1 from rfl, hr1] at hs
      refine vcall hs ?_
      rintro R2 u hle2 ⟨u, rfl, hu⟩
      obtain ⟨ua, uc, rfl, _⟩ := hu.form
      simp only [dvCells]
      try simp only [go_sem, ↓reduceIte, Nat.reduceEqDiff, Nat.reduceAdd, Nat.reduceMul, Nat.reduceLeDiff, Nat.reduceLT, Nat.reduceBNe, reduceCtorEq, Int.reduceLE, Int.reduceLT, Int.reduceToNat, Int.cast_ofNat_Int, Int.reduceEq, Int.reduceNe, g7, g2, g4, g6]
      refine ⟨_, W.in64 (by omega), (1 + 1, r, ua, uc), [], ?_⟩
      try simp only [go_sem, ↓reduceIte, Nat.reduceEqDiff, Nat.reduceAdd, Nat.reduceMul, Nat.reduceLeDiff, Nat.reduceLT, Nat.reduceBNe, reduceCtorEq]
      exact ⟨by omega, rfl, by decide, hr2, hu⟩
    · simp only [go_sem] at hE
      obtain ⟨g7, g2, g4, g6⟩ := hE
      rw [show ((2 : Nat) : Int) = 2 from rfl] at g7
      try simp only [go_sem, ↓reduceIte, Nat.reduceEqDiff, Nat.reduceAdd, Nat.reduceMul, Nat.reduceLeDiff, Nat.reduceLT, Nat.reduceBNe, reduceCtorEq, Int.reduceLE, Int.reduceLT, Int.reduceToNat, Int.cast_ofNat_Int, Int.reduceEq, Int.reduceNe, g7, g2, g4, g6]
      obtain ⟨r, hr1, hr2⟩ := hstep 2 (by omega) d hd
      have hs := hsync w.n2 _ (h2.mono hle1)
      rw [show w.n2 = w.now 2 from rfl, hr1] at hs
      refine vcall hs ?_
      rintro R2 u hle2 ⟨u, rfl, hu⟩
      obtain ⟨ua, uc, rfl, _⟩ := hu.form
      simp only [dvCells]
      try simp only [go_sem, ↓reduceIte, Nat.reduceEqDiff, Nat.reduceAdd, Nat.reduceMul, Nat.reduceLeDiff, Nat.reduceLT, Nat.reduceBNe, reduceCtorEq, Int.reduceLE, Int.reduceLT, Int.reduceToNat, Int.cast_ofNat_Int, Int.reduceEq, Int.reduceNe, g7, g2, g4, g6]
      refine ⟨_, W.in64 (by omega), (2 + 1, r, ua, uc), [], ?_⟩
      try simp only [go_sem, ↓reduceIte, Nat.reduceEqDiff, Nat.reduceAdd, Nat.reduceMul, Nat.reduceLeDiff, Nat.reduceLT, Nat.reduceBNe, reduceCtorEq]
      exact ⟨by omega, rfl, by decide, hr2, hu⟩
    · simp only [go_sem] at hE
      obtain ⟨g7, g2, g4, g6⟩ := hE
      rw [show ((3 : Nat) : Int) = 3 from rfl] at g7
      try simp only [go_sem, ↓reduceIte, Nat.reduceEqDiff, Nat.reduceAdd, Nat.reduceMul, Nat.reduceLeDiff, Nat.reduceLT, Nat.reduceBNe, reduceCtorEq, Int.reduceLE, Int.reduceLT, Int.reduceToNat, Int.cast_ofNat_Int, Int.reduceEq, Int.reduceNe, g7, g2, g4, g6]
      exact ⟨d, _, rfl, hv, hd⟩
  · have e : ((1 : Nat) : Int) = 1 := rfl
    rw [e]
    refine callsT mix Tryz.func38 comp38 (by simp [Tryz.ntmps38]) ?_; simp only [go_sem, ↓reduceIte, Nat.reduceEqDiff, Nat.reduceAdd, Nat.reduceMul, Nat.reduceLeDiff, Nat.reduceLT, Nat.reduceBNe, reduceCtorEq, vc38, rs38]
    try simp only [go_sem, ↓reduceIte, Nat.reduceEqDiff, Nat.reduceAdd, Nat.reduceMul, Nat.reduceLeDiff, Nat.reduceLT, Nat.reduceBNe, reduceCtorEq, Int.reduceLE, Int.reduceLT, Int.reduceToNat, Int.cast_ofNat_Int, Int.reduceEq, Int.reduceNe]
    refine vcLoopR (Nat × Dv × Option Addr × Nat) (fun x => [(7, .val (.int .i64 x.1)), (2, .loc 0 0), (4, .loc 1 0), (6, .loc 2 0)])
      (fun x => [.box (boxc (wdCells w (.slice a0 w.n0.edits.length c0) (.slice a1 w.n1.edits.length c1) (.slice a2 w.n2.edits.length c2) (.slice a3 w.c0.edits.length c3) (.slice a4 w.c1.edits.length c4) (.slice a5 w.c2.edits.length c5))), .box (boxc zeroD), .box [.val (.int .i64 x.2.1.id), .val (.int .i64 x.2.1.epoch), .val (.int .i64 x.2.1.next), .val (.slice x.2.2.1 x.2.1.edits.length x.2.2.2)]])
      (fun x R => x.1 ≤ 3 ∧ HearK n w 1 x.1 x.2.1 ∧ EdsV R (.slice x.2.2.1 x.2.1.edits.length x.2.2.2) x.2.1.edits) (fun x => 3 - x.1) (0, w.n1, a1, c1) [] ?_ ?_ ?_ ?_
    · (try simp only [go_sem, ↓reduceIte, Nat.reduceEqDiff, Nat.reduceAdd, Nat.reduceMul, Nat.reduceLeDiff, Nat.reduceLT, Nat.reduceBNe, reduceCtorEq]) <;> (repeat' (first | rfl | trivial | constructor | (intro h; exact absurd rfl h)))
    · try simp only [go_sem, ↓reduceIte, Nat.reduceEqDiff, Nat.reduceAdd, Nat.reduceMul, Nat.reduceLeDiff, Nat.reduceLT, Nat.reduceBNe, reduceCtorEq]
      exact ⟨boxc_ok _ _, boxc_ok _ _⟩
    · exact ⟨by omega, hst, h1⟩
    rintro ⟨k, d, a, c⟩ env R1 hle1 hE ⟨hk, hd, hv⟩
    simp only [] at hk hd hv
    have hc : k = 0 ∨ k = 1 ∨ k = 2 ∨ k = 3 := by omega
    have hsync := fun o ov ho => dSync d o (.slice a d.edits.length c) ov R1 hv ho
    simp only [dvCells] at hsync
    simp only [wdCells, zeroD, boxc, List.map_cons, List.map_nil] at hE ⊢
    rcases hc with rfl | rfl | rfl | rfl
    · simp only [go_sem] at hE
      obtain ⟨g7, g2, g4, g6⟩ := hE
      rw [show ((0 : Nat) : Int) = 0 from rfl] at g7
      try simp only [go_sem, ↓reduceIte, Nat.reduceEqDiff, Nat.reduceAdd, Nat.reduceMul, Nat.reduceLeDiff, Nat.reduceLT, Nat.reduceBNe, reduceCtorEq, Int.reduceLE, Int.reduceLT, Int.reduceToNat, Int.cast_ofNat_Int, Int.reduceEq, Int.reduceNe, g7, g2, g4, g6]
      obtain ⟨r, hr1, hr2⟩ := hstep 0 (by omega) d hd
      have hs := hsync w.n0 _ (h0.mono hle1)
      rw [show w.n0 = w.now 0 from rfl, hr1] at hs
      refine vcall hs ?_
      rintro R2 u hle2 ⟨u, rfl, hu⟩
      obtain ⟨ua, uc, rfl, _⟩ := hu.form
      simp only [dvCells]
      try simp only [go_sem, ↓reduceIte, Nat.reduceEqDiff, Nat.reduceAdd, Nat.reduceMul, Nat.reduceLeDiff, Nat.reduceLT, Nat.reduceBNe, reduceCtorEq, Int.reduceLE, Int.reduceLT, Int.reduceToNat, Int.cast_ofNat_Int, Int.reduceEq, Int.reduceNe, g7, g2, g4, g6]
      refine ⟨_, W.in64 (by omega), (0 + 1, r, ua, uc), [], ?_⟩
      try simp only [go_sem, ↓reduceIte, Nat.reduceEqDiff, Nat.reduceAdd, Nat.reduceMul, Nat.reduceLeDiff, Nat.reduceLT, Nat.reduceBNe, reduceCtorEq]
      exact ⟨by omega, rfl, by decide, hr2, hu⟩
    · simp only [go_sem] at hE
      obtain ⟨g7, g2, g4, g6⟩ := hE
      rw [show ((1 : Nat) : Int) = 1 from rfl] at g7
      try simp only [go_sem, ↓reduceIte, Nat.reduceEqDiff, Nat.reduceAdd, Nat.reduceMul, Nat.reduceLeDiff, Nat.reduceLT, Nat.reduceBNe, reduceCtorEq, Int.reduceLE, Int.reduceLT, Int.reduceToNat, Int.cast_ofNat_Int, Int.reduceEq, Int.reduceNe, g7, g2, g4, g6]
      obtain ⟨r, hr1, hr2⟩ := hstep 1 (by omega) d hd
      have hs := hsync w.n1 _ (h1.mono hle1)
      rw [show w.n1 = w.now 1 from rfl, hr1] at hs
      refine vcall hs ?_
      rintro R2 u hle2 ⟨u, rfl, hu⟩
      obtain ⟨ua, uc, rfl, _⟩ := hu.form
      simp only [dvCells]
      try simp only [go_sem, ↓reduceIte, Nat.reduceEqDiff, Nat.reduceAdd, Nat.reduceMul, Nat.reduceLeDiff, Nat.reduceLT, Nat.reduceBNe, reduceCtorEq, Int.reduceLE, Int.reduceLT, Int.reduceToNat, Int.cast_ofNat_Int, Int.reduceEq, Int.reduceNe, g7, g2, g4, g6]
      refine ⟨_, W.in64 (by omega), (1 + 1, r, ua, uc), [], ?_⟩
      try simp only [go_sem, ↓reduceIte, Nat.reduceEqDiff, Nat.reduceAdd, Nat.reduceMul, Nat.reduceLeDiff, Nat.reduceLT, Nat.reduceBNe, reduceCtorEq]
      exact ⟨by omega, rfl, by decide, hr2, hu⟩
    · simp only [go_sem] at hE
      obtain ⟨g7, g2, g4, g6⟩ := hE
      rw [show ((2 : Nat) : Int) = 2 from rfl] at g7
      try simp only [go_sem, ↓reduceIte, Nat.reduceEqDiff, Nat.reduceAdd, Nat.reduceMul, Nat.reduceLeDiff, Nat.reduceLT, Nat.reduceBNe, reduceCtorEq, Int.reduceLE, Int.reduceLT, Int.reduceToNat, Int.cast_ofNat_Int, Int.reduceEq, Int.reduceNe, g7, g2, g4, g6]
      obtain ⟨r, hr1, hr2⟩ := hstep 2 (by omega) d hd
      have hs := hsync w.n2 _ (h2.mono hle1)
      rw [show w.n2 = w.now 2 from rfl, hr1] at hs
      refine vcall hs ?_
      rintro R2 u hle2 ⟨u, rfl, hu⟩
      obtain ⟨ua, uc, rfl, _⟩ := hu.form
      simp only [dvCells]
      try simp only [go_sem, ↓reduceIte, Nat.reduceEqDiff, Nat.reduceAdd, Nat.reduceMul, Nat.reduceLeDiff, Nat.reduceLT, Nat.reduceBNe, reduceCtorEq, Int.reduceLE, Int.reduceLT, Int.reduceToNat, Int.cast_ofNat_Int, Int.reduceEq, Int.reduceNe, g7, g2, g4, g6]
      refine ⟨_, W.in64 (by omega), (2 + 1, r, ua, uc), [], ?_⟩
      try simp only [go_sem, ↓reduceIte, Nat.reduceEqDiff, Nat.reduceAdd, Nat.reduceMul, Nat.reduceLeDiff, Nat.reduceLT, Nat.reduceBNe, reduceCtorEq]
      exact ⟨by omega, rfl, by decide, hr2, hu⟩
    · simp only [go_sem] at hE
      obtain ⟨g7, g2, g4, g6⟩ := hE
      rw [show ((3 : Nat) : Int) = 3 from rfl] at g7
      try simp only [go_sem, ↓reduceIte, Nat.reduceEqDiff, Nat.reduceAdd, Nat.reduceMul, Nat.reduceLeDiff, Nat.reduceLT, Nat.reduceBNe, reduceCtorEq, Int.reduceLE, Int.reduceLT, Int.reduceToNat, Int.cast_ofNat_Int, Int.reduceEq, Int.reduceNe, g7, g2, g4, g6]
      exact ⟨d, _, rfl, hv, hd⟩
  · have e : ((2 : Nat) : Int) = 2 := rfl
    rw [e]
    refine callsT mix Tryz.func38 comp38 (by simp [Tryz.ntmps38]) ?_; simp only [go_sem, ↓reduceIte, Nat.reduceEqDiff, Nat.reduceAdd, Nat.reduceMul, Nat.reduceLeDiff, Nat.reduceLT, Nat.reduceBNe, reduceCtorEq, vc38, rs38]
    try simp only [go_sem, ↓reduceIte, Nat.reduceEqDiff, Nat.reduceAdd, Nat.reduceMul, Nat.reduceLeDiff, Nat.reduceLT, Nat.reduceBNe, reduceCtorEq, Int.reduceLE, Int.reduceLT, Int.reduceToNat, Int.cast_ofNat_Int, Int.reduceEq, Int.reduceNe]
    refine vcLoopR (Nat × Dv × Option Addr × Nat) (fun x => [(7, .val (.int .i64 x.1)), (2, .loc 0 0), (4, .loc 1 0), (6, .loc 2 0)])
      (fun x => [.box (boxc (wdCells w (.slice a0 w.n0.edits.length c0) (.slice a1 w.n1.edits.length c1) (.slice a2 w.n2.edits.length c2) (.slice a3 w.c0.edits.length c3) (.slice a4 w.c1.edits.length c4) (.slice a5 w.c2.edits.length c5))), .box (boxc zeroD), .box [.val (.int .i64 x.2.1.id), .val (.int .i64 x.2.1.epoch), .val (.int .i64 x.2.1.next), .val (.slice x.2.2.1 x.2.1.edits.length x.2.2.2)]])
      (fun x R => x.1 ≤ 3 ∧ HearK n w 2 x.1 x.2.1 ∧ EdsV R (.slice x.2.2.1 x.2.1.edits.length x.2.2.2) x.2.1.edits) (fun x => 3 - x.1) (0, w.n2, a2, c2) [] ?_ ?_ ?_ ?_
    · (try simp only [go_sem, ↓reduceIte, Nat.reduceEqDiff, Nat.reduceAdd, Nat.reduceMul, Nat.reduceLeDiff, Nat.reduceLT, Nat.reduceBNe, reduceCtorEq]) <;> (repeat' (first | rfl | trivial | constructor | (intro h; exact absurd rfl h)))
    · try simp only [go_sem, ↓reduceIte, Nat.reduceEqDiff, Nat.reduceAdd, Nat.reduceMul, Nat.reduceLeDiff, Nat.reduceLT, Nat.reduceBNe, reduceCtorEq]
      exact ⟨boxc_ok _ _, boxc_ok _ _⟩
    · exact ⟨by omega, hst, h2⟩
    rintro ⟨k, d, a, c⟩ env R1 hle1 hE ⟨hk, hd, hv⟩
    simp only [] at hk hd hv
    have hc : k = 0 ∨ k = 1 ∨ k = 2 ∨ k = 3 := by omega
    have hsync := fun o ov ho => dSync d o (.slice a d.edits.length c) ov R1 hv ho
    simp only [dvCells] at hsync
    simp only [wdCells, zeroD, boxc, List.map_cons, List.map_nil] at hE ⊢
    rcases hc with rfl | rfl | rfl | rfl
    · simp only [go_sem] at hE
      obtain ⟨g7, g2, g4, g6⟩ := hE
      rw [show ((0 : Nat) : Int) = 0 from rfl] at g7
      try simp only [go_sem, ↓reduceIte, Nat.reduceEqDiff, Nat.reduceAdd, Nat.reduceMul, Nat.reduceLeDiff, Nat.reduceLT, Nat.reduceBNe, reduceCtorEq, Int.reduceLE, Int.reduceLT, Int.reduceToNat, Int.cast_ofNat_Int, Int.reduceEq, Int.reduceNe, g7, g2, g4, g6]
      obtain ⟨r, hr1, hr2⟩ := hstep 0 (by omega) d hd
      have hs := hsync w.n0 _ (h0.mono hle1)
      rw [show w.n0 = w.now 0 from rfl, hr1] at hs
      refine vcall hs ?_
      rintro R2 u hle2 ⟨u, rfl, hu⟩
      obtain ⟨ua, uc, rfl, _⟩ := hu.form
      simp only [dvCells]
      try simp only [go_sem, ↓reduceIte, Nat.reduceEqDiff, Nat.reduceAdd, Nat.reduceMul, Nat.reduceLeDiff, Nat.reduceLT, Nat.reduceBNe, reduceCtorEq, Int.reduceLE, Int.reduceLT, Int.reduceToNat, Int.cast_ofNat_Int, Int.reduceEq, Int.reduceNe, g7, g2, g4, g6]
      refine ⟨_, W.in64 (by omega), (0 + 1, r, ua, uc), [], ?_⟩
      try simp only [go_sem, ↓reduceIte, Nat.reduceEqDiff, Nat.reduceAdd, Nat.reduceMul, Nat.reduceLeDiff, Nat.reduceLT, Nat.reduceBNe, reduceCtorEq]
      exact ⟨by omega, rfl, by decide, hr2, hu⟩
    · simp only [go_sem] at hE
      obtain ⟨g7, g2, g4, g6⟩ := hE
      rw [show ((1 : Nat) : Int) = 1 from rfl] at g7
      try simp only [go_sem, ↓reduceIte, Nat.reduceEqDiff, Nat.reduceAdd, Nat.reduceMul, Nat.reduceLeDiff, Nat.reduceLT, Nat.reduceBNe, reduceCtorEq, Int.reduceLE, Int.reduceLT, Int.reduceToNat, Int.cast_ofNat_Int, Int.reduceEq, Int.reduceNe, g7, g2, g4, g6]
      obtain ⟨r, hr1, hr2⟩ := hstep 1 (by omega) d hd
      have hs := hsync w.n1 _ (h1.mono hle1)
      rw [show w.n1 = w.now 1 from rfl, hr1] at hs
      refine vcall hs ?_
      rintro R2 u hle2 ⟨u, rfl, hu⟩
      obtain ⟨ua, uc, rfl, _⟩ := hu.form
      simp only [dvCells]
      try simp only [go_sem, ↓reduceIte, Nat.reduceEqDiff, Nat.reduceAdd, Nat.reduceMul, Nat.reduceLeDiff, Nat.reduceLT, Nat.reduceBNe, reduceCtorEq, Int.reduceLE, Int.reduceLT, Int.reduceToNat, Int.cast_ofNat_Int, Int.reduceEq, Int.reduceNe, g7, g2, g4, g6]
      refine ⟨_, W.in64 (by omega), (1 + 1, r, ua, uc), [], ?_⟩
      try simp only [go_sem, ↓reduceIte, Nat.reduceEqDiff, Nat.reduceAdd, Nat.reduceMul, Nat.reduceLeDiff, Nat.reduceLT, Nat.reduceBNe, reduceCtorEq]
      exact ⟨by omega, rfl, by decide, hr2, hu⟩
    · simp only [go_sem] at hE
      obtain ⟨g7, g2, g4, g6⟩ := hE
      rw [show ((2 : Nat) : Int) = 2 from rfl] at g7
      try simp only [go_sem, ↓reduceIte, Nat.reduceEqDiff, Nat.reduceAdd, Nat.reduceMul, Nat.reduceLeDiff, Nat.reduceLT, Nat.reduceBNe, reduceCtorEq, Int.reduceLE, Int.reduceLT, Int.reduceToNat, Int.cast_ofNat_Int, Int.reduceEq, Int.reduceNe, g7, g2, g4, g6]
      obtain ⟨r, hr1, hr2⟩ := hstep 2 (by omega) d hd
      have hs := hsync w.n2 _ (h2.mono hle1)
      rw [show w.n2 = w.now 2 from rfl, hr1] at hs
      refine vcall hs ?_
      rintro R2 u hle2 ⟨u, rfl, hu⟩
      obtain ⟨ua, uc, rfl, _⟩ := hu.form
      simp only [dvCells]
      try simp only [go_sem, ↓reduceIte, Nat.reduceEqDiff, Nat.reduceAdd, Nat.reduceMul, Nat.reduceLeDiff, Nat.reduceLT, Nat.reduceBNe, reduceCtorEq, Int.reduceLE, Int.reduceLT, Int.reduceToNat, Int.cast_ofNat_Int, Int.reduceEq, Int.reduceNe, g7, g2, g4, g6]
      refine ⟨_, W.in64 (by omega), (2 + 1, r, ua, uc), [], ?_⟩
      try simp only [go_sem, ↓reduceIte, Nat.reduceEqDiff, Nat.reduceAdd, Nat.reduceMul, Nat.reduceLeDiff, Nat.reduceLT, Nat.reduceBNe, reduceCtorEq]
      exact ⟨by omega, rfl, by decide, hr2, hu⟩
    · simp only [go_sem] at hE
      obtain ⟨g7, g2, g4, g6⟩ := hE
      rw [show ((3 : Nat) : Int) = 3 from rfl] at g7
      try simp only [go_sem, ↓reduceIte, Nat.reduceEqDiff, Nat.reduceAdd, Nat.reduceMul, Nat.reduceLeDiff, Nat.reduceLT, Nat.reduceBNe, reduceCtorEq, Int.reduceLE, Int.reduceLT, Int.reduceToNat, Int.cast_ofNat_Int, Int.reduceEq, Int.reduceNe, g7, g2, g4, g6]
      exact ⟨d, _, rfl, hv, hd⟩
end Go.Proofs.YtojckjngjfgfdaaGreat
