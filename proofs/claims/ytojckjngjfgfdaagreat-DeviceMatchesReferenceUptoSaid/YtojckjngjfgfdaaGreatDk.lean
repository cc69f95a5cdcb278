import Derived.Test.YtojckjngjfgfdaaGreatDj
namespace Go.Proofs.YtojckjngjfgfdaaGreat
set_option linter.unusedSimpArgs false
set_option linter.unusedVariables false
open Go.Proofs.YtojckjngjfgfdaaGreat.Vc
/-! ### Worlds -/
structure Wd where
  n0 : Dv
  n1 : Dv
  n2 : Dv
  c0 : Dv
  c1 : Dv
  c2 : Dv
  e0 : Int
  e1 : Int
  e2 : Int
  deriving DecidableEq
def Wd.now (w : Wd) : Nat → Dv
  | 0 => w.n0
  | 1 => w.n1
  | _ => w.n2
def Wd.copy (w : Wd) : Nat → Dv
  | 0 => w.c0
  | 1 => w.c1
  | _ => w.c2
def Wd.ep (w : Wd) : Nat → Int
  | 0 => w.e0
  | 1 => w.e1
  | _ => w.e2
def Wd.setNow (w : Wd) (d : Dv) : Nat → Wd
  | 0 => { w with n0 := d }
  | 1 => { w with n1 := d }
  | _ => { w with n2 := d }
def Wd.setCopy (w : Wd) (d : Dv) : Nat → Wd
  | 0 => { w with c0 := d }
  | 1 => { w with c1 := d }
  | _ => { w with c2 := d }
def Wd.setEp (w : Wd) (n : Int) : Nat → Wd
  | 0 => { w with e0 := n }
  | 1 => { w with e1 := n }
  | _ => { w with e2 := n }
/-- An operation. -/
structure Opn where
  kind : Int
  a : Int
  b : Int
  ed : Ed
def Opn.ok (o : Opn) : Prop := (0 ≤ o.kind ∧ o.kind ≤ 255) ∧ (0 ≤ o.a ∧ o.a ≤ 255) ∧ 0 ≤ o.b ∧ o.b ≤ 255
def Opn.cells (o : Opn) : List Value := [.int .u8 o.kind, .int .u8 o.a, .int .u8 o.b] ++ o.ed.cells
def Opn.i (o : Opn) : Nat := (o.a % 3).toNat
def Opn.k (o : Opn) : Nat := (o.b % 3).toNat
def stepW (w : Wd) (i : Nat) : Except Int Dv → Wd
  | .error _ => w
  | .ok d => w.setNow d i
def runW (w : Wd) (o : Opn) : Wd :=
  if o.kind % 6 = 3 then stepW w o.i (dvSync (w.now o.i) (w.now o.k))
  else if o.kind % 6 = 4 then w.setCopy (w.now o.i) o.i
  else if o.kind % 6 = 5 then match dvRestore (w.copy o.i) (w.ep o.i + 1) with
    | .error _ => w
    | .ok d => (w.setEp (w.ep o.i + 1) o.i).setNow d o.i
  else stepW w o.i (dvAdd (w.now o.i) (madeE o.ed))
/-- A world's cells. -/
def wdCells (w : Wd) (x0 x1 x2 y0 y1 y2 : Value) : List Value := [.int .i64 w.n0.id, .int .i64 w.n0.epoch, .int .i64 w.n0.next, x0, .int .i64 w.n1.id, .int .i64 w.n1.epoch, .int .i64 w.n1.next, x1, .int .i64 w.n2.id, .int .i64 w.n2.epoch, .int .i64 w.n2.next, x2,
  .int .i64 w.c0.id, .int .i64 w.c0.epoch, .int .i64 w.c0.next, y0, .int .i64 w.c1.id, .int .i64 w.c1.epoch, .int .i64 w.c1.next, y1, .int .i64 w.c2.id, .int .i64 w.c2.epoch, .int .i64 w.c2.next, y2, .int .i64 w.e0, .int .i64 w.e1, .int .i64 w.e2]
def WdV (R : RO) (r : Value) (w : Wd) : Prop := ∃ x0 x1 x2 y0 y1 y2, r = .agg (wdCells w x0 x1 x2 y0 y1 y2).toArray ∧ EdsV R x0 w.n0.edits ∧ EdsV R x1 w.n1.edits ∧ EdsV R x2 w.n2.edits ∧ EdsV R y0 w.c0.edits ∧ EdsV R y1 w.c1.edits ∧ EdsV R y2 w.c2.edits
theorem WdV.mono {R R' : RO} {r : Value} {w : Wd} (h : WdV R r w) (hle : RO.le R R') : WdV R' r w := by
  obtain ⟨x0, x1, x2, y0, y1, y2, e, h0, h1, h2, h3, h4, h5⟩ := h
  exact ⟨x0, x1, x2, y0, y1, y2, e, h0.mono hle, h1.mono hle, h2.mono hle, h3.mono hle, h4.mono hle, h5.mono hle⟩
def startW : Wd := ⟨⟨2, 0, 1, []⟩, ⟨5, 0, 1, []⟩, ⟨8, 0, 1, []⟩, ⟨2, 0, 1, []⟩, ⟨5, 0, 1, []⟩, ⟨8, 0, 1, []⟩, 0, 0, 0⟩
theorem eEdit (o : Opn) (R : RO) : CallsR Tryz.prog 75 [.agg o.cells.toArray] R fun R' v => ∃ ra rn rc, v = .agg (((madeE o.ed).ed ra rn rc).cells).toArray ∧ RuleV R' (.slice ra rn rc) (madeE o.ed).rule := by
  have hM := fun R' => eMadeEdit o.ed R'
  simp only [Opn.cells, Ed.cells, Ed.val, List.cons_append, List.nil_append] at hM ⊢
  refine callsT mix Tryz.func75 comp75 (by simp [Tryz.ntmps75]) ?_; simp only [go_sem, ↓reduceIte, Nat.reduceEqDiff, Nat.reduceAdd, Nat.reduceMul, Nat.reduceLeDiff, Nat.reduceLT, Nat.reduceBNe, reduceCtorEq, vc75, rs75]
  refine vcall (hM R) ?_
  rintro R1 v hle1 ⟨cs, rfl, hd⟩
  obtain ⟨ra, rn, rc, rfl, hr⟩ := hd.form
  simp only [Ed.cells, De.ed]
  try simp only [go_sem, ↓reduceIte, Nat.reduceEqDiff, Nat.reduceAdd, Nat.reduceMul, Nat.reduceLeDiff, Nat.reduceLT, Nat.reduceBNe, reduceCtorEq]
  exact ⟨ra, rn, rc, rfl, hr⟩
set_option maxHeartbeats 1000000 in
theorem eStart (R : RO) : CallsR Tryz.prog 35 [] R fun R' v => WdV R' v startW := by
  refine callsT mix Tryz.func35 comp35 (by simp [Tryz.ntmps35]) ?_; simp only [go_sem, ↓reduceIte, Nat.reduceEqDiff, Nat.reduceAdd, Nat.reduceMul, Nat.reduceLeDiff, Nat.reduceLT, Nat.reduceBNe, reduceCtorEq, vc35, rs35]
  refine vcLoop Nat (fun i => [(2, .val (.int .i64 i)), (0, .loc 0 0), (1, .loc 1 0)]) (fun i => [.box [.val (.int .i64 0), .val (.int .i64 0), .val (.int .i64 0), .val (.slice none 0 0), .val (.int .i64 0), .val (.int .i64 0), .val (.int .i64 0), .val (.slice none 0 0), .val (.int .i64 0), .val (.int .i64 0), .val (.int .i64 0), .val (.slice none 0 0), .val (.int .i64 0), .val (.int .i64 0), .val (.int .i64 0), .val (.slice none 0 0), .val (.int .i64 0), .val (.int .i64 0), .val (.int .i64 0), .val (.slice none 0 0), .val (.int .i64 0), .val (.int .i64 0), .val (.int .i64 0), .val (.slice none 0 0), .val (.int .i64 0), .val (.int .i64 0), .val (.int .i64 0)], .box [.val (.int .i64 (if 0 < i then 2 else 0)), .val (.int .i64 0), .val (.int .i64 (if 0 < i then 1 else 0)), .val (.slice none 0 0), .val (.int .i64 (if 1 < i then 5 else 0)), .val (.int .i64 0), .val (.int .i64 (if 1 < i then 1 else 0)), .val (.slice none 0 0), .val (.int .i64 (if 2 < i then 8 else 0)), .val (.int .i64 0), .val (.int .i64 (if 2 < i then 1 else 0)), .val (.slice none 0 0), .val (.int .i64 (if 0 < i then 2 else 0)), .val (.int .i64 0), .val (.int .i64 (if 0 < i then 1 else 0)), .val (.slice none 0 0), .val (.int .i64 (if 1 < i then 5 else 0)), .val (.int .i64 0), .val (.int .i64 (if 1 < i then 1 else 0)), .val (.slice none 0 0), .val (.int .i64 (if 2 < i then 8 else 0)), .val (.int .i64 0), .val (.int .i64 (if 2 < i then 1 else 0)), .val (.slice none 0 0), .val (.int .i64 0), .val (.int .i64 0), .val (.int .i64 0)]]) (fun i _ => i ≤ 3) (fun i => 3 - i) 0 ?_ ?_ ?_ ?_
  · (try simp only [go_sem, ↓reduceIte, Nat.reduceEqDiff, Nat.reduceAdd, Nat.reduceMul, Nat.reduceLeDiff, Nat.reduceLT, Nat.reduceBNe, reduceCtorEq]) <;> (repeat' (first | rfl | trivial | constructor | (intro h; exact absurd rfl h)))
  · try simp only [go_sem, ↓reduceIte, Nat.reduceEqDiff, Nat.reduceAdd, Nat.reduceMul, Nat.reduceLeDiff, Nat.reduceLT, Nat.reduceBNe, reduceCtorEq]
  · exact Nat.zero_le _
  rintro i env R1 hle1 hE hi
  have hc : i = 0 ∨ i = 1 ∨ i = 2 ∨ i = 3 := by omega
  rcases hc with rfl | rfl | rfl | rfl
  · simp only [go_sem] at hE
    obtain ⟨g2, g0, g1⟩ := hE
    rw [show ((0 : Nat) : Int) = 0 from rfl] at g2
    try simp only [go_sem, ↓reduceIte, Nat.reduceEqDiff, Nat.reduceAdd, Nat.reduceMul, Nat.reduceLeDiff, Nat.reduceLT, Nat.reduceBNe, reduceCtorEq, Int.reduceLE, Int.reduceLT, Int.reduceToNat, Int.cast_ofNat_Int, Int.reduceEq, Int.reduceNe, g2, g0, g1]
    refine ⟨_, W.in64 (by decide), _, W.in64 (by decide), _, W.in64 (by decide), 1, by decide, ?_, by decide⟩
    repeat' (first | rfl | constructor)
  · simp only [go_sem] at hE
    obtain ⟨g2, g0, g1⟩ := hE
    rw [show ((1 : Nat) : Int) = 1 from rfl] at g2
    try simp only [go_sem, ↓reduceIte, Nat.reduceEqDiff, Nat.reduceAdd, Nat.reduceMul, Nat.reduceLeDiff, Nat.reduceLT, Nat.reduceBNe, reduceCtorEq, Int.reduceLE, Int.reduceLT, Int.reduceToNat, Int.cast_ofNat_Int, Int.reduceEq, Int.reduceNe, g2, g0, g1]
    refine ⟨_, W.in64 (by decide), _, W.in64 (by decide), _, W.in64 (by decide), 2, by decide, ?_, by decide⟩
    repeat' (first | rfl | constructor)
  · simp only [go_sem] at hE
    obtain ⟨g2, g0, g1⟩ := hE
    rw [show ((2 : Nat) : Int) = 2 from rfl] at g2
    try simp only [go_sem, ↓reduceIte, Nat.reduceEqDiff, Nat.reduceAdd, Nat.reduceMul, Nat.reduceLeDiff, Nat.reduceLT, Nat.reduceBNe, reduceCtorEq, Int.reduceLE, Int.reduceLT, Int.reduceToNat, Int.cast_ofNat_Int, Int.reduceEq, Int.reduceNe, g2, g0, g1]
    refine ⟨_, W.in64 (by decide), _, W.in64 (by decide), _, W.in64 (by decide), 3, by decide, ?_, by decide⟩
    repeat' (first | rfl | constructor)
  · simp only [go_sem] at hE
    obtain ⟨g2, g0, g1⟩ := hE
    rw [show ((3 : Nat) : Int) = 3 from rfl] at g2
    try simp only [go_sem, ↓reduceIte, Nat.reduceEqDiff, Nat.reduceAdd, Nat.reduceMul, Nat.reduceLeDiff, Nat.reduceLT, Nat.reduceBNe, reduceCtorEq, Int.reduceLE, Int.reduceLT, Int.reduceToNat, Int.cast_ofNat_Int, Int.reduceEq, Int.reduceNe, g2, g0, g1]
    exact ⟨_, _, _, _, _, _, rfl, EdsV.nil _, EdsV.nil _, EdsV.nil _, EdsV.nil _, EdsV.nil _, EdsV.nil _⟩
theorem rem3 {a : Int} (h : 0 ≤ a) : a.tmod 3 = 0 ∧ (a % 3).toNat = 0 ∨ a.tmod 3 = 1 ∧ (a % 3).toNat = 1 ∨ a.tmod 3 = 2 ∧ (a % 3).toNat = 2 := by
  have := tmod_nonneg' (b := 3) h
  omega
theorem DvR.shape {R : RO} {r : Value} {x : Except Int Dv} (h : DvR R r x) : (∃ k, x = .error k ∧ r = .tuple #[.agg #[.int .i64 0, .int .i64 0, .int .i64 0, .slice none 0 0], .int .i64 k]) ∨ ∃ d a c, x = .ok d ∧ r = .tuple #[.agg #[.int .i64 d.id, .int .i64 d.epoch, .int .i64 d.next, .slice a d.edits.length c], .int .i64 0] ∧ EdsV R (.slice a d.edits.length c) d.edits := by
  cases x with
  | error k => exact .inl ⟨k, rfl, h⟩
  | ok d =>
    obtain ⟨v, e, h⟩ := h
    obtain ⟨a, c, rfl, _⟩ := h.form
    exact .inr ⟨d, a, c, rfl, e, h⟩
theorem dvSync_err {d o : Dv} {k : Int} (h : dvSync d o = .error k) : k ≠ 0 := by
  unfold dvSync at h
  (repeat' split at h) <;> simp only [Except.error.injEq, reduceCtorEq] at h <;> omega
theorem dvAdd_err {d : Dv} {e : De} {k : Int} (h : dvAdd d e = .error k) : k ≠ 0 := by
  unfold dvAdd at h
  (repeat' split at h) <;> simp only [Except.error.injEq, reduceCtorEq] at h <;> omega
theorem dvRestore_err {d : Dv} {ep k : Int} (h : dvRestore d ep = .error k) : k ≠ 0 := by
  unfold dvRestore at h
  (repeat' split at h) <;> simp only [Except.error.injEq, reduceCtorEq] at h <;> omega
set_option maxHeartbeats 8000000 in
theorem eRun (w : Wd) (o : Opn) (wv : Value) (R : RO) (h : WdV R wv w) (ho : o.ok) (hep : ∀ i, 0 ≤ w.ep i ∧ w.ep i ≤ 1000000) : CallsR Tryz.prog 36 [wv, .agg o.cells.toArray] R fun R' r => WdV R' r (runW w o) := by
  obtain ⟨x0, x1, x2, y0, y1, y2, rfl, h0, h1, h2, h3, h4, h5⟩ := h
  have hE := fun R' => eEdit o R'
  obtain ⟨xa0, xc0, rfl, _⟩ := h0.form
  obtain ⟨xa1, xc1, rfl, _⟩ := h1.form
  obtain ⟨xa2, xc2, rfl, _⟩ := h2.form
  obtain ⟨ya0, yc0, rfl, _⟩ := h3.form
  obtain ⟨ya1, yc1, rfl, _⟩ := h4.form
  obtain ⟨ya2, yc2, rfl, _⟩ := h5.form
  obtain ⟨hok1, hok2, hok3⟩ := ho
  simp only [wdCells, Opn.cells, Ed.cells, List.cons_append, List.nil_append] at hE ⊢
  refine callsT mix Tryz.func36 comp36 (by simp [Tryz.ntmps36]) ?_; simp only [vc36, rs36]
  (refine cutR ?_ ?_ ?_; rotate_left; (try simp only [go_sem, ↓reduceIte, Nat.reduceEqDiff, Nat.reduceAdd, Nat.reduceMul, Nat.reduceLeDiff, Nat.reduceLT, Nat.reduceBNe, reduceCtorEq, true_and]; rfl))
  have hkm : o.kind.tmod 6 = o.kind % 6 := tmod_nonneg' hok1.1
  have hbm : 0 ≤ o.b.tmod 3 ∧ o.b.tmod 3 < 3 := by have := tmod_nonneg' (b := 3) hok3.1; omega
  rcases rem3 hok2.1 with ⟨hi, hin⟩ | ⟨hi, hin⟩ | ⟨hi, hin⟩
  · rw [tCode_seq]
    try simp only [go_sem, ↓reduceIte, Nat.reduceEqDiff, Nat.reduceAdd, Nat.reduceMul, Nat.reduceLeDiff, Nat.reduceLT, Nat.reduceBNe, reduceCtorEq, Int.reduceLE, Int.reduceLT, Int.reduceToNat, Int.cast_ofNat_Int, Int.reduceEq, Int.reduceNe, hi]
    refine ⟨0, W.in64 (by decide), _, W.in64 (by omega), ?_⟩
    try simp only [go_sem, ↓reduceIte, Nat.reduceEqDiff, Nat.reduceAdd, Nat.reduceMul, Nat.reduceLeDiff, Nat.reduceLT, Nat.reduceBNe, reduceCtorEq, Int.reduceLE, Int.reduceLT, Int.reduceToNat, Int.cast_ofNat_Int, Int.reduceEq, Int.reduceNe]
    rw [hkm]
    refine ⟨fun k3 => ?_, fun k3 => ⟨fun k4 => ?_, fun k4 => ⟨fun k5 => ?_, fun k5 => ?_⟩⟩⟩
    · rcases rem3 hok3.1 with ⟨hk, hkn⟩ | ⟨hk, hkn⟩ | ⟨hk, hkn⟩
      · rw [hk]
        try simp only [go_sem, ↓reduceIte, Nat.reduceEqDiff, Nat.reduceAdd, Nat.reduceMul, Nat.reduceLeDiff, Nat.reduceLT, Nat.reduceBNe, reduceCtorEq, Int.reduceLE, Int.reduceLT, Int.reduceToNat, Int.cast_ofNat_Int, Int.reduceEq, Int.reduceNe]
        refine vcall (dSync w.n0 w.n0 _ _ R h0 h0) ?_
        intro R1 r hle1 hr
        have hrun : runW w o = stepW w 0 (dvSync w.n0 w.n0) := by
          unfold runW Opn.i Opn.k
          rw [if_pos (by omega), hin, hkn]
          rfl
        rw [hrun]
        rcases hr.shape with ⟨e, hx, rfl⟩ | ⟨d, da, dc, hx, rfl, hd⟩
        · have hne := dvSync_err hx
          rw [hx]
          try simp only [go_sem, ↓reduceIte, Nat.reduceEqDiff, Nat.reduceAdd, Nat.reduceMul, Nat.reduceLeDiff, Nat.reduceLT, Nat.reduceBNe, reduceCtorEq, Int.reduceLE, Int.reduceLT, Int.reduceToNat, Int.cast_ofNat_Int, Int.reduceEq, Int.reduceNe, eq_false hne]
          exact ⟨_, _, _, _, _, _, rfl, (h0.mono hle1), (h1.mono hle1), (h2.mono hle1), (h3.mono hle1), (h4.mono hle1), (h5.mono hle1)⟩
        · rw [hx]
          try simp only [go_sem, ↓reduceIte, Nat.reduceEqDiff, Nat.reduceAdd, Nat.reduceMul, Nat.reduceLeDiff, Nat.reduceLT, Nat.reduceBNe, reduceCtorEq, Int.reduceLE, Int.reduceLT, Int.reduceToNat, Int.cast_ofNat_Int, Int.reduceEq, Int.reduceNe]
          exact ⟨_, _, _, _, _, _, rfl, hd, (h1.mono hle1), (h2.mono hle1), (h3.mono hle1), (h4.mono hle1), (h5.mono hle1)⟩
      · rw [hk]
        try simp only [go_sem, ↓reduceIte, Nat.reduceEqDiff, Nat.reduceAdd, Nat.reduceMul, Nat.reduceLeDiff, Nat.reduceLT, Nat.reduceBNe, reduceCtorEq, Int.reduceLE, Int.reduceLT, Int.reduceToNat, Int.cast_ofNat_Int, Int.reduceEq, Int.reduceNe]
        refine vcall (dSync w.n0 w.n1 _ _ R h0 h1) ?_
        intro R1 r hle1 hr
        have hrun : runW w o = stepW w 0 (dvSync w.n0 w.n1) := by
          unfold runW Opn.i Opn.k
          rw [if_pos (by omega), hin, hkn]
          rfl
        rw [hrun]
        rcases hr.shape with ⟨e, hx, rfl⟩ | ⟨d, da, dc, hx, rfl, hd⟩
        · have hne := dvSync_err hx
          rw [hx]
          try simp only [go_sem, ↓reduceIte, Nat.reduceEqDiff, Nat.reduceAdd, Nat.reduceMul, Nat.reduceLeDiff, Nat.reduceLT, Nat.reduceBNe, reduceCtorEq, Int.reduceLE, Int.reduceLT, Int.reduceToNat, Int.cast_ofNat_Int, Int.reduceEq, Int.reduceNe, eq_false hne]
          exact ⟨_, _, _, _, _, _, rfl, (h0.mono hle1), (h1.mono hle1), (h2.mono hle1), (h3.mono hle1), (h4.mono hle1), (h5.mono hle1)⟩
        · rw [hx]
          try simp only [go_sem, ↓reduceIte, Nat.reduceEqDiff, Nat.reduceAdd, Nat.reduceMul, Nat.reduceLeDiff, Nat.reduceLT, Nat.reduceBNe, reduceCtorEq, Int.reduceLE, Int.reduceLT, Int.reduceToNat, Int.cast_ofNat_Int, Int.reduceEq, Int.reduceNe]
          exact ⟨_, _, _, _, _, _, rfl, hd, (h1.mono hle1), (h2.mono hle1), (h3.mono hle1), (h4.mono hle1), (h5.mono hle1)⟩
      · rw [hk]
        try simp only [go_sem, ↓reduceIte, Nat.reduceEqDiff, Nat.reduceAdd, Nat.reduceMul, Nat.reduceLeDiff, Nat.reduceLT, Nat.reduceBNe, reduceCtorEq, Int.reduceLE, Int.reduceLT, Int.reduceToNat, Int.cast_ofNat_Int, Int.reduceEq, Int.reduceNe]
        refine vcall (dSync w.n0 w.n2 _ _ R h0 h2) ?_
        intro R1 r hle1 hr
        have hrun : runW w o = stepW w 0 (dvSync w.n0 w.n2) := by
          unfold runW Opn.i Opn.k
          rw [if_pos (by omega), hin, hkn]
          rfl
        rw [hrun]
        rcases hr.shape with ⟨e, hx, rfl⟩ | ⟨d, da, dc, hx, rfl, hd⟩
        · have hne := dvSync_err hx
          rw [hx]
          try simp only [go_sem, ↓reduceIte, Nat.reduceEqDiff, Nat.reduceAdd, Nat.reduceMul, Nat.reduceLeDiff, Nat.reduceLT, Nat.reduceBNe, reduceCtorEq, Int.reduceLE, Int.reduceLT, Int.reduceToNat, Int.cast_ofNat_Int, Int.reduceEq, Int.reduceNe, eq_false hne]
          exact ⟨_, _, _, _, _, _, rfl, (h0.mono hle1), (h1.mono hle1), (h2.mono hle1), (h3.mono hle1), (h4.mono hle1), (h5.mono hle1)⟩
        · rw [hx]
          try simp only [go_sem, ↓reduceIte, Nat.reduceEqDiff, Nat.reduceAdd, Nat.reduceMul, Nat.reduceLeDiff, Nat.reduceLT, Nat.reduceBNe, reduceCtorEq, Int.reduceLE, Int.reduceLT, Int.reduceToNat, Int.cast_ofNat_Int, Int.reduceEq, Int.reduceNe]
          exact ⟨_, _, _, _, _, _, rfl, hd, (h1.mono hle1), (h2.mono hle1), (h3.mono hle1), (h4.mono hle1), (h5.mono hle1)⟩
    · have hrun : runW w o = w.setCopy w.n0 0 := by
        unfold runW Opn.i
        rw [if_neg (by omega), if_pos (by omega), hin]
        rfl
      rw [hrun]
      exact ⟨_, _, _, _, _, _, rfl, (h0), (h1), (h2), h0, (h4), (h5)⟩
    · have hrun : runW w o = match dvRestore w.c0 (w.e0 + 1) with
          | .error _ => w
          | .ok d => (w.setEp (w.e0 + 1) 0).setNow d 0 := by
        unfold runW Opn.i
        rw [if_neg (by omega), if_neg (by omega), if_pos (by omega), hin]
        rfl
      rw [hrun]
      have hepi : 0 ≤ w.e0 ∧ w.e0 ≤ 1000000 := hep 0
      refine ⟨_, W.in64 (by omega), ?_⟩
      try simp only [go_sem, ↓reduceIte, Nat.reduceEqDiff, Nat.reduceAdd, Nat.reduceMul, Nat.reduceLeDiff, Nat.reduceLT, Nat.reduceBNe, reduceCtorEq, Int.reduceLE, Int.reduceLT, Int.reduceToNat, Int.cast_ofNat_Int, Int.reduceEq, Int.reduceNe]
      refine vcall (dRestore w.c0 _ (w.e0 + 1) R h3) ?_
      intro R1 r hle1 hr
      rcases hr.shape with ⟨e, hx, rfl⟩ | ⟨d, da, dc, hx, rfl, hd⟩
      · have hne := dvRestore_err hx
        rw [hx]
        try simp only [go_sem, ↓reduceIte, Nat.reduceEqDiff, Nat.reduceAdd, Nat.reduceMul, Nat.reduceLeDiff, Nat.reduceLT, Nat.reduceBNe, reduceCtorEq, Int.reduceLE, Int.reduceLT, Int.reduceToNat, Int.cast_ofNat_Int, Int.reduceEq, Int.reduceNe, eq_false hne]
        exact ⟨_, _, _, _, _, _, rfl, (h0.mono hle1), (h1.mono hle1), (h2.mono hle1), (h3.mono hle1), (h4.mono hle1), (h5.mono hle1)⟩
      · rw [hx]
        try simp only [go_sem, ↓reduceIte, Nat.reduceEqDiff, Nat.reduceAdd, Nat.reduceMul, Nat.reduceLeDiff, Nat.reduceLT, Nat.reduceBNe, reduceCtorEq, Int.reduceLE, Int.reduceLT, Int.reduceToNat, Int.cast_ofNat_Int, Int.reduceEq, Int.reduceNe]
        refine ⟨_, W.in64 (by omega), ?_⟩
        try simp only [go_sem, ↓reduceIte, Nat.reduceEqDiff, Nat.reduceAdd, Nat.reduceMul, Nat.reduceLeDiff, Nat.reduceLT, Nat.reduceBNe, reduceCtorEq, Int.reduceLE, Int.reduceLT, Int.reduceToNat, Int.cast_ofNat_Int, Int.reduceEq, Int.reduceNe]
        exact ⟨_, _, _, _, _, _, rfl, hd, (h1.mono hle1), (h2.mono hle1), (h3.mono hle1), (h4.mono hle1), (h5.mono hle1)⟩
    · have hrun : runW w o = stepW w 0 (dvAdd w.n0 (madeE o.ed)) := by
        unfold runW Opn.i
        rw [if_neg (by omega), if_neg (by omega), if_neg (by omega), hin]
        rfl
      rw [hrun]
      refine vcall (hE R) ?_
      rintro R1 v hle1 ⟨ea, en, ec, rfl, her⟩
      try simp only [go_sem, ↓reduceIte, Nat.reduceEqDiff, Nat.reduceAdd, Nat.reduceMul, Nat.reduceLeDiff, Nat.reduceLT, Nat.reduceBNe, reduceCtorEq, Int.reduceLE, Int.reduceLT, Int.reduceToNat, Int.cast_ofNat_Int, Int.reduceEq, Int.reduceNe]
      refine vcall (dAdd w.n0 _ (madeE o.ed) ea en ec R1 (h0.mono hle1) her) ?_
      intro R2 r hle2 hr
      have hle12 := RO.le_trans hle1 hle2
      rcases hr.shape with ⟨e, hx, rfl⟩ | ⟨d, da, dc, hx, rfl, hd⟩
      · have hne := dvAdd_err hx
        rw [hx]
        try simp only [go_sem, ↓reduceIte, Nat.reduceEqDiff, Nat.reduceAdd, Nat.reduceMul, Nat.reduceLeDiff, Nat.reduceLT, Nat.reduceBNe, reduceCtorEq, Int.reduceLE, Int.reduceLT, Int.reduceToNat, Int.cast_ofNat_Int, Int.reduceEq, Int.reduceNe, eq_false hne]
        exact ⟨_, _, _, _, _, _, rfl, (h0.mono hle12), (h1.mono hle12), (h2.mono hle12), (h3.mono hle12), (h4.mono hle12), (h5.mono hle12)⟩
      · rw [hx]
        try simp only [go_sem, ↓reduceIte, Nat.reduceEqDiff, Nat.reduceAdd, Nat.reduceMul, Nat.reduceLeDiff, Nat.reduceLT, Nat.reduceBNe, reduceCtorEq, Int.reduceLE, Int.reduceLT, Int.reduceToNat, Int.cast_ofNat_Int, Int.reduceEq, Int.reduceNe]
        exact ⟨_, _, _, _, _, _, rfl, hd, (h1.mono hle12), (h2.mono hle12), (h3.mono hle12), (h4.mono hle12), (h5.mono hle12)⟩
  · rw [tCode_seq]
    try simp only [go_sem, ↓reduceIte, Nat.reduceEqDiff, Nat.reduceAdd, Nat.reduceMul, Nat.reduceLeDiff, Nat.reduceLT, Nat.reduceBNe, reduceCtorEq, Int.reduceLE, Int.reduceLT, Int.reduceToNat, Int.cast_ofNat_Int, Int.reduceEq, Int.reduceNe, hi]
    refine ⟨1, W.in64 (by decide), _, W.in64 (by omega), ?_⟩
    try simp only [go_sem, ↓reduceIte, Nat.reduceEqDiff, Nat.reduceAdd, Nat.reduceMul, Nat.reduceLeDiff, Nat.reduceLT, Nat.reduceBNe, reduceCtorEq, Int.reduceLE, Int.reduceLT, Int.reduceToNat, Int.cast_ofNat_Int, Int.reduceEq, Int.reduceNe]
    rw [hkm]
    refine ⟨fun k3 => ?_, fun k3 => ⟨fun k4 => ?_, fun k4 => ⟨fun k5 => ?_, fun k5 => ?_⟩⟩⟩
    · rcases rem3 hok3.1 with ⟨hk, hkn⟩ | ⟨hk, hkn⟩ | ⟨hk, hkn⟩
      · rw [hk]
        try simp only [go_sem, ↓reduceIte, Nat.reduceEqDiff, Nat.reduceAdd, Nat.reduceMul, Nat.reduceLeDiff, Nat.reduceLT, Nat.reduceBNe, reduceCtorEq, Int.reduceLE, Int.reduceLT, Int.reduceToNat, Int.cast_ofNat_Int, Int.reduceEq, Int.reduceNe]
        refine vcall (dSync w.n1 w.n0 _ _ R h1 h0) ?_
        intro R1 r hle1 hr
        have hrun : runW w o = stepW w 1 (dvSync w.n1 w.n0) := by
          unfold runW Opn.i Opn.k
          rw [if_pos (by omega), hin, hkn]
          rfl
        rw [hrun]
        rcases hr.shape with ⟨e, hx, rfl⟩ | ⟨d, da, dc, hx, rfl, hd⟩
        · have hne := dvSync_err hx
          rw [hx]
          try simp only [go_sem, ↓reduceIte, Nat.reduceEqDiff, Nat.reduceAdd, Nat.reduceMul, Nat.reduceLeDiff, Nat.reduceLT, Nat.reduceBNe, reduceCtorEq, Int.reduceLE, Int.reduceLT, Int.reduceToNat, Int.cast_ofNat_Int, Int.reduceEq, Int.reduceNe, eq_false hne]
          exact ⟨_, _, _, _, _, _, rfl, (h0.mono hle1), (h1.mono hle1), (h2.mono hle1), (h3.mono hle1), (h4.mono hle1), (h5.mono hle1)⟩
        · rw [hx]
          try simp only [go_sem, ↓reduceIte, Nat.reduceEqDiff, Nat.reduceAdd, Nat.reduceMul, Nat.reduceLeDiff, Nat.reduceLT, Nat.reduceBNe, reduceCtorEq, Int.reduceLE, Int.reduceLT, Int.reduceToNat, Int.cast_ofNat_Int, Int.reduceEq, Int.reduceNe]
          exact ⟨_, _, _, _, _, _, rfl, (h0.mono hle1), hd, (h2.mono hle1), (h3.mono hle1), (h4.mono hle1), (h5.mono hle1)⟩
      · rw [hk]
        try simp only [go_sem, ↓reduceIte, Nat.reduceEqDiff, Nat.reduceAdd, Nat.reduceMul, Nat.reduceLeDiff, Nat.reduceLT, Nat.reduceBNe, reduceCtorEq, Int.reduceLE, Int.reduceLT, Int.reduceToNat, Int.cast_ofNat_Int, Int.reduceEq, Int.reduceNe]
        refine vcall (dSync w.n1 w.n1 _ _ R h1 h1) ?_
        intro R1 r hle1 hr
        have hrun : runW w o = stepW w 1 (dvSync w.n1 w.n1) := by
          unfold runW Opn.i Opn.k
          rw [if_pos (by omega), hin, hkn]
          rfl
        rw [hrun]
        rcases hr.shape with ⟨e, hx, rfl⟩ | ⟨d, da, dc, hx, rfl, hd⟩
        · have hne := dvSync_err hx
          rw [hx]
          try simp only [go_sem, ↓reduceIte, Nat.reduceEqDiff, Nat.reduceAdd, Nat.reduceMul, Nat.reduceLeDiff, Nat.reduceLT, Nat.reduceBNe, reduceCtorEq, Int.reduceLE, Int.reduceLT, Int.reduceToNat, Int.cast_ofNat_Int, Int.reduceEq, Int.reduceNe, eq_false hne]
          exact ⟨_, _, _, _, _, _, rfl, (h0.mono hle1), (h1.mono hle1), (h2.mono hle1), (h3.mono hle1), (h4.mono hle1), (h5.mono hle1)⟩
        · rw [hx]
          try simp only [go_sem, ↓reduceIte, Nat.reduceEqDiff, Nat.reduceAdd, Nat.reduceMul, Nat.reduceLeDiff, Nat.reduceLT, Nat.reduceBNe, reduceCtorEq, Int.reduceLE, Int.reduceLT, Int.reduceToNat, Int.cast_ofNat_Int, Int.reduceEq, Int.reduceNe]
          exact ⟨_, _, _, _, _, _, rfl, (h0.mono hle1), hd, (h2.mono hle1), (h3.mono hle1), (h4.mono hle1), (h5.mono hle1)⟩
      · rw [hk]
        try simp only [go_sem, ↓reduceIte, Nat.reduceEqDiff, Nat.reduceAdd, Nat.reduceMul, Nat.reduceLeDiff, Nat.reduceLT, Nat.reduceBNe, reduceCtorEq, Int.reduceLE, Int.reduceLT, Int.reduceToNat, Int.cast_ofNat_Int, Int.reduceEq, Int.reduceNe]
        refine vcall (dSync w.n1 w.n2 _ _ R h1 h2) ?_
        intro R1 r hle1 hr
        have hrun : runW w o = stepW w 1 (dvSync w.n1 w.n2) := by
          unfold runW Opn.i Opn.k
          rw [if_pos (by omega), hin, hkn]
          rfl
        rw [hrun]
        rcases hr.shape with ⟨e, hx, rfl⟩ | ⟨d, da, dc, hx, rfl, hd⟩
        · have hne := dvSync_err hx
          rw [hx]
          try simp only [go_sem, ↓reduceIte, Nat.reduceEqDiff, Nat.reduceAdd, Nat.reduceMul, Nat.reduceLeDiff, Nat.reduceLT, Nat.reduceBNe, reduceCtorEq, Int.reduceLE, Int.reduceLT, Int.reduceToNat, Int.cast_ofNat_Int, Int.reduceEq, Int.reduceNe, eq_false hne]
          exact ⟨_, _, _, _, _, _, rfl, (h0.mono hle1), (h1.mono hle1), (h2.mono hle1), (h3.mono hle1), (h4.mono hle1), (h5.mono hle1)⟩
        · rw [hx]
          try simp only [go_sem, ↓reduceIte, Nat.reduceEqDiff, Nat.reduceAdd, Nat.reduceMul, Nat.reduceLeDiff, Nat.reduceLT, Nat.reduceBNe, reduceCtorEq, Int.reduceLE, Int.reduceLT, Int.reduceToNat, Int.cast_ofNat_Int, Int.reduceEq, Int.reduceNe]
          exact ⟨_, _, _, _, _, _, rfl, (h0.mono hle1), hd, (h2.mono hle1), (h3.mono hle1), (h4.mono hle1), (h5.mono hle1)⟩
    · have hrun : runW w o = w.setCopy w.n1 1 := by
        unfold runW Opn.i
        rw [if_neg (by omega), if_pos (by omega), hin]
        rfl
      rw [hrun]
      exact ⟨_, _, _, _, _, _, rfl, (h0), (h1), (h2), (h3), h1, (h5)⟩
    · have hrun : runW w o = match dvRestore w.c1 (w.e1 + 1) with
          | .error _ => w
          | .ok d => (w.setEp (w.e1 + 1) 1).setNow d 1 := by
        unfold runW Opn.i
        rw [if_neg (by omega), if_neg (by omega), if_pos (by omega), hin]
        rfl
      rw [hrun]
      have hepi : 0 ≤ w.e1 ∧ w.e1 ≤ 1000000 := hep 1
      refine ⟨_, W.in64 (by omega), ?_⟩
      try simp only [go_sem, ↓reduceIte, Nat.reduceEqDiff, Nat.reduceAdd, Nat.reduceMul, Nat.reduceLeDiff, Nat.reduceLT, Nat.reduceBNe, reduceCtorEq, Int.reduceLE, Int.reduceLT, Int.reduceToNat, Int.cast_ofNat_Int, Int.reduceEq, Int.reduceNe]
      refine vcall (dRestore w.c1 _ (w.e1 + 1) R h4) ?_
      intro R1 r hle1 hr
      rcases hr.shape with ⟨e, hx, rfl⟩ | ⟨d, da, dc, hx, rfl, hd⟩
      · have hne := dvRestore_err hx
        rw [hx]
        try simp only [go_sem, ↓reduceIte, Nat.reduceEqDiff, Nat.reduceAdd, Nat.reduceMul, Nat.reduceLeDiff, Nat.reduceLT, Nat.reduceBNe, reduceCtorEq, Int.reduceLE, Int.reduceLT, Int.reduceToNat, Int.cast_ofNat_Int, Int.reduceEq, Int.reduceNe, eq_false hne]
        exact ⟨_, _, _, _, _, _, rfl, (h0.mono hle1), (h1.mono hle1), (h2.mono hle1), (h3.mono hle1), (h4.mono hle1), (h5.mono hle1)⟩
      · rw [hx]
        try simp only [go_sem, ↓reduceIte, Nat.reduceEqDiff, Nat.reduceAdd, Nat.reduceMul, Nat.reduceLeDiff, Nat.reduceLT, Nat.reduceBNe, reduceCtorEq, Int.reduceLE, Int.reduceLT, Int.reduceToNat, Int.cast_ofNat_Int, Int.reduceEq, Int.reduceNe]
        refine ⟨_, W.in64 (by omega), ?_⟩
        try simp only [go_sem, ↓reduceIte, Nat.reduceEqDiff, Nat.reduceAdd, Nat.reduceMul, Nat.reduceLeDiff, Nat.reduceLT, Nat.reduceBNe, reduceCtorEq, Int.reduceLE, Int.reduceLT, Int.reduceToNat, Int.cast_ofNat_Int, Int.reduceEq, Int.reduceNe]
        exact ⟨_, _, _, _, _, _, rfl, (h0.mono hle1), hd, (h2.mono hle1), (h3.mono hle1), (h4.mono hle1), (h5.mono hle1)⟩
    · have hrun : runW w o = stepW w 1 (dvAdd w.n1 (madeE o.ed)) := by
        unfold runW Opn.i
        rw [if_neg (by omega), if_neg (by omega), if_neg (by omega), hin]
        rfl
      rw [hrun]
      refine vcall (hE R) ?_
      rintro R1 v hle1 ⟨ea, en, ec, rfl, her⟩
      try simp only [go_sem, ↓reduceIte, Nat.reduceEqDiff, Nat.reduceAdd, Nat.reduceMul, Nat.reduceLeDiff, Nat.reduceLT, Nat.reduceBNe, reduceCtorEq, Int.reduceLE, Int.reduceLT, Int.reduceToNat, Int.cast_ofNat_Int, Int.reduceEq, Int.reduceNe]
      refine vcall (dAdd w.n1 _ (madeE o.ed) ea en ec R1 (h1.mono hle1) her) ?_
      intro R2 r hle2 hr
      have hle12 := RO.le_trans hle1 hle2
      rcases hr.shape with ⟨e, hx, rfl⟩ | ⟨d, da, dc, hx, rfl, hd⟩
      · have hne := dvAdd_err hx
        rw [hx]
        try simp only [go_sem, ↓reduceIte, Nat.reduceEqDiff, Nat.reduceAdd, Nat.reduceMul, Nat.reduceLeDiff, Nat.reduceLT, Nat.reduceBNe, reduceCtorEq, Int.reduceLE, Int.reduceLT, Int.reduceToNat, Int.cast_ofNat_Int, Int.reduceEq, Int.reduceNe, eq_false hne]
        exact ⟨_, _, _, _, _, _, rfl, (h0.mono hle12), (h1.mono hle12), (h2.mono hle12), (h3.mono hle12), (h4.mono hle12), (h5.mono hle12)⟩
      · rw [hx]
        try simp only [go_sem, ↓reduceIte, Nat.reduceEqDiff, Nat.reduceAdd, Nat.reduceMul, Nat.reduceLeDiff, Nat.reduceLT, Nat.reduceBNe, reduceCtorEq, Int.reduceLE, Int.reduceLT, Int.reduceToNat, Int.cast_ofNat_Int, Int.reduceEq, Int.reduceNe]
        exact ⟨_, _, _, _, _, _, rfl, (h0.mono hle12), hd, (h2.mono hle12), (h3.mono hle12), (h4.mono hle12), (h5.mono hle12)⟩
  · rw [tCode_seq]
    try simp only [go_sem, ↓reduceIte, Nat.reduceEqDiff, Nat.reduceAdd, Nat.reduceMul, Nat.reduceLeDiff, Nat.reduceLT, Nat.reduceBNe, reduceCtorEq, Int.reduceLE, Int.reduceLT, Int.reduceToNat, Int.cast_ofNat_Int, Int.reduceEq, Int.reduceNe, hi]
    refine ⟨2, W.in64 (by decide), _, W.in64 (by omega), ?_⟩
    try simp only [go_sem, ↓reduceIte, Nat.reduceEqDiff, Nat.reduceAdd, Nat.reduceMul, Nat.reduceLeDiff, Nat.reduceLT, Nat.reduceBNe, reduceCtorEq, Int.reduceLE, Int.reduceLT, Int.reduceToNat, Int.cast_ofNat_Int, Int.reduceEq, Int.reduceNe]
    rw [hkm]
    refine ⟨fun k3 => ?_, fun k3 => ⟨fun k4 => ?_, fun k4 => ⟨fun k5 => ?_, fun k5 => ?_⟩⟩⟩
    · rcases rem3 hok3.1 with ⟨hk, hkn⟩ | ⟨hk, hkn⟩ | ⟨hk, hkn⟩
      · rw [hk]
        try simp only [go_sem, ↓reduceIte, Nat.reduceEqDiff, Nat.reduceAdd, Nat.reduceMul, Nat.reduceLeDiff, Nat.reduceLT, Nat.reduceBNe, reduceCtorEq, Int.reduceLE, Int.reduceLT, Int.reduceToNat, Int.cast_ofNat_Int, Int.reduceEq, Int.reduceNe]
        refine vcall (dSync w.n2 w.n0 _ _ R h2 h0) ?_
        intro R1 r hle1 hr
        have hrun : runW w o = stepW w 2 (dvSync w.n2 w.n0) := by
          unfold runW Opn.i Opn.k
          rw [if_pos (by omega), hin, hkn]
          rfl
        rw [hrun]
        rcases hr.shape with ⟨e, hx, rfl⟩ | ⟨d, da, dc, hx, rfl, hd⟩
        · have hne := dvSync_err hx
          rw [hx]
          try simp only [go_sem, ↓reduceIte, Nat.reduceEqDiff, Nat.reduceAdd, Nat.reduceMul, Nat.reduceLeDiff, Nat.reduceLT, Nat.reduceBNe, reduceCtorEq, Int.reduceLE, Int.reduceLT, Int.reduceToNat, Int.cast_ofNat_Int, Int.reduceEq, Int.reduceNe, eq_false hne]
          exact ⟨_, _, _, _, _, _, rfl, (h0.mono hle1), (h1.mono hle1), (h2.mono hle1), (h3.mono hle1), (h4.mono hle1), (h5.mono hle1)⟩
        · rw [hx]
          try simp only [go_sem, ↓reduceIte, Nat.reduceEqDiff, Nat.reduceAdd, Nat.reduceMul, Nat.reduceLeDiff, Nat.reduceLT, Nat.reduceBNe, reduceCtorEq, Int.reduceLE, Int.reduceLT, Int.reduceToNat, Int.cast_ofNat_Int, Int.reduceEq, Int.reduceNe]
          exact ⟨_, _, _, _, _, _, rfl, (h0.mono hle1), (h1.mono hle1), hd, (h3.mono hle1), (h4.mono hle1), (h5.mono hle1)⟩
      · rw [hk]
        try simp only [go_sem, ↓reduceIte, Nat.reduceEqDiff, Nat.reduceAdd, Nat.reduceMul, Nat.reduceLeDiff, Nat.reduceLT, Nat.reduceBNe, reduceCtorEq, Int.reduceLE, Int.reduceLT, Int.reduceToNat, Int.cast_ofNat_Int, Int.reduceEq, Int.reduceNe]
        refine vcall (dSync w.n2 w.n1 _ _ R h2 h1) ?_
        intro R1 r hle1 hr
        have hrun : runW w o = stepW w 2 (dvSync w.n2 w.n1) := by
          unfold runW Opn.i Opn.k
          rw [if_pos (by omega), hin, hkn]
          rfl
        rw [hrun]
        rcases hr.shape with ⟨e, hx, rfl⟩ | ⟨d, da, dc, hx, rfl, hd⟩
        · have hne := dvSync_err hx
          rw [hx]
          try simp only [go_sem, ↓reduceIte, Nat.reduceEqDiff, Nat.reduceAdd, Nat.reduceMul, Nat.reduceLeDiff, Nat.reduceLT, Nat.reduceBNe, reduceCtorEq, Int.reduceLE, Int.reduceLT, Int.reduceToNat, Int.cast_ofNat_Int, Int.reduceEq, Int.reduceNe, eq_false hne]
          exact ⟨_, _, _, _, _, _, rfl, (h0.mono hle1), (h1.mono hle1), (h2.mono hle1), (h3.mono hle1), (h4.mono hle1), (h5.mono hle1)⟩
        · rw [hx]
          try simp only [go_sem, ↓reduceIte, Nat.reduceEqDiff, Nat.reduceAdd, Nat.reduceMul, Nat.reduceLeDiff, Nat.reduceLT, Nat.reduceBNe, reduceCtorEq, Int.reduceLE, Int.reduceLT, Int.reduceToNat, Int.cast_ofNat_Int, Int.reduceEq, Int.reduceNe]
          exact ⟨_, _, _, _, _, _, rfl, (h0.mono hle1), (h1.mono hle1), hd, (h3.mono hle1), (h4.mono hle1), (h5.mono hle1)⟩
      · rw [hk]
        try simp only [go_sem, ↓reduceIte, Nat.reduceEqDiff, Nat.reduceAdd, Nat.reduceMul, Nat.reduceLeDiff, Nat.reduceLT, Nat.reduceBNe, reduceCtorEq, Int.reduceLE, Int.reduceLT, Int.reduceToNat, Int.cast_ofNat_Int, Int.reduceEq, Int.reduceNe]
        refine vcall (dSync w.n2 w.n2 _ _ R h2 h2) ?_
        intro R1 r hle1 hr
        have hrun : runW w o = stepW w 2 (dvSync w.n2 w.n2) := by
          unfold runW Opn.i Opn.k
          rw [if_pos (by omega), hin, hkn]
          rfl
        rw [hrun]
        rcases hr.shape with ⟨e, hx, rfl⟩ | ⟨d, da, dc, hx, rfl, hd⟩
        · have hne := dvSync_err hx
          rw [hx]
          try simp only [go_sem, ↓reduceIte, Nat.reduceEqDiff, Nat.reduceAdd, Nat.reduceMul, Nat.reduceLeDiff, Nat.reduceLT, Nat.reduceBNe, reduceCtorEq, Int.reduceLE, Int.reduceLT, Int.reduceToNat, Int.cast_ofNat_Int, Int.reduceEq, Int.reduceNe, eq_false hne]
          exact ⟨_, _, _, _, _, _, rfl, (h0.mono hle1), (h1.mono hle1), (h2.mono hle1), (h3.mono hle1), (h4.mono hle1), (h5.mono hle1)⟩
        · rw [hx]
          try simp only [go_sem, ↓reduceIte, Nat.reduceEqDiff, Nat.reduceAdd, Nat.reduceMul, Nat.reduceLeDiff, Nat.reduceLT, Nat.reduceBNe, reduceCtorEq, Int.reduceLE, Int.reduceLT, Int.reduceToNat, Int.cast_ofNat_Int, Int.reduceEq, Int.reduceNe]
          exact ⟨_, _, _, _, _, _, rfl, (h0.mono hle1), (h1.mono hle1), hd, (h3.mono hle1), (h4.mono hle1), (h5.mono hle1)⟩
    · have hrun : runW w o = w.setCopy w.n2 2 := by
        unfold runW Opn.i
        rw [if_neg (by omega), if_pos (by omega), hin]
        rfl
      rw [hrun]
      exact ⟨_, _, _, _, _, _, rfl, (h0), (h1), (h2), (h3), (h4), h2⟩
    · have hrun : runW w o = match dvRestore w.c2 (w.e2 + 1) with
          | .error _ => w
          | .ok d => (w.setEp (w.e2 + 1) 2).setNow d 2 := by
        unfold runW Opn.i
        rw [if_neg (by omega), if_neg (by omega), if_pos (by omega), hin]
        rfl
      rw [hrun]
      have hepi : 0 ≤ w.e2 ∧ w.e2 ≤ 1000000 := hep 2
      refine ⟨_, W.in64 (by omega), ?_⟩
      try simp only [go_sem, ↓reduceIte, Nat.reduceEqDiff, Nat.reduceAdd, Nat.reduceMul, Nat.reduceLeDiff, Nat.reduceLT, Nat.reduceBNe, reduceCtorEq, Int.reduceLE, Int.reduceLT, Int.reduceToNat, Int.cast_ofNat_Int, Int.reduceEq, Int.reduceNe]
      refine vcall (dRestore w.c2 _ (w.e2 + 1) R h5) ?_
      intro R1 r hle1 hr
      rcases hr.shape with ⟨e, hx, rfl⟩ | ⟨d, da, dc, hx, rfl, hd⟩
      · have hne := dvRestore_err hx
        rw [hx]
        try simp only [go_sem, ↓reduceIte, Nat.reduceEqDiff, Nat.reduceAdd, Nat.reduceMul, Nat.reduceLeDiff, Nat.reduceLT, Nat.reduceBNe, reduceCtorEq, Int.reduceLE, Int.reduceLT, Int.reduceToNat, Int.cast_ofNat_Int, Int.reduceEq, Int.reduceNe, eq_false hne]
        exact ⟨_, _, _, _, _, _, rfl, (h0.mono hle1), (h1.mono hle1), (h2.mono hle1), (h3.mono hle1), (h4.mono hle1), (h5.mono hle1)⟩
      · rw [hx]
        try simp only [go_sem, ↓reduceIte, Nat.reduceEqDiff, Nat.reduceAdd, Nat.reduceMul, Nat.reduceLeDiff, Nat.reduceLT, Nat.reduceBNe, reduceCtorEq, Int.reduceLE, Int.reduceLT, Int.reduceToNat, Int.cast_ofNat_Int, Int.reduceEq, Int.reduceNe]
        refine ⟨_, W.in64 (by omega), ?_⟩
        try simp only [go_sem, ↓reduceIte, Nat.reduceEqDiff, Nat.reduceAdd, Nat.reduceMul, Nat.reduceLeDiff, Nat.reduceLT, Nat.reduceBNe, reduceCtorEq, Int.reduceLE, Int.reduceLT, Int.reduceToNat, Int.cast_ofNat_Int, Int.reduceEq, Int.reduceNe]
        exact ⟨_, _, _, _, _, _, rfl, (h0.mono hle1), (h1.mono hle1), hd, (h3.mono hle1), (h4.mono hle1), (h5.mono hle1)⟩
    · have hrun : runW w o = stepW w 2 (dvAdd w.n2 (madeE o.ed)) := by
        unfold runW Opn.i
        rw [if_neg (by omega), if_neg (by omega), if_neg (by omega), hin]
        rfl
      rw [hrun]
      refine vcall (hE R) ?_
      rintro R1 v hle1 ⟨ea, en, ec, rfl, her⟩
      try simp only [go_sem, ↓reduceIte, Nat.reduceEqDiff, Nat.reduceAdd, Nat.reduceMul, Nat.reduceLeDiff, Nat.reduceLT, Nat.reduceBNe, reduceCtorEq, Int.reduceLE, Int.reduceLT, Int.reduceToNat, Int.cast_ofNat_Int, Int.reduceEq, Int.reduceNe]
      refine vcall (dAdd w.n2 _ (madeE o.ed) ea en ec R1 (h2.mono hle1) her) ?_
      intro R2 r hle2 hr
      have hle12 := RO.le_trans hle1 hle2
      rcases hr.shape with ⟨e, hx, rfl⟩ | ⟨d, da, dc, hx, rfl, hd⟩
      · have hne := dvAdd_err hx
        rw [hx]
        try simp only [go_sem, ↓reduceIte, Nat.reduceEqDiff, Nat.reduceAdd, Nat.reduceMul, Nat.reduceLeDiff, Nat.reduceLT, Nat.reduceBNe, reduceCtorEq, Int.reduceLE, Int.reduceLT, Int.reduceToNat, Int.cast_ofNat_Int, Int.reduceEq, Int.reduceNe, eq_false hne]
        exact ⟨_, _, _, _, _, _, rfl, (h0.mono hle12), (h1.mono hle12), (h2.mono hle12), (h3.mono hle12), (h4.mono hle12), (h5.mono hle12)⟩
      · rw [hx]
        try simp only [go_sem, ↓reduceIte, Nat.reduceEqDiff, Nat.reduceAdd, Nat.reduceMul, Nat.reduceLeDiff, Nat.reduceLT, Nat.reduceBNe, reduceCtorEq, Int.reduceLE, Int.reduceLT, Int.reduceToNat, Int.cast_ofNat_Int, Int.reduceEq, Int.reduceNe]
        exact ⟨_, _, _, _, _, _, rfl, (h0.mono hle12), (h1.mono hle12), hd, (h3.mono hle12), (h4.mono hle12), (h5.mono hle12)⟩
end Go.Proofs.YtojckjngjfgfdaaGreat
