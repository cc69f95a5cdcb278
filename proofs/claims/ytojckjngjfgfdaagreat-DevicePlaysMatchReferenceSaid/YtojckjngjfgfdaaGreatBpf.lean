/- Lemmas of our own, no statement of the seat; the last one of the claim's texts proves the law. -/
import Derived.Test.YtojckjngjfgfdaaGreatBpe
import Derived.Test.YtojckjngjfgfdaaGreatBpc
import Derived.Test.YtojckjngjfgfdaaGreatBpb
open Nat renaming reduceEqDiff → nQ1, reduceAdd → nQ2, reduceMul → nQ3, reduceLeDiff → nQ4, reduceLT → nQ5, reduceBNe → nQ6
open Int renaming reduceLE → iQ1, reduceLT → iQ2, reduceToNat → iQ3, cast_ofNat_Int → iQ4, reduceEq → iQ5, reduceNe → iQ6
namespace Go.Proofs.YtojckjngjfgfdaaGreat
set_option linter.unusedSimpArgs false
set_option linter.unusedVariables false
open Go.Proofs.YtojckjngjfgfdaaGreat.Vc
/-! ### Worlds -/
structure Wd where
 n0 : Dv
 n1 : Dv
 n2 : Dv
 c0 : Dv
 c1 : Dv
 c2 : Dv
 e0 : Int
 e1 : Int
 e2 : Int
 deriving DecidableEq
def Wd.now (w : Wd) : Nat → Dv
 | 0 => w.n0
 | 1 => w.n1
 | _ => w.n2
def Wd.copy (w : Wd) : Nat → Dv
 | 0 => w.c0
 | 1 => w.c1
 | _ => w.c2
def Wd.ep (w : Wd) : Nat → Int
 | 0 => w.e0
 | 1 => w.e1
 | _ => w.e2
def Wd.setNow (w : Wd) (d : Dv) : Nat → Wd
 | 0 => { w with n0 := d }
 | 1 => { w with n1 := d }
 | _ => { w with n2 := d }
def Wd.setCopy (w : Wd) (d : Dv) : Nat → Wd
 | 0 => { w with c0 := d }
 | 1 => { w with c1 := d }
 | _ => { w with c2 := d }
def Wd.setEp (w : Wd) (n : Int) : Nat → Wd
 | 0 => { w with e0 := n }
 | 1 => { w with e1 := n }
 | _ => { w with e2 := n }
structure Opn where
 kind : Int
 a : Int
 b : Int
 ed : Ed
def Opn.ok (o : Opn) : Prop := (0 ≤ o.kind ∧ o.kind ≤ 255) ∧ (0 ≤ o.a ∧ o.a ≤ 255) ∧ 0 ≤ o.b ∧ o.b ≤ 255
def Opn.cells (o : Opn) : List Value := [.int .u8 o.kind, .int .u8 o.a, .int .u8 o.b] ++ o.ed.cells
def Opn.i (o : Opn) : Nat := (o.a % 3).toNat
def Opn.k (o : Opn) : Nat := (o.b % 3).toNat
def stepW (w : Wd) (i : Nat) : Except Int Dv → Wd
 | .error _ => w
 | .ok d => w.setNow d i
def runW (w : Wd) (o : Opn) : Wd :=
 if o.kind % 6 = 3 then stepW w o.i (dvSync (w.now o.i) (w.now o.k))
 else if o.kind % 6 = 4 then w.setCopy (w.now o.i) o.i
 else if o.kind % 6 = 5 then match dvRestore (w.copy o.i) (w.ep o.i + 1) with
  | .error _ => w
  | .ok d => (w.setEp (w.ep o.i + 1) o.i).setNow d o.i
 else stepW w o.i (dvAdd (w.now o.i) (madeE o.ed))
def wdCells (w : Wd) (x0 x1 x2 y0 y1 y2 : Value) : List Value := [.int .i64 w.n0.id, .int .i64 w.n0.epoch, .int .i64 w.n0.next, x0, .int .i64 w.n1.id, .int .i64 w.n1.epoch, .int .i64 w.n1.next, x1, .int .i64 w.n2.id, .int .i64 w.n2.epoch, .int .i64 w.n2.next, x2,
 .int .i64 w.c0.id, .int .i64 w.c0.epoch, .int .i64 w.c0.next, y0, .int .i64 w.c1.id, .int .i64 w.c1.epoch, .int .i64 w.c1.next, y1, .int .i64 w.c2.id, .int .i64 w.c2.epoch, .int .i64 w.c2.next, y2, .int .i64 w.e0, .int .i64 w.e1, .int .i64 w.e2]
def WdV (R : RO) (r : Value) (w : Wd) : Prop := ∃ x0 x1 x2 y0 y1 y2, r = .agg (wdCells w x0 x1 x2 y0 y1 y2).toArray ∧ EdsV R x0 w.n0.edits ∧ EdsV R x1 w.n1.edits ∧ EdsV R x2 w.n2.edits ∧ EdsV R y0 w.c0.edits ∧ EdsV R y1 w.c1.edits ∧ EdsV R y2 w.c2.edits
def startW : Wd := ⟨⟨2, 0, 1, []⟩, ⟨5, 0, 1, []⟩, ⟨8, 0, 1, []⟩, ⟨2, 0, 1, []⟩, ⟨5, 0, 1, []⟩, ⟨8, 0, 1, []⟩, 0, 0, 0⟩
theorem eEdit (o : Opn) (R : RO) : CallsR Tryz.prog 75 [.agg o.cells.toArray] R fun R' v => ∃ ra rn rc, v = .agg (((madeE o.ed).ed ra rn rc).cells).toArray ∧ RuleV R' (.slice ra rn rc) (madeE o.ed).rule := by
 have hM := fun R' => eMadeEdit o.ed R'
 simp only [Opn.cells, Ed.cells, Ed.val, List.cons_append, List.nil_append] at hM ⊢
 refine callsT mix Tryz.func75 comp75 (by simp [Tryz.ntmps75]) ?_; simp only [go_sem, ↓reduceIte, nQ1, nQ2, nQ3, nQ4, nQ5, nQ6, reduceCtorEq, vc75, rs75]
 refine vcall (hM R) ?_
 rintro R1 v hle1 ⟨cs, rfl, hd⟩
 obtain ⟨ra, rn, rc, rfl, hr⟩ := hd.form
 simp only [Ed.cells, De.ed]
 try simp only [go_sem, ↓reduceIte, nQ1, nQ2, nQ3, nQ4, nQ5, nQ6, reduceCtorEq]
 exact ⟨ra, rn, rc, rfl, hr⟩
set_option maxHeartbeats 1000000 in
theorem eStart (R : RO) : CallsR Tryz.prog 35 [] R fun R' v => WdV R' v startW := by
 refine callsT mix Tryz.func35 comp35 (by simp [Tryz.ntmps35]) ?_; simp only [go_sem, ↓reduceIte, nQ1, nQ2, nQ3, nQ4, nQ5, nQ6, reduceCtorEq, vc35, rs35]
 refine vcLoop Nat (fun i => [(2, .val (.int .i64 i)), (0, .loc 0 0), (1, .loc 1 0)]) (fun i => [.box [.val (.int .i64 0), .val (.int .i64 0), .val (.int .i64 0), .val (.slice none 0 0), .val (.int .i64 0), .val (.int .i64 0), .val (.int .i64 0), .val (.slice none 0 0), .val (.int .i64 0), .val (.int .i64 0), .val (.int .i64 0), .val (.slice none 0 0), .val (.int .i64 0), .val (.int .i64 0), .val (.int .i64 0), .val (.slice none 0 0), .val (.int .i64 0), .val (.int .i64 0), .val (.int .i64 0), .val (.slice none 0 0), .val (.int .i64 0), .val (.int .i64 0), .val (.int .i64 0), .val (.slice none 0 0), .val (.int .i64 0), .val (.int .i64 0), .val (.int .i64 0)], .box [.val (.int .i64 (if 0 < i then 2 else 0)), .val (.int .i64 0), .val (.int .i64 (if 0 < i then 1 else 0)), .val (.slice none 0 0), .val (.int .i64 (if 1 < i then 5 else 0)), .val (.int .i64 0), .val (.int .i64 (if 1 < i then 1 else 0)), .val (.slice none 0 0), .val (.int .i64 (if 2 < i then 8 else 0)), .val (.int .i64 0), .val (.int .i64 (if 2 < i then 1 else 0)), .val (.slice none 0 0), .val (.int .i64 (if 0 < i then 2 else 0)), .val (.int .i64 0), .val (.int .i64 (if 0 < i then 1 else 0)), .val (.slice none 0 0), .val (.int .i64 (if 1 < i then 5 else 0)), .val (.int .i64 0), .val (.int .i64 (if 1 < i then 1 else 0)), .val (.slice none 0 0), .val (.int .i64 (if 2 < i then 8 else 0)), .val (.int .i64 0), .val (.int .i64 (if 2 < i then 1 else 0)), .val (.slice none 0 0), .val (.int .i64 0), .val (.int .i64 0), .val (.int .i64 0)]]) (fun i _ => i ≤ 3) (fun i => 3 - i) 0 ?_ ?_ ?_ ?_
 ·(try simp only [go_sem, ↓reduceIte, nQ1, nQ2, nQ3, nQ4, nQ5, nQ6, reduceCtorEq]) <;> (repeat' (first | rfl | trivial | constructor | (intro h; exact absurd rfl h)))
 ·try simp only [go_sem, ↓reduceIte, nQ1, nQ2, nQ3, nQ4, nQ5, nQ6, reduceCtorEq]
 ·exact Nat.zero_le _
 rintro i env R1 hle1 hE hi
 have hc : i = 0 ∨ i = 1 ∨ i = 2 ∨ i = 3 := by omega
 rcases hc with rfl | rfl | rfl | rfl
 ·simp only [go_sem] at hE
  obtain ⟨g2, g0, g1⟩ := hE
  rw [show ((0 : Nat) : Int) = 0 from rfl] at g2
  try simp only [go_sem, ↓reduceIte, nQ1, nQ2, nQ3, nQ4, nQ5, nQ6, reduceCtorEq, iQ1, iQ2, iQ3, iQ4, iQ5, iQ6, g2, g0, g1]
  refine ⟨_, W.in64 (by decide), _, W.in64 (by decide), _, W.in64 (by decide), 1, by decide, ?_, by decide⟩
  repeat' (first | rfl | constructor)
 ·simp only [go_sem] at hE
  obtain ⟨g2, g0, g1⟩ := hE
  rw [show ((1 : Nat) : Int) = 1 from rfl] at g2
  try simp only [go_sem, ↓reduceIte, nQ1, nQ2, nQ3, nQ4, nQ5, nQ6, reduceCtorEq, iQ1, iQ2, iQ3, iQ4, iQ5, iQ6, g2, g0, g1]
  refine ⟨_, W.in64 (by decide), _, W.in64 (by decide), _, W.in64 (by decide), 2, by decide, ?_, by decide⟩
  repeat' (first | rfl | constructor)
 ·simp only [go_sem] at hE
  obtain ⟨g2, g0, g1⟩ := hE
  rw [show ((2 : Nat) : Int) = 2 from rfl] at g2
  try simp only [go_sem, ↓reduceIte, nQ1, nQ2, nQ3, nQ4, nQ5, nQ6, reduceCtorEq, iQ1, iQ2, iQ3, iQ4, iQ5, iQ6, g2, g0, g1]
  refine ⟨_, W.in64 (by decide), _, W.in64 (by decide), _, W.in64 (by decide), 3, by decide, ?_, by decide⟩
  repeat' (first | rfl | constructor)
 ·simp only [go_sem] at hE
  obtain ⟨g2, g0, g1⟩ := hE
  rw [show ((3 : Nat) : Int) = 3 from rfl] at g2
  try simp only [go_sem, ↓reduceIte, nQ1, nQ2, nQ3, nQ4, nQ5, nQ6, reduceCtorEq, iQ1, iQ2, iQ3, iQ4, iQ5, iQ6, g2, g0, g1]
  exact ⟨_, _, _, _, _, _, rfl, EdsV.nil _, EdsV.nil _, EdsV.nil _, EdsV.nil _, EdsV.nil _, EdsV.nil _⟩
theorem rem3 {a : Int} (h : 0 ≤ a) : a.tmod 3 = 0 ∧ (a % 3).toNat = 0 ∨ a.tmod 3 = 1 ∧ (a % 3).toNat = 1 ∨ a.tmod 3 = 2 ∧ (a % 3).toNat = 2 := by
 have := tmod_nonneg' (b := 3) h
 omega
theorem DvR.shape {R : RO} {r : Value} {x : Except Int Dv} (h : DvR R r x) : (∃ k, x = .error k ∧ r = .tuple #[.agg #[.int .i64 0, .int .i64 0, .int .i64 0, .slice none 0 0], .int .i64 k]) ∨ ∃ d a c, x = .ok d ∧ r = .tuple #[.agg #[.int .i64 d.id, .int .i64 d.epoch, .int .i64 d.next, .slice a d.edits.length c], .int .i64 0] ∧ EdsV R (.slice a d.edits.length c) d.edits := by
 cases x with
 | error k => exact .inl ⟨k, rfl, h⟩
 | ok d =>
  obtain ⟨v, e, h⟩ := h
  obtain ⟨a, c, rfl, _⟩ := h.form
  exact .inr ⟨d, a, c, rfl, e, h⟩
theorem dvSync_err {d o : Dv} {k : Int} (h : dvSync d o = .error k) : k ≠ 0 := by
 unfold dvSync at h
 (repeat' split at h) <;> simp only [Except.error.injEq, reduceCtorEq] at h <;> omega
theorem dvAdd_err {d : Dv} {e : De} {k : Int} (h : dvAdd d e = .error k) : k ≠ 0 := by
 unfold dvAdd at h
 (repeat' split at h) <;> simp only [Except.error.injEq, reduceCtorEq] at h <;> omega
theorem dvRestore_err {d : Dv} {ep k : Int} (h : dvRestore d ep = .error k) : k ≠ 0 := by
 unfold dvRestore at h
 (repeat' split at h) <;> simp only [Except.error.injEq, reduceCtorEq] at h <;> omega
set_option maxHeartbeats 8000000 in
theorem eRun (w : Wd) (o : Opn) (wv : Value) (R : RO) (h : WdV R wv w) (ho : o.ok) (hep : ∀ i, 0 ≤ w.ep i ∧ w.ep i ≤ 1000000) : CallsR Tryz.prog 36 [wv, .agg o.cells.toArray] R fun R' r => WdV R' r (runW w o) := by
 obtain ⟨x0, x1, x2, y0, y1, y2, rfl, h0, h1, h2, h3, h4, h5⟩ := h
 have hE := fun R' => eEdit o R'
 obtain ⟨xa0, xc0, rfl, _⟩ := h0.form
 obtain ⟨xa1, xc1, rfl, _⟩ := h1.form
 obtain ⟨xa2, xc2, rfl, _⟩ := h2.form
 obtain ⟨ya0, yc0, rfl, _⟩ := h3.form
 obtain ⟨ya1, yc1, rfl, _⟩ := h4.form
 obtain ⟨ya2, yc2, rfl, _⟩ := h5.form
 obtain ⟨hok1, hok2, hok3⟩ := ho
 simp only [wdCells, Opn.cells, Ed.cells, List.cons_append, List.nil_append] at hE ⊢
 refine callsT mix Tryz.func36 comp36 (by simp [Tryz.ntmps36]) ?_; simp only [vc36, rs36]
 (refine cutR ?_ ?_ ?_; rotate_left; (try simp only [go_sem, ↓reduceIte, nQ1, nQ2, nQ3, nQ4, nQ5, nQ6, reduceCtorEq, true_and]; rfl))
 have hkm : o.kind.tmod 6 = o.kind % 6 := tmod_nonneg' hok1.1
 have hbm : 0 ≤ o.b.tmod 3 ∧ o.b.tmod 3 < 3 := by have := tmod_nonneg' (b := 3) hok3.1; omega
 rcases rem3 hok2.1 with ⟨hi, hin⟩ | ⟨hi, hin⟩ | ⟨hi, hin⟩
 ·rw [tCode_seq]
  try simp only [go_sem, ↓reduceIte, nQ1, nQ2, nQ3, nQ4, nQ5, nQ6, reduceCtorEq, iQ1, iQ2, iQ3, iQ4, iQ5, iQ6, hi]
  refine ⟨0, W.in64 (by decide), _, W.in64 (by omega), ?_⟩
  try simp only [go_sem, ↓reduceIte, nQ1, nQ2, nQ3, nQ4, nQ5, nQ6, reduceCtorEq, iQ1, iQ2, iQ3, iQ4, iQ5, iQ6]
  rw [hkm]
  refine ⟨fun k3 => ?_, fun k3 => ⟨fun k4 => ?_, fun k4 => ⟨fun k5 => ?_, fun k5 => ?_⟩⟩⟩
  ·rcases rem3 hok3.1 with ⟨hk, hkn⟩ | ⟨hk, hkn⟩ | ⟨hk, hkn⟩
   ·rw [hk]
    try simp only [go_sem, ↓reduceIte, nQ1, nQ2, nQ3, nQ4, nQ5, nQ6, reduceCtorEq, iQ1, iQ2, iQ3, iQ4, iQ5, iQ6]
    refine vcall (dSync w.n0 w.n0 _ _ R h0 h0) ?_
    intro R1 r hle1 hr
    have hrun : runW w o = stepW w 0 (dvSync w.n0 w.n0) := by
     unfold runW Opn.i Opn.k
     rw [if_pos (by omega), hin, hkn]
     rfl
    rw [hrun]
    rcases hr.shape with ⟨e, hx, rfl⟩ | ⟨d, da, dc, hx, rfl, hd⟩
    ·have hne := dvSync_err hx
     rw [hx]
     try simp only [go_sem, ↓reduceIte, nQ1, nQ2, nQ3, nQ4, nQ5, nQ6, reduceCtorEq, iQ1, iQ2, iQ3, iQ4, iQ5, iQ6, eq_false hne]
     exact ⟨_, _, _, _, _, _, rfl, (h0.mono hle1), (h1.mono hle1), (h2.mono hle1), (h3.mono hle1), (h4.mono hle1), (h5.mono hle1)⟩
    ·rw [hx]
     try simp only [go_sem, ↓reduceIte, nQ1, nQ2, nQ3, nQ4, nQ5, nQ6, reduceCtorEq, iQ1, iQ2, iQ3, iQ4, iQ5, iQ6]
     exact ⟨_, _, _, _, _, _, rfl, hd, (h1.mono hle1), (h2.mono hle1), (h3.mono hle1), (h4.mono hle1), (h5.mono hle1)⟩
   ·rw [hk]
    try simp only [go_sem, ↓reduceIte, nQ1, nQ2, nQ3, nQ4, nQ5, nQ6, reduceCtorEq, iQ1, iQ2, iQ3, iQ4, iQ5, iQ6]
    refine vcall (dSync w.n0 w.n1 _ _ R h0 h1) ?_
    intro R1 r hle1 hr
    have hrun : runW w o = stepW w 0 (dvSync w.n0 w.n1) := by
     unfold runW Opn.i Opn.k
     rw [if_pos (by omega), hin, hkn]
     rfl
    rw [hrun]
    rcases hr.shape with ⟨e, hx, rfl⟩ | ⟨d, da, dc, hx, rfl, hd⟩
    ·have hne := dvSync_err hx
     rw [hx]
     try simp only [go_sem, ↓reduceIte, nQ1, nQ2, nQ3, nQ4, nQ5, nQ6, reduceCtorEq, iQ1, iQ2, iQ3, iQ4, iQ5, iQ6, eq_false hne]
     exact ⟨_, _, _, _, _, _, rfl, (h0.mono hle1), (h1.mono hle1), (h2.mono hle1), (h3.mono hle1), (h4.mono hle1), (h5.mono hle1)⟩
    ·rw [hx]
     try simp only [go_sem, ↓reduceIte, nQ1, nQ2, nQ3, nQ4, nQ5, nQ6, reduceCtorEq, iQ1, iQ2, iQ3, iQ4, iQ5, iQ6]
     exact ⟨_, _, _, _, _, _, rfl, hd, (h1.mono hle1), (h2.mono hle1), (h3.mono hle1), (h4.mono hle1), (h5.mono hle1)⟩
   ·rw [hk]
    try simp only [go_sem, ↓reduceIte, nQ1, nQ2, nQ3, nQ4, nQ5, nQ6, reduceCtorEq, iQ1, iQ2, iQ3, iQ4, iQ5, iQ6]
    refine vcall (dSync w.n0 w.n2 _ _ R h0 h2) ?_
    intro R1 r hle1 hr
    have hrun : runW w o = stepW w 0 (dvSync w.n0 w.n2) := by
     unfold runW Opn.i Opn.k
     rw [if_pos (by omega), hin, hkn]
     rfl
    rw [hrun]
    rcases hr.shape with ⟨e, hx, rfl⟩ | ⟨d, da, dc, hx, rfl, hd⟩
    ·have hne := dvSync_err hx
     rw [hx]
     try simp only [go_sem, ↓reduceIte, nQ1, nQ2, nQ3, nQ4, nQ5, nQ6, reduceCtorEq, iQ1, iQ2, iQ3, iQ4, iQ5, iQ6, eq_false hne]
     exact ⟨_, _, _, _, _, _, rfl, (h0.mono hle1), (h1.mono hle1), (h2.mono hle1), (h3.mono hle1), (h4.mono hle1), (h5.mono hle1)⟩
    ·rw [hx]
     try simp only [go_sem, ↓reduceIte, nQ1, nQ2, nQ3, nQ4, nQ5, nQ6, reduceCtorEq, iQ1, iQ2, iQ3, iQ4, iQ5, iQ6]
     exact ⟨_, _, _, _, _, _, rfl, hd, (h1.mono hle1), (h2.mono hle1), (h3.mono hle1), (h4.mono hle1), (h5.mono hle1)⟩
  ·have hrun : runW w o = w.setCopy w.n0 0 := by
    unfold runW Opn.i
    rw [if_neg (by omega), if_pos (by omega), hin]
    rfl
   rw [hrun]
   exact ⟨_, _, _, _, _, _, rfl, (h0), (h1), (h2), h0, (h4), (h5)⟩
  ·have hrun : runW w o = match dvRestore w.c0 (w.e0 + 1) with
     | .error _ => w
     | .ok d => (w.setEp (w.e0 + 1) 0).setNow d 0 := by
    unfold runW Opn.i
    rw [if_neg (by omega), if_neg (by omega), if_pos (by omega), hin]
    rfl
   rw [hrun]
   have hepi : 0 ≤ w.e0 ∧ w.e0 ≤ 1000000 := hep 0
   refine ⟨_, W.in64 (by omega), ?_⟩
   try simp only [go_sem, ↓reduceIte, nQ1, nQ2, nQ3, nQ4, nQ5, nQ6, reduceCtorEq, iQ1, iQ2, iQ3, iQ4, iQ5, iQ6]
   refine vcall (dRestore w.c0 _ (w.e0 + 1) R h3) ?_
   intro R1 r hle1 hr
   rcases hr.shape with ⟨e, hx, rfl⟩ | ⟨d, da, dc, hx, rfl, hd⟩
   ·have hne := dvRestore_err hx
    rw [hx]
    try simp only [go_sem, ↓reduceIte, nQ1, nQ2, nQ3, nQ4, nQ5, nQ6, reduceCtorEq, iQ1, iQ2, iQ3, iQ4, iQ5, iQ6, eq_false hne]
    exact ⟨_, _, _, _, _, _, rfl, (h0.mono hle1), (h1.mono hle1), (h2.mono hle1), (h3.mono hle1), (h4.mono hle1), (h5.mono hle1)⟩
   ·rw [hx]
    try simp only [go_sem, ↓reduceIte, nQ1, nQ2, nQ3, nQ4, nQ5, nQ6, reduceCtorEq, iQ1, iQ2, iQ3, iQ4, iQ5, iQ6]
    refine ⟨_, W.in64 (by omega), ?_⟩
    try simp only [go_sem, ↓reduceIte, nQ1, nQ2, nQ3, nQ4, nQ5, nQ6, reduceCtorEq, iQ1, iQ2, iQ3, iQ4, iQ5, iQ6]
    exact ⟨_, _, _, _, _, _, rfl, hd, (h1.mono hle1), (h2.mono hle1), (h3.mono hle1), (h4.mono hle1), (h5.mono hle1)⟩
  ·have hrun : runW w o = stepW w 0 (dvAdd w.n0 (madeE o.ed)) := by
    unfold runW Opn.i
    rw [if_neg (by omega), if_neg (by omega), if_neg (by omega), hin]
    rfl
   rw [hrun]
   refine vcall (hE R) ?_
   rintro R1 v hle1 ⟨ea, en, ec, rfl, her⟩
   try simp only [go_sem, ↓reduceIte, nQ1, nQ2, nQ3, nQ4, nQ5, nQ6, reduceCtorEq, iQ1, iQ2, iQ3, iQ4, iQ5, iQ6]
   refine vcall (dAdd w.n0 _ (madeE o.ed) ea en ec R1 (h0.mono hle1) her) ?_
   intro R2 r hle2 hr
   have hle12 := RO.le_trans hle1 hle2
   rcases hr.shape with ⟨e, hx, rfl⟩ | ⟨d, da, dc, hx, rfl, hd⟩
   ·have hne := dvAdd_err hx
    rw [hx]
    try simp only [go_sem, ↓reduceIte, nQ1, nQ2, nQ3, nQ4, nQ5, nQ6, reduceCtorEq, iQ1, iQ2, iQ3, iQ4, iQ5, iQ6, eq_false hne]
    exact ⟨_, _, _, _, _, _, rfl, (h0.mono hle12), (h1.mono hle12), (h2.mono hle12), (h3.mono hle12), (h4.mono hle12), (h5.mono hle12)⟩
   ·rw [hx]
    try simp only [go_sem, ↓reduceIte, nQ1, nQ2, nQ3, nQ4, nQ5, nQ6, reduceCtorEq, iQ1, iQ2, iQ3, iQ4, iQ5, iQ6]
    exact ⟨_, _, _, _, _, _, rfl, hd, (h1.mono hle12), (h2.mono hle12), (h3.mono hle12), (h4.mono hle12), (h5.mono hle12)⟩
 ·rw [tCode_seq]
  try simp only [go_sem, ↓reduceIte, nQ1, nQ2, nQ3, nQ4, nQ5, nQ6, reduceCtorEq, iQ1, iQ2, iQ3, iQ4, iQ5, iQ6, hi]
  refine ⟨1, W.in64 (by decide), _, W.in64 (by omega), ?_⟩
  try simp only [go_sem, ↓reduceIte, nQ1, nQ2, nQ3, nQ4, nQ5, nQ6, reduceCtorEq, iQ1, iQ2, iQ3, iQ4, iQ5, iQ6]
  rw [hkm]
  refine ⟨fun k3 => ?_, fun k3 => ⟨fun k4 => ?_, fun k4 => ⟨fun k5 => ?_, fun k5 => ?_⟩⟩⟩
  ·rcases rem3 hok3.1 with ⟨hk, hkn⟩ | ⟨hk, hkn⟩ | ⟨hk, hkn⟩
   ·rw [hk]
    try simp only [go_sem, ↓reduceIte, nQ1, nQ2, nQ3, nQ4, nQ5, nQ6, reduceCtorEq, iQ1, iQ2, iQ3, iQ4, iQ5, iQ6]
    refine vcall (dSync w.n1 w.n0 _ _ R h1 h0) ?_
    intro R1 r hle1 hr
    have hrun : runW w o = stepW w 1 (dvSync w.n1 w.n0) := by
     unfold runW Opn.i Opn.k
     rw [if_pos (by omega), hin, hkn]
     rfl
    rw [hrun]
    rcases hr.shape with ⟨e, hx, rfl⟩ | ⟨d, da, dc, hx, rfl, hd⟩
    ·have hne := dvSync_err hx
     rw [hx]
     try simp only [go_sem, ↓reduceIte, nQ1, nQ2, nQ3, nQ4, nQ5, nQ6, reduceCtorEq, iQ1, iQ2, iQ3, iQ4, iQ5, iQ6, eq_false hne]
     exact ⟨_, _, _, _, _, _, rfl, (h0.mono hle1), (h1.mono hle1), (h2.mono hle1), (h3.mono hle1), (h4.mono hle1), (h5.mono hle1)⟩
    ·rw [hx]
     try simp only [go_sem, ↓reduceIte, nQ1, nQ2, nQ3, nQ4, nQ5, nQ6, reduceCtorEq, iQ1, iQ2, iQ3, iQ4, iQ5, iQ6]
     exact ⟨_, _, _, _, _, _, rfl, (h0.mono hle1), hd, (h2.mono hle1), (h3.mono hle1), (h4.mono hle1), (h5.mono hle1)⟩
   ·rw [hk]
    try simp only [go_sem, ↓reduceIte, nQ1, nQ2, nQ3, nQ4, nQ5, nQ6, reduceCtorEq, iQ1, iQ2, iQ3, iQ4, iQ5, iQ6]
    refine vcall (dSync w.n1 w.n1 _ _ R h1 h1) ?_
    intro R1 r hle1 hr
    have hrun : runW w o = stepW w 1 (dvSync w.n1 w.n1) := by
     unfold runW Opn.i Opn.k
     rw [if_pos (by omega), hin, hkn]
     rfl
    rw [hrun]
    rcases hr.shape with ⟨e, hx, rfl⟩ | ⟨d, da, dc, hx, rfl, hd⟩
    ·have hne := dvSync_err hx
     rw [hx]
     try simp only [go_sem, ↓reduceIte, nQ1, nQ2, nQ3, nQ4, nQ5, nQ6, reduceCtorEq, iQ1, iQ2, iQ3, iQ4, iQ5, iQ6, eq_false hne]
     exact ⟨_, _, _, _, _, _, rfl, (h0.mono hle1), (h1.mono hle1), (h2.mono hle1), (h3.mono hle1), (h4.mono hle1), (h5.mono hle1)⟩
    ·rw [hx]
     try simp only [go_sem, ↓reduceIte, nQ1, nQ2, nQ3, nQ4, nQ5, nQ6, reduceCtorEq, iQ1, iQ2, iQ3, iQ4, iQ5, iQ6]
     exact ⟨_, _, _, _, _, _, rfl, (h0.mono hle1), hd, (h2.mono hle1), (h3.mono hle1), (h4.mono hle1), (h5.mono hle1)⟩
   ·rw [hk]
    try simp only [go_sem, ↓reduceIte, nQ1, nQ2, nQ3, nQ4, nQ5, nQ6, reduceCtorEq, iQ1, iQ2, iQ3, iQ4, iQ5, iQ6]
    refine vcall (dSync w.n1 w.n2 _ _ R h1 h2) ?_
    intro R1 r hle1 hr
    have hrun : runW w o = stepW w 1 (dvSync w.n1 w.n2) := by
     unfold runW Opn.i Opn.k
     rw [if_pos (by omega), hin, hkn]
     rfl
    rw [hrun]
    rcases hr.shape with ⟨e, hx, rfl⟩ | ⟨d, da, dc, hx, rfl, hd⟩
    ·have hne := dvSync_err hx
     rw [hx]
     try simp only [go_sem, ↓reduceIte, nQ1, nQ2, nQ3, nQ4, nQ5, nQ6, reduceCtorEq, iQ1, iQ2, iQ3, iQ4, iQ5, iQ6, eq_false hne]
     exact ⟨_, _, _, _, _, _, rfl, (h0.mono hle1), (h1.mono hle1), (h2.mono hle1), (h3.mono hle1), (h4.mono hle1), (h5.mono hle1)⟩
    ·rw [hx]
     try simp only [go_sem, ↓reduceIte, nQ1, nQ2, nQ3, nQ4, nQ5, nQ6, reduceCtorEq, iQ1, iQ2, iQ3, iQ4, iQ5, iQ6]
     exact ⟨_, _, _, _, _, _, rfl, (h0.mono hle1), hd, (h2.mono hle1), (h3.mono hle1), (h4.mono hle1), (h5.mono hle1)⟩
  ·have hrun : runW w o = w.setCopy w.n1 1 := by
    unfold runW Opn.i
    rw [if_neg (by omega), if_pos (by omega), hin]
    rfl
   rw [hrun]
   exact ⟨_, _, _, _, _, _, rfl, (h0), (h1), (h2), (h3), h1, (h5)⟩
  ·have hrun : runW w o = match dvRestore w.c1 (w.e1 + 1) with
     | .error _ => w
     | .ok d => (w.setEp (w.e1 + 1) 1).setNow d 1 := by
    unfold runW Opn.i
    rw [if_neg (by omega), if_neg (by omega), if_pos (by omega), hin]
    rfl
   rw [hrun]
   have hepi : 0 ≤ w.e1 ∧ w.e1 ≤ 1000000 := hep 1
   refine ⟨_, W.in64 (by omega), ?_⟩
   try simp only [go_sem, ↓reduceIte, nQ1, nQ2, nQ3, nQ4, nQ5, nQ6, reduceCtorEq, iQ1, iQ2, iQ3, iQ4, iQ5, iQ6]
   refine vcall (dRestore w.c1 _ (w.e1 + 1) R h4) ?_
   intro R1 r hle1 hr
   rcases hr.shape with ⟨e, hx, rfl⟩ | ⟨d, da, dc, hx, rfl, hd⟩
   ·have hne := dvRestore_err hx
    rw [hx]
    try simp only [go_sem, ↓reduceIte, nQ1, nQ2, nQ3, nQ4, nQ5, nQ6, reduceCtorEq, iQ1, iQ2, iQ3, iQ4, iQ5, iQ6, eq_false hne]
    exact ⟨_, _, _, _, _, _, rfl, (h0.mono hle1), (h1.mono hle1), (h2.mono hle1), (h3.mono hle1), (h4.mono hle1), (h5.mono hle1)⟩
   ·rw [hx]
    try simp only [go_sem, ↓reduceIte, nQ1, nQ2, nQ3, nQ4, nQ5, nQ6, reduceCtorEq, iQ1, iQ2, iQ3, iQ4, iQ5, iQ6]
    refine ⟨_, W.in64 (by omega), ?_⟩
    try simp only [go_sem, ↓reduceIte, nQ1, nQ2, nQ3, nQ4, nQ5, nQ6, reduceCtorEq, iQ1, iQ2, iQ3, iQ4, iQ5, iQ6]
    exact ⟨_, _, _, _, _, _, rfl, (h0.mono hle1), hd, (h2.mono hle1), (h3.mono hle1), (h4.mono hle1), (h5.mono hle1)⟩
  ·have hrun : runW w o = stepW w 1 (dvAdd w.n1 (madeE o.ed)) := by
    unfold runW Opn.i
    rw [if_neg (by omega), if_neg (by omega), if_neg (by omega), hin]
    rfl
   rw [hrun]
   refine vcall (hE R) ?_
   rintro R1 v hle1 ⟨ea, en, ec, rfl, her⟩
   try simp only [go_sem, ↓reduceIte, nQ1, nQ2, nQ3, nQ4, nQ5, nQ6, reduceCtorEq, iQ1, iQ2, iQ3, iQ4, iQ5, iQ6]
   refine vcall (dAdd w.n1 _ (madeE o.ed) ea en ec R1 (h1.mono hle1) her) ?_
   intro R2 r hle2 hr
   have hle12 := RO.le_trans hle1 hle2
   rcases hr.shape with ⟨e, hx, rfl⟩ | ⟨d, da, dc, hx, rfl, hd⟩
   ·have hne := dvAdd_err hx
    rw [hx]
    try simp only [go_sem, ↓reduceIte, nQ1, nQ2, nQ3, nQ4, nQ5, nQ6, reduceCtorEq, iQ1, iQ2, iQ3, iQ4, iQ5, iQ6, eq_false hne]
    exact ⟨_, _, _, _, _, _, rfl, (h0.mono hle12), (h1.mono hle12), (h2.mono hle12), (h3.mono hle12), (h4.mono hle12), (h5.mono hle12)⟩
   ·rw [hx]
    try simp only [go_sem, ↓reduceIte, nQ1, nQ2, nQ3, nQ4, nQ5, nQ6, reduceCtorEq, iQ1, iQ2, iQ3, iQ4, iQ5, iQ6]
    exact ⟨_, _, _, _, _, _, rfl, (h0.mono hle12), hd, (h2.mono hle12), (h3.mono hle12), (h4.mono hle12), (h5.mono hle12)⟩
 ·rw [tCode_seq]
  try simp only [go_sem, ↓reduceIte, nQ1, nQ2, nQ3, nQ4, nQ5, nQ6, reduceCtorEq, iQ1, iQ2, iQ3, iQ4, iQ5, iQ6, hi]
  refine ⟨2, W.in64 (by decide), _, W.in64 (by omega), ?_⟩
  try simp only [go_sem, ↓reduceIte, nQ1, nQ2, nQ3, nQ4, nQ5, nQ6, reduceCtorEq, iQ1, iQ2, iQ3, iQ4, iQ5, iQ6]
  rw [hkm]
  refine ⟨fun k3 => ?_, fun k3 => ⟨fun k4 => ?_, fun k4 => ⟨fun k5 => ?_, fun k5 => ?_⟩⟩⟩
  ·rcases rem3 hok3.1 with ⟨hk, hkn⟩ | ⟨hk, hkn⟩ | ⟨hk, hkn⟩
   ·rw [hk]
    try simp only [go_sem, ↓reduceIte, nQ1, nQ2, nQ3, nQ4, nQ5, nQ6, reduceCtorEq, iQ1, iQ2, iQ3, iQ4, iQ5, iQ6]
    refine vcall (dSync w.n2 w.n0 _ _ R h2 h0) ?_
    intro R1 r hle1 hr
    have hrun : runW w o = stepW w 2 (dvSync w.n2 w.n0) := by
     unfold runW Opn.i Opn.k
     rw [if_pos (by omega), hin, hkn]
     rfl
    rw [hrun]
    rcases hr.shape with ⟨e, hx, rfl⟩ | ⟨d, da, dc, hx, rfl, hd⟩
    ·have hne := dvSync_err hx
     rw [hx]
     try simp only [go_sem, ↓reduceIte, nQ1, nQ2, nQ3, nQ4, nQ5, nQ6, reduceCtorEq, iQ1, iQ2, iQ3, iQ4, iQ5, iQ6, eq_false hne]
     exact ⟨_, _, _, _, _, _, rfl, (h0.mono hle1), (h1.mono hle1), (h2.mono hle1), (h3.mono hle1), (h4.mono hle1), (h5.mono hle1)⟩
    ·rw [hx]
     try simp only [go_sem, ↓reduceIte, nQ1, nQ2, nQ3, nQ4, nQ5, nQ6, reduceCtorEq, iQ1, iQ2, iQ3, iQ4, iQ5, iQ6]
     exact ⟨_, _, _, _, _, _, rfl, (h0.mono hle1), (h1.mono hle1), hd, (h3.mono hle1), (h4.mono hle1), (h5.mono hle1)⟩
   ·rw [hk]
    try simp only [go_sem, ↓reduceIte, nQ1, nQ2, nQ3, nQ4, nQ5, nQ6, reduceCtorEq, iQ1, iQ2, iQ3, iQ4, iQ5, iQ6]
    refine vcall (dSync w.n2 w.n1 _ _ R h2 h1) ?_
    intro R1 r hle1 hr
    have hrun : runW w o = stepW w 2 (dvSync w.n2 w.n1) := by
     unfold runW Opn.i Opn.k
     rw [if_pos (by omega), hin, hkn]
     rfl
    rw [hrun]
    rcases hr.shape with ⟨e, hx, rfl⟩ | ⟨d, da, dc, hx, rfl, hd⟩
    ·have hne := dvSync_err hx
     rw [hx]
     try simp only [go_sem, ↓reduceIte, nQ1, nQ2, nQ3, nQ4, nQ5, nQ6, reduceCtorEq, iQ1, iQ2, iQ3, iQ4, iQ5, iQ6, eq_false hne]
     exact ⟨_, _, _, _, _, _, rfl, (h0.mono hle1), (h1.mono hle1), (h2.mono hle1), (h3.mono hle1), (h4.mono hle1), (h5.mono hle1)⟩
    ·rw [hx]
     try simp only [go_sem, ↓reduceIte, nQ1, nQ2, nQ3, nQ4, nQ5, nQ6, reduceCtorEq, iQ1, iQ2, iQ3, iQ4, iQ5, iQ6]
     exact ⟨_, _, _, _, _, _, rfl, (h0.mono hle1), (h1.mono hle1), hd, (h3.mono hle1), (h4.mono hle1), (h5.mono hle1)⟩
   ·rw [hk]
    try simp only [go_sem, ↓reduceIte, nQ1, nQ2, nQ3, nQ4, nQ5, nQ6, reduceCtorEq, iQ1, iQ2, iQ3, iQ4, iQ5, iQ6]
    refine vcall (dSync w.n2 w.n2 _ _ R h2 h2) ?_
    intro R1 r hle1 hr
    have hrun : runW w o = stepW w 2 (dvSync w.n2 w.n2) := by
     unfold runW Opn.i Opn.k
     rw [if_pos (by omega), hin, hkn]
     rfl
    rw [hrun]
    rcases hr.shape with ⟨e, hx, rfl⟩ | ⟨d, da, dc, hx, rfl, hd⟩
    ·have hne := dvSync_err hx
     rw [hx]
     try simp only [go_sem, ↓reduceIte, nQ1, nQ2, nQ3, nQ4, nQ5, nQ6, reduceCtorEq, iQ1, iQ2, iQ3, iQ4, iQ5, iQ6, eq_false hne]
     exact ⟨_, _, _, _, _, _, rfl, (h0.mono hle1), (h1.mono hle1), (h2.mono hle1), (h3.mono hle1), (h4.mono hle1), (h5.mono hle1)⟩
    ·rw [hx]
     try simp only [go_sem, ↓reduceIte, nQ1, nQ2, nQ3, nQ4, nQ5, nQ6, reduceCtorEq, iQ1, iQ2, iQ3, iQ4, iQ5, iQ6]
     exact ⟨_, _, _, _, _, _, rfl, (h0.mono hle1), (h1.mono hle1), hd, (h3.mono hle1), (h4.mono hle1), (h5.mono hle1)⟩
  ·have hrun : runW w o = w.setCopy w.n2 2 := by
    unfold runW Opn.i
    rw [if_neg (by omega), if_pos (by omega), hin]
    rfl
   rw [hrun]
   exact ⟨_, _, _, _, _, _, rfl, (h0), (h1), (h2), (h3), (h4), h2⟩
  ·have hrun : runW w o = match dvRestore w.c2 (w.e2 + 1) with
     | .error _ => w
     | .ok d => (w.setEp (w.e2 + 1) 2).setNow d 2 := by
    unfold runW Opn.i
    rw [if_neg (by omega), if_neg (by omega), if_pos (by omega), hin]
    rfl
   rw [hrun]
   have hepi : 0 ≤ w.e2 ∧ w.e2 ≤ 1000000 := hep 2
   refine ⟨_, W.in64 (by omega), ?_⟩
   try simp only [go_sem, ↓reduceIte, nQ1, nQ2, nQ3, nQ4, nQ5, nQ6, reduceCtorEq, iQ1, iQ2, iQ3, iQ4, iQ5, iQ6]
   refine vcall (dRestore w.c2 _ (w.e2 + 1) R h5) ?_
   intro R1 r hle1 hr
   rcases hr.shape with ⟨e, hx, rfl⟩ | ⟨d, da, dc, hx, rfl, hd⟩
   ·have hne := dvRestore_err hx
    rw [hx]
    try simp only [go_sem, ↓reduceIte, nQ1, nQ2, nQ3, nQ4, nQ5, nQ6, reduceCtorEq, iQ1, iQ2, iQ3, iQ4, iQ5, iQ6, eq_false hne]
    exact ⟨_, _, _, _, _, _, rfl, (h0.mono hle1), (h1.mono hle1), (h2.mono hle1), (h3.mono hle1), (h4.mono hle1), (h5.mono hle1)⟩
   ·rw [hx]
    try simp only [go_sem, ↓reduceIte, nQ1, nQ2, nQ3, nQ4, nQ5, nQ6, reduceCtorEq, iQ1, iQ2, iQ3, iQ4, iQ5, iQ6]
    refine ⟨_, W.in64 (by omega), ?_⟩
    try simp only [go_sem, ↓reduceIte, nQ1, nQ2, nQ3, nQ4, nQ5, nQ6, reduceCtorEq, iQ1, iQ2, iQ3, iQ4, iQ5, iQ6]
    exact ⟨_, _, _, _, _, _, rfl, (h0.mono hle1), (h1.mono hle1), hd, (h3.mono hle1), (h4.mono hle1), (h5.mono hle1)⟩
  ·have hrun : runW w o = stepW w 2 (dvAdd w.n2 (madeE o.ed)) := by
    unfold runW Opn.i
    rw [if_neg (by omega), if_neg (by omega), if_neg (by omega), hin]
    rfl
   rw [hrun]
   refine vcall (hE R) ?_
   rintro R1 v hle1 ⟨ea, en, ec, rfl, her⟩
   try simp only [go_sem, ↓reduceIte, nQ1, nQ2, nQ3, nQ4, nQ5, nQ6, reduceCtorEq, iQ1, iQ2, iQ3, iQ4, iQ5, iQ6]
   refine vcall (dAdd w.n2 _ (madeE o.ed) ea en ec R1 (h2.mono hle1) her) ?_
   intro R2 r hle2 hr
   have hle12 := RO.le_trans hle1 hle2
   rcases hr.shape with ⟨e, hx, rfl⟩ | ⟨d, da, dc, hx, rfl, hd⟩
   ·have hne := dvAdd_err hx
    rw [hx]
    try simp only [go_sem, ↓reduceIte, nQ1, nQ2, nQ3, nQ4, nQ5, nQ6, reduceCtorEq, iQ1, iQ2, iQ3, iQ4, iQ5, iQ6, eq_false hne]
    exact ⟨_, _, _, _, _, _, rfl, (h0.mono hle12), (h1.mono hle12), (h2.mono hle12), (h3.mono hle12), (h4.mono hle12), (h5.mono hle12)⟩
   ·rw [hx]
    try simp only [go_sem, ↓reduceIte, nQ1, nQ2, nQ3, nQ4, nQ5, nQ6, reduceCtorEq, iQ1, iQ2, iQ3, iQ4, iQ5, iQ6]
    exact ⟨_, _, _, _, _, _, rfl, (h0.mono hle12), (h1.mono hle12), hd, (h3.mono hle12), (h4.mono hle12), (h5.mono hle12)⟩
end Go.Proofs.YtojckjngjfgfdaaGreat
namespace Go.Proofs.YtojckjngjfgfdaaGreat
set_option linter.unusedSimpArgs false
set_option linter.unusedVariables false
open Go.Proofs.YtojckjngjfgfdaaGreat.Vc
def EdC (R : RO) (v : Value) (es : List Ed) : Prop := SlK R v 13 (es.map Ed.cells)
theorem EdC.mono {R R' : RO} {v : Value} {es : List Ed} (h : EdC R v es) (hle : RO.le R R') : EdC R' v es := SlK.mono h hle
theorem EdC.form {R : RO} {v : Value} {es : List Ed} (h : EdC R v es) : ∃ a cap, v = .slice a es.length cap ∧ es.length ≤ cap ∧ ∀ i (hi : i < es.length), ∃ ad, a = some ad ∧ ∀ j u, ((es[i]).cells)[j]? = some u → R ((ad.add (i * 13)).add j) u := by
 obtain ⟨a, cap, rfl, hc, hf⟩ := SlK.form h
 rw [List.length_map] at hc
 refine ⟨a, cap, by rw [List.length_map], hc, fun i hi => ?_⟩
 obtain ⟨_, ad, ha, hR⟩ := hf i (by rw [List.length_map]; exact hi)
 rw [List.getElem_map] at hR
 exact ⟨ad, ha, hR⟩
end Go.Proofs.YtojckjngjfgfdaaGreat
namespace Go.Proofs.YtojckjngjfgfdaaGreat
set_option linter.unusedSimpArgs false
set_option linter.unusedVariables false
open Go.Proofs.YtojckjngjfgfdaaGreat.Vc
theorem PartsV.form {R : RO} {v : Value} {ps : List Pa} (h : PartsV R v ps) : ∃ a cap, v = .slice a ps.length cap ∧ ps.length ≤ cap ∧ ∀ i (hi : i < ps.length), ∃ ad ra rn rc ma mc, a = some ad ∧
  (∀ j u, (paCells (ps[i]).day ⟨.slice ra rn rc, (ps[i]).ti.minute, (ps[i]).ti.length, (ps[i]).ti.zone, (ps[i]).ti.gap, (ps[i]).ti.fold, .slice ma (ps[i]).moves.length mc⟩)[j]? = some u → R ((ad.add (i * 8)).add j) u) ∧ RuleV R (.slice ra rn rc) (ps[i]).ti.rule ∧ EncV Mv.cells 5 R (.slice ma (ps[i]).moves.length mc) (ps[i]).moves := by
 obtain ⟨cs, h1, h2, h3, h4⟩ := h
 obtain ⟨a, cap, rfl, hc, hf⟩ := SlK.form h1
 refine ⟨a, cap, by rw [h2], by omega, fun i hi => ?_⟩
 obtain ⟨_, ad, ha, hR⟩ := hf i (by omega)
 obtain ⟨rv, mv, e, g1, g2⟩ := h3 i _ _ (List.getElem?_eq_getElem (by omega)) (List.getElem?_eq_getElem hi)
 obtain ⟨ra, rn, rc, rfl⟩ := g1.form
 obtain ⟨ma, mc, rfl, _⟩ := g2.form
 rw [e] at hR
 exact ⟨ad, ra, rn, rc, ma, mc, ha, hR, g1, g2⟩
theorem addr_add (a : Addr) (i j k : Nat) (h : j + k = i) : (a.add j).add k = a.add i := by rw [add_add, h]
theorem eSameParts (xs ys : List Pa) (v u : Value) (R : RO) (h : PartsV R v xs) (k : PartsV R u ys) : CallsR Tryz.prog 33 [v, u] R fun _ r => r = .bool (decide (xs = ys)) := by
 have hxl : xs.length ≤ 1000000000 := by obtain ⟨_, _, _, _, h⟩ := h; exact h
 obtain ⟨a, cap, rfl, hc, hf⟩ := h.form
 obtain ⟨b, cap', rfl, hc', hf'⟩ := k.form
 refine callsT mix Tryz.func33 comp33 (by simp [Tryz.ntmps33]) ?_; simp only [go_sem, ↓reduceIte, nQ1, nQ2, nQ3, nQ4, nQ5, nQ6, reduceCtorEq, vc33, rs33]
 refine ⟨fun hne => ?_, fun he => ?_⟩
 ·rw [decide_eq_false]; rintro rfl; exact hne rfl
 have he' : xs.length = ys.length := by omega
 refine vcLoop Nat (fun i => [(5, .val (.int .i64 i)), (0, .val (.slice a xs.length cap)), (1, .val (.slice b ys.length cap'))]) (fun _ => []) (fun i _ => i ≤ xs.length ∧ xs.take i = ys.take i) (fun i => xs.length - i) 0 ?_ rfl ?_ ?_
 ·(try simp only [go_sem, ↓reduceIte, nQ1, nQ2, nQ3, nQ4, nQ5, nQ6, reduceCtorEq]) <;> (repeat' (first | rfl | trivial | constructor | (intro h; exact absurd rfl h)))
 ·exact ⟨Nat.zero_le _, rfl⟩
 rintro i env R1 hle hE ⟨hi, hp⟩
 (simp only [go_sem] at hE; obtain ⟨e5, e0, e1⟩ := hE; simp only [go_sem, ↓reduceIte, nQ1, nQ2, nQ3, nQ4, nQ5, nQ6, reduceCtorEq, e5, e0, e1]; dsimp only at *)
 refine ⟨fun hlt => ⟨hlt, ?_⟩, fun hge => ?_⟩
 ·have hlt' : i < xs.length := by omega
  obtain ⟨ad, ra, rn, rc, ma, mc, had, hR, hr, hm⟩ := hf i hlt'
  obtain ⟨ad', ra', rn', rc', ma', mc', had', hR', hr', hm'⟩ := hf' i (by omega)
  obtain ⟨x, hxe⟩ : ∃ x, x = xs[i] := ⟨_, rfl⟩
  obtain ⟨y, hye⟩ : ∃ y, y = ys[i] := ⟨_, rfl⟩
  rw [← hxe] at hR hr hm
  rw [← hye] at hR' hr' hm'
  have hT := eSameTimes ⟨.slice ra rn rc, x.ti.minute, x.ti.length, x.ti.zone, x.ti.gap, x.ti.fold, .slice ma x.moves.length mc⟩ ⟨.slice ra' rn' rc', y.ti.minute, y.ti.length, y.ti.zone, y.ti.gap, y.ti.fold, .slice ma' y.moves.length mc'⟩ x.ti.rule y.ti.rule R1 (hr.mono hle) (hr'.mono hle)
  have hM := fun R2 hle2 => eSameMoves x.moves y.moves _ _ R2 ((hm.mono hle).mono hle2) ((hm'.mono hle).mono hle2)
  refine vat ad had ?_
  try simp only [go_sem, ↓reduceIte, nQ1, nQ2, nQ3, nQ4, nQ5, nQ6, reduceCtorEq]
  refine vloadn (Se.cells ⟨.slice ra rn rc, x.ti.minute, x.ti.length, x.ti.zone, x.ti.gap, x.ti.fold, .slice ma x.moves.length mc⟩) rfl (fun j u hj => by show R1 (((ad.add (i * 8)).add 1).add j) u; rw [addr_add _ (1 + j) 1 j rfl]; exact hle _ _ (hR (1 + j) u (by rw [Nat.add_comm]; exact hj))) ?_
  simp only [go_sem, ↓reduceIte, nQ1, nQ2, nQ3, nQ4, nQ5, nQ6, reduceCtorEq, e5, e0, e1]
  refine ⟨by omega, vat ad' had' ?_⟩
  try simp only [go_sem, ↓reduceIte, nQ1, nQ2, nQ3, nQ4, nQ5, nQ6, reduceCtorEq]
  refine vloadn (Se.cells ⟨.slice ra' rn' rc', y.ti.minute, y.ti.length, y.ti.zone, y.ti.gap, y.ti.fold, .slice ma' y.moves.length mc'⟩) rfl (fun j u hj => by show R1 (((ad'.add (i * 8)).add 1).add j) u; rw [addr_add _ (1 + j) 1 j rfl]; exact hle _ _ (hR' (1 + j) u (by rw [Nat.add_comm]; exact hj))) ?_
  simp only [go_sem, ↓reduceIte, nQ1, nQ2, nQ3, nQ4, nQ5, nQ6, reduceCtorEq, e5, e0, e1]
  refine vcall hT ?_
  rintro R2 w h2 rfl
  simp only [go_sem, ↓reduceIte, nQ1, nQ2, nQ3, nQ4, nQ5, nQ6, reduceCtorEq, e5, e0, e1]
  refine ⟨by omega, vat ad had ?_⟩
  try simp only [go_sem, ↓reduceIte, nQ1, nQ2, nQ3, nQ4, nQ5, nQ6, reduceCtorEq]
  refine vload (.slice ma x.moves.length mc) (h2 _ _ (hle _ _ (hR 7 _ rfl))) ?_
  simp only [go_sem, ↓reduceIte, nQ1, nQ2, nQ3, nQ4, nQ5, nQ6, reduceCtorEq, e5, e0, e1]
  refine ⟨by omega, vat ad' had' ?_⟩
  try simp only [go_sem, ↓reduceIte, nQ1, nQ2, nQ3, nQ4, nQ5, nQ6, reduceCtorEq]
  refine vload (.slice ma' y.moves.length mc') (h2 _ _ (hle _ _ (hR' 7 _ rfl))) ?_
  simp only [go_sem, ↓reduceIte, nQ1, nQ2, nQ3, nQ4, nQ5, nQ6, reduceCtorEq, e5, e0, e1]
  refine vcall (hM R2 h2) ?_
  rintro R3 w h3 rfl
  have hxy : x = y ↔ x.day = y.day ∧ x.ti = y.ti ∧ x.moves = y.moves := by
   obtain ⟨_, _, _⟩ := x
   obtain ⟨_, _, _⟩ := y
   simp
  have hne : ¬ x = y → decide (xs = ys) = false := fun h => by
   rw [decide_eq_false]; rintro rfl; exact h (by rw [hxe, hye])
  have hti : (Se.ti ⟨.slice ra rn rc, x.ti.minute, x.ti.length, x.ti.zone, x.ti.gap, x.ti.fold, .slice ma x.moves.length mc⟩ x.ti.rule = Se.ti ⟨.slice ra' rn' rc', y.ti.minute, y.ti.length, y.ti.zone, y.ti.gap, y.ti.fold, .slice ma' y.moves.length mc'⟩ y.ti.rule) = (x.ti = y.ti) := rfl
  simp only [hti]
  simp only [go_sem, ↓reduceIte, nQ1, nQ2, nQ3, nQ4, nQ5, nQ6, reduceCtorEq, e5, e0, e1]
  refine ⟨fun h4 => ⟨fun h5 => ?_, fun h5 => ?_⟩, fun h4 => ?_⟩
  ·refine ⟨by omega, vat ad had ?_⟩
   try simp only [go_sem, ↓reduceIte, nQ1, nQ2, nQ3, nQ4, nQ5, nQ6, reduceCtorEq]
   refine vload (.int .i64 x.day) (h3 _ _ (h2 _ _ (hle _ _ (hR 0 _ rfl)))) ?_
   simp only [go_sem, ↓reduceIte, nQ1, nQ2, nQ3, nQ4, nQ5, nQ6, reduceCtorEq, e5, e0, e1]
   refine ⟨by omega, vat ad' had' ?_⟩
   try simp only [go_sem, ↓reduceIte, nQ1, nQ2, nQ3, nQ4, nQ5, nQ6, reduceCtorEq]
   refine vload (.int .i64 y.day) (h3 _ _ (h2 _ _ (hle _ _ (hR' 0 _ rfl)))) ?_
   simp only [go_sem, ↓reduceIte, nQ1, nQ2, nQ3, nQ4, nQ5, nQ6, reduceCtorEq, e5, e0, e1]
   refine ⟨fun h6 => ?_, fun h6 => ?_⟩
   ·rw [hne (fun e => h6 (hxy.1 e).1)]
   ·refine ⟨_, W.in64 (by omega), i + 1, by omega, by constructor, by omega, ?_⟩
    rw [List.take_succ_eq_append_getElem (by omega : i < xs.length), List.take_succ_eq_append_getElem (by omega : i < ys.length), hp, ← hxe, ← hye, hxy.2 ⟨h6, h4, h5⟩]
  ·rw [hne (fun e => h5 (hxy.1 e).2.2)]
  ·rw [hne (fun e => h4 (hxy.1 e).2.1)]
 ·obtain rfl : i = xs.length := by omega
  rw [List.take_length, he', List.take_length] at hp
  simp [hp]
end Go.Proofs.YtojckjngjfgfdaaGreat
namespace Go.Proofs.YtojckjngjfgfdaaGreat
set_option linter.unusedSimpArgs false
set_option linter.unusedVariables false
open Go.Proofs.YtojckjngjfgfdaaGreat.Vc
def ed0 (e : Ed) : Ed := ⟨0, e.day, 0, 0, e.mv, 0, 0, none, 0, 0, ⟨#[]⟩⟩
def mvOf (e : Ed) : Mv := (madeE (ed0 e)).mv
def isOn (day : Int) (e : Ed) : Bool := decide (e.day % 10 = day)
def mvOn (es : List Ed) (day : Nat) : Option Mv := ((es.take 4).find? (isOn day)).map mvOf
def movesOf (es : List Ed) : List Mv := (List.range 10).filterMap (mvOn es)
theorem mvOf_day (e : Ed) : (mvOf e).day = e.day % 10 := by
 unfold mvOf madeE ed0
 simp only [Int.zero_emod, Int.add_zero, if_true]
 split <;> rfl
theorem madeE_day0 (e : Ed) : (madeE (ed0 e)).day = e.day % 10 := by
 unfold madeE ed0; simp
theorem mvOn_day {es : List Ed} {day : Nat} {m : Mv} (h : mvOn es day = some m) : m.day = day := by
 unfold mvOn at h
 obtain ⟨e, he, rfl⟩ := Option.map_eq_some_iff.1 h
 have := List.find?_some he
 rw [mvOf_day]
 simpa [isOn] using this
theorem range_moves_day (es : List Ed) (n : Nat) : ∀ m ∈ (List.range n).filterMap (mvOn es), m.day < n := by
 intro m hm
 obtain ⟨day, hd, hm'⟩ := List.mem_filterMap.1 hm
 rw [mvOn_day hm']
 have := List.mem_range.1 hd
 omega
theorem eMadeSeries (minute : Int) (es : List Ed) (v : Value) (R : RO) (h : EdC R v es) (hl : es.length ≤ 1099511627776) : CallsR Tryz.prog 29 [.int .i64 minute, v] R fun R' u =>
  ∃ rv mv, u = .agg (Se.cells ⟨rv, minute % 3, 1, zA, 0, 0, mv⟩).toArray ∧ RuleV R' rv (ruleN minute) ∧ EncV Mv.cells 5 R' mv (movesOf es) := by
 obtain ⟨a, cap, rfl, hc, hf⟩ := h.form
 refine callsT mix Tryz.func29 comp29 (by simp [Tryz.ntmps29]) ?_; simp only [go_sem, ↓reduceIte, nQ1, nQ2, nQ3, nQ4, nQ5, nQ6, reduceCtorEq, vc29, rs29]
 refine vcall (eRule minute R) ?_
 intro R1 rv hle1 hrv
 obtain ⟨ra, rn, rc, rfl⟩ := hrv.form
 try simp only [go_sem, ↓reduceIte, nQ1, nQ2, nQ3, nQ4, nQ5, nQ6, reduceCtorEq, iQ1, iQ2, iQ3, iQ4, iQ5, iQ6]
 refine vcall (eIndex minute 3 (by omega) R1) ?_
 rintro R2 v hle2 rfl
 try simp only [go_sem, ↓reduceIte, nQ1, nQ2, nQ3, nQ4, nQ5, nQ6, reduceCtorEq, iQ1, iQ2, iQ3, iQ4, iQ5, iQ6]
 refine vcLoopR (Nat × List Mv) (fun x => [(6, .val (.int .i64 x.1)), (4, .loc 0 0), (5, .loc 1 0), (1, .val (.slice a es.length cap))])
  (fun x => [.box [.val (.slice none 0 0), .val (.int .i64 0), .val (.int .i64 0), .val (.string ⟨#[]⟩), .val (.int .i64 0), .val (.int .i64 0), .val (.slice none 0 0)], .box [.val (.slice ra rn rc), .val (.int .i64 (minute % 3)), .val (.int .i64 1), .val (.string zA), .val (.int .i64 0), .val (.int .i64 0), gs 2 x.2.length], gb 27 5 (rowM x.2)])
  (fun x R => x.1 ≤ 10 ∧ x.2 = (List.range x.1).filterMap (mvOn es) ∧ x.2.length ≤ x.1) (fun x => 10 - x.1) (0, []) [] ?_ ?_ ?_ ?_
 ·(try simp only [go_sem, ↓reduceIte, nQ1, nQ2, nQ3, nQ4, nQ5, nQ6, reduceCtorEq]) <;> (repeat' (first | rfl | trivial | constructor | (intro h; exact absurd rfl h)))
 ·try simp only [go_sem, ↓reduceIte, nQ1, nQ2, nQ3, nQ4, nQ5, nQ6, reduceCtorEq]
 ·exact ⟨Nat.zero_le _, rfl, Nat.le_refl _⟩
 rintro ⟨day, ms⟩ env R3 hle3 hE ⟨hd10, hms, hml⟩
 (simp only [go_sem] at hE; obtain ⟨e6, e4, e5, e1⟩ := hE; simp only [go_sem, ↓reduceIte, nQ1, nQ2, nQ3, nQ4, nQ5, nQ6, reduceCtorEq, e6, e4, e5, e1]; dsimp only at *)
 refine ⟨fun hlt => ?_, fun hge => ?_⟩
 ·refine vcLoopR (Nat × List Mv) (fun x => [(7, .val (.int .i64 x.1)), (6, .val (.int .i64 day)), (4, .loc 0 0), (5, .loc 1 0), (1, .val (.slice a es.length cap))])
   (fun x => [.box [.val (.slice none 0 0), .val (.int .i64 0), .val (.int .i64 0), .val (.string ⟨#[]⟩), .val (.int .i64 0), .val (.int .i64 0), .val (.slice none 0 0)], .box [.val (.slice ra rn rc), .val (.int .i64 (minute % 3)), .val (.int .i64 1), .val (.string zA), .val (.int .i64 0), .val (.int .i64 0), gs 2 x.2.length], gb 27 5 (rowM x.2)])
   (fun x R => x.1 ≤ 4 ∧ x.1 ≤ es.length ∧ x.2 = ms ++ (((es.take x.1).find? (isOn day)).map mvOf).toList) (fun x => 4 - x.1) (0, ms) [] ?_ ?_ ?_ ?_
  ·(try simp only [go_sem, ↓reduceIte, nQ1, nQ2, nQ3, nQ4, nQ5, nQ6, reduceCtorEq]) <;> (repeat' (first | rfl | trivial | constructor | (intro h; exact absurd rfl h)))
   exact fun h => gb_ne h
  ·try simp only [go_sem, ↓reduceIte, nQ1, nQ2, nQ3, nQ4, nQ5, nQ6, reduceCtorEq]
  ·exact ⟨Nat.zero_le _, Nat.zero_le _, by simp⟩
  rintro ⟨i, qs⟩ env R4 hle4 hE ⟨hi4, hil, hqs⟩
  (simp only [go_sem] at hE; obtain ⟨e7, e6', e4', e5', e1'⟩ := hE; simp only [go_sem, ↓reduceIte, nQ1, nQ2, nQ3, nQ4, nQ5, nQ6, reduceCtorEq, e7, e6', e4', e5', e1']; dsimp only at *)
  have hdm := range_moves_day es day
  rw [← hms] at hdm
  have hql : qs.length ≤ ms.length + 1 := by
   rw [hqs, List.length_append]
   cases (es.take i).find? (isOn day) <;> simp
  have hend : ¬ (i < es.length ∧ i < 4) → qs = (List.range (day + 1)).filterMap (mvOn es) := fun hn => by
   have : es.take 4 = es.take i := by
    by_cases h12 : i = 4
    ·rw [h12]
    ·rw [List.take_of_length_le (by omega), List.take_of_length_le (by omega)]
   rw [hqs, List.range_succ, List.filterMap_append, ← hms]
   congr 1
   unfold mvOn
   rw [this, List.filterMap_cons, List.filterMap_nil]
   cases (es.take i).find? (isOn day) <;> rfl
  refine ⟨fun hlt2 => ⟨fun hlt3 => ?_, fun hge3 => ?_⟩, fun hge2 => ?_⟩
  ·have hlt' : i < es.length := by omega
   obtain ⟨ad, had, hR⟩ := hf i hlt'
   obtain ⟨e, he⟩ : ∃ e, e = es[i] := ⟨_, rfl⟩
   rw [← he] at hR
   have hRR : ∀ j u, e.cells[j]? = some u → R4 ((ad.add (i * 13)).add j) u := fun j u hj => hle4 _ _ (hle3 _ _ (hle2 _ _ (hle1 _ _ (hR j u hj))))
   have hfs : (es.take (i + 1)).find? (isOn day) = ((es.take i).find? (isOn day)).or (if isOn day e = true then some e else none) := by
    rw [List.take_succ_eq_append_getElem hlt', List.find?_append, ← he, List.find?_cons, List.find?_nil]
    cases isOn day e <;> rfl
   refine ⟨by omega, vat ad had ?_⟩
   try simp only [go_sem, ↓reduceIte, nQ1, nQ2, nQ3, nQ4, nQ5, nQ6, reduceCtorEq]
   refine vload _ (hRR 1 _ rfl) ?_
   simp only [go_sem, ↓reduceIte, nQ1, nQ2, nQ3, nQ4, nQ5, nQ6, reduceCtorEq, e7, e6', e4', e5', e1']
   refine ⟨by omega, vat ad had ?_⟩
   try simp only [go_sem, ↓reduceIte, nQ1, nQ2, nQ3, nQ4, nQ5, nQ6, reduceCtorEq]
   refine vloadn e.mv.cells rfl (fun j u hj => ?_) ?_
   ·show R4 (((ad.add (i * 13)).add 4).add j) u
    rw [addr_add _ (4 + j) 4 j rfl]
    refine hRR (4 + j) u ?_
    have hj5 : j < 5 := (List.getElem?_eq_some_iff.1 hj).1
    match j, hj5 with
    | 0, _ => exact hj
    | 1, _ => exact hj
    | 2, _ => exact hj
    | 3, _ => exact hj
    | 4, _ => exact hj
   simp only [go_sem, ↓reduceIte, nQ1, nQ2, nQ3, nQ4, nQ5, nQ6, reduceCtorEq, Mv.cells, e7, e6', e4', e5', e1']
   refine vcall (eMadeEdit (ed0 e) R4) ?_
   rintro R5 u hle5 ⟨cs, rfl, hd⟩
   obtain ⟨da, dn, dc, rfl, _⟩ := hd.form
   have hdd := madeE_day0 e
   have hdm2 : (madeE (ed0 e)).mv = mvOf e := rfl
   simp only [go_sem, ↓reduceIte, nQ1, nQ2, nQ3, nQ4, nQ5, nQ6, reduceCtorEq, Ed.cells, De.ed, hdd, hdm2, e7, e6', e4', e5', e1']
   have hskip : (((es.take (i + 1)).find? (isOn day)) = ((es.take i).find? (isOn day))) → qs = ms ++ (((es.take (i + 1)).find? (isOn day)).map mvOf).toList := fun h => by rw [h]; exact hqs
   refine ⟨fun hday => ⟨fun hz => ?_, fun hz => ?_⟩, fun hday => ?_⟩
   ·have hz' : qs.length ≠ 0 := by omega
    have hne : qs ≠ [] := fun e => hz' (by rw [e]; rfl)
    obtain ⟨q0, lst, hq0⟩ : ∃ q0 lst, qs = q0 ++ [lst] := by
     rcases List.eq_nil_or_concat qs with h | ⟨q0, l, h⟩
     ·exact absurd h hne
     ·exact ⟨q0, l, by rw [h, List.concat_eq_append]⟩
    have hq0l : qs.length = q0.length + 1 := by rw [hq0]; simp
    have hgb : gb 27 5 (rowM qs) = .row 27 5 (rowM qs) := gb_ne (fun e => hz' (by have := rowM_len qs; rw [e] at this; simp at this; omega))
    have hidx : ((qs.length : Int) - 1).toNat = q0.length := by omega
    have hcell : (rowM qs)[q0.length * 5]? = some (.int .i64 lst.day) := by
     rw [hq0, rowM_snoc, List.getElem?_append_right (by rw [rowM_len]; omega), rowM_len, Nat.sub_self]
     rfl
    refine ⟨_, W.in64 (by omega), ?_⟩
    rw [gs_pos hz', hgb]
    try simp only [go_sem, ↓reduceIte, nQ1, nQ2, nQ3, nQ4, nQ5, nQ6, reduceCtorEq]
    rw [hidx]
    refine ⟨by omega, by omega, ?_⟩
    try simp only [go_sem, ↓reduceIte, nQ1, nQ2, nQ3, nQ4, nQ5, nQ6, reduceCtorEq]
    refine ⟨_, hcell, ?_⟩
    simp only [go_sem, ↓reduceIte, nQ1, nQ2, nQ3, nQ4, nQ5, nQ6, reduceCtorEq, e7, e6', e4', e5', e1']
    refine ⟨fun hl2 => ?_, fun hl2 => ?_⟩
    ·have hnf : (es.take i).find? (isOn day) = none := by
      cases hq : (es.take i).find? (isOn day) with
      | none => rfl
      | some x =>
       exfalso
       have hx := List.find?_some hq
       rw [hq] at hqs
       simp only [Option.map_some, Option.toList_some] at hqs
       have h1 : lst = mvOf x := by
        have h2 := hq0.symm.trans hqs
        have := List.append_inj_right' h2 rfl
        simpa using this
       rw [h1, mvOf_day] at hl2
       have : x.day % 10 = day := by simpa [isOn] using hx
       omega
     refine ⟨by rw [rowM_len]; omega, fun u hu => ?_, ?_⟩
     ·unfold rowM at hu
      obtain ⟨c, hc', hu'⟩ := List.mem_flatten.1 hu
      obtain ⟨m, _, rfl⟩ := List.mem_map.1 hc'
      exact mvcells_one m u hu'
     rw [show qs.length * 5 = (rowM qs).length from (rowM_len qs).symm, List.take_length]
     refine vappO [] rfl rfl (by omega) ?_
     simp only [go_sem, ↓reduceIte, nQ1, nQ2, nQ3, nQ4, nQ5, nQ6, reduceCtorEq, e7, e6', e4', e5', e1']
     refine vappO (rowM qs) rfl (by rw [rowM_len]) (by omega) ?_
     simp only [go_sem, ↓reduceIte, nQ1, nQ2, nQ3, nQ4, nQ5, nQ6, reduceCtorEq, e7, e6', e4', e5', e1']
     refine ⟨_, W.in64 (by omega), (i + 1, qs ++ [mvOf e]), [0, 1, 7], ?_⟩
     try simp only [go_sem, ↓reduceIte, nQ1, nQ2, nQ3, nQ4, nQ5, nQ6, reduceCtorEq]
     have hon : isOn day e = true := by simp [isOn, hday]
     rw [hnf] at hqs hfs
     refine ⟨by omega, ⟨rfl, fun _ => by rw [rowM_snoc]; rfl⟩, by decide, by omega, by omega, ?_⟩
     rw [hfs, hon, hqs]
     simp
    ·have hsf : ∃ x, (es.take i).find? (isOn day) = some x := by
      cases hq : (es.take i).find? (isOn day) with
      | some x => exact ⟨x, rfl⟩
      | none =>
       exfalso
       rw [hq] at hqs
       simp only [Option.map_none, Option.toList_none, List.append_nil] at hqs
       exact hl2 (hdm lst (by rw [← hqs, hq0]; simp))
     obtain ⟨x, hx⟩ := hsf
     refine ⟨_, W.in64 (by omega), (i + 1, qs), [], ?_⟩
     try simp only [go_sem, ↓reduceIte, nQ1, nQ2, nQ3, nQ4, nQ5, nQ6, reduceCtorEq]
     exact ⟨by omega, ⟨rfl, (gs_pos hz').symm⟩, by decide, by omega, by omega, hskip (by rw [hfs, hx]; rfl)⟩
   ·have hqe : qs = [] := List.eq_nil_of_length_eq_zero (by omega)
    subst hqe
    try simp only [go_sem, ↓reduceIte, nQ1, nQ2, nQ3, nQ4, nQ5, nQ6, reduceCtorEq, iQ1, iQ2, iQ3, iQ4, iQ5, iQ6]
    refine vsrc [] (by simp) (by simp) (by simp) ?_
    try simp only [go_sem, ↓reduceIte, nQ1, nQ2, nQ3, nQ4, nQ5, nQ6, reduceCtorEq]
    have hnf : (es.take i).find? (isOn day) = none := by
     cases hq : (es.take i).find? (isOn day) with
     | none => rfl
     | some x => rw [hq] at hqs; simp at hqs
    rw [hnf] at hqs
    have hms0 : ms = [] := by simpa using hqs.symm
    refine vappO [] rfl rfl (by omega) ?_
    simp only [go_sem, ↓reduceIte, nQ1, nQ2, nQ3, nQ4, nQ5, nQ6, reduceCtorEq, e7, e6', e4', e5', e1']
    refine vappO [] rfl rfl (by omega) ?_
    simp only [go_sem, ↓reduceIte, nQ1, nQ2, nQ3, nQ4, nQ5, nQ6, reduceCtorEq, e7, e6', e4', e5', e1']
    refine ⟨_, W.in64 (by omega), (i + 1, [mvOf e]), [0, 1, 7], ?_⟩
    try simp only [go_sem, ↓reduceIte, nQ1, nQ2, nQ3, nQ4, nQ5, nQ6, reduceCtorEq]
    have hon : isOn day e = true := by simp [isOn, hday]
    refine ⟨by omega, ⟨rfl, fun _ => rfl⟩, by decide, by omega, by omega, ?_⟩
    rw [hfs, hnf, hon, hms0]
    simp
   ·refine ⟨_, W.in64 (by omega), (i + 1, qs), [], ?_⟩
    try simp only [go_sem, ↓reduceIte, nQ1, nQ2, nQ3, nQ4, nQ5, nQ6, reduceCtorEq]
    have hno : isOn day e = false := by simp [isOn, hday]
    exact ⟨by omega, ⟨rfl, fun h => gb_ne h⟩, by decide, by omega, by omega, hskip (by rw [hfs, hno]; simp)⟩
  ·refine ⟨_, W.in64 (by omega), (day + 1, qs), [], ?_⟩
   try simp only [go_sem, ↓reduceIte, nQ1, nQ2, nQ3, nQ4, nQ5, nQ6, reduceCtorEq]
   exact ⟨by omega, ⟨rfl, fun h => gb_ne h⟩, by decide, by omega, by rw [← List.range_succ]; exact hend (by omega), by omega⟩
  ·refine ⟨_, W.in64 (by omega), (day + 1, qs), [], ?_⟩
   try simp only [go_sem, ↓reduceIte, nQ1, nQ2, nQ3, nQ4, nQ5, nQ6, reduceCtorEq]
   exact ⟨by omega, ⟨rfl, fun h => gb_ne h⟩, by decide, by omega, by rw [← List.range_succ]; exact hend (by omega), by omega⟩
 ·obtain rfl : day = 10 := by omega
  by_cases h0 : ms.length = 0
  ·rw [h0]
   try simp only [go_sem, ↓reduceIte, nQ1, nQ2, nQ3, nQ4, nQ5, nQ6, reduceCtorEq, e6, e4, e5, e1]
   refine ⟨_, _, rfl, hrv.mono (RO.le_trans hle2 hle3), ?_⟩
   have : movesOf es = ms := hms.symm
   rw [this, List.eq_nil_of_length_eq_zero h0]
   exact EncV.nil _ _ _
  ·rw [gs_pos h0]
   try simp only [go_sem, ↓reduceIte, nQ1, nQ2, nQ3, nQ4, nQ5, nQ6, reduceCtorEq]
   rw [gb_ne (fun e => h0 (by have := rowM_len ms; rw [e] at this; simp at this; omega))]
   try simp only [go_sem, ↓reduceIte, nQ1, nQ2, nQ3, nQ4, nQ5, nQ6, reduceCtorEq, e6, e4, e5, e1]
   intro b cap' R4 hle4 hrow hcap hfr
   refine ⟨_, _, rfl, hrv.mono (RO.le_trans hle2 (RO.le_trans hle3 hle4)), ?_⟩
   have : movesOf es = ms := hms.symm
   rw [this]
   exact RowIn.enc (fun _ => rfl) (by omega) hrow hcap (by omega)
end Go.Proofs.YtojckjngjfgfdaaGreat
namespace Go.Proofs.YtojckjngjfgfdaaGreat
set_option linter.unusedSimpArgs false
set_option linter.unusedVariables false
open Go.Proofs.YtojckjngjfgfdaaGreat.Vc
theorem overD_iff (a b : De) : overD a b = true ↔
  (a.kind = 1 ∧ b.kind = 1 ∧ lessD a b = true ∧ a.day = b.day) ∨ ((a.kind = 1 ∧ b.kind = 3 ∨ a.kind = 2 ∧ b.kind = 2 ∨ a.kind = 3 ∧ b.kind = 3) ∧ lessD a b = true ∧ b.day ≤ a.day) ∨
  (a.kind = 4 ∧ b.kind = 4 ∧ lessD a b = true) ∨ ((a.kind = 1 ∨ a.kind = 2 ∨ a.kind = 3) ∧ b.kind = 5 ∧ b.day ≤ a.day) ∨ (a.kind = 5 ∧ b.kind = 5 ∧ (b.day < a.day ∨ b.day = a.day ∧ lessD a b = true)) := by
 have e : overD a b = (if a.kind = 1 ∧ b.kind = 1 then lessD a b && decide (a.day = b.day)
  else if a.kind = 1 ∧ b.kind = 3 ∨ a.kind = 2 ∧ b.kind = 2 ∨ a.kind = 3 ∧ b.kind = 3 then lessD a b && decide (b.day ≤ a.day)
  else if a.kind = 4 ∧ b.kind = 4 then lessD a b
  else if a.kind = 1 ∧ b.kind = 5 ∨ a.kind = 2 ∧ b.kind = 5 ∨ a.kind = 3 ∧ b.kind = 5 then decide (b.day ≤ a.day)
  else if a.kind = 5 ∧ b.kind = 5 then decide (b.day < a.day) || decide (b.day = a.day) && lessD a b
  else false) := rfl
 rw [e]
 generalize lessD a b = l
 constructor
 ·intro h
  repeat' (split at h)
  all_goals (cases l <;> simp at h ⊢ <;> omega)
 ·intro h
  repeat' split
  all_goals (cases l <;> simp at h ⊢ <;> omega)
theorem overD_irrefl (a : De) : overD a a = false := by
 cases h : overD a a with
 | false => rfl
 | true => rw [overD_iff, lessD_irrefl] at h; simp at h; omega
theorem overD_trans {a b c : De} (h : overD a b = true) (k : overD b c = true) : overD a c = true := by
 rw [overD_iff] at *
 have ht : lessD a b = true → lessD b c = true → lessD a c = true := fun h k => lessD_trans h k
 rcases h with ⟨h1, h2, h3, h4⟩ | ⟨h1, h3, h4⟩ | ⟨h1, h2, h3⟩ | ⟨h1, h2, h4⟩ | ⟨h1, h2, h4⟩ <;> rcases k with ⟨k1, k2, k3, k4⟩ | ⟨k1, k3, k4⟩ | ⟨k1, k2, k3⟩ | ⟨k1, k2, k4⟩ | ⟨k1, k2, k4⟩
 ·exact .inl ⟨h1, k2, ht h3 k3, by omega⟩
 ·exact .inr (.inl ⟨by omega, ht h3 k3, by omega⟩)
 ·exfalso; omega
 ·exact .inr (.inr (.inr (.inl ⟨.inl h1, k2, by omega⟩)))
 ·exfalso; omega
 ·exfalso; omega
 ·exact .inr (.inl ⟨by omega, ht h3 k3, by omega⟩)
 ·exfalso; omega
 ·exact .inr (.inr (.inr (.inl ⟨by omega, k2, by omega⟩)))
 ·exfalso; omega
 ·exfalso; omega
 ·exfalso; omega
 ·exact .inr (.inr (.inl ⟨h1, k2, ht h3 k3⟩))
 ·exfalso; omega
 ·exfalso; omega
 ·exfalso; omega
 ·exfalso; omega
 ·exfalso; omega
 ·exfalso; omega
 ·exact .inr (.inr (.inr (.inl ⟨h1, k2, by omega⟩)))
 ·exfalso; omega
 ·exfalso; omega
 ·exfalso; omega
 ·exfalso; omega
 ·refine .inr (.inr (.inr (.inr ⟨h1, k2, ?_⟩)))
  rcases h4 with h4 | ⟨h4, h5⟩
  ·exact .inl (by omega)
  ·rcases k4 with k4 | ⟨k4, k5⟩
   ·exact .inl (by omega)
   ·exact .inr ⟨by omega, ht h5 k5⟩
/-! ### What is made is consistent -/
theorem madeE_valid (e : Ed) : validD (madeE e) = true := by
 have h1 := Int.emod_nonneg e.kind (show (5 : Int) ≠ 0 by omega)
 have h2 := Int.emod_lt_of_pos e.kind (show (0 : Int) < 5 by omega)
 have a1 := Int.emod_nonneg e.day (show (10 : Int) ≠ 0 by omega)
 have a2 := Int.emod_lt_of_pos e.day (show (0 : Int) < 10 by omega)
 have b1 := Int.emod_nonneg e.device (show (3 : Int) ≠ 0 by omega)
 have b2 := Int.emod_lt_of_pos e.device (show (0 : Int) < 3 by omega)
 have c1 := Int.emod_nonneg e.seq (show (8 : Int) ≠ 0 by omega)
 have c2 := Int.emod_lt_of_pos e.seq (show (0 : Int) < 8 by omega)
 have d1 := Int.emod_nonneg e.mv.toDay (show (10 : Int) ≠ 0 by omega)
 have d2 := Int.emod_lt_of_pos e.mv.toDay (show (0 : Int) < 10 by omega)
 have f1 := Int.emod_nonneg e.mv.minute (show (3 : Int) ≠ 0 by omega)
 have f2 := Int.emod_lt_of_pos e.mv.minute (show (0 : Int) < 3 by omega)
 have g1 := Int.emod_nonneg e.mv.length (show (3 : Int) ≠ 0 by omega)
 have g2 := Int.emod_lt_of_pos e.mv.length (show (0 : Int) < 3 by omega)
 have i1 := Int.emod_nonneg e.minute (show (3 : Int) ≠ 0 by omega)
 have i2 := Int.emod_lt_of_pos e.minute (show (0 : Int) < 3 by omega)
 have j1 := Int.emod_nonneg e.length (show (2 : Int) ≠ 0 by omega)
 have j2 := Int.emod_lt_of_pos e.length (show (0 : Int) < 2 by omega)
 have hz : ∀ b : Bool, (if b then zA else zB).size = 1 := by decide
 have hz2 : (((if e.minute % 2 = 0 then zA else zB).size : Nat) : Int) = 1 := by split <;> rfl
 unfold validD validE kindE madeE De.ed betw moveOK betw restZ mvZ
 generalize e.kind % 5 = k at *
 rcases (by omega : k = 0 ∨ k = 1 ∨ k = 2 ∨ k = 3 ∨ k = 4) with rfl | rfl | rfl | rfl | rfl
 ·cases hd : e.mv.drop <;> simp [empty_beq] <;> omega
 ·simp [empty_beq]; omega
 ·simp [empty_beq, ruleN]; omega
 ·simp [empty_beq, hz2]; omega
 ·simp [empty_beq]; omega
/-! ### Consistent lists -/
/-- The edits are valid, and those with the same number are the same. -/
def Cons (l : List De) : Prop := (∀ d ∈ l, validD d = true) ∧ ∀ a ∈ l, ∀ b ∈ l, keyEq a b = true → a = b
theorem KeysD.eq {l : List De} (h : KeysD l) {a b : De} (ha : a ∈ l) (hb : b ∈ l) (hk : keyEq a b = true) : a = b := by
 induction l with
 | nil => simp at ha
 | cons x l ih =>
  have h' := List.pairwise_cons.1 h
  rcases List.mem_cons.1 ha with ea | ha
  ·rcases List.mem_cons.1 hb with eb | hb
   ·rw [ea, eb]
   ·rw [ea, h'.1 b hb] at hk; cases hk
  ·rcases List.mem_cons.1 hb with eb | hb
   ·rw [eb, keyEq_symm, h'.1 a ha] at hk; cases hk
   ·exact ih h'.2 ha hb
theorem distD_cons : ∀ (l out : List De), (∀ d ∈ l, validD d = true) → (∀ a ∈ out ++ l, ∀ b ∈ out ++ l, keyEq a b = true → a = b) → ∃ o, distD out l = some o ∧ ∀ d, d ∈ o ↔ d ∈ out ∨ d ∈ l
 | [], out, _, _ => ⟨out, rfl, by simp⟩
 | x :: l, out, hv, hc => by
  rw [distD]
  cases hf : out.find? (keyEq x) with
  | some y =>
   have hy := List.mem_of_find?_eq_some hf
   have hk := List.find?_some hf
   have e : x = y := hc x (by simp) y (by simp [hy]) (by simpa using hk)
   subst e
   rw [addD_old (hv x (by simp)) hf, if_pos rfl]
   obtain ⟨o, h1, h2⟩ := distD_cons l out (fun d hd => hv d (by simp [hd])) (fun a ha b hb => hc a (by
    rcases List.mem_append.1 ha with h | h <;> simp [h]) b (by rcases List.mem_append.1 hb with h | h <;> simp [h]))
   refine ⟨o, h1, fun d => ?_⟩
   rw [h2]
   constructor
   ·rintro (h | h) <;> simp [h]
   ·rintro (h | h)
    ·exact .inl h
    ·rcases List.mem_cons.1 h with rfl | h
     ·exact .inl hy
     ·exact .inr h
  | none =>
   rw [addD_new (hv x (by simp)) hf]
   obtain ⟨o, h1, h2⟩ := distD_cons l (out ++ [x]) (fun d hd => hv d (by simp [hd])) (fun a ha b hb => hc a (by simpa using ha) b (by simpa using hb))
   exact ⟨o, h1, fun d => by rw [h2]; simp [or_assoc]⟩
theorem allD_cons {l : List De} (h : Cons l) (hl : l.length ≤ 4096) : ∃ o, allD l = .ok o ∧ SortedD o ∧ ∀ d, d ∈ o ↔ d ∈ l := by
 obtain ⟨o, h1, h2⟩ := distD_cons l [] h.1 (by simpa using h.2)
 refine ⟨sortD o, ?_, sortD_sorted (distD_keys h1 List.Pairwise.nil), fun d => ?_⟩
 ·unfold allD
  rw [if_neg (by omega), h1]
  rfl
 ·rw [(sortD_perm o).mem_iff, h2]; simp
end Go.Proofs.YtojckjngjfgfdaaGreat
namespace Go.Proofs.YtojckjngjfgfdaaGreat
set_option linter.unusedSimpArgs false
set_option linter.unusedVariables false
open Go.Proofs.YtojckjngjfgfdaaGreat.Vc
/-! ### Worlds: plain -/
theorem lt3 {i : Nat} (h : i < 3) : i = 0 ∨ i = 1 ∨ i = 2 := by omega
theorem now_setNow (w : Wd) (d : Dv) {i j : Nat} (hi : i < 3) (hj : j < 3) : (w.setNow d i).now j = if j = i then d else w.now j := by
 rcases lt3 hi with rfl | rfl | rfl <;> rcases lt3 hj with rfl | rfl | rfl <;> rfl
theorem copy_setNow (w : Wd) (d : Dv) {i j : Nat} (hi : i < 3) (hj : j < 3) : (w.setNow d i).copy j = w.copy j := by
 rcases lt3 hi with rfl | rfl | rfl <;> rcases lt3 hj with rfl | rfl | rfl <;> rfl
theorem ep_setNow (w : Wd) (d : Dv) {i j : Nat} (hi : i < 3) (hj : j < 3) : (w.setNow d i).ep j = w.ep j := by
 rcases lt3 hi with rfl | rfl | rfl <;> rcases lt3 hj with rfl | rfl | rfl <;> rfl
theorem now_setCopy (w : Wd) (d : Dv) {i j : Nat} (hi : i < 3) (hj : j < 3) : (w.setCopy d i).now j = w.now j := by
 rcases lt3 hi with rfl | rfl | rfl <;> rcases lt3 hj with rfl | rfl | rfl <;> rfl
theorem copy_setCopy (w : Wd) (d : Dv) {i j : Nat} (hi : i < 3) (hj : j < 3) : (w.setCopy d i).copy j = if j = i then d else w.copy j := by
 rcases lt3 hi with rfl | rfl | rfl <;> rcases lt3 hj with rfl | rfl | rfl <;> rfl
theorem ep_setCopy (w : Wd) (d : Dv) {i j : Nat} (hi : i < 3) (hj : j < 3) : (w.setCopy d i).ep j = w.ep j := by
 rcases lt3 hi with rfl | rfl | rfl <;> rcases lt3 hj with rfl | rfl | rfl <;> rfl
theorem now_setEp (w : Wd) (n : Int) {i j : Nat} (hi : i < 3) (hj : j < 3) : (w.setEp n i).now j = w.now j := by
 rcases lt3 hi with rfl | rfl | rfl <;> rcases lt3 hj with rfl | rfl | rfl <;> rfl
theorem copy_setEp (w : Wd) (n : Int) {i j : Nat} (hi : i < 3) (hj : j < 3) : (w.setEp n i).copy j = w.copy j := by
 rcases lt3 hi with rfl | rfl | rfl <;> rcases lt3 hj with rfl | rfl | rfl <;> rfl
theorem ep_setEp (w : Wd) (n : Int) {i j : Nat} (hi : i < 3) (hj : j < 3) : (w.setEp n i).ep j = if j = i then n else w.ep j := by
 rcases lt3 hi with rfl | rfl | rfl <;> rcases lt3 hj with rfl | rfl | rfl <;> rfl
theorem nodup_len : ∀ (l M : List De), l.Pairwise (· ≠ ·) → (∀ x ∈ l, x ∈ M) → l.length ≤ M.length
 | [], _, _, _ => Nat.zero_le _
 | x :: l, M, hp, hs => by
  have hp' := List.pairwise_cons.1 hp
  have h1 := nodup_len l (M.erase x) hp'.2 fun y hy => (List.mem_erase_of_ne (hp'.1 y hy).symm).2 (hs y (by simp [hy]))
  have h2 := List.length_erase_of_mem (hs x (by simp))
  have h3 := List.length_pos_of_mem (hs x (by simp))
  rw [List.length_cons]; omega
theorem SortedD.ne {l : List De} (h : SortedD l) : l.Pairwise (· ≠ ·) := h.imp fun {a b} hab e => by subst e; rw [lessD_irrefl] at hab; cases hab
theorem SortedD.len {l M : List De} (h : SortedD l) (hs : ∀ x ∈ l, x ∈ M) : l.length ≤ M.length := nodup_len l M h.ne hs
structure Inv (n : Nat) (M : List De) (w : Wd) : Prop where
 id : ∀ i : Nat, i < 3 → (w.now i).id = 2 + 3 * (i : Int) ∧ (w.copy i).id = 2 + 3 * (i : Int)
 ep : ∀ i : Nat, i < 3 → (w.now i).epoch = w.ep i ∧ (w.copy i).epoch ≤ w.ep i ∧ 0 ≤ w.ep i ∧ w.ep i ≤ n
 val : ∀ i : Nat, i < 3 → validV (w.now i) = true ∧ validV (w.copy i) = true
 nxt : ∀ i : Nat, i < 3 → (w.now i).next ≤ 1 + n ∧ (w.copy i).next ≤ 1 + n
 sub : ∀ i : Nat, i < 3 → (∀ e ∈ (w.now i).edits, e ∈ M) ∧ ∀ e ∈ (w.copy i).edits, e ∈ M
 len : M.length ≤ n
 key : ∀ a ∈ M, ∀ b ∈ M, keyEq a b = true → a = b
 vd : ∀ a ∈ M, validD a = true
 fresh : ∀ i : Nat, i < 3 → ∀ m ∈ M, m.device = 2 + 3 * (i : Int) → m.seq % 64 ≤ w.ep i ∧ (m.seq % 64 = w.ep i → m.seq / 64 < (w.now i).next)
theorem inv_start : Inv 0 [] startW := by
 have hd : ∀ i : Nat, i < 3 → startW.now i = ⟨2 + 3 * (i : Int), 0, 1, []⟩ ∧ startW.copy i = ⟨2 + 3 * (i : Int), 0, 1, []⟩ ∧ startW.ep i = 0 := fun i hi => by
  rcases lt3 hi with rfl | rfl | rfl <;> exact ⟨rfl, rfl, rfl⟩
 refine ⟨fun i hi => ?_, fun i hi => ?_, fun i hi => ?_, fun i hi => ?_, fun i hi => ?_, Nat.le_refl _, by simp, by simp, by simp⟩
 all_goals (obtain ⟨h1, h2, h3⟩ := hd i hi)
 ·rw [h1, h2]; exact ⟨rfl, rfl⟩
 ·rw [h1, h2, h3]; exact ⟨rfl, Int.le_refl _, Int.le_refl _, Int.le_refl _⟩
 ·rcases lt3 hi with rfl | rfl | rfl <;> exact ⟨by decide, by decide⟩
 ·rw [h1, h2]; exact ⟨by simp, by simp⟩
 ·rw [h1, h2]; exact ⟨by simp, by simp⟩
/-! Single operations -/
theorem agree_of {a b M : List De} (ha : ∀ e ∈ a, e ∈ M) (hb : ∀ e ∈ b, e ∈ M) (hk : ∀ a ∈ M, ∀ b ∈ M, keyEq a b = true → a = b) : agreeD a b = true := by
 unfold agreeD
 rw [List.all_eq_true]
 intro x hx
 rw [List.all_eq_true]
 intro y hy
 cases h : keyEq x y with
 | false => rfl
 | true => simp [hk x (ha x hx) y (hb y hy) h]
theorem union_mem {a b M : List De} (hsa : SortedD a) (hsb : SortedD b) (ha : ∀ e ∈ a, e ∈ M) (hb : ∀ e ∈ b, e ∈ M) (hk : ∀ a ∈ M, ∀ b ∈ M, keyEq a b = true → a = b) (x : De) : x ∈ unionD a b ↔ x ∈ a ∨ x ∈ b := by
 rw [(unionD_spec hsa hsb).2]
 constructor
 ·rintro (h | ⟨h, _⟩)
  ·exact .inl h
  ·exact .inr h
 ·rintro (h | h)
  ·exact .inl h
  ·by_cases hx : x ∈ a
   ·exact .inl hx
   ·refine .inr ⟨h, fun y hy => ?_⟩
    cases hxy : keyEq x y with
    | false => rfl
    | true => exact absurd (by rw [hk x (hb x h) y (ha y hy) hxy]; exact hy) hx
theorem nextD_bd {n : Int} {l : List De} {B : Int} (hn : n ≤ B) (h : ∀ e ∈ l, e.seq / 64 < B) : nextD n l ≤ B := by
 unfold nextD
 induction l generalizing n with
 | nil => exact hn
 | cons e l ih =>
  rw [List.foldl_cons]
  have := h e (by simp)
  exact ih (by omega) fun x hx => h x (by simp [hx])
theorem nextD_mem {n : Int} {l : List De} {e : De} (h : e ∈ l) : e.seq / 64 < nextD n l := by
 unfold nextD
 induction l generalizing n with
 | nil => simp at h
 | cons x l ih =>
  rw [List.foldl_cons]
  rcases List.mem_cons.1 h with rfl | h
  ·have := nextD_le (max n (e.seq / 64 + 1)) l
   unfold nextD at this
   omega
  ·exact ih h
theorem validV_of {d : Dv} (h1 : 0 ≤ d.id ∧ d.id ≤ 15 ∧ 0 ≤ d.epoch ∧ d.epoch ≤ 63 ∧ 1 ≤ d.next ∧ d.next ≤ 17179869184 ∧ d.edits.length ≤ 4096) (h2 : ∀ e ∈ d.edits, validD e = true ∧ e.seq / 64 < d.next) (h3 : SortedD d.edits) : validV d = true := by
 unfold validV hdrOK
 simp only [Bool.and_eq_true, decide_eq_true_eq, List.all_eq_true]
 exact ⟨⟨h1, fun e he => (okEd_iff _ _).2 (h2 e he)⟩, h3⟩
theorem sync_ok {d o : Dv} {M : List De} {B : Int} (hv : validV d = true) (hvo : validV o = true) (hd : ∀ e ∈ d.edits, e ∈ M) (ho : ∀ e ∈ o.edits, e ∈ M) (hk : ∀ a ∈ M, ∀ b ∈ M, keyEq a b = true → a = b) (hM : M.length ≤ 4096) (hB : B ≤ 17179869184) (hdn : d.next ≤ B) (hon : o.next ≤ B) :
  ∃ r, dvSync d o = .ok r ∧ r = ⟨d.id, d.epoch, nextD d.next (freshD d.edits o.edits), unionD d.edits o.edits⟩ ∧ validV r = true ∧ d.next ≤ r.next ∧ r.next ≤ B ∧ ∀ e, e ∈ r.edits ↔ e ∈ d.edits ∨ e ∈ o.edits := by
 have h1 := validV_hdr hv
 have h2 := validV_hdr hvo
 have h3 := validV_all hv
 have h4 := validV_all hvo
 have hu := (unionD_spec h3.2 h4.2).1
 have hm := union_mem h3.2 h4.2 hd ho hk
 have hul : (unionD d.edits o.edits).length ≤ M.length := hu.len fun x hx => by
  rcases (hm x).1 hx with h | h
  ·exact hd x h
  ·exact ho x h
 have hnl := nextD_le d.next (freshD d.edits o.edits)
 have hnb : nextD d.next (freshD d.edits o.edits) ≤ B := nextD_bd hdn fun e he => by
  have := (h4.1 e (List.mem_filter.1 he).1).2
  omega
 refine ⟨_, ?_, rfl, ?_, hnl, hnb, hm⟩
 ·unfold dvSync
  rw [if_pos ⟨hv, hvo⟩, if_pos (agree_of hd ho hk), if_neg (by omega)]
 ·refine validV_of ⟨h1.1, h1.2.1, h1.2.2.1, h1.2.2.2.1, by show 1 ≤ nextD _ _; omega, by show nextD _ _ ≤ _; omega, by show (unionD _ _).length ≤ _; omega⟩ (fun e he => ?_) hu
  show validD e = true ∧ e.seq / 64 < nextD d.next (freshD d.edits o.edits)
  rcases ((unionD_spec h3.2 h4.2).2 e).1 he with h | ⟨h, hn⟩
  ·have := h3.1 e h
   exact ⟨this.1, by omega⟩
  ·refine ⟨(h4.1 e h).1, nextD_mem ?_⟩
   unfold freshD
   rw [List.mem_filter]
   refine ⟨h, ?_⟩
   have : d.edits.any (keyEq e) = false := List.any_eq_false.2 fun y hy => by rw [hn y hy]; simp
   rw [this]; rfl
theorem add_ok {d : Dv} (hv : validV d = true) (e : Ed) (hn : d.next ≤ 10000000) (hl : d.edits.length < 4096) :
  ∃ r, dvAdd d (madeE e) = .ok r ∧ r = ⟨d.id, d.epoch, d.next + 1, d.edits ++ [stampD d (madeE e)]⟩ ∧ validV r = true ∧ validD (stampD d (madeE e)) = true := by
 have h1 := validV_hdr hv
 have h3 := validV_all hv
 have hme := madeE_valid e
 have hb : validD (bareD (madeE e)) = true := by
  revert hme
  unfold validD validE betw bareD De.ed kindE
  simp only [Bool.and_eq_true, decide_eq_true_eq]
  intro h
  exact ⟨⟨⟨⟨by omega, by omega⟩, by omega⟩, h.1.2⟩, h.2⟩
 have hs : validD (stampD d (madeE e)) = true := by
  revert hme
  unfold validD validE betw stampD De.ed kindE
  simp only [Bool.and_eq_true, decide_eq_true_eq]
  intro h
  exact ⟨⟨⟨⟨by omega, by omega⟩, by omega⟩, h.1.2⟩, h.2⟩
 refine ⟨_, ?_, rfl, ?_, hs⟩
 ·unfold dvAdd
  rw [if_pos ⟨hv, hb⟩, if_neg (by omega)]
 ·refine validV_of ⟨h1.1, h1.2.1, h1.2.2.1, h1.2.2.2.1, by show 1 ≤ d.next + 1; omega, by show d.next + 1 ≤ _; omega, by show (d.edits ++ [_]).length ≤ _; simp; omega⟩ (fun x hx => ?_) ?_
  ·show validD x = true ∧ x.seq / 64 < d.next + 1
   rcases List.mem_append.1 hx with hx | hx
   ·have := h3.1 x hx
    exact ⟨this.1, by omega⟩
   ·simp only [List.mem_cons, List.not_mem_nil, or_false] at hx
    subst hx
    refine ⟨hs, ?_⟩
    show (64 * d.next + d.epoch) / 64 < d.next + 1
    omega
  ·refine List.pairwise_append.2 ⟨h3.2, List.pairwise_singleton _ _, fun x hx y hy => ?_⟩
   simp only [List.mem_cons, List.not_mem_nil, or_false] at hy
   subst hy
   have := (h3.1 x hx).2
   rw [lessD_iff]
   left
   show x.seq < 64 * d.next + d.epoch
   omega
theorem restore_ok {d : Dv} (hv : validV d = true) {ep : Int} (h1 : d.epoch < ep) (h2 : ep ≤ 63) : dvRestore d ep = .ok ⟨d.id, ep, d.next, d.edits⟩ ∧ validV ⟨d.id, ep, d.next, d.edits⟩ = true := by
 have h3 := validV_hdr hv
 have h4 := validV_all hv
 refine ⟨?_, validV_of ⟨h3.1, h3.2.1, by show 0 ≤ ep; omega, h2, h3.2.2.2.2.1, h3.2.2.2.2.2.1, h3.2.2.2.2.2.2⟩ h4.1 h4.2⟩
 unfold dvRestore
 rw [if_pos ⟨hv, by omega, h2⟩, if_neg (by omega)]
end Go.Proofs.YtojckjngjfgfdaaGreat
namespace Go.Proofs.YtojckjngjfgfdaaGreat
set_option linter.unusedSimpArgs false
set_option linter.unusedVariables false
open Go.Proofs.YtojckjngjfgfdaaGreat.Vc
/-! ### One operation: plain -/
theorem Opn.i_lt (o : Opn) : o.i < 3 := by unfold Opn.i; omega
theorem Opn.k_lt (o : Opn) : o.k < 3 := by unfold Opn.k; omega
theorem Inv.shape {n : Nat} {M : List De} {w : Wd} (h : Inv n M w) {i : Nat} (hi : i < 3) : (w.now i).edits.length ≤ n :=
 Nat.le_trans ((validV_all (h.val i hi).1).2.len (h.sub i hi).1) h.len
theorem Inv.newKey {n : Nat} {M : List De} {w : Wd} (h : Inv n M w) (hn : n ≤ 40) {i : Nat} (hi : i < 3) (e : De) : ∀ m ∈ M, keyEq m (stampD (w.now i) e) = false := fun m hm => by
 rw [← Bool.not_eq_true, keyEq_iff]
 show ¬ (m.device = (w.now i).id ∧ m.seq = 64 * (w.now i).next + (w.now i).epoch)
 rintro ⟨h2, h1⟩
 rw [(h.id i hi).1] at h2
 have h3 := h.fresh i hi m hm h2
 have h4 := h.ep i hi
 omega
theorem run_add {n : Nat} {M : List De} {w : Wd} (h : Inv n M w) (hn : n ≤ 40) {o : Opn} (hk : ¬ o.kind % 6 = 3) (hk2 : ¬ o.kind % 6 = 4) (hk3 : ¬ o.kind % 6 = 5) :
  runW w o = w.setNow ⟨(w.now o.i).id, (w.now o.i).epoch, (w.now o.i).next + 1, (w.now o.i).edits ++ [stampD (w.now o.i) (madeE o.ed)]⟩ o.i ∧ Inv (n + 1) (M ++ [stampD (w.now o.i) (madeE o.ed)]) (runW w o) := by
 have hi := o.i_lt
 have hl := h.shape hi
 have hx := h.nxt o.i hi
 obtain ⟨r, e1, e2, e3, e4⟩ := add_ok (h.val o.i hi).1 o.ed (by omega) (by omega)
 have e : runW w o = w.setNow r o.i := by
  unfold runW
  rw [if_neg hk, if_neg hk2, if_neg hk3, e1]
  rfl
 rw [e]
 have hr : r.id = (w.now o.i).id ∧ r.epoch = (w.now o.i).epoch ∧ r.next = (w.now o.i).next + 1 ∧ r.edits = (w.now o.i).edits ++ [stampD (w.now o.i) (madeE o.ed)] := by rw [e2]; exact ⟨rfl, rfl, rfl, rfl⟩
 refine ⟨by rw [e2], ?_⟩
 have hnk := h.newKey hn hi (madeE o.ed)
 have hst : (stampD (w.now o.i) (madeE o.ed)).device = 2 + 3 * (o.i : Int) ∧ (stampD (w.now o.i) (madeE o.ed)).seq = 64 * (w.now o.i).next + (w.now o.i).epoch := ⟨(h.id o.i hi).1, rfl⟩
 generalize hg : stampD (w.now o.i) (madeE o.ed) = e0 at *
 refine ⟨fun j hj => ?_, fun j hj => ?_, fun j hj => ?_, fun j hj => ?_, fun j hj => ?_, by simp only [List.length_append, List.length_cons, List.length_nil]; have := h.len; omega, ?_, ?_, fun j hj => ?_⟩
 ·rw [now_setNow w r hi hj, copy_setNow w r hi hj]
  split
  ·subst_vars; exact ⟨by rw [hr.1]; exact (h.id _ hj).1, (h.id _ hj).2⟩
  ·exact h.id _ hj
 ·rw [now_setNow w r hi hj, copy_setNow w r hi hj, ep_setNow w r hi hj]
  have := h.ep j hj
  split
  ·subst_vars; rw [hr.2.1]; exact ⟨this.1, this.2.1, this.2.2.1, by omega⟩
  ·exact ⟨this.1, this.2.1, this.2.2.1, by omega⟩
 ·rw [now_setNow w r hi hj, copy_setNow w r hi hj]
  split
  ·exact ⟨e3, (h.val j hj).2⟩
  ·exact h.val j hj
 ·rw [now_setNow w r hi hj, copy_setNow w r hi hj]
  have := h.nxt j hj
  split
  ·subst_vars; rw [hr.2.2.1]; exact ⟨by omega, by omega⟩
  ·exact ⟨by omega, by omega⟩
 ·rw [now_setNow w r hi hj, copy_setNow w r hi hj]
  have := h.sub j hj
  refine ⟨?_, fun x hx => List.mem_append.2 (.inl (this.2 x hx))⟩
  split
  ·subst_vars
   rw [hr.2.2.2]
   intro x hx
   rcases List.mem_append.1 hx with hx | hx
   ·exact List.mem_append.2 (.inl (this.1 x hx))
   ·exact List.mem_append.2 (.inr hx)
  ·exact fun x hx => List.mem_append.2 (.inl (this.1 x hx))
 ·intro a ha b hb hab
  rcases List.mem_append.1 ha with ha | ha <;> rcases List.mem_append.1 hb with hb | hb
  ·exact h.key a ha b hb hab
  ·simp only [List.mem_cons, List.not_mem_nil, or_false] at hb
   rw [hb, hnk a ha] at hab; cases hab
  ·simp only [List.mem_cons, List.not_mem_nil, or_false] at ha
   rw [ha, keyEq_symm, hnk b hb] at hab; cases hab
  ·simp only [List.mem_cons, List.not_mem_nil, or_false] at ha hb
   rw [ha, hb]
 ·intro a ha
  rcases List.mem_append.1 ha with ha | ha
  ·exact h.vd a ha
  ·simp only [List.mem_cons, List.not_mem_nil, or_false] at ha
   rw [ha]; exact e4
 ·rw [now_setNow w r hi hj, ep_setNow w r hi hj]
  intro m hm hmd
  have hep := h.ep j hj
  rcases List.mem_append.1 hm with hm | hm
  ·have := h.fresh j hj m hm hmd
   refine ⟨this.1, fun h5 => ?_⟩
   have := this.2 h5
   split
   ·subst_vars; rw [hr.2.2.1]; omega
   ·exact this
  ·simp only [List.mem_cons, List.not_mem_nil, or_false] at hm
   subst hm
   have hji : j = o.i := by omega
   subst hji
   rw [if_pos rfl, hr.2.2.1]
   omega
theorem run_sync {n : Nat} {M : List De} {w : Wd} (h : Inv n M w) (hn : n ≤ 40) {o : Opn} (hk : o.kind % 6 = 3) :
  ∃ r, runW w o = w.setNow r o.i ∧ Inv (n + 1) M (runW w o) ∧ (∀ e, e ∈ r.edits ↔ e ∈ (w.now o.i).edits ∨ e ∈ (w.now o.k).edits) := by
 have hi := o.i_lt
 have hk' := o.k_lt
 have hl := h.len
 obtain ⟨r, e1, e2, e3, e4, e5, e6⟩ := sync_ok (B := 1 + n) (h.val o.i hi).1 (h.val o.k hk').1 (h.sub o.i hi).1 (h.sub o.k hk').1 h.key (by omega) (by omega) (h.nxt o.i hi).1 (h.nxt o.k hk').1
 have e : runW w o = w.setNow r o.i := by
  unfold runW
  rw [if_pos hk, e1]
  rfl
 rw [e]
 have hr : r.id = (w.now o.i).id ∧ r.epoch = (w.now o.i).epoch := by rw [e2]; exact ⟨rfl, rfl⟩
 refine ⟨r, rfl, ?_, e6⟩
 refine ⟨fun j hj => ?_, fun j hj => ?_, fun j hj => ?_, fun j hj => ?_, fun j hj => ?_, by omega, h.key, h.vd, fun j hj => ?_⟩
 ·rw [now_setNow w r hi hj, copy_setNow w r hi hj]
  split
  ·subst_vars; exact ⟨by rw [hr.1]; exact (h.id _ hj).1, (h.id _ hj).2⟩
  ·exact h.id _ hj
 ·rw [now_setNow w r hi hj, copy_setNow w r hi hj, ep_setNow w r hi hj]
  have := h.ep j hj
  split
  ·subst_vars; rw [hr.2]; exact ⟨this.1, this.2.1, this.2.2.1, by omega⟩
  ·exact ⟨this.1, this.2.1, this.2.2.1, by omega⟩
 ·rw [now_setNow w r hi hj, copy_setNow w r hi hj]
  split
  ·exact ⟨e3, (h.val j hj).2⟩
  ·exact h.val j hj
 ·rw [now_setNow w r hi hj, copy_setNow w r hi hj]
  have := h.nxt j hj
  split
  ·exact ⟨by omega, by omega⟩
  ·exact ⟨by omega, by omega⟩
 ·rw [now_setNow w r hi hj, copy_setNow w r hi hj]
  have := h.sub j hj
  refine ⟨?_, this.2⟩
  split
  ·intro x hx
   rcases (e6 x).1 hx with hx | hx
   ·exact (h.sub _ hi).1 x hx
   ·exact (h.sub _ hk').1 x hx
  ·exact this.1
 ·rw [now_setNow w r hi hj, ep_setNow w r hi hj]
  intro m hm hmd
  have := h.fresh j hj m hm hmd
  refine ⟨this.1, fun h5 => ?_⟩
  have := this.2 h5
  split
  ·subst_vars; omega
  ·exact this
theorem run_copy {n : Nat} {M : List De} {w : Wd} (h : Inv n M w) {o : Opn} (hk : o.kind % 6 = 4) : runW w o = w.setCopy (w.now o.i) o.i ∧ Inv (n + 1) M (runW w o) := by
 have hi := o.i_lt
 have e : runW w o = w.setCopy (w.now o.i) o.i := by
  unfold runW
  rw [if_neg (by omega), if_pos hk]
 rw [e]
 refine ⟨rfl, ?_⟩
 have hl := h.len
 refine ⟨fun j hj => ?_, fun j hj => ?_, fun j hj => ?_, fun j hj => ?_, fun j hj => ?_, by omega, h.key, h.vd, fun j hj => ?_⟩
 ·rw [now_setCopy w _ hi hj, copy_setCopy w _ hi hj]
  split
  ·subst_vars; exact ⟨(h.id _ hj).1, (h.id _ hj).1⟩
  ·exact h.id _ hj
 ·rw [now_setCopy w _ hi hj, copy_setCopy w _ hi hj, ep_setCopy w _ hi hj]
  have := h.ep j hj
  split
  ·subst_vars; exact ⟨this.1, by omega, this.2.2.1, by omega⟩
  ·exact ⟨this.1, this.2.1, this.2.2.1, by omega⟩
 ·rw [now_setCopy w _ hi hj, copy_setCopy w _ hi hj]
  split
  ·subst_vars; exact ⟨(h.val _ hj).1, (h.val _ hj).1⟩
  ·exact h.val j hj
 ·rw [now_setCopy w _ hi hj, copy_setCopy w _ hi hj]
  have := h.nxt j hj
  split
  ·subst_vars; exact ⟨by omega, by omega⟩
  ·exact ⟨by omega, by omega⟩
 ·rw [now_setCopy w _ hi hj, copy_setCopy w _ hi hj]
  split
  ·subst_vars; exact ⟨(h.sub _ hj).1, (h.sub _ hj).1⟩
  ·exact h.sub j hj
 ·rw [now_setCopy w _ hi hj, ep_setCopy w _ hi hj]
  exact h.fresh j hj
theorem run_restore {n : Nat} {M : List De} {w : Wd} (h : Inv n M w) (hn : n ≤ 40) {o : Opn} (hk : o.kind % 6 = 5) : Inv (n + 1) M (runW w o) := by
 have hi := o.i_lt
 have hep := h.ep o.i hi
 obtain ⟨e1, e2⟩ := restore_ok (h.val o.i hi).2 (ep := w.ep o.i + 1) (by omega) (by omega)
 have e : runW w o = (w.setEp (w.ep o.i + 1) o.i).setNow ⟨(w.copy o.i).id, w.ep o.i + 1, (w.copy o.i).next, (w.copy o.i).edits⟩ o.i := by
  unfold runW
  rw [if_neg (by omega), if_neg (by omega), if_pos hk, e1]
 rw [e]
 have hl := h.len
 refine ⟨fun j hj => ?_, fun j hj => ?_, fun j hj => ?_, fun j hj => ?_, fun j hj => ?_, by omega, h.key, h.vd, fun j hj => ?_⟩
 ·rw [now_setNow _ _ hi hj, copy_setNow _ _ hi hj, now_setEp w _ hi hj, copy_setEp w _ hi hj]
  split
  ·subst_vars; exact ⟨(h.id _ hj).2, (h.id _ hj).2⟩
  ·exact h.id _ hj
 ·rw [now_setNow _ _ hi hj, copy_setNow _ _ hi hj, ep_setNow _ _ hi hj, now_setEp w _ hi hj, copy_setEp w _ hi hj, ep_setEp w _ hi hj]
  have := h.ep j hj
  split
  ·subst_vars; exact ⟨rfl, by omega, by omega, by omega⟩
  ·exact ⟨this.1, this.2.1, this.2.2.1, by omega⟩
 ·rw [now_setNow _ _ hi hj, copy_setNow _ _ hi hj, now_setEp w _ hi hj, copy_setEp w _ hi hj]
  split
  ·subst_vars; exact ⟨e2, (h.val _ hj).2⟩
  ·exact h.val j hj
 ·rw [now_setNow _ _ hi hj, copy_setNow _ _ hi hj, now_setEp w _ hi hj, copy_setEp w _ hi hj]
  have := h.nxt j hj
  split
  ·subst_vars; exact ⟨by show (w.copy o.i).next ≤ _; omega, by omega⟩
  ·exact ⟨by omega, by omega⟩
 ·rw [now_setNow _ _ hi hj, copy_setNow _ _ hi hj, now_setEp w _ hi hj, copy_setEp w _ hi hj]
  split
  ·subst_vars; exact ⟨(h.sub _ hj).2, (h.sub _ hj).2⟩
  ·exact h.sub j hj
 ·rw [now_setNow _ _ hi hj, ep_setNow _ _ hi hj, now_setEp w _ hi hj, ep_setEp w _ hi hj]
  intro m hm hmd
  have h5 := h.fresh j hj m hm hmd
  split
  ·subst_vars
   exact ⟨by omega, fun h6 => by omega⟩
  ·exact h5
theorem inv_run {n : Nat} {M : List De} {w : Wd} (h : Inv n M w) (hn : n ≤ 40) (o : Opn) : ∃ M', Inv (n + 1) M' (runW w o) := by
 by_cases h3 : o.kind % 6 = 3
 ·obtain ⟨r, _, h, _⟩ := run_sync h hn h3
  exact ⟨_, h⟩
 by_cases h4 : o.kind % 6 = 4
 ·exact ⟨_, (run_copy h h4).2⟩
 by_cases h5 : o.kind % 6 = 5
 ·exact ⟨_, run_restore h hn h5⟩
 exact ⟨_, (run_add h hn h3 h4 h5).2⟩
def playW (l : List Opn) : Wd := (l.take 12).foldl runW startW
theorem inv_fold : ∀ (l : List Opn) (n : Nat) (M : List De) (w : Wd), Inv n M w → n + l.length ≤ 40 → ∃ M', Inv (n + l.length) M' (l.foldl runW w)
 | [], n, M, w, h, _ => ⟨M, h⟩
 | o :: l, n, M, w, h, hn => by
  rw [List.length_cons] at hn
  obtain ⟨M', h'⟩ := inv_run h (by omega) o
  obtain ⟨M'', h''⟩ := inv_fold l (n + 1) M' (runW w o) h' (by omega)
  exact ⟨M'', by rw [List.length_cons, show n + (l.length + 1) = n + 1 + l.length by omega]; exact h''⟩
theorem inv_play (l : List Opn) : ∃ n M, n ≤ 12 ∧ Inv n M (playW l) := by
 have hl : (l.take 12).length ≤ 12 := by rw [List.length_take]; omega
 obtain ⟨M, h⟩ := inv_fold (l.take 12) 0 [] startW inv_start (by omega)
 exact ⟨_, M, by omega, h⟩
end Go.Proofs.YtojckjngjfgfdaaGreat
namespace Go.Proofs.YtojckjngjfgfdaaGreat
set_option linter.unusedSimpArgs false
set_option linter.unusedVariables false
open Go.Proofs.YtojckjngjfgfdaaGreat.Vc
def OpC (R : RO) (v : Value) (os : List Opn) : Prop := SlK R v 16 (os.map Opn.cells) ∧ (∀ o ∈ os, o.ok) ∧ os.length ≤ 1099511627776
theorem OpC.mono {R R' : RO} {v : Value} {os : List Opn} (h : OpC R v os) (hle : RO.le R R') : OpC R' v os := ⟨SlK.mono h.1 hle, h.2⟩
theorem OpC.form {R : RO} {v : Value} {os : List Opn} (h : OpC R v os) : ∃ a cap, v = .slice a os.length cap ∧ os.length ≤ cap ∧ ∀ i (hi : i < os.length), ∃ ad, a = some ad ∧ ∀ j u, ((os[i]).cells)[j]? = some u → R ((ad.add (i * 16)).add j) u := by
 obtain ⟨a, cap, rfl, hc, hf⟩ := SlK.form h.1
 rw [List.length_map] at hc
 refine ⟨a, cap, by rw [List.length_map], hc, fun i hi => ?_⟩
 obtain ⟨_, ad, ha, hR⟩ := hf i (by rw [List.length_map]; exact hi)
 rw [List.getElem_map] at hR
 exact ⟨ad, ha, hR⟩
def boxc (l : List Value) : List SV := l.map .val
def zeroWd : List Value := [.int .i64 0, .int .i64 0, .int .i64 0, .slice none 0 0, .int .i64 0, .int .i64 0, .int .i64 0, .slice none 0 0, .int .i64 0, .int .i64 0, .int .i64 0, .slice none 0 0, .int .i64 0, .int .i64 0, .int .i64 0, .slice none 0 0, .int .i64 0, .int .i64 0, .int .i64 0, .slice none 0 0, .int .i64 0, .int .i64 0, .int .i64 0, .slice none 0 0, .int .i64 0, .int .i64 0, .int .i64 0]
theorem boxc_ok (l : List Value) (n : Nat) : (boxc l).all (SV.ok n) = true := by
 unfold boxc
 rw [List.all_map, List.all_eq_true]
 intro _ _
 rfl
theorem playW_snoc (os : List Opn) (i : Nat) (hi : i < os.length) : (os.take (i + 1)).foldl runW startW = runW ((os.take i).foldl runW startW) os[i] := by
 rw [List.take_succ_eq_append_getElem hi, List.foldl_append]; rfl
theorem inv_take (os : List Opn) (i : Nat) (hi : i ≤ 40) : ∃ n M, n ≤ 40 ∧ Inv n M ((os.take i).foldl runW startW) := by
 have hl : (os.take i).length ≤ 40 := by rw [List.length_take]; omega
 obtain ⟨M, h⟩ := inv_fold (os.take i) 0 [] startW inv_start (by omega)
 exact ⟨_, M, by omega, h⟩
theorem Inv.eps {n : Nat} {M : List De} {w : Wd} (h : Inv n M w) (hn : n ≤ 40) : ∀ i, 0 ≤ w.ep i ∧ w.ep i ≤ 1000000 := fun i => by
 have h0 := h.ep 0 (by omega)
 have h1 := h.ep 1 (by omega)
 have h2 := h.ep 2 (by omega)
 match i with
 | 0 => omega
 | 1 => omega
 | i + 2 =>
  show 0 ≤ w.e2 ∧ w.e2 ≤ 1000000
  have : w.ep 2 = w.e2 := rfl
  omega
set_option maxHeartbeats 1000000 in
theorem ePlayed (os : List Opn) (v : Value) (R : RO) (h : OpC R v os) : CallsR Tryz.prog 27 [v] R fun R' u => WdV R' u (playW os) := by
 obtain ⟨a, cap, rfl, hc, hf⟩ := h.form
 obtain ⟨_, hok, hl⟩ := h
 refine callsT mix Tryz.func27 comp27 (by simp [Tryz.ntmps27]) ?_; simp only [go_sem, ↓reduceIte, nQ1, nQ2, nQ3, nQ4, nQ5, nQ6, reduceCtorEq, vc27, rs27]
 refine vcall (eStart R) ?_
 rintro R1 u hle1 ⟨x0, x1, x2, y0, y1, y2, rfl, h0, h1, h2, h3, h4, h5⟩
 obtain ⟨a0, c0, rfl, _⟩ := h0.form
 obtain ⟨a1, c1, rfl, _⟩ := h1.form
 obtain ⟨a2, c2, rfl, _⟩ := h2.form
 obtain ⟨a3, c3, rfl, _⟩ := h3.form
 obtain ⟨a4, c4, rfl, _⟩ := h4.form
 obtain ⟨a5, c5, rfl, _⟩ := h5.form
 simp only [wdCells]
 try simp only [go_sem, ↓reduceIte, nQ1, nQ2, nQ3, nQ4, nQ5, nQ6, reduceCtorEq]
 refine vcLoopR (Nat × (List Value)) (fun x => [(4, .val (.int .i64 x.1)), (0, .val (.slice a os.length cap)), (2, .loc 0 0), (3, .loc 1 0)])
  (fun x => [.box (boxc zeroWd), .box (boxc x.2)])
  (fun x R => x.1 ≤ os.length ∧ x.1 ≤ 12 ∧ WdV R (.agg x.2.toArray) ((os.take x.1).foldl runW startW)) (fun x => os.length - x.1) (0, wdCells startW (.slice a0 0 c0) (.slice a1 0 c1) (.slice a2 0 c2) (.slice a3 0 c3) (.slice a4 0 c4) (.slice a5 0 c5)) [] ?_ ?_ ?_ ?_
 ·(try simp only [go_sem, ↓reduceIte, nQ1, nQ2, nQ3, nQ4, nQ5, nQ6, reduceCtorEq]) <;> (repeat' (first | rfl | trivial | constructor | (intro h; exact absurd rfl h)))
 ·try simp only [go_sem, ↓reduceIte, nQ1, nQ2, nQ3, nQ4, nQ5, nQ6, reduceCtorEq]
  exact ⟨boxc_ok _ _, boxc_ok _ _⟩
 ·exact ⟨Nat.zero_le _, Nat.zero_le _, _, _, _, _, _, _, rfl, h0, h1, h2, h3, h4, h5⟩
 rintro ⟨i, xs⟩ env R2 hle2 hE ⟨hi, hi12, hW⟩
 simp only [] at hW
 obtain ⟨n, M, hn, hI⟩ := inv_take os i (by omega)
 have hend : ¬ (i < os.length ∧ i < 12) → (os.take i).foldl runW startW = playW os := fun hn => by
  unfold playW
  by_cases h12 : i = 12
  ·rw [h12]
  ·rw [List.take_of_length_le (by omega), List.take_of_length_le (by omega)]
 obtain ⟨w, hw⟩ : ∃ w, w = (os.take i).foldl runW startW := ⟨_, rfl⟩
 rw [← hw] at hW hend hI
 obtain ⟨x0, x1, x2, y0, y1, y2, e, h0, h1, h2, h3, h4, h5⟩ := hW
 have e := congrArg Array.toList (Value.agg.inj e)
 rw [List.toList_toArray, List.toList_toArray] at e
 subst e
 simp only [wdCells, zeroWd, boxc, List.map_cons, List.map_nil] at hE ⊢
 obtain ⟨a0, c0, rfl, _⟩ := h0.form
 obtain ⟨a1, c1, rfl, _⟩ := h1.form
 obtain ⟨a2, c2, rfl, _⟩ := h2.form
 obtain ⟨a3, c3, rfl, _⟩ := h3.form
 obtain ⟨a4, c4, rfl, _⟩ := h4.form
 obtain ⟨a5, c5, rfl, _⟩ := h5.form
 (simp only [go_sem] at hE; obtain ⟨e4, e0, e2, e3⟩ := hE; simp only [go_sem, ↓reduceIte, nQ1, nQ2, nQ3, nQ4, nQ5, nQ6, reduceCtorEq, e4, e0, e2, e3]; dsimp only at *)
 have hret : ¬ (i < os.length ∧ i < 12) → WdV R2 (.agg (wdCells w (.slice a0 w.n0.edits.length c0) (.slice a1 w.n1.edits.length c1) (.slice a2 w.n2.edits.length c2) (.slice a3 w.c0.edits.length c3) (.slice a4 w.c1.edits.length c4) (.slice a5 w.c2.edits.length c5)).toArray) (playW os) := fun hx => by
  rw [← hend hx]
  exact ⟨_, _, _, _, _, _, rfl, h0, h1, h2, h3, h4, h5⟩
 refine ⟨fun hlt => ⟨fun hlt2 => ?_, fun hge => hret (by omega)⟩, fun hge => hret (by omega)⟩
 have hlt' : i < os.length := by omega
 obtain ⟨ad, had, hR⟩ := hf i hlt'
 have hM := fun v h => eRun w os[i] v R2 h (hok _ (List.getElem_mem hlt')) (hI.eps hn)
 have hM := hM _ ⟨_, _, _, _, _, _, rfl, h0, h1, h2, h3, h4, h5⟩
 simp only [wdCells] at hM
 refine ⟨by omega, vat ad had ?_⟩
 try simp only [go_sem, ↓reduceIte, nQ1, nQ2, nQ3, nQ4, nQ5, nQ6, reduceCtorEq]
 refine vloadn (os[i]).cells rfl (fun j u hj => hle2 _ _ (hle1 _ _ (hR j u hj))) ?_
 simp only [go_sem, ↓reduceIte, nQ1, nQ2, nQ3, nQ4, nQ5, nQ6, reduceCtorEq, Ed.cells, e4, e0, e2, e3]
 refine vcall hM ?_
 rintro R3 u hle3 ⟨z0, z1, z2, z3, z4, z5, rfl, g0, g1, g2, g3, g4, g5⟩
 obtain ⟨a0, c0, rfl, _⟩ := g0.form
 obtain ⟨a1, c1, rfl, _⟩ := g1.form
 obtain ⟨a2, c2, rfl, _⟩ := g2.form
 obtain ⟨a3, c3, rfl, _⟩ := g3.form
 obtain ⟨a4, c4, rfl, _⟩ := g4.form
 obtain ⟨a5, c5, rfl, _⟩ := g5.form
 simp only [wdCells]
 simp only [go_sem, ↓reduceIte, nQ1, nQ2, nQ3, nQ4, nQ5, nQ6, reduceCtorEq, e4, e0, e2, e3]
 refine ⟨_, W.in64 (by omega), (i + 1, wdCells (runW w os[i]) (.slice a0 (runW w os[i]).n0.edits.length c0) (.slice a1 (runW w os[i]).n1.edits.length c1) (.slice a2 (runW w os[i]).n2.edits.length c2) (.slice a3 (runW w os[i]).c0.edits.length c3) (.slice a4 (runW w os[i]).c1.edits.length c4) (.slice a5 (runW w os[i]).c2.edits.length c5)), [], ?_⟩
 try simp only [go_sem, ↓reduceIte, nQ1, nQ2, nQ3, nQ4, nQ5, nQ6, reduceCtorEq]
 refine ⟨by omega, ⟨rfl, rfl⟩, ⟨boxc_ok _ _, by decide⟩, by omega, by omega, ?_⟩
 rw [playW_snoc os i hlt', ← hw]
 exact ⟨_, _, _, _, _, _, rfl, g0, g1, g2, g3, g4, g5⟩
end Go.Proofs.YtojckjngjfgfdaaGreat
namespace Go.Proofs.YtojckjngjfgfdaaGreat
set_option linter.unusedSimpArgs false
set_option linter.unusedVariables false
open Go.Proofs.YtojckjngjfgfdaaGreat.Vc
end Go.Proofs.YtojckjngjfgfdaaGreat
namespace Go.Proofs.YtojckjngjfgfdaaGreat
set_option linter.unusedSimpArgs false
set_option linter.unusedVariables false
open Go.Proofs.YtojckjngjfgfdaaGreat.Vc
/-! ### The reference's devices: Valid, New, Restore -/
theorem rValidD (d : Dv) (v : Value) (R : RO) (h : EdsV R v d.edits) : CallsR Tryz.prog 57 [.agg (dvCells d v).toArray] R fun _ r => r = .bool (validV d) := by
 have hdl : d.edits.length ≤ 1000000000 := by obtain ⟨_, _, _, _, h⟩ := h; exact h
 obtain ⟨a, cap, rfl, hc, hf⟩ := PlOK.of h
 simp only [dvCells]
 refine callsT mix Tryz.func57 comp57 (by simp [Tryz.ntmps57]) ?_; simp only [go_sem, ↓reduceIte, nQ1, nQ2, nQ3, nQ4, nQ5, nQ6, reduceCtorEq, vc57, rs57]
 have hhdr : validV d = true → 0 ≤ d.id ∧ d.id ≤ 15 ∧ 0 ≤ d.epoch ∧ d.epoch ≤ 63 ∧ 1 ≤ d.next ∧ d.next ≤ 17179869184 ∧ d.edits.length ≤ 4096 := fun hT => by
  unfold validV hdrOK at hT
  simp only [Bool.and_eq_true, decide_eq_true_eq] at hT
  exact hT.1.1
 have hbad : ¬ (0 ≤ d.id ∧ d.id ≤ 15 ∧ 0 ≤ d.epoch ∧ d.epoch ≤ 63 ∧ 1 ≤ d.next ∧ d.next ≤ 17179869184 ∧ d.edits.length ≤ 4096) → Value.bool false = Value.bool (validV d) := fun hn => by
  cases hv : validV d with
  | false => rfl
  | true => exact absurd (hhdr hv) hn
 refine ⟨fun q1 => ⟨fun q2 => ⟨fun q3 => ⟨fun q4 => ⟨fun q5 => ⟨fun q6 => ⟨fun q7 => hbad (by omega), fun q7 => ?_⟩, fun q6 => hbad (by omega)⟩, fun q5 => hbad (by omega)⟩, fun q4 => hbad (by omega)⟩, fun q3 => hbad (by omega)⟩, fun q2 => hbad (by omega)⟩, fun q1 => hbad (by omega)⟩
 have hall : ∀ (i : Nat) (hi : i < d.edits.length), ¬ (okEd d.next d.edits[i] = true) → Value.bool false = Value.bool (validV d) := fun i hi hn => by
  cases hv : validV d with
  | false => rfl
  | true =>
   unfold validV at hv
   simp only [Bool.and_eq_true, decide_eq_true_eq, List.all_eq_true] at hv
   exact absurd (hv.1.2 _ (List.getElem_mem hi)) hn
 have hsrt : ∀ (i : Nat) (hi : i < d.edits.length), 0 < i → ¬ lessD (d.edits[i - 1]'(by omega)) d.edits[i] = true → Value.bool false = Value.bool (validV d) := fun i hi h0 hn => by
  cases hv : validV d with
  | false => rfl
  | true =>
   unfold validV at hv
   simp only [Bool.and_eq_true, decide_eq_true_eq] at hv
   exact absurd (List.pairwise_iff_getElem.1 hv.2 (i - 1) i (by omega) hi (by omega)) hn
 clear hbad hhdr
 refine vcLoop Nat (fun i => [(3, .val (.int .i64 i)), (1, .loc 0 0)])
  (fun _ => [.box [.val (.int .i64 d.id), .val (.int .i64 d.epoch), .val (.int .i64 d.next), .val (.slice a d.edits.length cap)]])
  (fun i _ => i ≤ d.edits.length ∧ (∀ e ∈ d.edits.take i, okEd d.next e = true) ∧ SortedD (d.edits.take i)) (fun i => d.edits.length - i) 0 ?_ ?_ ?_ ?_
 ·(try simp only [go_sem, ↓reduceIte, nQ1, nQ2, nQ3, nQ4, nQ5, nQ6, reduceCtorEq]) <;> (repeat' (first | rfl | trivial | constructor | (intro h; exact absurd rfl h)))
 ·try simp only [go_sem, ↓reduceIte, nQ1, nQ2, nQ3, nQ4, nQ5, nQ6, reduceCtorEq]
 ·exact ⟨Nat.zero_le _, by simp, List.Pairwise.nil⟩
 rintro i env R1 hle1 hE ⟨hi, hok, hso⟩
 (simp only [go_sem] at hE; obtain ⟨e3, e1⟩ := hE; simp only [go_sem, ↓reduceIte, nQ1, nQ2, nQ3, nQ4, nQ5, nQ6, reduceCtorEq, e3, e1]; dsimp only at *)
 refine ⟨fun hlt => ?_, fun hge => ?_⟩
 ·have hlt' : i < d.edits.length := by omega
  obtain ⟨ad, p, had, hp1, hR, hpok⟩ := hf i hlt'
  have hcells : ∀ j u, (p.ed.cells)[j]? = some u → R1 ((ad.add (i * 13)).add j) u := fun j u hj => hle1 _ _ (hR j u hj)
  have htk := List.take_succ_eq_append_getElem hlt'
  have hA := hall i hlt'
  rw [← hp1] at htk hA
  refine ⟨by omega, vat ad had ?_⟩
  try simp only [go_sem, ↓reduceIte, nQ1, nQ2, nQ3, nQ4, nQ5, nQ6, reduceCtorEq]
  refine vloadn p.ed.cells rfl hcells ?_
  simp only [go_sem, ↓reduceIte, nQ1, nQ2, nQ3, nQ4, nQ5, nQ6, reduceCtorEq, Ed.cells, Pl.ed, De.ed, e3, e1]
  refine vcall (rValid p.ed R1) ?_
  rintro R2 v hle2 rfl
  rw [validE_ed p hpok.len]
  simp only [go_sem, ↓reduceIte, nQ1, nQ2, nQ3, nQ4, nQ5, nQ6, reduceCtorEq, e3, e1]
  refine ⟨fun hv => ?_, fun hv => hA (by rw [okEd_iff]; simp [hv])⟩
  have hsq := validD_seq hv
  have htd : p.1.seq.tdiv 64 = p.1.seq / 64 := tdiv_nonneg' (by omega) (by omega)
  have hnew : p.1.seq / 64 < d.next → (0 < i → lessD (d.edits[i - 1]'(by omega)) p.1 = true) → (∀ e ∈ d.edits.take (i + 1), okEd d.next e = true) ∧ SortedD (d.edits.take (i + 1)) := fun hn hl => by
   rw [htk]
   refine ⟨fun e he => ?_, List.pairwise_append.2 ⟨hso, List.pairwise_singleton _ _, fun x hx y hy => ?_⟩⟩
   ·rcases List.mem_append.1 he with he | he
    ·exact hok e he
    ·simp only [List.mem_cons, List.not_mem_nil, or_false] at he; subst he
     rw [okEd_iff]; exact ⟨hv, hn⟩
   ·simp only [List.mem_cons, List.not_mem_nil, or_false] at hy; subst hy
    obtain ⟨j, hj, rfl⟩ := List.mem_take_iff_getElem.1 hx
    by_cases hji : j = i - 1
    ·subst hji; exact hl (by omega)
    ·have h1 := List.pairwise_iff_getElem.1 hso j (i - 1) (by simp; omega) (by simp; omega) (by omega)
     rw [List.getElem_take, List.getElem_take] at h1
     exact lessD_trans h1 (hl (by omega))
  refine ⟨fun hpos => ?_, fun hz => ?_⟩
  ·obtain ⟨ad', q, had', hq1, hR', hqok⟩ := hf (i - 1) (by omega)
   have hti : ((i : Int) - 1).toNat = i - 1 := by omega
   have hS := hsrt i hlt' (by omega)
   rw [← hp1, ← hq1] at hS
   refine ⟨_, W.in64 (by omega), by omega, by omega, ?_⟩
   rw [hti]
   refine vat ad' had' ?_
   try simp only [go_sem, ↓reduceIte, nQ1, nQ2, nQ3, nQ4, nQ5, nQ6, reduceCtorEq]
   refine vloadn q.ed.cells rfl (fun j u hj => hle2 _ _ (hle1 _ _ (hR' j u hj))) ?_
   simp only [go_sem, ↓reduceIte, nQ1, nQ2, nQ3, nQ4, nQ5, nQ6, reduceCtorEq, Ed.cells, Pl.ed, De.ed, e3, e1]
   refine vcall (rLess q.ed p.ed R2) ?_
   rintro R3 v hle3 rfl
   have hle : lessE q.ed p.ed = lessD q.1 p.1 := rfl
   rw [hle]
   simp only [go_sem, ↓reduceIte, nQ1, nQ2, nQ3, nQ4, nQ5, nQ6, reduceCtorEq, e3, e1]
   refine ⟨fun hl => ?_, fun hl => hS (by rw [hl]; simp)⟩
   refine ⟨by omega, _, W.in64 (by rw [htd]; omega), ?_⟩
   rw [htd]
   refine ⟨fun hn => hA (by rw [okEd_iff]; omega), fun hn => ?_⟩
   refine ⟨_, W.in64 (by omega), i + 1, by omega, by constructor, by omega, ?_⟩
   exact hnew (by omega) (fun _ => by rw [← hq1]; exact hl)
  ·obtain rfl : i = 0 := by omega
   refine ⟨by omega, _, W.in64 (by rw [htd]; omega), ?_⟩
   rw [htd]
   refine ⟨fun hn => hA (by rw [okEd_iff]; omega), fun hn => ?_⟩
   refine ⟨_, W.in64 (by omega), 1, by omega, by constructor, by omega, ?_⟩
   exact hnew (by omega) (fun h => absurd h (by omega))
 ·obtain rfl : i = d.edits.length := by omega
  rw [List.take_length] at hok hso
  have : validV d = true := by
   unfold validV hdrOK
   simp only [Bool.and_eq_true, decide_eq_true_eq, List.all_eq_true]
   exact ⟨⟨by omega, hok⟩, hso⟩
  rw [this]
theorem rRestoreD (d : Dv) (v : Value) (ep : Int) (R : RO) (h : EdsV R v d.edits) : CallsR Tryz.prog 22 [.agg (dvCells d v).toArray, .int .i64 ep] R fun R' r => DvR R' r (dvRestore d ep) := by
 have hV := rValidD d v
 have h0 := h
 obtain ⟨a, cap, rfl, hc, hf⟩ := h.form
 simp only [dvCells] at hV ⊢
 refine callsT mix Tryz.func22 comp22 (by simp [Tryz.ntmps22]) ?_; simp only [go_sem, ↓reduceIte, nQ1, nQ2, nQ3, nQ4, nQ5, nQ6, reduceCtorEq, vc22, rs22]
 refine vcall (hV R h0) ?_
 rintro R1 r hle1 rfl
 try simp only [go_sem, ↓reduceIte, nQ1, nQ2, nQ3, nQ4, nQ5, nQ6, reduceCtorEq]
 unfold dvRestore
 refine ⟨fun hv => ⟨fun h1 => ⟨fun h2 => ?_, fun h2 => ⟨fun h3 => ?_, fun h3 => ?_⟩⟩, fun h1 => ?_⟩, fun hv => ?_⟩
 ·rw [if_neg (by omega)]; exact rfl
 ·rw [if_pos ⟨hv, by omega, by omega⟩, if_pos h3]; exact rfl
 ·rw [if_pos ⟨hv, by omega, by omega⟩, if_neg h3]
  exact ⟨_, rfl, h0.mono hle1⟩
 ·rw [if_neg (by omega)]; exact rfl
 ·rw [if_neg (by rw [hv]; simp)]; exact rfl
theorem dFind2 (l : List De) (v : Value) (d : De) (a : Option Addr) (n c : Nat) (R : RO) (h : EdsV R v l) : CallsR Tryz.prog 37 [v, .agg ((d.ed a n c).cells).toArray] R fun _ u => (u = .int .i64 (-1) ∧ ∀ x ∈ l, keyEq d x = false) ∨ ∃ (i : Nat) (hi : i < l.length), u = .int .i64 i ∧ keyEq d l[i] = true := by
 obtain ⟨la, lc, rfl, hc, hf⟩ := h.form
 obtain ⟨_, _, _, _, hl⟩ := h
 simp only [Ed.cells, De.ed]
 refine callsT mix Tryz.func37 comp37 (by simp [Tryz.ntmps37]) ?_; simp only [go_sem, ↓reduceIte, nQ1, nQ2, nQ3, nQ4, nQ5, nQ6, reduceCtorEq, vc37, rs37]
 refine vcLoop Nat (fun i => [(5, .val (.int .i64 i)), (0, .val (.slice la l.length lc)), (3, .loc 0 0)])
  (fun i => [.box [.val (.int .i64 d.kind), .val (.int .i64 d.day), .val (.int .i64 d.device), .val (.int .i64 d.seq), .val (.int .i64 d.mv.day), .val (.bool d.mv.drop), .val (.int .i64 d.mv.toDay), .val (.int .i64 d.mv.minute), .val (.int .i64 d.mv.length), .val (.int .i64 d.minute), .val (.int .i64 d.length), .val (.slice a n c), .val (.string d.zone)]])
  (fun i _ => i ≤ l.length ∧ ∀ j (hj : j < l.length), j < i → keyEq d l[j] = false) (fun i => l.length - i) 0 ?_ ?_ ?_ ?_
 ·(try simp only [go_sem, ↓reduceIte, nQ1, nQ2, nQ3, nQ4, nQ5, nQ6, reduceCtorEq]) <;> (repeat' (first | rfl | trivial | constructor | (intro h; exact absurd rfl h)))
 ·try simp only [go_sem, ↓reduceIte, nQ1, nQ2, nQ3, nQ4, nQ5, nQ6, reduceCtorEq]
 ·exact ⟨Nat.zero_le _, fun j _ hj => absurd hj (by omega)⟩
 rintro i env R1 hle1 hE ⟨hi, hno⟩
 (simp only [go_sem] at hE; obtain ⟨e5, e0, e3⟩ := hE; simp only [go_sem, ↓reduceIte, nQ1, nQ2, nQ3, nQ4, nQ5, nQ6, reduceCtorEq, e5, e0, e3]; dsimp only at *)
 refine ⟨fun hlt => ?_, fun hge => ?_⟩
 ·have hi' : i < l.length := by omega
  obtain ⟨ad, ra, rn, rc, had, hR, _⟩ := hf i hi'
  have hnext : keyEq d l[i] = false → ∀ j (hj : j < l.length), j < i + 1 → keyEq d l[j] = false := fun hk j hj hji => by
   by_cases h : j = i
   ·subst h; exact hk
   ·exact hno j hj (by omega)
  have hkq : keyEq d l[i] = (decide (l[i].device = d.device) && decide (l[i].seq = d.seq)) := by
   rw [Bool.eq_iff_iff, keyEq_iff]
   simp only [Bool.and_eq_true, decide_eq_true_eq]
   exact ⟨fun h => ⟨h.1.symm, h.2.symm⟩, fun h => ⟨h.1.symm, h.2.symm⟩⟩
  refine ⟨by omega, vat ad had ?_⟩
  try simp only [go_sem, ↓reduceIte, nQ1, nQ2, nQ3, nQ4, nQ5, nQ6, reduceCtorEq]
  refine vload (.int .i64 l[i].device) (hle1 _ _ (hR 2 _ rfl)) ?_
  simp only [go_sem, ↓reduceIte, nQ1, nQ2, nQ3, nQ4, nQ5, nQ6, reduceCtorEq, e5, e0, e3]
  refine ⟨fun h1 => ⟨by omega, vat ad had ?_⟩, fun h1 => ?_⟩
  ·try simp only [go_sem, ↓reduceIte, nQ1, nQ2, nQ3, nQ4, nQ5, nQ6, reduceCtorEq]
   refine vload (.int .i64 l[i].seq) (hle1 _ _ (hR 3 _ rfl)) ?_
   simp only [go_sem, ↓reduceIte, nQ1, nQ2, nQ3, nQ4, nQ5, nQ6, reduceCtorEq, e5, e0, e3]
   refine ⟨fun h2 => ?_, fun h2 => ?_⟩
   ·rw [decide_eq_true h1, decide_eq_true h2] at hkq
    exact .inr ⟨i, hi', rfl, hkq⟩
   ·rw [decide_eq_true h1, decide_eq_false h2] at hkq
    refine ⟨_, W.in64 (by omega), i + 1, by omega, ?_, by omega, hnext hkq⟩
    try simp only [go_sem, ↓reduceIte, nQ1, nQ2, nQ3, nQ4, nQ5, nQ6, reduceCtorEq]
    rfl
  ·rw [decide_eq_false h1] at hkq
   refine ⟨_, W.in64 (by omega), i + 1, by omega, ?_, by omega, hnext hkq⟩
   try simp only [go_sem, ↓reduceIte, nQ1, nQ2, nQ3, nQ4, nQ5, nQ6, reduceCtorEq]
   rfl
 ·refine .inl fun x hx => ?_
  obtain ⟨j, hj, rfl⟩ := List.mem_iff_getElem.1 hx
  exact hno j hj (by omega)
end Go.Proofs.YtojckjngjfgfdaaGreat
namespace Go.Proofs.YtojckjngjfgfdaaGreat
set_option linter.unusedSimpArgs false
set_option linter.unusedVariables false
open Go.Proofs.YtojckjngjfgfdaaGreat.Vc
/-! ### Inserting, as the reference does: plain facts about edits -/
theorem mem_tw {α : Type} {p : α → Bool} : ∀ {l : List α} {a : α}, a ∈ l.takeWhile p → p a = true
 | [], a, h => by simp at h
 | x :: l, a, h => by
  rw [List.takeWhile_cons] at h
  split at h
  ·rcases List.mem_cons.1 h with rfl | h
   ·assumption
   ·exact mem_tw h
  ·simp at h
theorem drop_tw {α : Type} (p : α → Bool) : ∀ l : List α, l.drop (l.takeWhile p).length = l.dropWhile p
 | [] => rfl
 | x :: l => by
  rw [List.takeWhile_cons, List.dropWhile_cons]
  split
  ·rw [List.length_cons, List.drop_succ_cons]; exact drop_tw p l
  ·rfl
def insAt (out : List De) (d : De) : Nat := (out.takeWhile fun q => lessD q d).length
def insD (out : List De) (d : De) : List De := if (out[insAt out d]?).any (fun q => keyEq q d) = true then out else out.take (insAt out d) ++ d :: out.drop (insAt out d)
theorem insAt_le (out : List De) (d : De) : insAt out d ≤ out.length := (List.takeWhile_prefix _).length_le
theorem take_insAt (out : List De) (d : De) : out.take (insAt out d) = out.takeWhile fun q => lessD q d := (List.prefix_iff_eq_take.1 (List.takeWhile_prefix _)).symm
theorem insAt_less {out : List De} {d : De} {i : Nat} (h : i < insAt out d) (hi : i < out.length) : lessD out[i] d = true := by
 have h1 : out[i] ∈ out.takeWhile fun q => lessD q d := by
  rw [← take_insAt]
  rw [List.mem_take_iff_getElem]
  exact ⟨i, by omega, rfl⟩
 exact mem_tw (p := fun q => lessD q d) h1
theorem insAt_not {out : List De} {d : De} (h : insAt out d < out.length) : lessD out[insAt out d] d = false := by
 have h2 : out.drop (insAt out d) = out.dropWhile fun q => lessD q d := drop_tw _ out
 have h3 : (out.dropWhile fun q => lessD q d) ≠ [] := by
  intro e
  have := congrArg List.length (h2.trans e)
  simp at this; omega
 have h4 := List.head_dropWhile_not (fun q => lessD q d) h3
 have h5 : (out.dropWhile fun q => lessD q d).head h3 = out[insAt out d] := by
  simp only [← h2]
  rw [List.head_drop]
 rw [h5] at h4
 simpa using h4
theorem insD_sorted {out : List De} {d : De} (h : SortedD out) : SortedD (insD out d) := by
 unfold insD
 split
 ·exact h
 ·rename_i hk
  have hta : ∀ q ∈ out.take (insAt out d), lessD q d = true := fun q hq => by
   rw [take_insAt] at hq
   exact mem_tw (p := fun q => lessD q d) hq
  have hdr : ∀ q ∈ out.drop (insAt out d), lessD d q = true := fun q hq => by
   by_cases hlt : insAt out d < out.length
   ·have h1 := insAt_not hlt
    rw [List.drop_eq_getElem_cons hlt] at hq
    have h2 : lessD d out[insAt out d] = true := by
     cases h3 : lessD d out[insAt out d] with
     | true => rfl
     | false =>
      exfalso
      rw [List.getElem?_eq_getElem hlt] at hk
      exact hk (by simpa using lessD_total h1 h3)
    rcases List.mem_cons.1 hq with rfl | hq
    ·exact h2
    ·have h4 : SortedD (out.drop (insAt out d)) := List.Pairwise.sublist (List.drop_sublist _ _) h
     rw [List.drop_eq_getElem_cons hlt] at h4
     exact lessD_trans h2 ((List.pairwise_cons.1 h4).1 q hq)
   ·rw [List.drop_eq_nil_of_le (by omega)] at hq; simp at hq
  have hs := h
  rw [← List.take_append_drop (insAt out d) out] at hs
  have hs' := List.pairwise_append.1 hs
  refine List.pairwise_append.2 ⟨hs'.1, List.pairwise_cons.2 ⟨hdr, hs'.2.1⟩, fun a ha b hb => ?_⟩
  rcases List.mem_cons.1 hb with rfl | hb
  ·exact hta a ha
  ·exact hs'.2.2 a ha b hb
theorem insD_mem {out : List De} {d : De} (hc : ∀ q ∈ out, keyEq q d = true → q = d) (x : De) : x ∈ insD out d ↔ x = d ∨ x ∈ out := by
 unfold insD
 split
 ·rename_i hk
  have hlt : insAt out d < out.length := by
   rcases Nat.lt_or_ge (insAt out d) out.length with h | h
   ·exact h
   ·rw [List.getElem?_eq_none h] at hk; simp at hk
  rw [List.getElem?_eq_getElem hlt] at hk
  have := hc _ (List.getElem_mem hlt) (by simpa using hk)
  refine ⟨.inr, fun h => ?_⟩
  rcases h with rfl | h
  ·rw [← this]; exact List.getElem_mem hlt
  ·exact h
 ·have : x ∈ out ↔ x ∈ out.take (insAt out d) ∨ x ∈ out.drop (insAt out d) := by rw [← List.mem_append, List.take_append_drop]
  rw [List.mem_append, List.mem_cons, this]
  constructor
  ·rintro (h | h | h)
   ·exact .inr (.inl h)
   ·exact .inl h
   ·exact .inr (.inr h)
  ·rintro (h | h | h)
   ·exact .inr (.inl h)
   ·exact .inl h
   ·exact .inr (.inr h)
end Go.Proofs.YtojckjngjfgfdaaGreat
namespace Go.Proofs.YtojckjngjfgfdaaGreat
set_option linter.unusedSimpArgs false
set_option linter.unusedVariables false
open Go.Proofs.YtojckjngjfgfdaaGreat.Vc
/-! ### The reference's insertion -/
def insR (l : List De) (e : De) : List De := l.take (insAt l e) ++ e :: l.drop (insAt l e)
theorem insR_eq {l : List De} {e : De} (h : ∀ q ∈ l, keyEq q e = false) : insR l e = insD l e := by
 unfold insR insD
 rw [if_neg]
 intro hk
 rcases Nat.lt_or_ge (insAt l e) l.length with h1 | h1
 ·rw [List.getElem?_eq_getElem h1] at hk
  have := h _ (List.getElem_mem h1)
  simp [this] at hk
 ·rw [List.getElem?_eq_none h1] at hk; simp at hk
theorem insR_len (l : List De) (e : De) : (insR l e).length = l.length + 1 := by
 have := insAt_le l e
 unfold insR
 rw [List.length_append, List.length_take, List.length_cons, List.length_drop]; omega
theorem rInserted (l : List De) (e : Pl) (lv : Value) (R : RO) (h : EdsV R lv l) (he : PlOK R e) (hl : l.length ≤ 100000) : CallsR Tryz.prog 64 [lv, e.ed.val] R fun R' r => EdsV R' r (insR l e.1) := by
 have hL := fun p R' => rLess p e.ed R'
 obtain ⟨a, cap, rfl, hc, hf⟩ := PlOK.of h
 simp only [Ed.val, Ed.cells, Pl.ed, De.ed] at hL ⊢
 have hale := insAt_le l e.1
 refine callsT mix Tryz.func64 comp64 (by simp [Tryz.ntmps64]) ?_; simp only [go_sem, ↓reduceIte, nQ1, nQ2, nQ3, nQ4, nQ5, nQ6, reduceCtorEq, vc64, rs64]
 refine cutL (fun s' => ∃ env R1 ps, s' = ⟨env, [.box (boxc e.ed.cells), gb 31 13 (rowP ps)], R1⟩ ∧ RO.le R R1 ∧ env 6 = .val (.int .i64 (insAt l e.1)) ∧ env 0 = .val (.slice a l.length cap) ∧ env 3 = .loc 0 0 ∧ env 5 = gs 1 ps.length ∧ ps.map (·.1) = l.take (insAt l e.1) ∧ ∀ p ∈ ps, PlOK R1 p) ?_ ?_
 ·refine vcLoopR (Nat × List Pl) (fun x => [(6, .val (.int .i64 x.1)), (0, .val (.slice a l.length cap)), (3, .loc 0 0), (5, gs 1 x.2.length)]) (fun x => [.box (boxc e.ed.cells), gb 31 13 (rowP x.2)])
   (fun x R => x.1 ≤ insAt l e.1 ∧ x.2.map (·.1) = l.take x.1 ∧ x.2.length = x.1 ∧ ∀ p ∈ x.2, PlOK R p) (fun x => l.length - x.1) (0, []) [] ?_ ?_ ?_ ?_
  ·(try simp only [go_sem, ↓reduceIte, nQ1, nQ2, nQ3, nQ4, nQ5, nQ6, reduceCtorEq]) <;> (repeat' (first | rfl | trivial | constructor | (intro h; exact absurd rfl h)))
  ·try simp only [go_sem, ↓reduceIte, nQ1, nQ2, nQ3, nQ4, nQ5, nQ6, reduceCtorEq]
   exact boxc_ok _ _
  ·exact ⟨Nat.zero_le _, rfl, rfl, by simp⟩
  rintro ⟨i, ps⟩ env R1 hle1 hE ⟨hi, hps, hpl, hpo⟩
  simp only [] at hi hps hpl hpo
  simp only [boxc, Ed.cells, Pl.ed, De.ed, List.map_cons, List.map_nil] at hE ⊢
  (simp only [go_sem] at hE; obtain ⟨e6, e0, e3, e5⟩ := hE; simp only [go_sem, ↓reduceIte, nQ1, nQ2, nQ3, nQ4, nQ5, nQ6, reduceCtorEq, e6, e0, e3, e5]; dsimp only at *)
  refine ⟨fun hlt => ?_, fun hge => ?_⟩
  ·have hlt' : i < l.length := by omega
   obtain ⟨ad, p, had, hp1, hR, hpok⟩ := hf i hlt'
   have hcells : ∀ j u, (p.ed.cells)[j]? = some u → R1 ((ad.add (i * 13)).add j) u := fun j u hj => hle1 _ _ (hR j u hj)
   refine ⟨by omega, vat ad had ?_⟩
   try simp only [go_sem, ↓reduceIte, nQ1, nQ2, nQ3, nQ4, nQ5, nQ6, reduceCtorEq]
   refine vloadn p.ed.cells rfl hcells ?_
   simp only [go_sem, ↓reduceIte, nQ1, nQ2, nQ3, nQ4, nQ5, nQ6, reduceCtorEq, Ed.cells, Pl.ed, De.ed, e6, e0, e3, e5]
   have hLp := hL p.ed R1
   simp only [Ed.val, Ed.cells, Pl.ed, De.ed] at hLp
   refine vcall hLp ?_
   rintro R2 v hle2 rfl
   have hle : lessE p.ed e.ed = lessD p.1 e.1 := rfl
   simp only [Pl.ed, De.ed] at hle
   rw [hle]
   try simp only [go_sem, ↓reduceIte, nQ1, nQ2, nQ3, nQ4, nQ5, nQ6, reduceCtorEq, iQ1, iQ2, iQ3, iQ4, iQ5, iQ6, e6, e0, e3, e5]
   refine ⟨fun hl => ?_, fun hl => ?_⟩
   ·refine ⟨by omega, vat ad had ?_⟩
    try simp only [go_sem, ↓reduceIte, nQ1, nQ2, nQ3, nQ4, nQ5, nQ6, reduceCtorEq]
    refine vloadn p.ed.cells rfl (fun j u hj => hle2 _ _ (hcells j u hj)) ?_
    simp only [go_sem, ↓reduceIte, nQ1, nQ2, nQ3, nQ4, nQ5, nQ6, reduceCtorEq, Ed.cells, Pl.ed, De.ed, e6, e0, e3, e5]
    refine vgrow (rowP ps) (fun h0 => by rw [gb_ne h0]; rfl) (fun h0 => by rw [h0, gb_nil]; rfl) (by rw [rowP_len]) (by omega) (by omega) (by omega) ?_
    simp only [go_sem, ↓reduceIte, nQ1, nQ2, nQ3, nQ4, nQ5, nQ6, reduceCtorEq, e6, e0, e3, e5]
    refine ⟨_, W.in64 (by omega), (i + 1, ps ++ [p]), [0, 3], ?_⟩
    try simp only [go_sem, ↓reduceIte, nQ1, nQ2, nQ3, nQ4, nQ5, nQ6, reduceCtorEq]
    refine ⟨by omega, (by repeat' (first | rfl | exact fun _ => by rw [rowP_snoc]; rfl | exact fun h => gb_ne h | constructor)), (by first | decide | exact ⟨boxc_ok _ _, by decide⟩), ?_, by rw [List.map_append, hps, List.take_succ_eq_append_getElem hlt', ← hp1]; rfl, by simp [hpl], fun q hq => ?_⟩
    ·rcases Nat.lt_or_ge i (insAt l e.1) with h1 | h1
     ·exact h1
     ·exfalso
      obtain rfl : i = insAt l e.1 := by omega
      have := insAt_not (by omega : insAt l e.1 < l.length)
      rw [← hp1, hl] at this
      cases this
    ·rcases List.mem_append.1 hq with hq | hq
     ·exact (hpo q hq).mono hle2
     ·simp only [List.mem_cons, List.not_mem_nil, or_false] at hq
      subst hq
      exact hpok.mono (RO.le_trans hle1 hle2)
   ·have hia : i = insAt l e.1 := by
     rcases Nat.lt_or_ge i (insAt l e.1) with h1 | h1
     ·have := insAt_less h1 hlt'
      rw [← hp1, hl] at this; cases this
     ·omega
    rw [← hia]
    exact ⟨_, _, ps, rfl, RO.le_trans hle1 hle2, e6, e0, e3, e5, hps, fun q hq => (hpo q hq).mono hle2⟩
  ·have hia : i = insAt l e.1 := by omega
   rw [← hia]
   exact ⟨_, _, ps, rfl, hle1, e6, e0, e3, e5, hps, hpo⟩
 rintro s' ⟨env, R1, ps, rfl, hle1, e6, e0, e3, e5, hps, hpo⟩
 have hpl : ps.length = insAt l e.1 := by
  have := congrArg List.length hps
  rw [List.length_map, List.length_take] at this; omega
 simp only [boxc, Ed.cells, Pl.ed, De.ed, List.map_cons, List.map_nil]
 try simp only [go_sem, ↓reduceIte, nQ1, nQ2, nQ3, nQ4, nQ5, nQ6, reduceCtorEq, iQ1, iQ2, iQ3, iQ4, iQ5, iQ6, e6, e0, e3, e5]
 refine vgrow (rowP ps) (fun h0 => by rw [gb_ne h0]; rfl) (fun h0 => by rw [h0, gb_nil]; rfl) (by rw [rowP_len]) (by omega) (by omega) (by omega) ?_
 try simp only [go_sem, ↓reduceIte, nQ1, nQ2, nQ3, nQ4, nQ5, nQ6, reduceCtorEq, iQ1, iQ2, iQ3, iQ4, iQ5, iQ6, e6, e0, e3, e5]
 refine ⟨insAt l e.1, l.length, rfl, rfl, by omega, by omega, ?_⟩
 have hsub := EdsV.sub (h.mono hle1) hale (Nat.le_refl _)
 rw [List.take_length] at hsub
 have hdl : (l.drop (insAt l e.1)).length = l.length - insAt l e.1 := List.length_drop
 rw [← hdl] at hsub ⊢
 obtain ⟨a2, cap2, qs, e1, hqs, hqo, hsrc⟩ := hsub.src
 obtain ⟨rfl, _, rfl⟩ := Value.slice.inj e1
 refine hsrc ?_
 try simp only [go_sem, ↓reduceIte, nQ1, nQ2, nQ3, nQ4, nQ5, nQ6, reduceCtorEq, iQ1, iQ2, iQ3, iQ4, iQ5, iQ6, e6, e0, e3, e5]
 refine vappO (rowP (ps ++ [e])) (by rw [rowP_snoc]; rfl) (by rw [rowP_len]; simp) (by rw [hdl]; omega) ?_
 try simp only [go_sem, ↓reduceIte, nQ1, nQ2, nQ3, nQ4, nQ5, nQ6, reduceCtorEq, iQ1, iQ2, iQ3, iQ4, iQ5, iQ6, e6, e0, e3, e5]
 rw [← rowP_app]
 intro bb bc R2 hle2 hrow hcap _
 try simp only [go_sem, ↓reduceIte, nQ1, nQ2, nQ3, nQ4, nQ5, nQ6, reduceCtorEq]
 have hlen : ps.length + 1 + (l.drop (insAt l e.1)).length = (ps ++ [e] ++ qs).length := by
  have := congrArg List.length hqs
  rw [List.length_map] at this
  simp only [List.length_append, List.length_cons, List.length_nil]; omega
 have hm : insR l e.1 = (ps ++ [e] ++ qs).map (·.1) := by
  unfold insR
  rw [List.map_append, List.map_append, hps, hqs]; simp
 rw [hlen, hm]
 refine EdsV.row hrow (by rw [rowP_app, List.length_append]; exact hcap) (fun q hq => ?_) (by rw [← hlen, hdl]; omega)
 rcases List.mem_append.1 hq with hq | hq
 ·rcases List.mem_append.1 hq with hq | hq
  ·exact (hpo q hq).mono hle2
  ·simp only [List.mem_cons, List.not_mem_nil, or_false] at hq
   subst hq
   exact he.mono (RO.le_trans hle1 hle2)
 ·exact (hqo q hq).mono hle2
/-! ### Add, Sync of the reference -/
theorem rAddD (d : Dv) (v : Value) (e : De) (ra : Option Addr) (rn rc : Nat) (R : RO) (h : EdsV R v d.edits) (he : RuleV R (.slice ra rn rc) e.rule) :
  CallsR Tryz.prog 18 [.agg (dvCells d v).toArray, .agg ((e.ed ra rn rc).cells).toArray] R fun R' r => DvR R' r (dvAdd d e) := by
 have hV := rValidD d v
 have h0 := h
 have hrn := he.len
 have hVe := fun R' => rValid ((bareD e).ed ra rn rc) R'
 obtain ⟨vb, hvb⟩ : ∃ vb, validD (bareD e) = vb := ⟨_, rfl⟩
 have hve : validE ((bareD e).ed ra rn rc) = vb := (validE_ed (bareD e, ra, rn, rc) hrn).trans hvb
 obtain ⟨a, cap, rfl, hc, _⟩ := h.form
 simp only [Ed.val, Ed.cells, De.ed, bareD] at hVe hve
 simp only [dvCells, Ed.cells, De.ed] at hV ⊢
 refine callsT mix Tryz.func18 comp18 (by simp [Tryz.ntmps18]) ?_; simp only [go_sem, ↓reduceIte, nQ1, nQ2, nQ3, nQ4, nQ5, nQ6, reduceCtorEq, vc18, rs18]
 refine vcall (hV R h0) ?_
 rintro R1 r hle1 rfl
 unfold dvAdd
 rw [hvb]
 cases hv : validV d with
 | false =>
  try simp only [go_sem, ↓reduceIte, nQ1, nQ2, nQ3, nQ4, nQ5, nQ6, reduceCtorEq]
  try rw [if_neg (by simp)]
  try exact rfl
 | true =>
 have hh := validV_hdr hv
 try simp only [go_sem, ↓reduceIte, nQ1, nQ2, nQ3, nQ4, nQ5, nQ6, reduceCtorEq]
 refine vcall (hVe R1) ?_
 rintro R2 r hle2 rfl
 rw [hve]
 cases vb with
 | false =>
  try simp only [go_sem, ↓reduceIte, nQ1, nQ2, nQ3, nQ4, nQ5, nQ6, reduceCtorEq]
  try rw [if_neg (by simp)]
  try exact rfl
 | true =>
 try simp only [go_sem, ↓reduceIte, nQ1, nQ2, nQ3, nQ4, nQ5, nQ6, reduceCtorEq]
 refine ⟨fun h1 => ⟨fun h2 => ?_, fun h2 => ?_⟩, fun h1 => ?_⟩
 ·rw [if_pos (.inr h2)]; exact rfl
 ·rw [if_neg (show ¬ (4096 ≤ d.edits.length ∨ 17179869184 ≤ d.next) by omega)]
  refine ⟨_, W.in64 (by omega), _, W.in64 (by omega), ?_⟩
  have hle02 := RO.le_trans hle1 hle2
  obtain ⟨a', cap', ps, e1, hps, hpo, hsrc⟩ := (h0.mono hle02).src
  obtain ⟨rfl, _, rfl⟩ := Value.slice.inj e1
  have hpl : ps.length = d.edits.length := by rw [← hps, List.length_map]
  refine hsrc ?_
  try simp only [go_sem, ↓reduceIte, nQ1, nQ2, nQ3, nQ4, nQ5, nQ6, reduceCtorEq]
  refine vappO [] rfl rfl (by omega) ?_
  try simp only [go_sem, ↓reduceIte, nQ1, nQ2, nQ3, nQ4, nQ5, nQ6, reduceCtorEq]
  refine vappO (rowP ps) rfl (by rw [rowP_len, hpl]) (by omega) ?_
  try simp only [go_sem, ↓reduceIte, nQ1, nQ2, nQ3, nQ4, nQ5, nQ6, reduceCtorEq]
  refine ⟨_, W.in64 (by omega), ?_⟩
  try simp only [go_sem, ↓reduceIte, nQ1, nQ2, nQ3, nQ4, nQ5, nQ6, reduceCtorEq]
  intro bb bc R3 hle3 hrow hcap _
  try simp only [go_sem, ↓reduceIte, nQ1, nQ2, nQ3, nQ4, nQ5, nQ6, reduceCtorEq]
  refine ⟨_, rfl, ?_⟩
  have hrow' : RowIn R3 bb (rowP (ps ++ [(stampD d e, ra, rn, rc)])) := by rw [rowP_snoc]; exact hrow
  have := EdsV.row hrow' (by rw [rowP_snoc, List.length_append]; exact hcap) (fun q hq => ?_) (by rw [List.length_append, hpl]; show d.edits.length + 1 ≤ _; omega)
  ·rw [List.map_append, hps, List.length_append, hpl] at this
   exact this
  ·rcases List.mem_append.1 hq with hq | hq
   ·exact (hpo q hq).mono hle3
   ·simp only [List.mem_cons, List.not_mem_nil, or_false] at hq
    subst hq
    exact he.mono (RO.le_trans hle02 hle3)
 ·rw [if_pos (.inl (by omega))]; exact rfl
end Go.Proofs.YtojckjngjfgfdaaGreat
