/- Lemmas of our own, no statement of the seat; the last one of the claim's texts proves the law. -/
import Derived.Ground.SlsfProg
import Derived.Test.YtdgndfabdmecmaaGreatBzf
import Derived.Test.YtdgndfabdmecmaaGreatBze
import Derived.Test.YtdgndfabdmecmaaGreatBzc
import Derived.Test.YtdgndfabdmecmaaGreatVcY
import Derived.Test.YtdgndfabdmecmaaGreatBzd
open Nat renaming reduceEqDiff → Qa, reduceAdd → Qb, reduceMul → Qc, reduceLeDiff → Qd, reduceLT → Qe, reduceBNe → Qf
open Int renaming reduceLE → Ja, reduceLT → Jb, reduceToNat → Jc, cast_ofNat_Int → Jd, reduceEq → Je, reduceNe → Jf
set_option linter.unusedSimpArgs false
set_option linter.unusedVariables false
namespace Go.Proofs.YtdgndfabdmecmaaGreat
open Go.Proofs.YtdgndfabdmecmaaGreat.Vc
structure Zn where
 cal : Cal
 start : Int
 trans : List Tr
 hor : Int
 yearly : List Yr
structure ZnIn (R : RO) (z : Zv) (n : Zn) : Prop where
 ep : z.ep = n.cal.epoch
 leap : z.leap = n.cal.leap
 cal : CalIn R n.cal (.slice z.ma z.mn z.mc) (.slice z.ra z.rn z.rc)
 start : z.start = n.start
 hor : z.hor = n.hor
 trans : TrV R (.slice z.ta z.tn z.tc) n.trans
 yearly : EncV Yr.cells 5 R (.slice z.ya z.yn z.yc) n.yearly
theorem ZnIn.mono {R R' : RO} {z : Zv} {n : Zn} (h : ZnIn R z n) (hle : RO.le R R') : ZnIn R' z n :=
 ⟨h.ep, h.leap, h.cal.mono hle, h.start, h.hor, h.trans.mono hle, h.yearly.mono hle⟩
theorem EncV.slen {α : Type} {enc : α → List Value} {k : Nat} {R : RO} {a : Option Addr} {n c : Nat} {xs : List α} (h : EncV enc k R (.slice a n c) xs) : n = xs.length := by
 obtain ⟨a', c', e, _, _⟩ := h.form
 simp only [Value.slice.injEq] at e
 exact e.2.1
theorem rCycle13 (z : Zv) (n : Zn) (R : RO) (h : ZnIn R z n) (hv : n.cal.valid) : CallsR Tryz.prog 54 [.agg z.cells.toArray] R fun _ v => v = .int .i64 (if n.yearly = [] then 1 else cycD n.cal) := by
 have hyl := h.yearly.slen
 have hep := h.ep
 have hlp := h.leap
 have hC := fun R' (hle : RO.le R R') => rCycle n.cal _ _ R' (h.cal.mono hle)
 obtain ⟨ep, ma, mn, mc, lp, ra, rn, rc, st, ta, tn, tc, ho, ya, yn, yc⟩ := z
 dsimp only at hyl hep hlp hC
 subst hep hlp
 simp only [Zv.cells, cv, cycA, if_pos hv] at hC ⊢
 refine callsT mix Tryz.func54 comp54 (by simp [Tryz.ntmps54]) ?_; simp only [go_sem, ↓reduceIte, Qa, Qb, Qc, Qd, Qe, Qf, reduceCtorEq, vc54, rs54]
 have hdb := hv.days_bd
 have hpp := hv.per.2.1
 refine ⟨fun h0 => ?_, fun h0 => ?_⟩
 ·rw [if_pos (List.eq_nil_of_length_eq_zero (by omega))]
 rw [if_neg (fun e => h0 (by rw [hyl, e]; rfl))]
 refine vcall (hC R (RO.le_refl R)) ?_
 rintro R1 r hle1 rfl
 try simp only [go_sem, ↓reduceIte, Qa, Qb, Qc, Qd, Qe, Qf, reduceCtorEq, Ja, Jb, Jc, Jd, Je, Jf]
 rw [Int.tmod_eq_emod_of_nonneg (by omega : 0 ≤ n.cal.days)]
 unfold cycD
 refine ⟨fun h7 => ⟨_, W.in64 (by omega), ?_⟩, fun h7 => ?_⟩
 ·rw [if_neg h7, Int.mul_comm]
 ·rw [if_pos (by omega)]
def YearsV (R : RO) (v : Value) (n : Zn) : Prop := match n.yearly with
 | [r0, r1] => ∃ L u, v = .tuple #[u, .bool (decide (Far L (cycD n.cal)))] ∧ TrV R u L ∧ L.Perm (unsT n.cal r0 r1) ∧ Sor L
 | _ => ∃ u, v = .tuple #[u, .bool true] ∧ TrV R u []
def partY (c : Cal) (r0 r1 : Yr) (begin y : Int) (k : Nat) : List Tr := if k = 0 then [] else if k = 1 then yr1 c begin y r0 r1 else yrT c r0 r1 begin y
theorem partY_succ (c : Cal) (r0 r1 : Yr) (begin y : Int) (k : Nat) (hk : k < 2) (h1 : k < [r0, r1].length) (h2 : 1 - k < [r0, r1].length) : partY c r0 r1 begin y (k + 1) = partY c r0 r1 begin y k ++ yr1 c begin y [r0, r1][k] [r0, r1][1 - k] := by
 rcases (by omega : k = 0 ∨ k = 1) with rfl | rfl <;> simp [partY, yrT]
theorem goY_bd {c : Cal} (hv : c.valid) {r0 r1 : Yr} (h0 : YrOK c r0) (h1 : YrOK c r1) (e : Int) (he : e ≤ 3000000) : ∀ (f : Nat) (begin y : Int) (out : List Tr), 0 ≤ begin → (∀ x ∈ out, -10000000000 ≤ x.pos ∧ x.pos ≤ 10000000000) → ∀ x ∈ goY c r0 r1 e f begin y out, -10000000000 ≤ x.pos ∧ x.pos ≤ 10000000000
 | 0, _, _, _, _, ho, x, hx => ho x hx
 | f + 1, begin, y, out, hb, ho, x, hx => by
  rw [goY] at hx
  split at hx
  ·have hyl := hv.ylen_bd y
   refine goY_bd hv h0 h1 e he f _ _ _ (by omega) (fun x hx => ?_) x hx
   rcases List.mem_append.1 hx with hx | hx
   ·exact ho x hx
   ·have b0 := ydA_bd hv begin y h0
    have b1 := ydA_bd hv begin y h1
    have m0 := h0.minute
    have m1 := h1.minute
    have o0 := h0.off
    have o1 := h1.off
    rcases List.mem_append.1 hx with hx | hx <;> unfold yr1 at hx <;> split at hx <;> simp only [List.mem_singleton, List.not_mem_nil] at hx <;> subst hx <;> dsimp only <;> omega
  ·exact ho x hx
theorem unsT_bd {c : Cal} (hv : c.valid) {r0 r1 : Yr} (h0 : YrOK c r0) (h1 : YrOK c r1) : ∀ x ∈ unsT c r0 r1, -10000000000 ≤ x.pos ∧ x.pos ≤ 10000000000 := by
 have h2 := hv.1
 have hdb := hv.days_bd
 have hpp := hv.per.2.1
 have h3 := cycD_bd (c := c) (by omega)
 exact goY_bd hv h0 h1 _ (by omega) _ _ _ _ (by omega) (by simp)
set_option maxHeartbeats 4000000 in
theorem rYearly (z : Zv) (n : Zn) (R : RO) (h : ZnIn R z n) (hv : n.cal.valid) (hy : n.yearly = [] ∨ ∃ r0 r1, n.yearly = [r0, r1] ∧ (YrOK n.cal r0 ∧ (r0.week = 1 ∨ r0.week = 5)) ∧ (YrOK n.cal r1 ∧ (r1.week = 1 ∨ r1.week = 5))) :
  CallsR Tryz.prog 52 [.agg z.cells.toArray] R fun R' v => YearsV R' v n := by
 have hyl := h.yearly.slen
 have hep := h.ep
 have hlp := h.leap
 have hyr := h.yearly
 have hcal := h.cal
 have hCy := fun R' (hle : RO.le R R') => rCycle13 z n R' (h.mono hle) hv
 have hF := fun R' (hle : RO.le R R') => rFind n.cal hv _ _ R' (h.cal.mono hle)
 have hYL := fun R' (hle : RO.le R R') => rYearLength n.cal _ _ R' (h.cal.mono hle)
 obtain ⟨ep, ma, mn, mc, lp, ra, rln, rc, st, ta, tn, tc, ho, ya, yn, yc⟩ := z
 obtain ⟨c, nst, ntr, nho, nyl⟩ := n
 dsimp only at hyl hep hlp hyr hF hYL hcal hv hy hCy
 subst hep hlp
 simp only [Zv.cells, cv] at hCy hF hYL ⊢
 have hdb := hv.days_bd
 have hpp := hv.per.2.1
 have hcb := cycD_bd (c := c) (by omega)
 have hepb := hv.1
 refine callsT mix Tryz.func52 comp52 (by simp [Tryz.ntmps52]) ?_; simp only [go_sem, ↓reduceIte, Qa, Qb, Qc, Qd, Qe, Qf, reduceCtorEq, vc52, rs52]
 unfold YearsV
 dsimp only
 refine ⟨fun h0 => ?_, fun h0 => ?_⟩
 ·have he : nyl = [] := List.eq_nil_of_length_eq_zero (by omega)
  rw [he]
  intro b cap R' hle hrow hcap hfr
  try simp only [go_sem, ↓reduceIte, Qa, Qb, Qc, Qd, Qe, Qf, reduceCtorEq, Ja, Jb, Jc, Jd, Je, Jf]
  exact ⟨_, rfl, ⟨some ⟨b, 0, none⟩, cap, rfl, Nat.zero_le _, by simp⟩, by simp⟩
 have hy2 := hy.resolve_left (fun e => h0 (by rw [hyl, e]; rfl))
 obtain ⟨r0, r1, hye, ⟨hr0, hw0⟩, ⟨hr1, hw1⟩⟩ := hy2
 rw [hye] at hyr hyl ⊢
 obtain rfl : yn = 2 := hyl
 rw [hye] at hCy
 obtain ⟨ya', yc', hyE, hyc, hyf⟩ := hyr.form
 simp only [Value.slice.injEq] at hyE
 obtain ⟨rfl, _, rfl⟩ := hyE
 simp only [List.length_cons, List.length_nil, Nat.zero_add, Nat.reduceAdd] at hyf
 refine vcall (hCy R (RO.le_refl R)) ?_
 rintro R1 r hle1 rfl
 rw [if_neg (by simp)]
 try simp only [go_sem, ↓reduceIte, Qa, Qb, Qc, Qd, Qe, Qf, reduceCtorEq, Ja, Jb, Jc, Jd, Je, Jf]
 have hU : goY c r0 r1 (c.epoch + cycD c) (cycD c + 1).toNat c.epoch 1 [] = unsT c r0 r1 := rfl
 refine vcLoopR (Nat × Int × Int × List Tr × List Tr) (fun x => [(6, .val (.int .i64 x.2.1)), (7, .val (.int .i64 x.2.2.1)), (5, .val (.int .i64 (cycD c))), (1, .loc 0 0), (4, .sl 1 x.2.2.2.2.length)])
  (fun x => [.box [.val (.int .i64 c.epoch), .val (.slice ma mn mc), .val (.int .i64 c.leap), .val (.slice ra rln rc), .val (.int .i64 st), .val (.slice ta tn tc), .val (.int .i64 ho), .val (.slice ya 2 yc)], .row 95 2 (rowTr x.2.2.2.2)])
  (fun x _ => (goY c r0 r1 (c.epoch + cycD c) x.1 x.2.1 x.2.2.1 x.2.2.2.1 = unsT c r0 r1 ∧ x.2.2.2.2.Perm x.2.2.2.1 ∧ Sor x.2.2.2.2) ∧ (c.epoch ≤ x.2.1 ∧ x.2.1 ≤ c.epoch + cycD c + 656) ∧ (1 ≤ x.2.2.1 ∧ x.2.2.1 ≤ x.2.1 + 1) ∧ (x.2.2.2.2.length : Int) ≤ 2 * (x.2.2.1 - 1) ∧ (c.epoch + cycD c - x.2.1).toNat < x.1)
  (fun x => (c.epoch + cycD c - x.2.1).toNat) ((cycD c + 1).toNat, c.epoch, 1, [], []) [] ?_ ?_ ?_ ?_
 ·(try simp only [go_sem, ↓reduceIte, Qa, Qb, Qc, Qd, Qe, Qf, reduceCtorEq]) <;> (repeat' (first | rfl | trivial | constructor | (intro h; exact absurd rfl h)))
 ·try simp only [go_sem, ↓reduceIte, Qa, Qb, Qc, Qd, Qe, Qf, reduceCtorEq]
 ·exact ⟨⟨hU, List.Perm.refl _, List.Pairwise.nil⟩, ⟨Int.le_refl _, by dsimp only; omega⟩, ⟨by dsimp only; omega, by dsimp only; omega⟩, by simp, by dsimp only; omega⟩
 rintro ⟨f, begin, y, U, out⟩ env R2 hle2 hE ⟨⟨h1, h2, h3⟩, ⟨h4, h5⟩, ⟨h6, h7⟩, h8, h9⟩
 dsimp only at h1 h2 h3 h4 h5 h6 h7 h8 h9
 (simp only [go_sem] at hE; obtain ⟨e6, e7, e5, e1, e4⟩ := hE; simp only [go_sem, ↓reduceIte, Qa, Qb, Qc, Qd, Qe, Qf, reduceCtorEq, e6, e7, e5, e1, e4]; dsimp only at *)
 refine ⟨_, W.in64 (by omega), fun hlt => ?_, fun hge => ?_⟩
 ·have hall : ∀ i (h : i < [r0, r1].length), YrOK c [r0, r1][i] ∧ ([r0, r1][i].week = 1 ∨ [r0, r1][i].week = 5) := fun i hi => by
   rcases (by simp only [List.length_cons, List.length_nil] at hi; omega : i = 0 ∨ i = 1) with rfl | rfl
   ·exact ⟨hr0, hw0⟩
   ·exact ⟨hr1, hw1⟩
  refine vcLoopR (Nat × List Tr) (fun x => [(8, .val (.int .i64 x.1)), (6, .val (.int .i64 begin)), (7, .val (.int .i64 y)), (5, .val (.int .i64 (cycD c))), (1, .loc 0 0), (4, .sl 1 x.2.length)])
   (fun x => [.box [.val (.int .i64 c.epoch), .val (.slice ma mn mc), .val (.int .i64 c.leap), .val (.slice ra rln rc), .val (.int .i64 st), .val (.slice ta tn tc), .val (.int .i64 ho), .val (.slice ya 2 yc)], .row 95 2 (rowTr x.2)])
   (fun x _ => x.1 ≤ 2 ∧ x.2.Perm (U ++ partY c r0 r1 begin y x.1) ∧ Sor x.2 ∧ (x.2.length : Int) ≤ 2 * (y - 1) + x.1) (fun x => 2 - x.1) (0, out) [] ?_ ?_ ?_ ?_
  ·try simp only [go_sem, ↓reduceIte, Qa, Qb, Qc, Qd, Qe, Qf, reduceCtorEq, e6, e7, e5, e1, e4]
   rfl
  ·try simp only [go_sem, ↓reduceIte, Qa, Qb, Qc, Qd, Qe, Qf, reduceCtorEq]
  ·exact ⟨by omega, by simpa [partY] using h2, h3, by simpa using h8⟩
  rintro ⟨k, o⟩ env R3 hle3 hE ⟨g1, g2, g3, g4⟩
  dsimp only at g1 g2 g3 g4
  (simp only [go_sem] at hE; obtain ⟨e8, e6', e7', e5', e1', e4'⟩ := hE; simp only [go_sem, ↓reduceIte, Qa, Qb, Qc, Qd, Qe, Qf, reduceCtorEq, e8, e6', e7', e5', e1', e4']; dsimp only at *)
  refine ⟨fun hlt2 => ?_, fun hge2 => ?_⟩
  ·have hk2 : k < [r0, r1].length := by simp only [List.length_cons, List.length_nil]; omega
   have hk3 : 1 - k < [r0, r1].length := by simp only [List.length_cons, List.length_nil]; omega
   have hps := partY_succ c r0 r1 begin y k (by omega) hk2 hk3
   obtain ⟨ad, had, hR⟩ := hyf k hk2
   obtain ⟨ad', had', hR'⟩ := hyf (1 - k) hk3
   obtain ⟨hro, hrw⟩ := hall k hk2
   obtain ⟨hoo, -⟩ := hall (1 - k) hk3
   obtain ⟨r, hr⟩ : ∃ r, r = [r0, r1][k] := ⟨_, rfl⟩
   obtain ⟨r', hr'⟩ : ∃ r, r = [r0, r1][1 - k] := ⟨_, rfl⟩
   rw [← hr] at hR hro hrw hps
   rw [← hr'] at hR' hoo hps
   have hleR := RO.le_trans hle1 (RO.le_trans hle2 hle3)
   refine ⟨by omega, vat ad had ?_⟩
   try simp only [go_sem, ↓reduceIte, Qa, Qb, Qc, Qd, Qe, Qf, reduceCtorEq]
   refine vloadn r.cells rfl (fun j u hj => hleR _ _ (hR j u hj)) ?_
   simp only [go_sem, ↓reduceIte, Qa, Qb, Qc, Qd, Qe, Qf, reduceCtorEq, Yr.cells, e8, e6', e7', e5', e1', e4']
   refine vcall (hF R3 hleR begin y r hro hrw (by omega) (by omega)) ?_
   rintro R4 v hle4 ⟨d, rfl, hd⟩
   have hyd := ydA_bd hv begin y hro
   have hmi := hro.minute
   have hoff := hoo.off
   try simp only [go_sem, ↓reduceIte, Qa, Qb, Qc, Qd, Qe, Qf, reduceCtorEq, e8, e6', e7', e5', e1', e4']
   obtain ⟨b, hb⟩ : ∃ b, b = (ydA c begin y r).2 := ⟨_, rfl⟩
   rw [← hb] at hd ⊢
   have hleR4 := RO.le_trans hleR hle4
   cases b with
   | true =>
    obtain rfl := hd rfl
    have hy1 : yr1 c begin y r r' = [⟨(ydA c begin y r).1 * 1440 + r.minute - r'.off, r.off⟩] := by unfold yr1; rw [← hb, if_pos rfl]
    try simp only [go_sem, ↓reduceIte, Qa, Qb, Qc, Qd, Qe, Qf, reduceCtorEq, e8, e6', e7', e5', e1', e4']
    refine ⟨_, W.in64 (by omega), by omega, vat ad had ?_⟩
    try simp only [go_sem, ↓reduceIte, Qa, Qb, Qc, Qd, Qe, Qf, reduceCtorEq]
    refine vload (.int .i64 r.minute) (hleR4 _ _ (hR 3 _ rfl)) ?_
    try simp only [go_sem, ↓reduceIte, Qa, Qb, Qc, Qd, Qe, Qf, reduceCtorEq, e8, e6', e7', e5', e1', e4']
    refine ⟨_, W.in64 (by omega), _, W.in64 (by omega), by omega, by omega, ?_⟩
    rw [show (1 - (k : Int)).toNat = 1 - k by omega]
    refine vat ad' had' ?_
    try simp only [go_sem, ↓reduceIte, Qa, Qb, Qc, Qd, Qe, Qf, reduceCtorEq]
    refine vload (.int .i64 r'.off) (hleR4 _ _ (hR' 4 _ rfl)) ?_
    try simp only [go_sem, ↓reduceIte, Qa, Qb, Qc, Qd, Qe, Qf, reduceCtorEq, e8, e6', e7', e5', e1', e4']
    refine ⟨_, W.in64 (by omega), by omega, vat ad had ?_⟩
    try simp only [go_sem, ↓reduceIte, Qa, Qb, Qc, Qd, Qe, Qf, reduceCtorEq]
    refine vload (.int .i64 r.off) (hleR4 _ _ (hR 4 _ rfl)) ?_
    try simp only [go_sem, ↓reduceIte, Qa, Qb, Qc, Qd, Qe, Qf, reduceCtorEq, e8, e6', e7', e5', e1', e4']
    have hI := rInsT o ⟨(ydA c begin y r).1 * 1440 + r.minute - r'.off, r.off⟩ g3 (by omega) R4
    simp only [Tr.cells] at hI
    refine vhand [1] [.sl 0 o.length, .val (.agg #[.int .i64 ((ydA c begin y r).1 * 1440 + r.minute - r'.off), .int .i64 r.off])] [.row 95 2 (rowTr o)] hI rfl rfl rfl ?_ (by simp) rfl rfl ?_
    ·try simp only [go_sem, ↓reduceIte, Qa, Qb, Qc, Qd, Qe, Qf, reduceCtorEq]
    rintro R5 bs rr hle5 ⟨ys, hp, hs, rfl, rfl⟩ -
    simp only [go_sem, ↓reduceIte, Qa, Qb, Qc, Qd, Qe, Qf, reduceCtorEq, setG, rn, e8, e6', e7', e5', e1', e4']
    have hyl := hp.length_eq
    simp only [List.length_cons] at hyl
    refine ⟨_, W.in64 (by omega), (k + 1, ys), [0, 4], by dsimp only; omega, ⟨⟨by norm_cast, rfl, rfl⟩, ?_⟩, by decide, by dsimp only; omega, ?_, hs, by dsimp only; omega⟩
    ·exact ⟨rfl, rfl⟩
    ·dsimp only
     rw [hps, hy1, ← List.append_assoc]
     exact hp.trans ((List.perm_append_singleton _ _).symm.trans (List.Perm.append_right _ g2))
   | false =>
    have hy1 : yr1 c begin y r r' = [] := by unfold yr1; rw [← hb]; rfl
    try simp only [go_sem, ↓reduceIte, Qa, Qb, Qc, Qd, Qe, Qf, reduceCtorEq, e8, e6', e7', e5', e1', e4']
    refine ⟨_, W.in64 (by omega), (k + 1, o), [], by dsimp only; omega, ⟨⟨by norm_cast, rfl, rfl⟩, ?_⟩, by decide, by dsimp only; omega, ?_, g3, by dsimp only; omega⟩
    ·exact ⟨rfl, rfl⟩
    ·dsimp only
     rw [hps, hy1, List.append_nil]
     exact g2
  ·obtain rfl : k = 2 := by omega
   refine vcall (hYL R3 (RO.le_trans hle1 (RO.le_trans hle2 hle3)) y (by unfold I64; omega)) ?_
   rintro R4 v hle4 rfl
   have hyb := hv.ylen_bd y
   have hml1 := hv.2.1.1
   have hyA : ylenA c y = c.ylen y := if_pos hv
   try simp only [go_sem, ↓reduceIte, Qa, Qb, Qc, Qd, Qe, Qf, reduceCtorEq, e8, e6', e7', e5', e1', e4']
   rw [hyA]
   have hgs := goY_step c r0 r1 (c.epoch + cycD c) (f - 1) (y := y) (out := U) hlt
   rw [show f - 1 + 1 = f by omega] at hgs
   refine ⟨_, W.in64 (by omega), _, W.in64 (by omega), (f - 1, begin + c.ylen y, y + 1, U ++ yrT c r0 r1 begin y, o), [], by dsimp only; omega, ⟨⟨rfl, rfl, rfl, rfl⟩, rfl, rfl⟩, by decide, ⟨?_, ?_, g3⟩, by dsimp only; omega, by dsimp only; omega, by dsimp only; omega, by dsimp only; omega⟩
   ·dsimp only
    rw [← hgs]; exact h1
   ·exact g2
 ·have hU2 : U = unsT c r0 r1 := by rw [← h1, goY_stop _ _ _ _ _ (by omega)]
  have hob : ∀ x ∈ out, -10000000000 ≤ x.pos ∧ x.pos ≤ 10000000000 := fun x hx => unsT_bd hv hr0 hr1 x (by rw [← hU2]; exact h2.mem_iff.1 hx)
  have hcl : ∀ i j (hi : i < out.length), j < 2 → (rowTr out)[i * 2 + j]? = (out[i].cells)[j]? := fun i j hi hj => rowTr_get out i j hi hj
  refine vcLoop Nat (fun i => [(11, .val (.int .i64 i)), (5, .val (.int .i64 (cycD c))), (4, .sl 1 out.length)]) (fun _ => [.box [.val (.int .i64 c.epoch), .val (.slice ma mn mc), .val (.int .i64 c.leap), .val (.slice ra rln rc), .val (.int .i64 st), .val (.slice ta tn tc), .val (.int .i64 ho), .val (.slice ya 2 yc)], .row 95 2 (rowTr out)])
   (fun i _ => i ≤ out.length ∧ ∀ a (h : a < out.length), a < i → 2160 ≤ (if h2 : a + 1 < out.length then out[a + 1].pos else out[0].pos + cycD c * 1440) - out[a].pos) (fun i => out.length - i) 0 ?_ ?_ ?_ ?_
  ·try simp only [go_sem, ↓reduceIte, Qa, Qb, Qc, Qd, Qe, Qf, reduceCtorEq, e6, e7, e5, e1, e4]
   first | trivial | rfl
  ·try simp only [go_sem, ↓reduceIte, Qa, Qb, Qc, Qd, Qe, Qf, reduceCtorEq]
  ·exact ⟨Nat.zero_le _, fun a _ h => absurd h (by omega)⟩
  rintro i env R3 hle3 hE ⟨hi, hfar⟩
  (simp only [go_sem] at hE; obtain ⟨e11, e5', e4'⟩ := hE; simp only [go_sem, ↓reduceIte, Qa, Qb, Qc, Qd, Qe, Qf, reduceCtorEq, e11, e5', e4']; dsimp only at *)
  refine ⟨fun hlt => ?_, fun hge => ?_⟩
  ·have hi' : i < out.length := by omega
   have hb0 := hob out[0] (List.getElem_mem _)
   have hbi := hob out[i] (List.getElem_mem _)
   refine ⟨by omega, by omega, _, (hcl 0 0 (by omega) (by omega)).trans rfl, _, W.in64 (by omega), ?_⟩
   try simp only [go_sem, ↓reduceIte, Qa, Qb, Qc, Qd, Qe, Qf, reduceCtorEq, e11, e5', e4']
   refine ⟨_, W.in64 (by omega), _, W.in64 (by omega), fun hlt2 => ?_, fun hge2 => ?_⟩
   ·have hbj := hob out[i + 1] (List.getElem_mem (by omega))
    refine ⟨_, W.in64 (by omega), by omega, by omega, ?_⟩
    rw [show ((i : Int) + 1).toNat = i + 1 by omega]
    refine ⟨_, (hcl (i + 1) 0 (by omega) (by omega)).trans rfl, by omega, _, (hcl i 0 hi' (by omega)).trans rfl, ?_⟩
    try simp only [go_sem, ↓reduceIte, Qa, Qb, Qc, Qd, Qe, Qf, reduceCtorEq, e11, e5', e4']
    refine ⟨_, W.in64 (by omega), fun hnear => ?_, fun hok => ?_⟩
    ·intro b cap R' hle' hrow hcap hfr
     refine ⟨out, _, ?_, RowIn.enc (enc := Tr.cells) (k := 2) (xs := out) (fun _ => rfl) (by omega) hrow hcap (by omega), by rw [← hU2]; exact h2, h3⟩
     rw [decide_eq_false (fun hF => ?_)]
     have := hF i hi'
     rw [dif_pos (by omega : i + 1 < out.length)] at this
     omega
    ·refine ⟨_, W.in64 (by omega), i + 1, by omega, by norm_cast, by omega, fun a ha hlt3 => ?_⟩
     rcases Nat.lt_or_ge a i with h | h
     ·exact hfar a ha h
     ·obtain rfl : a = i := by omega
      rw [dif_pos (by omega : a + 1 < out.length)]
      omega
   ·refine ⟨by omega, _, (hcl i 0 hi' (by omega)).trans rfl, ?_⟩
    try simp only [go_sem, ↓reduceIte, Qa, Qb, Qc, Qd, Qe, Qf, reduceCtorEq, e11, e5', e4']
    refine ⟨_, W.in64 (by omega), fun hnear => ?_, fun hok => ?_⟩
    ·intro b cap R' hle' hrow hcap hfr
     refine ⟨out, _, ?_, RowIn.enc (enc := Tr.cells) (k := 2) (xs := out) (fun _ => rfl) (by omega) hrow hcap (by omega), by rw [← hU2]; exact h2, h3⟩
     rw [decide_eq_false (fun hF => ?_)]
     have := hF i hi'
     rw [dif_neg (by omega : ¬ i + 1 < out.length)] at this
     omega
    ·refine ⟨_, W.in64 (by omega), i + 1, by omega, by norm_cast, by omega, fun a ha hlt3 => ?_⟩
     rcases Nat.lt_or_ge a i with h | h
     ·exact hfar a ha h
     ·obtain rfl : a = i := by omega
      rw [dif_neg (by omega : ¬ a + 1 < out.length)]
      omega
  ·obtain rfl : i = out.length := by omega
   intro b cap R' hle' hrow hcap hfr
   refine ⟨out, _, by rw [decide_eq_true (show Far out (cycD c) from fun a ha => hfar a ha ha)], ?_, by rw [← hU2]; exact h2, h3⟩
   exact RowIn.enc (enc := Tr.cells) (k := 2) (xs := out) (fun _ => rfl) (by omega) hrow hcap (by omega)
end Go.Proofs.YtdgndfabdmecmaaGreat
namespace Go.Proofs.YtdgndfabdmecmaaGreat
set_option linter.unusedSectionVars false
variable [Go.Proofs.YtdgndfabdmecmaaGreat.Vc.Drew]
open Go.Proofs.YtdgndfabdmecmaaGreat.Vc Go.Shelf Go.Sort
def Tryz.sortTr_ren : Go.Shelf.Ren := ⟨fun | 6 => 158 | 15 => 96 | 14 => 190 | 28 => 129 | 29 => 130 | 20 => 199 | 21 => 200 | 22 => 201 | 23 => 202 | 24 => 203 | 25 => 204 | 26 => 205 | 27 => 206 | 46 => 210 | 47 => 173 | 48 => 174 | 49 => 211 | 50 => 212 | 57 => 215 | n => n, fun | 22 => 40 | 24 => 95 | 25 => 231 | 3 => 3 | 39 => 175 | 0 => 0 | 53 => 210 | 55 => 212 | 4 => 4 | 46 => 204 | 45 => 203 | 50 => 156 | 5 => 5 | 9 => 9 | 66 => 236 | 70 => 240 | 76 => 258 | 77 => 253 | n => n, fun | n => n⟩
theorem Tryz.sortTr : Go.Proofs.SlLaysF0.n6 Tryz.prog Tryz.sortTr_ren := {
 mixed := by kernel_rfl
 f6 := ⟨Tryz.f158.name, by decide, Tryz.func158.trans (congrArg some (by kernel_rfl))⟩
 f14 := ⟨Tryz.f190.name, by decide, Tryz.func190.trans (congrArg some (by kernel_rfl))⟩
 f15 := Tryz.func96.trans (congrArg some (by kernel_rfl))
 f20 := ⟨Tryz.f199.name, by decide, Tryz.func199.trans (congrArg some (by kernel_rfl))⟩
 f21 := ⟨Tryz.f200.name, by decide, Tryz.func200.trans (congrArg some (by kernel_rfl))⟩
 f22 := ⟨Tryz.f201.name, by decide, Tryz.func201.trans (congrArg some (by kernel_rfl))⟩
 f23 := ⟨Tryz.f202.name, by decide, Tryz.func202.trans (congrArg some (by kernel_rfl))⟩
 f24 := ⟨Tryz.f203.name, by decide, Tryz.func203.trans (congrArg some (by kernel_rfl))⟩
 f25 := ⟨Tryz.f204.name, by decide, Tryz.func204.trans (congrArg some (by kernel_rfl))⟩
 f26 := ⟨Tryz.f205.name, by decide, Tryz.func205.trans (congrArg some (by kernel_rfl))⟩
 f27 := ⟨Tryz.f206.name, by decide, Tryz.func206.trans (congrArg some (by kernel_rfl))⟩
 f28 := Tryz.func129.trans (congrArg some (by kernel_rfl))
 f29 := Tryz.func130.trans (congrArg some (by kernel_rfl))
 f46 := ⟨Tryz.f210.name, by decide, Tryz.func210.trans (congrArg some (by kernel_rfl))⟩
 f47 := Tryz.func173.trans (congrArg some (by kernel_rfl))
 f48 := Tryz.func174.trans (congrArg some (by kernel_rfl))
 f49 := ⟨Tryz.f211.name, by decide, Tryz.func211.trans (congrArg some (by kernel_rfl))⟩
 f50 := ⟨Tryz.f212.name, by decide, Tryz.func212.trans (congrArg some (by kernel_rfl))⟩
 f57 := ⟨Tryz.f215.name, by decide, Tryz.func215.trans (congrArg some (by kernel_rfl))⟩
 t0 := Tryz.underlying0
 a0 := Tryz.isAgg0
 z0 := Tryz.sizeOf0
 v0 := Tryz.zeroValue0
 t3 := Tryz.underlying3
 a3 := Tryz.isAgg3
 z3 := Tryz.sizeOf3
 v3 := Tryz.zeroValue3
 t4 := Tryz.underlying4
 a4 := Tryz.isAgg4
 z4 := Tryz.sizeOf4
 v4 := Tryz.zeroValue4
 t5 := Tryz.underlying5
 a5 := Tryz.isAgg5
 z5 := Tryz.sizeOf5
 v5 := Tryz.zeroValue5
 t9 := Tryz.underlying9
 a9 := Tryz.isAgg9
 z9 := Tryz.sizeOf9
 v9 := Tryz.zeroValue9
 t22 := Tryz.underlying40
 a22 := Tryz.isAgg40
 z22 := Tryz.sizeOf40
 v22 := Tryz.zeroValue40
 t25 := Tryz.underlying231
 a25 := Tryz.isAgg231
 z25 := Tryz.sizeOf231
 v25 := Tryz.zeroValue231
 t39 := Tryz.underlying175
 a39 := Tryz.isAgg175
 z39 := Tryz.sizeOf175
 v39 := Tryz.zeroValue175
 t45 := Tryz.underlying203
 a45 := Tryz.isAgg203
 z45 := Tryz.sizeOf203
 v45 := Tryz.zeroValue203
 t46 := Tryz.underlying204
 a46 := Tryz.isAgg204
 z46 := Tryz.sizeOf204
 v46 := Tryz.zeroValue204
 t50 := Tryz.underlying156
 a50 := Tryz.isAgg156
 z50 := Tryz.sizeOf156
 v50 := Tryz.zeroValue156
 t53 := Tryz.underlying210
 a53 := Tryz.isAgg210
 z53 := Tryz.sizeOf210
 v53 := Tryz.zeroValue210
 t55 := Tryz.underlying212
 a55 := Tryz.isAgg212
 z55 := Tryz.sizeOf212
 v55 := Tryz.zeroValue212
 t66 := Tryz.underlying236
 a66 := Tryz.isAgg236
 z66 := Tryz.sizeOf236
 v66 := Tryz.zeroValue236
 t70 := Tryz.underlying240
 a70 := Tryz.isAgg240
 z70 := Tryz.sizeOf240
 v70 := Tryz.zeroValue240
 t76 := Tryz.underlying258
 a76 := Tryz.isAgg258
 z76 := Tryz.sizeOf258
 v76 := Tryz.zeroValue258
 t77 := Tryz.underlying253
 a77 := Tryz.isAgg253
 z77 := Tryz.sizeOf253
 v77 := Tryz.zeroValue253 }
theorem zTickCmp (a b : Tr) (R : RO) : CallsR Tryz.prog 159 [.agg a.cells.toArray, .agg b.cells.toArray] R fun _ v => v = .int .i64 (cmpI a.pos b.pos) := by
 simp only [Tr.cells]
 refine callsT mix Tryz.func159 comp159 (by simp [Tryz.ntmps159]) ?_; simp only [go_sem, ↓reduceIte, Qa, Qb, Qc, Qd, Qe, Qf, reduceCtorEq, vc159, rs159]
 refine vcall (eCompare a.pos b.pos R) ?_
 rintro R1 v h1 rfl
 try simp only [go_sem, ↓reduceIte, Qa, Qb, Qc, Qd, Qe, Qf, reduceCtorEq]
def cmpT (a b : Tr) : Int := cmpI a.pos b.pos
theorem trcells_one (e : Tr) : ∀ v ∈ e.cells, v.oneCell' = true := by
 intro v hv
 simp only [Tr.cells, List.mem_cons, List.not_mem_nil, or_false] at hv
 rcases hv with rfl | rfl <;> rfl
instance : Inhabited Tr := ⟨⟨0, 0⟩⟩
theorem ltT (p q : Tr) : ltOf cmpT p q = decide (p.pos < q.pos) := by
 unfold ltOf cmpT cmpI
 split
 ·simp [*]
 ·split <;> simp <;> omega
theorem cmpT_swo : SWO (ltOf cmpT) := by
 refine ⟨fun x => ?_, fun x y z h k => ?_, fun x y z h k => ?_⟩
 ·rw [ltT]; simp
 ·rw [ltT] at *; simp at *; omega
 ·rw [ltT] at *; simp at *; omega
theorem zSortTr (ms : List Tr) (hl : ms.length ≤ 1000000000) (R : RO) :
  CallsS Tryz.prog 158 [.sl 0 ms.length, .val (.func (.func 159) #[] #[])] [.row 95 2 (rowTr ms)] R fun R' bs r =>
   R' = R ∧ ∃ qs : List Tr, qs.Perm ms ∧ Sor qs ∧ bs = [.row 95 2 (rowTr qs)] ∧ r = .val (.tuple #[]) := by
 have h := sortFuncS Tryz.sortTr 2 Tryz.isAgg95 Tryz.sizeOf95 Tr.cells (fun _ => rfl) trcells_one cmpT cmpT_swo 159 95
  (enters_of Tryz.func159 (by kernel_rfl) rfl) (fun x y => @zTickCmp ⟨1⟩ x y _) ms (by omega) R
 simp only [ltT, decide_eq_false_iff_not, Int.not_lt] at h
 exact h
theorem zSortTrNil (fv : Value) (R : RO) : CallsR Tryz.prog 158 [.slice none 0 0, fv] R fun _ r => r = .tuple #[] := sortFuncNil Tryz.sortTr fv R
end Go.Proofs.YtdgndfabdmecmaaGreat
namespace Go.Proofs.YtdgndfabdmecmaaGreat
open Go.Proofs.YtdgndfabdmecmaaGreat.Vc
def ckOf (n : Zn) (L : List Tr) : Ck := ⟨n.trans, L, if n.yearly = [] then 1 else cycD n.cal, n.start, n.hor⟩
def YearsOK (n : Zn) (L : List Tr) : Prop := (n.yearly = [] ∧ L = []) ∨ ∃ r0 r1, n.yearly = [r0, r1] ∧ YrOK n.cal r0 ∧ YrOK n.cal r1 ∧ L.Perm (unsT n.cal r0 r1) ∧ Far L (cycD n.cal)
theorem zMin (cyc : Int) (hc : 1 ≤ cyc ∧ cyc ≤ 1836800) (ad : Addr) (R : RO) (h : R (ad.add 9) (.int .i64 cyc)) : CallsR Tryz.prog 160 [.pointer (some ad)] R fun _ v => v = .int .i64 (cyc * 1440) := by
 refine callsT mix Tryz.func160 comp160 (by simp [Tryz.ntmps160]) ?_; simp only [go_sem, ↓reduceIte, Qa, Qb, Qc, Qd, Qe, Qf, reduceCtorEq, vc160, rs160]
 refine vload _ h ?_
 try simp only [go_sem, ↓reduceIte, Qa, Qb, Qc, Qd, Qe, Qf, reduceCtorEq]
 exact ⟨_, W.in64 (by omega), rfl⟩
set_option maxHeartbeats 4000000 in
theorem zTick (z : Zv) (n : Zn) (R : RO) (h : ZnIn R z n) (hv : n.cal.valid) (L : List Tr) (hL : YearsOK n L) :
  CallsR Tryz.prog 108 [.agg z.cells.toArray] R fun R' v => ∃ ad ya yc, v = .tuple #[.pointer (some ad), .bool true] ∧ CkV R' ad (ckOf n L) z.ta z.tc ya yc := by
 have hyl := h.yearly.slen
 have htl := h.trans.slen
 have hep := h.ep
 have hlp := h.leap
 have hyr := h.yearly
 have hcal := h.cal
 have htr := h.trans
 have hst := h.start
 have hho := h.hor
 have hCy := fun R' (hle : RO.le R R') => pCycle n.cal _ _ R' (h.cal.mono hle)
 have hYL := fun R' (hle : RO.le R R') => pYearLength n.cal _ _ R' (h.cal.mono hle)
 have hYD := fun R' (hle : RO.le R R') => zYearDay n.cal hv _ _ R' (h.cal.mono hle)
 obtain ⟨ep, ma, mn, mc, lp, ra, rln, rc, st, ta, tn, tc, ho, ya, yn, yc⟩ := z
 obtain ⟨c, nst, ntr, nho, nyl⟩ := n
 dsimp only at hyl hep hlp hyr hYL hcal hv hL hCy hYD htr htl hst hho
 subst hep hlp hst hho
 simp only [Zv.cells, cv, cycA, if_pos hv] at hCy hYD hYL ⊢
 have hdb := hv.days_bd
 have hpp := hv.per.2.1
 have hcb := cycD_bd (c := c) (by omega)
 have hepb := hv.1
 refine callsT mix Tryz.func108 comp108 (by simp [Tryz.ntmps108]) ?_; simp only [go_sem, ↓reduceIte, Qa, Qb, Qc, Qd, Qe, Qf, reduceCtorEq, vc108, rs108]
 subst htl
 refine ⟨fun h0 => ?_, fun h0 => ?_⟩
 ·obtain rfl : nyl = [] := List.eq_nil_of_length_eq_zero (by omega)
  obtain rfl : L = [] := by
   rcases hL with ⟨_, e⟩ | ⟨r0, r1, e, _⟩
   ·exact e
   ·cases e
  intro b R' hle hrow hfr
  exact ⟨⟨b, 0, none⟩, none, 0, rfl, hrow 4 _ rfl, hrow 5 _ rfl, htr.mono hle, hrow 6 _ rfl, hrow 8 _ rfl, EncV.nil _ _ _, hrow 9 _ rfl⟩
 rcases hL with ⟨rfl, _⟩ | ⟨r0, r1, hye, hr0, hr1, hLp, hLf⟩
 ·exact absurd (by rw [hyl]; rfl) h0
 dsimp only at hye hr0 hr1 hLp hLf
 rw [hye] at hyr hyl
 obtain rfl : yn = 2 := hyl
 obtain ⟨ya', yc', hyE, hyc, hyf⟩ := hyr.form
 simp only [Value.slice.injEq] at hyE
 obtain ⟨rfl, _, rfl⟩ := hyE
 simp only [List.length_cons, List.length_nil, Nat.zero_add, Nat.reduceAdd] at hyf
 have hU : goY c r0 r1 (c.epoch + cycD c) (cycD c + 1).toNat c.epoch 1 [] = unsT c r0 r1 := rfl
 have hck : ckOf ⟨c, st, ntr, ho, nyl⟩ L = ⟨ntr, L, cycD c, st, ho⟩ := by unfold ckOf; rw [if_neg (by rw [hye]; simp)]
 rw [hck]
 refine vcall (hCy R (RO.le_refl R)) ?_
 rintro R1 r hle1 rfl
 try simp only [go_sem, ↓reduceIte, Qa, Qb, Qc, Qd, Qe, Qf, reduceCtorEq, Ja, Jb, Jc, Jd, Je, Jf]
 have htm : c.days.tmod 7 = c.days % 7 := Int.tmod_eq_emod_of_nonneg (by omega)
 rw [htm]
 have hc7 : c.days % 7 = 0 ∧ cycD c = c.days ∨ c.days % 7 ≠ 0 ∧ cycD c = c.days * 7 := by
  unfold cycD
  by_cases h7 : c.days % 7 = 0
  ·exact .inl ⟨h7, if_pos h7⟩
  ·exact .inr ⟨h7, if_neg h7⟩
 have hall : ∀ i (h : i < [r0, r1].length), YrOK c [r0, r1][i] := fun i hi => by
  rcases (by simp only [List.length_cons, List.length_nil] at hi; omega : i = 0 ∨ i = 1) with rfl | rfl
  ·exact hr0
  ·exact hr1
 refine ⟨fun h7 => ⟨_, W.in64 (by omega), ?_⟩, fun h7 => ?_⟩
 rw [show c.days * 7 = cycD c by omega]
 rotate_left
 rw [show c.days = cycD c by omega]
 all_goals
  refine vcLoopR (Nat × Int × Int × List Tr) (fun x => [(8, .val (.int .i64 x.2.1)), (9, .val (.int .i64 x.2.2.1)), (1, .loc 0 0), (4, .loc 1 0)])
   (fun x => [.box [.val (.int .i64 c.epoch), .val (.slice ma mn mc), .val (.int .i64 c.leap), .val (.slice ra rln rc), .val (.int .i64 st), .val (.slice ta ntr.length tc), .val (.int .i64 ho), .val (.slice ya 2 yc)], .box [.val (.int .i64 c.epoch), .val (.slice ma mn mc), .val (.int .i64 c.leap), .val (.slice ra rln rc), .val (.int .i64 st), .val (.slice ta ntr.length tc), .val (.int .i64 ho), .val (.slice ya 2 yc), gs 2 x.2.2.2.length, .val (.int .i64 (cycD c))], gb 95 2 (rowTr x.2.2.2)])
   (fun x _ => goY c r0 r1 (c.epoch + cycD c) x.1 x.2.1 x.2.2.1 x.2.2.2 = unsT c r0 r1 ∧ (c.epoch ≤ x.2.1 ∧ x.2.1 ≤ c.epoch + cycD c + 656) ∧ (1 ≤ x.2.2.1 ∧ x.2.2.1 ≤ x.2.1 + 1) ∧ (x.2.2.2.length : Int) ≤ 2 * (x.2.2.1 - 1) ∧ (c.epoch + cycD c - x.2.1).toNat < x.1)
   (fun x => (c.epoch + cycD c - x.2.1).toNat) ((cycD c + 1).toNat, c.epoch, 1, []) [] ?_ ?_ ?_ ?_
  ·(try simp only [go_sem, ↓reduceIte, Qa, Qb, Qc, Qd, Qe, Qf, reduceCtorEq]) <;> (repeat' (first | rfl | trivial | constructor | (intro h; exact absurd rfl h)))
  ·try simp only [go_sem, ↓reduceIte, Qa, Qb, Qc, Qd, Qe, Qf, reduceCtorEq]
  ·exact ⟨hU, ⟨Int.le_refl _, by dsimp only; omega⟩, ⟨by dsimp only; omega, by dsimp only; omega⟩, by simp, by dsimp only; omega⟩
  rintro ⟨f, begin, y, U⟩ env R2 hle2 hE ⟨h1, ⟨h4, h5⟩, ⟨h6, h7'⟩, h8, h9⟩
  dsimp only at h1 h4 h5 h6 h7' h8 h9
  (simp only [go_sem] at hE; obtain ⟨e8, e9, e1, e4⟩ := hE; simp only [go_sem, ↓reduceIte, Qa, Qb, Qc, Qd, Qe, Qf, reduceCtorEq, e8, e9, e1, e4]; dsimp only at *)
  refine ⟨_, W.in64 (by omega), fun hlt => ?_, fun hge => ?_⟩
  ·refine vcLoopR (Nat × List Tr) (fun x => [(64, .val (.int .i64 x.1)), (63, .val (.int .i64 2)), (62, .val (.slice ya 2 yc)), (8, .val (.int .i64 begin)), (9, .val (.int .i64 y)), (1, .loc 0 0), (4, .loc 1 0)])
    (fun x => [.box [.val (.int .i64 c.epoch), .val (.slice ma mn mc), .val (.int .i64 c.leap), .val (.slice ra rln rc), .val (.int .i64 st), .val (.slice ta ntr.length tc), .val (.int .i64 ho), .val (.slice ya 2 yc)], .box [.val (.int .i64 c.epoch), .val (.slice ma mn mc), .val (.int .i64 c.leap), .val (.slice ra rln rc), .val (.int .i64 st), .val (.slice ta ntr.length tc), .val (.int .i64 ho), .val (.slice ya 2 yc), gs 2 x.2.length, .val (.int .i64 (cycD c))], gb 95 2 (rowTr x.2)])
    (fun x _ => x.1 ≤ 2 ∧ x.2 = U ++ partY c r0 r1 begin y x.1 ∧ (x.2.length : Int) ≤ 2 * (y - 1) + x.1) (fun x => 2 - x.1) (0, U) [] ?_ ?_ ?_ ?_
   ·try simp only [go_sem, ↓reduceIte, Qa, Qb, Qc, Qd, Qe, Qf, reduceCtorEq, e8, e9, e1, e4]
    exact ⟨⟨rfl, rfl⟩, fun h => gb_ne h⟩
   ·try simp only [go_sem, ↓reduceIte, Qa, Qb, Qc, Qd, Qe, Qf, reduceCtorEq]
   ·exact ⟨by omega, by simp [partY], by simpa using h8⟩
   rintro ⟨k, o⟩ env R3 hle3 hE ⟨g1, g2, g4⟩
   dsimp only at g1 g2 g4
   (simp only [go_sem] at hE; obtain ⟨e64, e63, e62, e8', e9', e1', e4'⟩ := hE; simp only [go_sem, ↓reduceIte, Qa, Qb, Qc, Qd, Qe, Qf, reduceCtorEq, e64, e63, e62, e8', e9', e1', e4']; dsimp only at *)
   refine ⟨fun hlt2 => ?_, fun hge2 => ?_⟩
   ·have hk2 : k < [r0, r1].length := by simp only [List.length_cons, List.length_nil]; omega
    have hk3 : 1 - k < [r0, r1].length := by simp only [List.length_cons, List.length_nil]; omega
    have hps := partY_succ c r0 r1 begin y k (by omega) hk2 hk3
    obtain ⟨ad, had, hR⟩ := hyf k hk2
    obtain ⟨ad', had', hR'⟩ := hyf (1 - k) hk3
    have hro := hall k hk2
    have hoo := hall (1 - k) hk3
    obtain ⟨r, hr⟩ : ∃ r, r = [r0, r1][k] := ⟨_, rfl⟩
    obtain ⟨r', hr'⟩ : ∃ r, r = [r0, r1][1 - k] := ⟨_, rfl⟩
    rw [← hr] at hR hro hps
    rw [← hr'] at hR' hoo hps
    have hleR := RO.le_trans hle1 (RO.le_trans hle2 hle3)
    refine ⟨by omega, vat ad had ?_⟩
    try simp only [go_sem, ↓reduceIte, Qa, Qb, Qc, Qd, Qe, Qf, reduceCtorEq]
    refine vloadn r.cells rfl (fun j u hj => hleR _ _ (hR j u hj)) ?_
    simp only [go_sem, ↓reduceIte, Qa, Qb, Qc, Qd, Qe, Qf, reduceCtorEq, Yr.cells, e64, e63, e62, e8', e9', e1', e4']
    have hYY := hYD R3 hleR begin y r hro (by omega) (by omega)
    simp only [Yr.cells] at hYY
    refine vcall hYY ?_
    rintro R4 v hle4 rfl
    have hyd := ydA_bd hv begin y hro
    have hmi := hro.minute
    have hoff := hoo.off
    have hleR4 := RO.le_trans hleR hle4
    obtain ⟨b, hb⟩ : ∃ b, b = (ydA c begin y r).2 := ⟨_, rfl⟩
    rw [← hb]
    cases b with
    | true =>
     have hy1 : yr1 c begin y r r' = [⟨(ydA c begin y r).1 * 1440 + r.minute - r'.off, r.off⟩] := by unfold yr1; rw [← hb, if_pos rfl]
     try simp only [go_sem, ↓reduceIte, Qa, Qb, Qc, Qd, Qe, Qf, reduceCtorEq, e64, e63, e62, e8', e9', e1', e4']
     refine ⟨_, W.in64 (by omega), _, W.in64 (by omega), _, W.in64 (by omega), by omega, by omega, ?_⟩
     rw [show (1 - (k : Int)).toNat = 1 - k by omega]
     refine vat ad' had' ?_
     try simp only [go_sem, ↓reduceIte, Qa, Qb, Qc, Qd, Qe, Qf, reduceCtorEq]
     refine vload (.int .i64 r'.off) (hleR4 _ _ (hR' 4 _ rfl)) ?_
     try simp only [go_sem, ↓reduceIte, Qa, Qb, Qc, Qd, Qe, Qf, reduceCtorEq, e64, e63, e62, e8', e9', e1', e4']
     refine ⟨_, W.in64 (by omega), ?_⟩
     refine vgrow (rowTr o) (fun h0 => by rfl) (fun h0 => by rw [h0, gb_nil]; rfl) (rowTr_len o) (by omega) (by omega) (by omega) ?_
     try simp only [go_sem, ↓reduceIte, Qa, Qb, Qc, Qd, Qe, Qf, reduceCtorEq, e64, e63, e62, e8', e9', e1', e4']
     refine ⟨_, W.in64 (by omega), (k + 1, o ++ yr1 c begin y r r'), [0, 1, 5], by dsimp only; omega, ⟨⟨by norm_cast, rfl, rfl⟩, rfl, ?_, fun _ => ?_⟩, by decide, by dsimp only; omega, ?_, ?_⟩
     ·rw [hy1]
      simp only [List.length_append, List.length_cons, List.length_nil, Nat.zero_add, gs_succ]
      rfl
     ·rw [hy1]
      simp only [rowTr_app]
      rfl
     ·dsimp only; rw [hps, g2, List.append_assoc]
     ·rw [hy1]
      simp only [List.length_append, List.length_cons, List.length_nil]
      omega
    | false =>
     have hy1 : yr1 c begin y r r' = [] := by unfold yr1; rw [← hb]; rfl
     try simp only [go_sem, ↓reduceIte, Qa, Qb, Qc, Qd, Qe, Qf, reduceCtorEq, e64, e63, e62, e8', e9', e1', e4']
     refine ⟨_, W.in64 (by omega), (k + 1, o), [], by dsimp only; omega, ⟨⟨by norm_cast, rfl, rfl⟩, rfl, ?_, fun h => ?_⟩, rfl, by dsimp only; omega, ?_, ?_⟩
     ·rfl
     ·exact congrArg some (gb_ne h)
     ·dsimp only; rw [hps, hy1, List.append_nil]; exact g2
     ·dsimp only; omega
   ·obtain rfl : k = 2 := by omega
    refine vcall (hYL R3 (RO.le_trans hle1 (RO.le_trans hle2 hle3)) y (by unfold I64; omega)) ?_
    rintro R4 v hle4 rfl
    have hyb := hv.ylen_bd y
    have hml1 := hv.2.1.1
    have hyA : ylenA c y = c.ylen y := if_pos hv
    try simp only [go_sem, ↓reduceIte, Qa, Qb, Qc, Qd, Qe, Qf, reduceCtorEq, e64, e63, e62, e8', e9', e1', e4']
    rw [hyA]
    have hgs := goY_step c r0 r1 (c.epoch + cycD c) (f - 1) (y := y) (out := U) hlt
    rw [show f - 1 + 1 = f by omega] at hgs
    obtain rfl : o = U ++ yrT c r0 r1 begin y := g2
    refine ⟨_, W.in64 (by omega), _, W.in64 (by omega), (f - 1, begin + c.ylen y, y + 1, U ++ yrT c r0 r1 begin y), [], by dsimp only; omega, ⟨⟨rfl, rfl, rfl, rfl⟩, rfl, ?_, fun h => ?_⟩, rfl, ?_, by dsimp only; omega, by dsimp only; omega, ?_, by dsimp only; omega⟩
    ·rfl
    ·exact congrArg some (gb_ne h)
    ·dsimp only; rw [← hgs]; exact h1
    ·dsimp only; omega
  ·have hU2 : U = unsT c r0 r1 := by rw [← h1, goY_stop _ _ _ _ _ (by omega)]
   have hLU : L.Perm U := by rw [hU2]; exact hLp
   by_cases hU0 : U = []
   ·subst hU0
    obtain rfl : L = [] := hLU.eq_nil
    rw [List.length_nil, gs_zero]
    try simp only [go_sem, ↓reduceIte, Qa, Qb, Qc, Qd, Qe, Qf, reduceCtorEq, e8, e9, e1, e4]
    refine vcall (zSortTrNil _ R2) ?_
    rintro R3 r hle3 rfl
    try simp only [go_sem, ↓reduceIte, Qa, Qb, Qc, Qd, Qe, Qf, reduceCtorEq, e8, e9, e1, e4]
    refine vcLoop Unit (fun _ => [(121, .val (.int .i64 0)), (120, .val (.int .i64 0)), (4, .loc 1 0)]) (fun _ => [.box [.val (.int .i64 c.epoch), .val (.slice ma mn mc), .val (.int .i64 c.leap), .val (.slice ra rln rc), .val (.int .i64 st), .val (.slice ta ntr.length tc), .val (.int .i64 ho), .val (.slice ya 2 yc)], .box [.val (.int .i64 c.epoch), .val (.slice ma mn mc), .val (.int .i64 c.leap), .val (.slice ra rln rc), .val (.int .i64 st), .val (.slice ta ntr.length tc), .val (.int .i64 ho), .val (.slice ya 2 yc), .val (.slice none 0 0), .val (.int .i64 (cycD c))]]) (fun _ _ => True) (fun _ => 0) () ?_ ?_ trivial ?_
    ·try simp only [go_sem, ↓reduceIte, Qa, Qb, Qc, Qd, Qe, Qf, reduceCtorEq, e8, e9, e1, e4]
     first | trivial | rfl
    ·try simp only [go_sem, ↓reduceIte, Qa, Qb, Qc, Qd, Qe, Qf, reduceCtorEq]
    rintro _ env R4 hle4 hE -
    (simp only [go_sem] at hE; obtain ⟨e121, e120, e4'⟩ := hE; simp only [go_sem, ↓reduceIte, Qa, Qb, Qc, Qd, Qe, Qf, reduceCtorEq, e121, e120, e4']; dsimp only at *)
    refine ⟨fun h => absurd h (by omega), fun _ => ?_⟩
    intro b R' hle' hrow hfr
    have hle5 := RO.le_trans hle1 (RO.le_trans hle2 (RO.le_trans hle3 (RO.le_trans hle4 hle')))
    exact ⟨⟨b, 0, none⟩, none, 0, rfl, hrow 4 _ rfl, hrow 5 _ rfl, htr.mono hle5, hrow 6 _ rfl, hrow 8 _ rfl, EncV.nil _ _ _, hrow 9 _ rfl⟩
   ·have hn0 : U.length ≠ 0 := fun e => hU0 (List.eq_nil_of_length_eq_zero e)
    have hrw : rowTr U ≠ [] := fun e => by have := rowTr_len U; rw [e] at this; simp at this; omega
    rw [gs_pos hn0, gb_ne hrw]
    refine vhand [2] [.sl 0 U.length, .val (.func (.func 159) #[] #[])] [.row 95 2 (rowTr U)] (zSortTr U (by omega) R2) rfl rfl rfl ?_ (by simp) rfl rfl ?_
    ·try simp only [go_sem, ↓reduceIte, Qa, Qb, Qc, Qd, Qe, Qf, reduceCtorEq]
    rintro R3 bs rr hle3 ⟨rfl, qs, hqp, hqs, rfl, rfl⟩ -
    have hq : qs = L := sor_unique hLf.asc hqs (hqp.trans hLU.symm)
    rw [hq, hLU.length_eq.symm]
    simp only [go_sem, ↓reduceIte, Qa, Qb, Qc, Qd, Qe, Qf, reduceCtorEq, setG, Vc.rn, e8, e9, e1, e4]
    have hLl := hLU.length_eq
    have hob : ∀ x ∈ L, -10000000000 ≤ x.pos ∧ x.pos ≤ 10000000000 := fun x hx => unsT_bd hv hr0 hr1 x (hLp.mem_iff.1 hx)
    have hcl : ∀ i j (hi : i < L.length), j < 2 → (rowTr L)[i * 2 + j]? = (L[i].cells)[j]? := fun i j hi hj => rowTr_get L i j hi hj
    refine vcLoopR Nat (fun i => [(121, .val (.int .i64 i)), (120, .val (.int .i64 L.length)), (119, .sl 2 L.length), (4, .loc 1 0)]) (fun _ => [.box [.val (.int .i64 c.epoch), .val (.slice ma mn mc), .val (.int .i64 c.leap), .val (.slice ra rln rc), .val (.int .i64 st), .val (.slice ta ntr.length tc), .val (.int .i64 ho), .val (.slice ya 2 yc)], .box [.val (.int .i64 c.epoch), .val (.slice ma mn mc), .val (.int .i64 c.leap), .val (.slice ra rln rc), .val (.int .i64 st), .val (.slice ta ntr.length tc), .val (.int .i64 ho), .val (.slice ya 2 yc), .sl 2 L.length, .val (.int .i64 (cycD c))], .row 95 2 (rowTr L)]) (fun i _ => i ≤ L.length) (fun i => L.length - i) 0 [] ?_ ?_ ?_ ?_
    ·try simp only [go_sem, ↓reduceIte, Qa, Qb, Qc, Qd, Qe, Qf, reduceCtorEq, e8, e9, e1, e4]
     first | trivial | rfl
    ·try simp only [go_sem, ↓reduceIte, Qa, Qb, Qc, Qd, Qe, Qf, reduceCtorEq]
    ·exact Nat.zero_le _
    rintro i env R4 hle4 hE hi
    (simp only [go_sem] at hE; obtain ⟨e121, e120, e119, e4'⟩ := hE; simp only [go_sem, ↓reduceIte, Qa, Qb, Qc, Qd, Qe, Qf, reduceCtorEq, e121, e120, e119, e4']; dsimp only at *)
    refine ⟨fun hlt => ?_, fun hge => ?_⟩
    ·have hi' : i < L.length := by omega
     have hb0 := hob L[0] (List.getElem_mem _)
     have hbi := hob L[i] (List.getElem_mem _)
     have h0l : 0 < L.length := by omega
     have hfi := hLf i hi'
     refine ⟨by omega, _, (hcl i 0 hi' (by omega)).trans rfl, _, (hcl i 1 hi' (by omega)).trans rfl, ⟨rfl, rfl⟩, by omega, by omega, _, (hcl 0 0 h0l (by omega)).trans rfl, ?_⟩
     refine vlend ?_
     intro β κ R5 hLd
     have hbox := hLd.2 1 _ rfl
     have hx : R5 ((⟨β 1, 0, none⟩ : Addr).add 9) (.int .i64 (cycD c)) := by rw [Addr.add_lit]; exact hbox 9 _ rfl
     refine ⟨_, zMin (cycD c) hcb ⟨β 1, 0, none⟩ R5 hx, ?_⟩
     rintro R6 v R7 hle6 rfl hle7 -
     try simp only [go_sem, ↓reduceIte, Qa, Qb, Qc, Qd, Qe, Qf, reduceCtorEq, e121, e120, e119, e4']
     refine ⟨_, W.in64 (by omega), _, W.in64 (by omega), fun hlt2 => ?_, fun hge2 => ?_⟩
     ·rw [dif_pos (by omega : i + 1 < L.length)] at hfi
      have hbj := hob L[i + 1] (List.getElem_mem (by omega))
      refine ⟨_, W.in64 (by omega), by omega, by omega, ?_⟩
      rw [show ((i : Int) + 1).toNat = i + 1 by omega]
      refine ⟨_, (hcl (i + 1) 0 (by omega) (by omega)).trans rfl, ?_⟩
      try simp only [go_sem, ↓reduceIte, Qa, Qb, Qc, Qd, Qe, Qf, reduceCtorEq, e121, e120, e119, e4']
      refine ⟨_, W.in64 (by omega), fun h => absurd h (by omega), fun _ => ⟨_, W.in64 (by omega), i + 1, [], by omega, ⟨⟨by norm_cast, rfl, rfl⟩, rfl, rfl, rfl⟩, by decide, by omega⟩⟩
     ·rw [dif_neg (by omega : ¬ i + 1 < L.length)] at hfi
      refine ⟨_, W.in64 (by omega), fun h => absurd h (by omega), fun _ => ⟨_, W.in64 (by omega), i + 1, [], by omega, ⟨⟨by norm_cast, rfl, rfl⟩, rfl, rfl, rfl⟩, by decide, by omega⟩⟩
    ·obtain rfl : i = L.length := by omega
     intro b cap R' hle' hrow hcap hfr b' R'' hle'' hrow' hfr'
     have hle5 := RO.le_trans hle1 (RO.le_trans hle2 (RO.le_trans hle3 (RO.le_trans hle4 (RO.le_trans hle' hle''))))
     exact ⟨⟨b', 0, none⟩, some ⟨b, 0, none⟩, cap, rfl, hrow' 4 _ rfl, hrow' 5 _ rfl, htr.mono hle5, hrow' 6 _ rfl, hrow' 8 _ rfl, (RowIn.enc (enc := Tr.cells) (k := 2) (xs := L) (fun _ => rfl) (by omega) hrow hcap (by omega)).mono hle'', hrow' 9 _ rfl⟩
end Go.Proofs.YtdgndfabdmecmaaGreat
namespace Go.Proofs.YtdgndfabdmecmaaGreat
open Go.Proofs.YtdgndfabdmecmaaGreat.Vc Go.RowKit
theorem zFrom (ad : Addr) (t : Int) (R : RO) : CallsS Tryz.prog 109 [.val (.pointer (some ad)), .val (.int .i64 t)] [] R fun R' bs r => R' = R ∧ bs = [.box [.val (.pointer (some ad))], .box [.val (.int .i64 t)]] ∧ r = .fn 161 [.l 0 0, .l 1 0] := by
 refine callsTS mix Tryz.func109 comp109 (by simp [Tryz.ntmps109]) rfl rfl ?_; simp only [go_sem, ↓reduceIte, Qa, Qb, Qc, Qd, Qe, Qf, reduceCtorEq, vc109, rs109]
 first | rfl | exact ⟨rfl, rfl⟩ | exact ⟨⟨rfl, rfl⟩, rfl⟩
def cL : Code → Code
 | .seq a _ => a
 | .cond _ a _ => a
 | .block _ a => a
 | .loop a => a
 | c => c
def cR : Code → Code
 | .seq _ b => b
 | .cond _ _ b => b
 | c => c
def vL : VCode → VCode
 | .seq a _ => a
 | .cond _ a _ => a
 | .block _ a => a
 | .loop a => a
 | c => c
def vR : VCode → VCode
 | .seq _ b => b
 | .cond _ _ b => b
 | c => c
noncomputable def b161 : Code := Tryz.f161.body.getD .skip
theorem b161A : comp Tryz.prog 78 (cL b161) = some (vL vc161) := by kernel_rfl
theorem b161B : comp Tryz.prog 78 (cL (cR b161)) = some (vL (vR vc161)) := by kernel_rfl
theorem b161C : comp Tryz.prog 78 (cL (cR (cR b161))) = some (vL (vR (vR vc161))) := by kernel_rfl
theorem b161D : comp Tryz.prog 78 (cL (cR (cR (cR b161)))) = some (vL (vR (vR (vR vc161)))) := by kernel_rfl
noncomputable def b161O : Code := cL (cL (cR (cR (cR (cR b161)))))
noncomputable def b161I : Code := cL (cL (cR (cL (cL b161O))))
noncomputable def b161S : Code := cL (cL (cR (cR b161I)))
def v161O : VCode := vL (vL (vR (vR (vR (vR vc161)))))
def v161I : VCode := vL (vL (vR (vL (vL v161O))))
def v161S : VCode := vL (vL (vR (vR v161I)))
theorem b161r9 : comp Tryz.prog 78 (cL (cL (cL b161O))) = some (vL (vL (vL v161O))) := by kernel_rfl
theorem b161r8 : comp Tryz.prog 78 (cR b161O) = some (vR v161O) := by kernel_rfl
theorem b161r10 : comp Tryz.prog 78 (cL b161I) = some (vL v161I) := by kernel_rfl
theorem b161c59 : comp Tryz.prog 78 (cL (cR b161I)) = some (vL (vR v161I)) := by kernel_rfl
theorem b161r14 : comp Tryz.prog 78 (cR (cR (cR b161I))) = some (vR (vR (vR v161I))) := by kernel_rfl
theorem b161r11 : comp Tryz.prog 78 (cL b161S) = some (vL v161S) := by kernel_rfl
theorem b161r12 : comp Tryz.prog 78 (cL (cR b161S)) = some (vL (vR v161S)) := by kernel_rfl
theorem b161r13 : comp Tryz.prog 78 (cR (cR b161S)) = some (vR (vR v161S)) := by kernel_rfl
noncomputable def ops161 : Array Oper := match cL (cR (cR b161S)) with
 | .region _ ops _ => ops
 | _ => #[]
def l161 : List VStep := match vL (vR (vR v161S)) with
 | .ops l => l.take 7
 | _ => []
theorem ops161_eq : cL (cR (cR b161S)) = .region 13 ops161 false := by kernel_rfl
theorem ops161_sp : List.range ops161.size = [0, 1, 2, 3, 4, 5, 6] ++ [7, 8, 9] := by kernel_rfl
theorem ops161_nd : ops161.all noDefer = true := by kernel_rfl
theorem ops161_c : compSteps Tryz.prog true 78 ops161 [0, 1, 2, 3, 4, 5, 6] = some l161 := by kernel_rfl
theorem ops161_7 : ∃ at' ty pos after, ops161[7]? = some ⟨some 74, .call ⟨.value (.tmp 72), #[.tmp 73], at'⟩, ty, pos, after, some (4, true)⟩ := ⟨_, _, _, _, rfl⟩
theorem ops161_8 : ∃ t ty pos after, ops161[8]? = some ⟨some 75, .unOp .not t (.tmp 74), ty, pos, after, some (4, true)⟩ := ⟨_, _, _, _, rfl⟩
theorem ops161_9 : ∃ ty pos after, ops161[9]? = some ⟨some 76, .pick (.tmp 71) (.tmp 75) (.const (.bool false)), ty, pos, after, none⟩ := ⟨_, _, _, rfl⟩
theorem ops161_4 : ∃ o, ops161[4]? = some o ∧ o.dst = some 71 := ⟨_, rfl, rfl⟩
theorem want161 (o : Oper) (tm : Array Value) (h : o.guard = some (4, true)) (ht : tm[71]? = some (.bool true)) : Region.wanted o (yielded ops161 tm) = true := by
 obtain ⟨o4, h4, h5⟩ := ops161_4
 simp only [Region.wanted, h, yielded, h4, h5, Option.bind_some, ht]
 rfl
theorem first_fst (k : Ck) : k.first = fstP k.ys := by
 unfold Ck.first fstP
 cases k.ys <;> rfl
set_option maxHeartbeats 4000000 in
theorem zFrom1 (k : Ck) (hk : CkOK k) (ad : Addr) (ta : Option Addr) (tc : Nat) (ya : Option Addr) (yc : Nat) (R : RO) (h : CkV R ad k ta tc ya yc) (t : Int) (ht : t = k.horizon) (hlt : ∀ x ∈ k.trans, x.pos < t) (hcy : k.cycle ≤ 1836800)
  (Bc Bt : Nat) (T : TypeId) (hc : R ⟨Bc, 0, none⟩ (.pointer (some ad))) (wz : World) (hR : ∀ a v, R a v → wz.cell? a = some v ∧ a.block ≠ Bt) (hB : wz.heap[Bt]? = some (.cells #[.int .i64 t] T (0, 0)))
  (n l : Nat) (Jx : World → Prop) (hY : k.ys ≠ [] → ∀ W1 (o : Int), KeptG (fun b => b = Bt) wz W1 → YieldAt (Fr none) (n - 1) Tryz.prog l #[.agg #[.int .i64 (nextT k.ys k.cycle t), .int .i64 o]] W1 fun e W' => e = .returned (.bool false) ∧ Jx W') :
  CallsIn (Fr none) n Tryz.prog 161 #[.func (.yield l) #[] #[], .pointer (some ⟨Bc, 0, none⟩), .pointer (some ⟨Bt, 0, none⟩)] wz fun e W' => (∃ v, e = .returned v) ∧ ((k.ys = [] ∧ KeptG (fun b => b = Bt) wz W') ∨ Jx W') := by
 have hfst := hk.hor
 refine callsIn_of_wp (c := b161) Tryz.func161 rfl trivial ?_
 obtain ⟨Q, hQ⟩ : ∃ Q, Q = bodyPost Tryz.prog Tryz.f161 (fun e W' => (∃ v, e = .returned v) ∧ ((k.ys = [] ∧ KeptG (fun b => b = Bt) wz W') ∨ Jx W')) := ⟨_, rfl⟩
 rw [← hQ]
 have hG : Granted wz (fun _ => Bt) (fun _ => 0) [.box [.val (.int .i64 t)]] R := by
  refine ⟨fun j b hj => ?_, fun i j b b' hi hj _ _ _ => ?_, fun a v ha => ⟨(hR a v ha).1, fun j b hj _ => (hR a v ha).2⟩⟩
  ·obtain ⟨rfl, rfl⟩ : j = 0 ∧ b = .box [.val (.int .i64 t)] := by
    cases j with
    | zero => simpa using hj.symm
    | succ j => simp at hj
   exact ⟨trivial, by simp [SV.ok], T, hB⟩
  ·cases i <;> cases j <;> simp at hi hj ⊢
 have hst := rel_startS (n := 78) (xs := [.val (.func (.yield l) #[] #[]), .val (.pointer (some ⟨Bc, 0, none⟩)), .loc 0 0]) (by simp) rfl rfl hG
 obtain ⟨X, hX⟩ : ∃ X : Ctx, X = { w0 := wz, R0 := R, B := R, n := 78, g := Gset (fun _ => Bt) [.box [.val (.int .i64 t)]], ng := [Blk.box [.val (.int .i64 t)]].length, β0 := fun _ => Bt, κ0 := fun _ => 0 } := ⟨_, rfl⟩
 rw [← hX] at hst
 have hXn : X.n = 78 := by rw [hX]
 have hXk : X.keep = [] := by rw [hX]
 have hXg : X.ng = 1 := by rw [hX]; rfl
 have hkept : ∀ w, KeptG X.g X.w0 w → KeptG (fun b => b = Bt) wz w := fun w hw => by
  rw [hX] at hw
  exact ⟨hw.os, hw.tape, hw.output, hw.size, fun b hb hn => hw.block b hb (fun ⟨_, _, _, _, e⟩ => hn e), hw.drawn⟩
 suffices hS : SemI Tryz.prog none n X [] b161 ⟨envS [.val (.func (.yield l) #[] #[]), .val (.pointer (some ⟨Bc, 0, none⟩)), .loc 0 0], [.box [.val (.int .i64 t)]], R⟩ Q by
  exact hS _ _ _ _ hst
 show SemI Tryz.prog none n X [] (.seq (cL b161) (cR b161)) _ Q
 refine sem_seq mix hXk (by rw [hXn]; exact b161A) ?_
 rw [hXg]
 simp only [go_sem, ↓reduceIte, Qa, Qb, Qc, Qd, Qe, Qf, reduceCtorEq, vL, vR, vc161]
 refine vload (.pointer (some ad)) hc ?_
 try simp only [go_sem, ↓reduceIte, Qa, Qb, Qc, Qd, Qe, Qf, reduceCtorEq]
 refine vload _ h.trans ?_
 try simp only [go_sem, ↓reduceIte, Qa, Qb, Qc, Qd, Qe, Qf, reduceCtorEq]
 have hlY := h.ysV.2
 obtain ⟨a1, c1, e1, hc1, htf⟩ := h.transV.form
 simp only [Value.slice.injEq, true_and] at e1
 obtain ⟨rfl, rfl⟩ := e1
 obtain ⟨a2, c2, e2, hc2, hyf⟩ := h.ysV.form
 simp only [Value.slice.injEq, true_and] at e2
 obtain ⟨rfl, rfl⟩ := e2
 have hlT := h.transV.2
 refine vcLoop Nat (fun i => [(15, .val (.int .i64 i)), (13, .val (.slice ta k.trans.length tc)), (14, .val (.int .i64 k.trans.length)), (0, .val (.func (.yield l) #[] #[])), (1, .val (.pointer (some ⟨Bc, 0, none⟩))), (2, .loc 0 0)])
  (fun _ => [.box [.val (.int .i64 t)]]) (fun i _ => i ≤ k.trans.length) (fun i => k.trans.length - i) 0 ?_ ?_ ?_ ?_
 ·(try simp only [go_sem, ↓reduceIte, Qa, Qb, Qc, Qd, Qe, Qf, reduceCtorEq]) <;> (repeat' (first | rfl | trivial | constructor | (intro h; exact absurd rfl h)))
 ·rfl
 ·exact Nat.zero_le _
 rintro i env R1 hle1 hE hi
 (simp only [go_sem] at hE; obtain ⟨e15, e13, e14, e0, e1, e2⟩ := hE; simp only [go_sem, ↓reduceIte, Qa, Qb, Qc, Qd, Qe, Qf, reduceCtorEq, e15, e13, e14, e0, e1, e2]; dsimp only at *)
 refine ⟨fun hi1 => ?_, fun hi1 => ?_⟩
 ·have hi' : i < k.trans.length := by omega
  obtain ⟨adx, had, hRx⟩ := htf i hi'
  have hxl := hlt k.trans[i] (List.getElem_mem _)
  refine ⟨by omega, vat adx had ?_⟩
  try simp only [go_sem, ↓reduceIte, Qa, Qb, Qc, Qd, Qe, Qf, reduceCtorEq]
  refine vloadn k.trans[i].cells rfl (fun j u hj => hle1 _ _ (hRx j u hj)) ?_
  simp only [go_sem, ↓reduceIte, Qa, Qb, Qc, Qd, Qe, Qf, reduceCtorEq, Tr.cells, e15, e13, e14, e0, e1, e2]
  refine ⟨fun h => absurd h (by omega), fun _ => ⟨_, W.in64 (by omega), i + 1, by omega, by norm_cast, rfl, by omega⟩⟩
 show SemI Tryz.prog none n X [] (.seq (cL (cR b161)) (cR (cR b161))) _ Q
 refine sem_seq mix hXk (by rw [hXn]; exact b161B) ?_
 rw [hXg]
 simp only [go_sem, ↓reduceIte, Qa, Qb, Qc, Qd, Qe, Qf, reduceCtorEq, vL, vR, vc161, e15, e13, e14, e0, e1, e2]
 refine vload (.pointer (some ad)) (hle1 _ _ hc) ?_
 try simp only [go_sem, ↓reduceIte, Qa, Qb, Qc, Qd, Qe, Qf, reduceCtorEq]
 refine vload _ (hle1 _ _ h.ys) ?_
 try simp only [go_sem, ↓reduceIte, Qa, Qb, Qc, Qd, Qe, Qf, reduceCtorEq, e15, e13, e14, e0, e1, e2]
 refine ⟨fun h0 => ?_, fun h0 => ?_⟩
 ·have hy0 : k.ys = [] := List.eq_nil_of_length_eq_zero (by omega)
  intro β κ tm w hr
  subst hQ
  exact ⟨rfl, _, results_run (us := []) rfl, ⟨_, rfl⟩, .inl ⟨hy0, hkept _ hr.below⟩⟩
 have hyn : k.ys ≠ [] := fun e => h0 (by rw [e]; rfl)
 show SemI Tryz.prog none n X [] (.seq (cL (cR (cR b161))) (cR (cR (cR b161)))) _ Q
 refine sem_seq mix hXk (by rw [hXn]; exact b161C) ?_
 rw [hXg]
 simp only [go_sem, ↓reduceIte, Qa, Qb, Qc, Qd, Qe, Qf, reduceCtorEq, vL, vR, vc161, e15, e13, e14, e0, e1, e2]
 refine vload (.pointer (some ad)) (hle1 _ _ hc) ?_
 try simp only [go_sem, ↓reduceIte, Qa, Qb, Qc, Qd, Qe, Qf, reduceCtorEq, e15, e13, e14, e0, e1, e2]
 refine vload (.int .i64 k.horizon) (hle1 _ _ h.hor) ?_
 try simp only [go_sem, ↓reduceIte, Qa, Qb, Qc, Qd, Qe, Qf, reduceCtorEq, e15, e13, e14, e0, e1, e2]
 rw [show max t k.horizon = t by omega]
 show SemI Tryz.prog none n X [] (.seq (cL (cR (cR (cR b161)))) (cR (cR (cR (cR b161))))) _ Q
 refine sem_seq mix hXk (by rw [hXn]; exact b161D) ?_
 rw [hXg]
 simp only [go_sem, ↓reduceIte, Qa, Qb, Qc, Qd, Qe, Qf, reduceCtorEq, vL, vR, vc161, e15, e13, e14, e0, e1, e2]
 refine vload (.pointer (some ad)) (hle1 _ _ hc) ?_
 try simp only [go_sem, ↓reduceIte, Qa, Qb, Qc, Qd, Qe, Qf, reduceCtorEq, e15, e13, e14, e0, e1, e2]
 refine vload (.pointer (some ad)) (hle1 _ _ hc) ?_
 try simp only [go_sem, ↓reduceIte, Qa, Qb, Qc, Qd, Qe, Qf, reduceCtorEq, e15, e13, e14, e0, e1, e2]
 refine vcall (zRound k hk hyn t (by omega) ad ta tc ya yc R1 (h.mono hle1)) ?_
 rintro R2 r hle2 rfl
 try simp only [go_sem, ↓reduceIte, Qa, Qb, Qc, Qd, Qe, Qf, reduceCtorEq, e15, e13, e14, e0, e1, e2]
 refine vcall (zMinutes k hk ad ta tc ya yc R2 ((h.mono hle1).mono hle2)) ?_
 rintro R3 r hle3 rfl
 try simp only [go_sem, ↓reduceIte, Qa, Qb, Qc, Qd, Qe, Qf, reduceCtorEq, e15, e13, e14, e0, e1, e2]
 have hle13 : RO.le R R3 := RO.le_trans hle1 (RO.le_trans hle2 hle3)
 have hcyc := hk.cyc
 have hposY := hk.ypos
 obtain ⟨x0, hx0, hx0p⟩ := first_mem hyn
 have hx0b := hposY x0 hx0
 have hfp := first_fst k
 have hturn : max (t - k.first) 0 / k.mins = turnsT k.ys k.cycle t := by unfold turnsT Ck.mins; rw [hfp]
 obtain ⟨tu, htu⟩ : ∃ tu, tu = turnsT k.ys k.cycle t := ⟨_, rfl⟩
 have hbd := turnsT_bd (L := k.ys) (t := t) ⟨hcyc.1, hcy⟩ (by omega) (by omega)
 have hT := turnsT_lt (L := k.ys) (t := t) hcyc.1
 have hT0 := turnsT_pos (L := k.ys) (t := t) hcyc.1
 rw [hturn, ← htu]
 rw [← htu] at hbd hT hT0
 rw [show k.mins = k.cycle * 1440 from rfl]
 refine ⟨_, W.in64 (by omega), ?_⟩
 show SemI Tryz.prog none n X [] (.block 2 (.loop b161O)) _ Q
 refine sem_block ?_
 refine sem_loop Nat (fun c => [(6, .val (.int .i64 ((tu + c) * (k.cycle * 1440)))), (0, .val (.func (.yield l) #[] #[])), (1, .val (.pointer (some ⟨Bc, 0, none⟩))), (2, .loc 0 0)])
  (fun _ => [.box [.val (.int .i64 t)]]) (fun c _ => c = 0 ∨ c = 1 ∧ ∀ x ∈ k.ys, x.pos + tu * (k.cycle * 1440) < t) (fun c => 2 - c) 0 [] ?_ ?_ ?_ ?_
 ·try simp only [go_sem, ↓reduceIte, Qa, Qb, Qc, Qd, Qe, Qf, reduceCtorEq, e15, e13, e14, e0, e1, e2]
  rw [show ((0 : Nat) : Int) = 0 from rfl, Int.add_zero]
 ·rw [hXg]; rfl
 ·exact .inl rfl
 rintro c env R4 hle4 hE hc01
 (simp only [go_sem] at hE; obtain ⟨e6, e0', e1', e2'⟩ := hE; simp only [go_sem, ↓reduceIte, Qa, Qb, Qc, Qd, Qe, Qf, reduceCtorEq, e6, e0', e1', e2']; dsimp only at *)
 have hle14 : RO.le R R4 := RO.le_trans hle13 hle4
 obtain ⟨X1, hX1⟩ : ∃ X1 : Ctx, X1 = { X with R0 := R3 } := ⟨_, rfl⟩
 have hX1n : X1.n = 78 := by rw [hX1]; exact hXn
 have hX1k : X1.keep = [] := by rw [hX1]; exact hXk
 have hX1g : X1.ng = 1 := by rw [hX1]; exact hXg
 rw [← hX1]
 generalize hQ1 : Exit.then _ (Exit.inBlock 2 Q) = Q1
 have hcs : tu + (c : Int) ≤ tu + 1 := by omega
 have hcB : 0 ≤ (tu + c) * (k.cycle * 1440) ∧ (tu + c) * (k.cycle * 1440) ≤ 9007199254740992 + 2644992000 := by
  rcases hc01 with h | ⟨h, _⟩
  ·rw [h, show ((0 : Nat) : Int) = 0 from rfl, Int.add_zero]; omega
  ·rw [h, show ((1 : Nat) : Int) = 1 from rfl, Int.add_mul, Int.one_mul]; omega
 show SemI Tryz.prog none n X1 [] (.seq (.block 3 (.seq (cL (cL (cL b161O))) (.block 4 (.loop b161I)))) (cR b161O)) _ Q1
 refine sem_seqS (sem_block (sem_seq mix hX1k (by rw [hX1n]; exact b161r9) ?_))
 rw [hX1g]
 simp only [go_sem, ↓reduceIte, Qa, Qb, Qc, Qd, Qe, Qf, reduceCtorEq, vL, vR, v161O, vc161, e6, e0', e1', e2']
 refine vload (.pointer (some ad)) (hle14 _ _ hc) ?_
 try simp only [go_sem, ↓reduceIte, Qa, Qb, Qc, Qd, Qe, Qf, reduceCtorEq, e6, e0', e1', e2']
 refine vload _ (hle14 _ _ h.ys) ?_
 try simp only [go_sem, ↓reduceIte, Qa, Qb, Qc, Qd, Qe, Qf, reduceCtorEq, e6, e0', e1', e2']
 refine sem_block ?_
 generalize hQ4 : Exit.inBlock 4 _ = Q4
 refine sem_loop Nat (fun i => [(58, .val (.int .i64 i)), (56, .val (.slice ya k.ys.length yc)), (57, .val (.int .i64 k.ys.length)), (6, .val (.int .i64 ((tu + c) * (k.cycle * 1440)))), (0, .val (.func (.yield l) #[] #[])), (1, .val (.pointer (some ⟨Bc, 0, none⟩))), (2, .loc 0 0)])
  (fun _ => [.box [.val (.int .i64 t)]]) (fun i _ => i ≤ k.ys.length ∧ ∀ j (h : j < k.ys.length), j < i → k.ys[j].pos + (tu + c) * (k.cycle * 1440) < t) (fun i => k.ys.length - i) 0 [] ?_ ?_ ?_ ?_
 ·try simp only [go_sem, ↓reduceIte, Qa, Qb, Qc, Qd, Qe, Qf, reduceCtorEq, e6, e0', e1', e2']
  rfl
 ·rw [hX1g]; rfl
 ·exact ⟨Nat.zero_le _, fun j _ h => absurd h (by omega)⟩
 rintro i env R5 hle5 hE ⟨hi, hj⟩
 (simp only [go_sem] at hE; obtain ⟨e58, e56, e57, e6', e0'', e1'', e2''⟩ := hE; simp only [go_sem, ↓reduceIte, Qa, Qb, Qc, Qd, Qe, Qf, reduceCtorEq, e58, e56, e57, e6', e0'', e1'', e2'']; dsimp only at *)
 have hle15 : RO.le R R5 := RO.le_trans hle14 hle5
 obtain ⟨X2, hX2⟩ : ∃ X2 : Ctx, X2 = { X1 with R0 := R4 } := ⟨_, rfl⟩
 have hX2n : X2.n = 78 := by rw [hX2]; exact hX1n
 have hX2k : X2.keep = [] := by rw [hX2]; exact hX1k
 have hX2g : X2.ng = 1 := by rw [hX2]; exact hX1g
 rw [← hX2]
 generalize hQ5 : Exit.then _ Q4 = Q5
 show SemI Tryz.prog none n X2 [] (.seq (cL b161I) (.seq (cL (cR b161I)) (.seq (.block 5 b161S) (cR (cR (cR b161I)))))) _ Q5
 refine sem_seq mix hX2k (by rw [hX2n]; exact b161r10) ?_
 rw [hX2g]
 simp only [go_sem, ↓reduceIte, Qa, Qb, Qc, Qd, Qe, Qf, reduceCtorEq, vL, vR, v161I, v161O, vc161, e58, e56, e57, e6', e0'', e1'', e2'']
 refine sem_seq mix hX2k (by rw [hX2n]; exact b161c59) ?_
 rw [hX2g]
 simp only [go_sem, ↓reduceIte, Qa, Qb, Qc, Qd, Qe, Qf, reduceCtorEq, vL, vR, v161I, v161O, vc161, e58, e56, e57, e6', e0'', e1'', e2'']
 refine ⟨fun hlt1 => ?_, fun hge1 => ?_⟩
 ·have hi' : i < k.ys.length := by omega
  obtain ⟨adx, had, hRx⟩ := hyf i hi'
  have hxb := hposY k.ys[i] (List.getElem_mem _)
  refine sem_seqS (sem_block ?_)
  show SemI Tryz.prog none n X2 [] (.seq (cL b161S) (.seq (cL (cR b161S)) (.seq (cL (cR (cR b161S))) (cR (cR (cR b161S)))))) _ _
  generalize hQ6 : Exit.inBlock 5 _ = Q6
  refine sem_seq mix hX2k (by rw [hX2n]; exact b161r11) ?_
  rw [hX2g]
  simp only [go_sem, ↓reduceIte, Qa, Qb, Qc, Qd, Qe, Qf, reduceCtorEq, vL, vR, v161S, v161I, v161O, vc161, e58, e56, e57, e6', e0'', e1'', e2'']
  refine ⟨by omega, vat adx had ?_⟩
  try simp only [go_sem, ↓reduceIte, Qa, Qb, Qc, Qd, Qe, Qf, reduceCtorEq]
  refine vloadn k.ys[i].cells rfl (fun j u hj => hle15 _ _ (hRx j u hj)) ?_
  simp only [go_sem, ↓reduceIte, Qa, Qb, Qc, Qd, Qe, Qf, reduceCtorEq, Tr.cells, e58, e56, e57, e6', e0'', e1'', e2'']
  refine sem_seq mix hX2k (by rw [hX2n]; exact b161r12) ?_
  rw [hX2g]
  simp only [go_sem, ↓reduceIte, Qa, Qb, Qc, Qd, Qe, Qf, reduceCtorEq, vL, vR, v161S, v161I, v161O, vc161, e58, e56, e57, e6', e0'', e1'', e2'']
  refine ⟨_, W.in64 (by omega), ?_⟩
  by_cases hit : t ≤ k.ys[i].pos + (tu + c) * (k.cycle * 1440)
  ·have hn := nextT_hit (t := t) hcyc.1 (k := tu + c) (by rw [← htu]; rcases hc01 with hh | ⟨hh, hg⟩; exact .inl (by rw [hh, show ((0 : Nat) : Int) = 0 from rfl, Int.add_zero]); exact .inr ⟨by rw [hh]; rfl, hg⟩) hi' hit hj
   rw [ops161_eq]
   refine sem_seqS (sem_region_pre [0, 1, 2, 3, 4, 5, 6] [7, 8, 9] ops161_sp ops161_nd (by rw [hX2n]; exact ops161_c) ?_)
   rw [hX2g]
   simp only [go_sem, ↓reduceIte, Qa, Qb, Qc, Qd, Qe, Qf, reduceCtorEq, l161, vL, vR, v161S, v161I, v161O, vc161, e58, e56, e57, e6', e0'', e1'', e2'', decide_eq_true hit, List.take]
   intro β κ tm w hr
   have hsz : tm.size = 78 := hr.size.trans hX2n
   have e71 : tm.getD 71 undef = .bool true := (hr.env 71).trans rfl
   have h71 : tm[71]? = some (.bool true) := by
    rw [Array.getD_eq_getD_getElem?, Array.getElem?_eq_getElem (by omega), Option.getD_some] at e71
    rw [Array.getElem?_eq_getElem (by omega), e71]
   have e72 : (⟨tm, []⟩ : Act).eval (.tmp 72) = .func (.yield l) #[] #[] := (hr.eval [] (.tmp 72)).trans (by simp only [go_sem, ↓reduceIte, Qa, Qb, Qc, Qd, Qe, Qf, reduceCtorEq, e58, e56, e57, e6', e0'', e1'', e2'', den])
   have e73 : (⟨tm, []⟩ : Act).eval (.tmp 73) = .agg #[.int .i64 (nextT k.ys k.cycle t), .int .i64 k.ys[i].off] := (hr.eval [] (.tmp 73)).trans (by simp only [go_sem, ↓reduceIte, Qa, Qb, Qc, Qd, Qe, Qf, reduceCtorEq, e58, e56, e57, e6', e0'', e1'', e2'', den, hn])
   have hkw : KeptG (fun b => b = Bt) wz w := hkept _ (by have := hr.below; rw [hX2, hX1] at this; exact this)
   obtain ⟨at', ty, pos, after, h7⟩ := ops161_7
   obtain ⟨t8, ty8, pos8, after8, h8⟩ := ops161_8
   obtain ⟨ty9, pos9, after9, h9⟩ := ops161_9
   rw [wpOpsIn_cons]
   unfold wpOpIn
   simp only [h7]
   rw [if_pos (want161 _ _ rfl h71)]
   refine ⟨fun _ _ => trivial, ?_⟩
   rw [show (Fr none).round = none from rfl, Oper.semAt_none, yield_run _ _ _ _ e72]
   obtain ⟨gf, tmps, assign, body, hrun, hround⟩ := hY hyn w k.ys[i].off hkw
   rw [show (#[Operand.tmp 73] : Array Operand).map (⟨tm, []⟩ : Act).eval = #[.agg #[.int .i64 (nextT k.ys k.cycle t), .int .i64 k.ys[i].off]] by simp [e73]]
   rw [hrun, Oper.uponIn_round]
   refine ⟨fun e => (by cases e), RoundIn.mono hround ?_⟩
   rintro e w' ⟨rfl, hJ⟩
   show wpOpsIn (Fr none) n Tryz.prog ops161 _ [8, 9] ⟨tm.setIfInBounds 74 (.bool false), []⟩ w'
   have h71' : (tm.setIfInBounds 74 (.bool false))[71]? = some (.bool true) := by rw [Array.getElem?_setIfInBounds_ne (by decide)]; exact h71
   rw [wpOpsIn_cons]
   refine pure_op_in h8 rfl (want161 _ _ rfl h71') (vo := .un .not (.tmp 74)) rfl rfl (v := .bool true) ?_ ?_
   ·have h74 : (tm.setIfInBounds 74 (.bool false)).getD 74 undef = .bool false := by rw [getD_set _ _ _ _ (by omega), if_pos rfl]
    simp [vcOp, St.ev, valS, vcUn, hsz]
   show wpOpsIn (Fr none) n Tryz.prog ops161 _ [9] ⟨(tm.setIfInBounds 74 (.bool false)).setIfInBounds 75 (.bool true), []⟩ w'
   rw [wpOpsIn_cons]
   refine pure_op_in h9 rfl rfl (vo := .pick (.tmp 71) (.tmp 75) (.const (.bool false))) rfl rfl (v := .bool true) ?_ ?_
   ·have h75 : ((tm.setIfInBounds 74 (.bool false)).setIfInBounds 75 (.bool true)).getD 75 undef = .bool true := by rw [getD_set _ _ _ _ (by simp; omega), if_pos rfl]
    have h71b : ((tm.setIfInBounds 74 (.bool false)).setIfInBounds 75 (.bool true)).getD 71 undef = .bool true := by
     rw [getD_set _ _ _ _ (by simp; omega), if_neg (by decide), getD_set _ _ _ _ (by omega), if_neg (by decide)]; exact e71
    simp [vcOp, St.ev, valS, h71, hsz]
    rw [show tm[71] = .bool true from (Array.getElem?_eq_some_iff.1 h71).2]
   show (cR (cR (cR b161S))).wpIn (Fr none) n Tryz.prog Q6 ⟨((tm.setIfInBounds 74 (.bool false)).setIfInBounds 75 (.bool true)).setIfInBounds 76 (.bool true), []⟩ w'
   show (Code.cond (.tmp 76) .ret .skip).wpIn (Fr none) n Tryz.prog Q6 ⟨((tm.setIfInBounds 74 (.bool false)).setIfInBounds 75 (.bool true)).setIfInBounds 76 (.bool true), []⟩ w'
   refine wpIn_cond_true ?_ (wpIn_ret ?_)
   ·show (((tm.setIfInBounds 74 (.bool false)).setIfInBounds 75 (.bool true)).setIfInBounds 76 (.bool true)).getD 76 undef = _
    rw [getD_set _ _ _ _ (by simp; omega), if_pos rfl]
   ·simp only [← hQ6, ← hQ5, ← hQ4, ← hQ1, Exit.inBlock, Exit.then]
    subst hQ
    exact ⟨rfl, _, results_run (us := []) rfl, ⟨_, rfl⟩, .inr hJ⟩
  ·refine sem_vc mix hX2k (by rw [hX2n]; exact b161r13) ?_
   rw [hX2g]
   simp only [go_sem, ↓reduceIte, Qa, Qb, Qc, Qd, Qe, Qf, reduceCtorEq, vL, vR, v161S, v161I, v161O, vc161, e58, e56, e57, e6', e0'', e1'', e2'', decide_eq_false hit]
   intro β κ tm w hr
   rw [← hQ6]
   show (cR (cR (cR b161I))).wpIn (Fr none) n Tryz.prog Q5 ⟨tm, []⟩ w
   refine sem_vc mix hX2k (by rw [hX2n]; exact b161r14) ?_ β κ tm w hr
   rw [hX2g]
   simp only [go_sem, ↓reduceIte, Qa, Qb, Qc, Qd, Qe, Qf, reduceCtorEq, vL, vR, v161S, v161I, v161O, vc161, e58, e56, e57, e6', e0'', e1'', e2'']
   refine ⟨_, W.in64 (by omega), ?_⟩
   intro β κ tm w hr
   rw [← hQ5]
   refine ⟨β, κ, _, tm, rfl, hr, i + 1, [], by omega, ?_, by rw [hX1g]; rfl, by omega, ?_⟩
   ·simp only [go_sem, ↓reduceIte, Qa, Qb, Qc, Qd, Qe, Qf, reduceCtorEq, e58, e56, e57, e6', e0'', e1'', e2'']
    first | rfl | exact ⟨by norm_cast, trivial⟩ | norm_cast
   ·intro j hjl hji
    rcases Nat.lt_or_ge j i with hh | hh
    ·exact hj j hjl hh
    ·obtain rfl : j = i := by omega
     omega
 ·have hil : i = k.ys.length := by omega
  have hall : ∀ x ∈ k.ys, x.pos + (tu + c) * (k.cycle * 1440) < t := fun x hx => by
   obtain ⟨j, hjl, rfl⟩ := List.mem_iff_getElem.1 hx
   exact hj j hjl (by omega)
  have hc0 : c = 0 := by
   rcases hc01 with hh | ⟨hh, _⟩
   ·exact hh
   ·have h1 := hall x0 hx0
    rw [hh, show ((1 : Nat) : Int) = 1 from rfl] at h1
    omega
  intro β κ tm w hr
  rw [← hQ5]
  show Q4 (.exit 4) _ _
  rw [← hQ4]
  show (cR b161O).wpIn (Fr none) n Tryz.prog Q1 ⟨tm, []⟩ w
  rw [hX2] at hr
  have hr1 := hr.up (X := X1) (by rw [hX1]; exact hle4)
  refine sem_vc mix hX1k (by rw [hX1n]; exact b161r8) ?_ β κ tm w hr1
  rw [hX1g]
  simp only [go_sem, ↓reduceIte, Qa, Qb, Qc, Qd, Qe, Qf, reduceCtorEq, vL, vR, v161S, v161I, v161O, vc161, e58, e56, e57, e6', e0'', e1'', e2'']
  refine vload (.pointer (some ad)) (hle15 _ _ hc) ?_
  try simp only [go_sem, ↓reduceIte, Qa, Qb, Qc, Qd, Qe, Qf, reduceCtorEq, e58, e56, e57, e6', e0'', e1'', e2'']
  refine vcall (zMinutes k hk ad ta tc ya yc R5 (h.mono hle15)) ?_
  rintro R6 r hle6 rfl
  try simp only [go_sem, ↓reduceIte, Qa, Qb, Qc, Qd, Qe, Qf, reduceCtorEq, e58, e56, e57, e6', e0'', e1'', e2'']
  rw [show k.mins = k.cycle * 1440 from rfl]
  refine ⟨_, W.in64 (by omega), ?_⟩
  intro β κ tm w hr
  rw [← hQ1]
  refine ⟨β, κ, _, tm, rfl, hr, 1, [], by omega, ?_, by rw [hXg]; rfl, .inr ⟨rfl, ?_⟩⟩
  ·simp only [go_sem, ↓reduceIte, Qa, Qb, Qc, Qd, Qe, Qf, reduceCtorEq, e58, e56, e57, e6', e0'', e1'', e2'']
   rw [hc0, show ((0 : Nat) : Int) = 0 from rfl, show ((1 : Nat) : Int) = 1 from rfl, Int.add_zero, Int.add_mul, Int.one_mul]
  ·intro x hx
   have := hall x hx
   rwa [hc0, show ((0 : Nat) : Int) = 0 from rfl, Int.add_zero] at this
end Go.Proofs.YtdgndfabdmecmaaGreat
namespace Go.Proofs.YtdgndfabdmecmaaGreat
open Go.Proofs.YtdgndfabdmecmaaGreat.Vc Go.RowKit
structure ZnOK (n : Zn) (L : List Tr) : Prop where
 cal : n.cal.valid
 start : -1080 ≤ n.start ∧ n.start ≤ 1080
 hor : -2251799813685248 ≤ n.hor ∧ n.hor ≤ 2251799813685248
 tlen : n.trans.length ≤ 512
 tr : ∀ x ∈ n.trans, (-1080 ≤ x.off ∧ x.off ≤ 1080) ∧ (-2251799813685248 ≤ x.pos ∧ x.pos ≤ 2251799813685248) ∧ x.pos < n.hor
 gap : ∀ i (h : i + 1 < n.trans.length), 2160 ≤ n.trans[i + 1].pos - n.trans[i].pos
 years : YearsOK n L
 next : L ≠ [] → ∀ x, n.trans.getLast? = some x → 2160 ≤ nextT L (cycD n.cal) n.hor - x.pos
theorem gap_asc {l : List Tr} (h : ∀ i (h : i + 1 < l.length), 2160 ≤ l[i + 1].pos - l[i].pos) : Asc l := by
 unfold Asc
 rw [List.pairwise_iff_getElem]
 intro i j hi hj hij
 obtain ⟨d, rfl⟩ : ∃ d, j = i + 1 + d := ⟨j - i - 1, by omega⟩
 clear hij
 induction d with
 | zero => have := h i hj; simp only [Nat.add_zero]; omega
 | succ d ih =>
  have h1 := ih (by omega)
  have := h (i + 1 + d) (by omega)
  simp only [show i + 1 + (d + 1) = i + 1 + d + 1 by omega]
  omega
theorem goY_off {c : Cal} {r0 r1 : Yr} (h0 : YrOK c r0) (h1 : YrOK c r1) (e : Int) : ∀ (f : Nat) (begin y : Int) (out : List Tr), (∀ x ∈ out, -1080 ≤ x.off ∧ x.off ≤ 1080) → ∀ x ∈ goY c r0 r1 e f begin y out, -1080 ≤ x.off ∧ x.off ≤ 1080
 | 0, _, _, _, ho, x, hx => ho x hx
 | f + 1, begin, y, out, ho, x, hx => by
  rw [goY] at hx
  split at hx
  ·refine goY_off h0 h1 e f _ _ _ (fun x hx => ?_) x hx
   rcases List.mem_append.1 hx with hx | hx
   ·exact ho x hx
   ·have o0 := h0.off
    have o1 := h1.off
    rcases List.mem_append.1 hx with hx | hx <;> unfold yr1 at hx <;> split at hx <;> simp only [List.mem_singleton, List.not_mem_nil] at hx <;> subst hx <;> dsimp only <;> omega
  ·exact ho x hx
theorem ZnOK.ck {n : Zn} {L : List Tr} (h : ZnOK n L) : CkOK (ckOf n L) := by
 have hdb := h.cal.days_bd
 have hpp := h.cal.per.2.1
 have hcb := cycD_bd (c := n.cal) (by omega)
 refine ⟨gap_asc h.gap, ?_, ?_, h.start, h.hor, fun x hx => (h.tr x hx).1, ?_, fun x hx => (h.tr x hx).2.1, ?_⟩
 ·rcases h.years with ⟨_, e⟩ | ⟨r0, r1, _, _, _, _, hF⟩
  ·show Asc L
   rw [e]; exact List.Pairwise.nil
  ·exact hF.asc
 ·show 1 ≤ (if n.yearly = [] then (1 : Int) else cycD n.cal) ∧ (if n.yearly = [] then (1 : Int) else cycD n.cal) ≤ 1000000000
  split <;> omega
 ·intro x hx
  rcases h.years with ⟨_, e⟩ | ⟨r0, r1, _, h0, h1, hp, _⟩
  ·change x ∈ L at hx
   rw [e] at hx; simp at hx
  ·exact goY_off h0 h1 _ _ _ _ _ (by simp) x (hp.mem_iff.1 hx)
 ·intro x hx
  rcases h.years with ⟨_, e⟩ | ⟨r0, r1, _, h0, h1, hp, _⟩
  ·change x ∈ L at hx
   rw [e] at hx; simp at hx
  ·have := unsT_bd h.cal h0 h1 x (hp.mem_iff.1 hx)
   omega
noncomputable def b72 : Code := Tryz.f72.body.getD .skip
theorem b72_0 : comp Tryz.prog 173 (cL b72) = some (vL vc72) := by kernel_rfl
theorem b72_1 : comp Tryz.prog 173 (cL (cR b72)) = some (vL (vR vc72)) := by kernel_rfl
theorem b72_2 : comp Tryz.prog 173 (cL (cR (cR b72))) = some (vL (vR (vR vc72))) := by kernel_rfl
theorem b72_3 : comp Tryz.prog 173 (cL (cR (cR (cR b72)))) = some (vL (vR (vR (vR vc72)))) := by kernel_rfl
theorem b72_4 : comp Tryz.prog 173 (cL (cR (cR (cR (cR b72))))) = some (vL (vR (vR (vR (vR vc72))))) := by kernel_rfl
theorem b72_5 : comp Tryz.prog 173 (cL (cR (cR (cR (cR (cR b72)))))) = some (vL (vR (vR (vR (vR (vR vc72)))))) := by kernel_rfl
theorem b72_6 : comp Tryz.prog 173 (cL (cR (cR (cR (cR (cR (cR b72))))))) = some (vL (vR (vR (vR (vR (vR (vR vc72))))))) := by kernel_rfl
noncomputable def b72R : Code := cR (cR (cR (cR (cR (cR (cR b72))))))
def v72R : VCode := vR (vR (vR (vR (vR (vR (vR vc72))))))
theorem b72_R : comp Tryz.prog 173 b72R = some v72R := by kernel_rfl
theorem b72_8 : comp Tryz.prog 173 (cR b72R) = some (vR v72R) := by kernel_rfl
theorem b72_20 : comp Tryz.prog 173 (cL (cL b72R)) = some (vL (vL v72R)) := by kernel_rfl
theorem b72_21 : comp Tryz.prog 173 (cL (cR (cL b72R))) = some (vL (vR (vL v72R))) := by kernel_rfl
noncomputable def b72C : Code := cR (cR (cL b72R))
def v72C : VCode := vR (vR (vL v72R))
theorem b72_22 : comp Tryz.prog 173 (cL (cL b72C)) = some (vL (vL v72C)) := by kernel_rfl
def PostO (n : Zn) (L : List Tr) (R' : RO) (v : Value) : Prop := ∃ ad ta tc ya yc, v = .tuple #[.pointer (some ad), .bool true] ∧ CkV R' ad (ckOf n L) ta tc ya yc
def cA : Code → Code
 | .rangeFunc _ _ a _ => a
 | c => c
def cB : Code → Code
 | .rangeFunc _ _ _ b => b
 | c => c
noncomputable def b72A : Code := cA (cL (cR (cL b72C)))
noncomputable def b72B : Code := cB (cL (cR (cL b72C)))
theorem b72_rf : cR (cL b72C) = .block 4 (.rangeFunc (.tmp 158) #[159] b72A b72B) := by kernel_rfl
def v72A : VCode := .ops [⟨some 11, none, .alloc [.int .i64 0, .int .i64 0]⟩, ⟨none, none, .store 2 (.tmp 11) (.tmp 159)⟩]
theorem b72_A : comp Tryz.prog 173 b72A = some v72A := by kernel_rfl
def v72B : VCode := (.block 5 (.seq (.tree (.step ⟨some 160, none, .load none (.tmp 8)⟩ (.step ⟨some 161, none, .faddr (.tmp 11) 0⟩ (.step ⟨some 163, none, .faddr (.tmp 1) 5⟩ (.alt ⟨some 162, none, .load none (.tmp 161)⟩ (.alt ⟨some 164, none, .load none (.tmp 163)⟩ (.alt ⟨some 165, none, .load none (.tmp 10)⟩ (.step ⟨some 166, none, .bin .sub (.tmp 165) (.const (.int .i64 1))⟩ (.step ⟨some 167, none, .iaddr (.tmp 164) (.tmp 166) 2⟩ (.step ⟨some 168, none, .faddr (.tmp 167) 0⟩ (.alt ⟨some 169, none, .load none (.tmp 168)⟩ (.step ⟨some 170, none, .bin .sub (.tmp 162) (.tmp 169)⟩ (.step ⟨some 171, none, .bin .geq (.tmp 170) (.const (.int .i64 2160))⟩ (.step ⟨none, none, .store 1 (.tmp 2) (.tmp 160)⟩ (.step ⟨none, none, .store 1 (.tmp 3) (.tmp 171)⟩ .nil)))) (.step ⟨none, none, .store 1 (.tmp 2) (.tmp 160)⟩ (.step ⟨some 169, none, .load none (.tmp 168)⟩ (.step ⟨some 170, none, .bin .sub (.tmp 162) (.tmp 169)⟩ (.step ⟨some 171, none, .bin .geq (.tmp 170) (.const (.int .i64 2160))⟩ (.step ⟨none, none, .store 1 (.tmp 3) (.tmp 171)⟩ .nil))))))))) (.step ⟨none, none, .store 1 (.tmp 2) (.tmp 160)⟩ (.step ⟨some 165, none, .load none (.tmp 10)⟩ (.step ⟨some 166, none, .bin .sub (.tmp 165) (.const (.int .i64 1))⟩ (.step ⟨some 167, none, .iaddr (.tmp 164) (.tmp 166) 2⟩ (.step ⟨some 168, none, .faddr (.tmp 167) 0⟩ (.step ⟨some 169, none, .load none (.tmp 168)⟩ (.step ⟨some 170, none, .bin .sub (.tmp 162) (.tmp 169)⟩ (.step ⟨some 171, none, .bin .geq (.tmp 170) (.const (.int .i64 2160))⟩ (.step ⟨none, none, .store 1 (.tmp 3) (.tmp 171)⟩ .nil)))))))))) (.alt ⟨some 165, none, .load none (.tmp 10)⟩ (.step ⟨some 166, none, .bin .sub (.tmp 165) (.const (.int .i64 1))⟩ (.alt ⟨some 164, none, .load none (.tmp 163)⟩ (.step ⟨some 167, none, .iaddr (.tmp 164) (.tmp 166) 2⟩ (.step ⟨some 168, none, .faddr (.tmp 167) 0⟩ (.alt ⟨some 169, none, .load none (.tmp 168)⟩ (.step ⟨some 170, none, .bin .sub (.tmp 162) (.tmp 169)⟩ (.step ⟨some 171, none, .bin .geq (.tmp 170) (.const (.int .i64 2160))⟩ (.step ⟨none, none, .store 1 (.tmp 2) (.tmp 160)⟩ (.step ⟨none, none, .store 1 (.tmp 3) (.tmp 171)⟩ .nil)))) (.step ⟨none, none, .store 1 (.tmp 2) (.tmp 160)⟩ (.step ⟨some 169, none, .load none (.tmp 168)⟩ (.step ⟨some 170, none, .bin .sub (.tmp 162) (.tmp 169)⟩ (.step ⟨some 171, none, .bin .geq (.tmp 170) (.const (.int .i64 2160))⟩ (.step ⟨none, none, .store 1 (.tmp 3) (.tmp 171)⟩ .nil)))))))) (.step ⟨none, none, .store 1 (.tmp 2) (.tmp 160)⟩ (.step ⟨some 164, none, .load none (.tmp 163)⟩ (.step ⟨some 167, none, .iaddr (.tmp 164) (.tmp 166) 2⟩ (.step ⟨some 168, none, .faddr (.tmp 167) 0⟩ (.step ⟨some 169, none, .load none (.tmp 168)⟩ (.step ⟨some 170, none, .bin .sub (.tmp 162) (.tmp 169)⟩ (.step ⟨some 171, none, .bin .geq (.tmp 170) (.const (.int .i64 2160))⟩ (.step ⟨none, none, .store 1 (.tmp 3) (.tmp 171)⟩ .nil)))))))))) (.step ⟨none, none, .store 1 (.tmp 2) (.tmp 160)⟩ (.step ⟨some 164, none, .load none (.tmp 163)⟩ (.step ⟨some 165, none, .load none (.tmp 10)⟩ (.step ⟨some 166, none, .bin .sub (.tmp 165) (.const (.int .i64 1))⟩ (.step ⟨some 167, none, .iaddr (.tmp 164) (.tmp 166) 2⟩ (.step ⟨some 168, none, .faddr (.tmp 167) 0⟩ (.step ⟨some 169, none, .load none (.tmp 168)⟩ (.step ⟨some 170, none, .bin .sub (.tmp 162) (.tmp 169)⟩ (.step ⟨some 171, none, .bin .geq (.tmp 170) (.const (.int .i64 2160))⟩ (.step ⟨none, none, .store 1 (.tmp 3) (.tmp 171)⟩ .nil)))))))))))) (.alt ⟨some 164, none, .load none (.tmp 163)⟩ (.alt ⟨some 162, none, .load none (.tmp 161)⟩ (.alt ⟨some 165, none, .load none (.tmp 10)⟩ (.step ⟨some 166, none, .bin .sub (.tmp 165) (.const (.int .i64 1))⟩ (.step ⟨some 167, none, .iaddr (.tmp 164) (.tmp 166) 2⟩ (.step ⟨some 168, none, .faddr (.tmp 167) 0⟩ (.alt ⟨some 169, none, .load none (.tmp 168)⟩ (.step ⟨some 170, none, .bin .sub (.tmp 162) (.tmp 169)⟩ (.step ⟨some 171, none, .bin .geq (.tmp 170) (.const (.int .i64 2160))⟩ (.step ⟨none, none, .store 1 (.tmp 2) (.tmp 160)⟩ (.step ⟨none, none, .store 1 (.tmp 3) (.tmp 171)⟩ .nil)))) (.step ⟨none, none, .store 1 (.tmp 2) (.tmp 160)⟩ (.step ⟨some 169, none, .load none (.tmp 168)⟩ (.step ⟨some 170, none, .bin .sub (.tmp 162) (.tmp 169)⟩ (.step ⟨some 171, none, .bin .geq (.tmp 170) (.const (.int .i64 2160))⟩ (.step ⟨none, none, .store 1 (.tmp 3) (.tmp 171)⟩ .nil))))))))) (.step ⟨none, none, .store 1 (.tmp 2) (.tmp 160)⟩ (.step ⟨some 165, none, .load none (.tmp 10)⟩ (.step ⟨some 166, none, .bin .sub (.tmp 165) (.const (.int .i64 1))⟩ (.step ⟨some 167, none, .iaddr (.tmp 164) (.tmp 166) 2⟩ (.step ⟨some 168, none, .faddr (.tmp 167) 0⟩ (.step ⟨some 169, none, .load none (.tmp 168)⟩ (.step ⟨some 170, none, .bin .sub (.tmp 162) (.tmp 169)⟩ (.step ⟨some 171, none, .bin .geq (.tmp 170) (.const (.int .i64 2160))⟩ (.step ⟨none, none, .store 1 (.tmp 3) (.tmp 171)⟩ .nil)))))))))) (.alt ⟨some 165, none, .load none (.tmp 10)⟩ (.step ⟨some 166, none, .bin .sub (.tmp 165) (.const (.int .i64 1))⟩ (.step ⟨some 167, none, .iaddr (.tmp 164) (.tmp 166) 2⟩ (.step ⟨some 168, none, .faddr (.tmp 167) 0⟩ (.alt ⟨some 162, none, .load none (.tmp 161)⟩ (.alt ⟨some 169, none, .load none (.tmp 168)⟩ (.step ⟨some 170, none, .bin .sub (.tmp 162) (.tmp 169)⟩ (.step ⟨some 171, none, .bin .geq (.tmp 170) (.const (.int .i64 2160))⟩ (.step ⟨none, none, .store 1 (.tmp 2) (.tmp 160)⟩ (.step ⟨none, none, .store 1 (.tmp 3) (.tmp 171)⟩ .nil)))) (.step ⟨none, none, .store 1 (.tmp 2) (.tmp 160)⟩ (.step ⟨some 169, none, .load none (.tmp 168)⟩ (.step ⟨some 170, none, .bin .sub (.tmp 162) (.tmp 169)⟩ (.step ⟨some 171, none, .bin .geq (.tmp 170) (.const (.int .i64 2160))⟩ (.step ⟨none, none, .store 1 (.tmp 3) (.tmp 171)⟩ .nil)))))) (.alt ⟨some 169, none, .load none (.tmp 168)⟩ (.alt ⟨some 162, none, .load none (.tmp 161)⟩ (.step ⟨some 170, none, .bin .sub (.tmp 162) (.tmp 169)⟩ (.step ⟨some 171, none, .bin .geq (.tmp 170) (.const (.int .i64 2160))⟩ (.step ⟨none, none, .store 1 (.tmp 2) (.tmp 160)⟩ (.step ⟨none, none, .store 1 (.tmp 3) (.tmp 171)⟩ .nil)))) (.step ⟨none, none, .store 1 (.tmp 2) (.tmp 160)⟩ (.step ⟨some 162, none, .load none (.tmp 161)⟩ (.step ⟨some 170, none, .bin .sub (.tmp 162) (.tmp 169)⟩ (.step ⟨some 171, none, .bin .geq (.tmp 170) (.const (.int .i64 2160))⟩ (.step ⟨none, none, .store 1 (.tmp 3) (.tmp 171)⟩ .nil)))))) (.step ⟨none, none, .store 1 (.tmp 2) (.tmp 160)⟩ (.step ⟨some 162, none, .load none (.tmp 161)⟩ (.step ⟨some 169, none, .load none (.tmp 168)⟩ (.step ⟨some 170, none, .bin .sub (.tmp 162) (.tmp 169)⟩ (.step ⟨some 171, none, .bin .geq (.tmp 170) (.const (.int .i64 2160))⟩ (.step ⟨none, none, .store 1 (.tmp 3) (.tmp 171)⟩ .nil))))))))))) (.step ⟨none, none, .store 1 (.tmp 2) (.tmp 160)⟩ (.step ⟨some 162, none, .load none (.tmp 161)⟩ (.step ⟨some 165, none, .load none (.tmp 10)⟩ (.step ⟨some 166, none, .bin .sub (.tmp 165) (.const (.int .i64 1))⟩ (.step ⟨some 167, none, .iaddr (.tmp 164) (.tmp 166) 2⟩ (.step ⟨some 168, none, .faddr (.tmp 167) 0⟩ (.step ⟨some 169, none, .load none (.tmp 168)⟩ (.step ⟨some 170, none, .bin .sub (.tmp 162) (.tmp 169)⟩ (.step ⟨some 171, none, .bin .geq (.tmp 170) (.const (.int .i64 2160))⟩ (.step ⟨none, none, .store 1 (.tmp 3) (.tmp 171)⟩ .nil)))))))))))) (.alt ⟨some 165, none, .load none (.tmp 10)⟩ (.step ⟨some 166, none, .bin .sub (.tmp 165) (.const (.int .i64 1))⟩ (.alt ⟨some 162, none, .load none (.tmp 161)⟩ (.alt ⟨some 164, none, .load none (.tmp 163)⟩ (.step ⟨some 167, none, .iaddr (.tmp 164) (.tmp 166) 2⟩ (.step ⟨some 168, none, .faddr (.tmp 167) 0⟩ (.alt ⟨some 169, none, .load none (.tmp 168)⟩ (.step ⟨some 170, none, .bin .sub (.tmp 162) (.tmp 169)⟩ (.step ⟨some 171, none, .bin .geq (.tmp 170) (.const (.int .i64 2160))⟩ (.step ⟨none, none, .store 1 (.tmp 2) (.tmp 160)⟩ (.step ⟨none, none, .store 1 (.tmp 3) (.tmp 171)⟩ .nil)))) (.step ⟨none, none, .store 1 (.tmp 2) (.tmp 160)⟩ (.step ⟨some 169, none, .load none (.tmp 168)⟩ (.step ⟨some 170, none, .bin .sub (.tmp 162) (.tmp 169)⟩ (.step ⟨some 171, none, .bin .geq (.tmp 170) (.const (.int .i64 2160))⟩ (.step ⟨none, none, .store 1 (.tmp 3) (.tmp 171)⟩ .nil)))))))) (.step ⟨none, none, .store 1 (.tmp 2) (.tmp 160)⟩ (.step ⟨some 164, none, .load none (.tmp 163)⟩ (.step ⟨some 167, none, .iaddr (.tmp 164) (.tmp 166) 2⟩ (.step ⟨some 168, none, .faddr (.tmp 167) 0⟩ (.step ⟨some 169, none, .load none (.tmp 168)⟩ (.step ⟨some 170, none, .bin .sub (.tmp 162) (.tmp 169)⟩ (.step ⟨some 171, none, .bin .geq (.tmp 170) (.const (.int .i64 2160))⟩ (.step ⟨none, none, .store 1 (.tmp 3) (.tmp 171)⟩ .nil))))))))) (.alt ⟨some 164, none, .load none (.tmp 163)⟩ (.step ⟨some 167, none, .iaddr (.tmp 164) (.tmp 166) 2⟩ (.step ⟨some 168, none, .faddr (.tmp 167) 0⟩ (.alt ⟨some 162, none, .load none (.tmp 161)⟩ (.alt ⟨some 169, none, .load none (.tmp 168)⟩ (.step ⟨some 170, none, .bin .sub (.tmp 162) (.tmp 169)⟩ (.step ⟨some 171, none, .bin .geq (.tmp 170) (.const (.int .i64 2160))⟩ (.step ⟨none, none, .store 1 (.tmp 2) (.tmp 160)⟩ (.step ⟨none, none, .store 1 (.tmp 3) (.tmp 171)⟩ .nil)))) (.step ⟨none, none, .store 1 (.tmp 2) (.tmp 160)⟩ (.step ⟨some 169, none, .load none (.tmp 168)⟩ (.step ⟨some 170, none, .bin .sub (.tmp 162) (.tmp 169)⟩ (.step ⟨some 171, none, .bin .geq (.tmp 170) (.const (.int .i64 2160))⟩ (.step ⟨none, none, .store 1 (.tmp 3) (.tmp 171)⟩ .nil)))))) (.alt ⟨some 169, none, .load none (.tmp 168)⟩ (.alt ⟨some 162, none, .load none (.tmp 161)⟩ (.step ⟨some 170, none, .bin .sub (.tmp 162) (.tmp 169)⟩ (.step ⟨some 171, none, .bin .geq (.tmp 170) (.const (.int .i64 2160))⟩ (.step ⟨none, none, .store 1 (.tmp 2) (.tmp 160)⟩ (.step ⟨none, none, .store 1 (.tmp 3) (.tmp 171)⟩ .nil)))) (.step ⟨none, none, .store 1 (.tmp 2) (.tmp 160)⟩ (.step ⟨some 162, none, .load none (.tmp 161)⟩ (.step ⟨some 170, none, .bin .sub (.tmp 162) (.tmp 169)⟩ (.step ⟨some 171, none, .bin .geq (.tmp 170) (.const (.int .i64 2160))⟩ (.step ⟨none, none, .store 1 (.tmp 3) (.tmp 171)⟩ .nil)))))) (.step ⟨none, none, .store 1 (.tmp 2) (.tmp 160)⟩ (.step ⟨some 162, none, .load none (.tmp 161)⟩ (.step ⟨some 169, none, .load none (.tmp 168)⟩ (.step ⟨some 170, none, .bin .sub (.tmp 162) (.tmp 169)⟩ (.step ⟨some 171, none, .bin .geq (.tmp 170) (.const (.int .i64 2160))⟩ (.step ⟨none, none, .store 1 (.tmp 3) (.tmp 171)⟩ .nil)))))))))) (.step ⟨none, none, .store 1 (.tmp 2) (.tmp 160)⟩ (.step ⟨some 162, none, .load none (.tmp 161)⟩ (.step ⟨some 164, none, .load none (.tmp 163)⟩ (.step ⟨some 167, none, .iaddr (.tmp 164) (.tmp 166) 2⟩ (.step ⟨some 168, none, .faddr (.tmp 167) 0⟩ (.step ⟨some 169, none, .load none (.tmp 168)⟩ (.step ⟨some 170, none, .bin .sub (.tmp 162) (.tmp 169)⟩ (.step ⟨some 171, none, .bin .geq (.tmp 170) (.const (.int .i64 2160))⟩ (.step ⟨none, none, .store 1 (.tmp 3) (.tmp 171)⟩ .nil)))))))))))) (.step ⟨none, none, .store 1 (.tmp 2) (.tmp 160)⟩ (.step ⟨some 162, none, .load none (.tmp 161)⟩ (.step ⟨some 164, none, .load none (.tmp 163)⟩ (.step ⟨some 165, none, .load none (.tmp 10)⟩ (.step ⟨some 166, none, .bin .sub (.tmp 165) (.const (.int .i64 1))⟩ (.step ⟨some 167, none, .iaddr (.tmp 164) (.tmp 166) 2⟩ (.step ⟨some 168, none, .faddr (.tmp 167) 0⟩ (.step ⟨some 169, none, .load none (.tmp 168)⟩ (.step ⟨some 170, none, .bin .sub (.tmp 162) (.tmp 169)⟩ (.step ⟨some 171, none, .bin .geq (.tmp 170) (.const (.int .i64 2160))⟩ (.step ⟨none, none, .store 1 (.tmp 3) (.tmp 171)⟩ .nil)))))))))))))))))) .ret))
set_option maxRecDepth 100000 in
theorem b72_B : comp Tryz.prog 173 b72B = some v72B := by kernel_rfl
def TailK (n : Zn) (L : List Tr) (ad : Addr) (R9 : RO) (s : St) : Prop := s.blk[1]? = some (.box [.val (.pointer (some ad))]) ∧ s.blk[2]? = some (.box [.val (.bool true)]) ∧ RO.le R9 s.R
theorem nextT_bd {n : Zn} {L : List Tr} (hy : YearsOK n L) (hn : L ≠ []) {t : Int} (ht : -2251799813685248 ≤ t ∧ t ≤ 2251799813685248) (hv : n.cal.valid) : -4503599627370496 ≤ nextT (ckOf n L).ys (ckOf n L).cycle t ∧ nextT (ckOf n L).ys (ckOf n L).cycle t ≤ 4503599627370496 := by
 obtain ⟨r0, r1, he, h0, h1, hp, hF⟩ := hy.resolve_left (fun h => hn h.2)
 have hdb := hv.days_bd
 have hpp := hv.per.2.1
 have hcb := cycD_bd (c := n.cal) (by omega)
 have hb : ∀ x ∈ L, -10000000000 ≤ x.pos ∧ x.pos ≤ 10000000000 := fun x hx => unsT_bd hv h0 h1 x (hp.mem_iff.1 hx)
 have hpos : 0 < L.length := List.length_pos_iff.2 hn
 have hf := hb L[0] (List.getElem_mem _)
 rw [fstP_get hpos] at hf
 show -4503599627370496 ≤ nextT L (if n.yearly = [] then 1 else cycD n.cal) t ∧ nextT L (if n.yearly = [] then 1 else cycD n.cal) t ≤ 4503599627370496
 rw [if_neg (by rw [he]; simp)]
 have hB : 0 ≤ turnsT L (cycD n.cal) t * (cycD n.cal * 1440) ∧ turnsT L (cycD n.cal) t * (cycD n.cal * 1440) ≤ 2251799813685248 + 10000000000 := by
  refine ⟨Int.mul_nonneg (turnsT_pos hcb.1) (by omega), ?_⟩
  rcases Int.le_total (fstP L) t with h | h
  ·have := turnsT_le (L := L) (t := t) hcb.1 h; omega
  ·rw [turnsT_zero h]; simp
 unfold nextT
 split
 ·rename_i x hx
  have := hb x (List.mem_of_find?_eq_some hx)
  omega
 ·rw [Int.add_mul, Int.one_mul]
  omega
set_option maxHeartbeats 4000000 in
theorem open_body (n : Zn) (L : List Tr) (R9 : RO) (ad : Addr) (ta : Option Addr) (tc : Nat) (ma : Option Addr) (mc : Nat) (ra : Option Addr) (rln rc : Nat) (ya : Option Addr) (yc : Nat) (htr : TrV R9 (.slice ta n.trans.length tc) n.trans) (ht0 : n.trans ≠ []) (P o : Int)
  (hP : -4503599627370496 ≤ P ∧ P ≤ 4503599627370496) (htb : ∀ x ∈ n.trans, -2251799813685248 ≤ x.pos ∧ x.pos ≤ 2251799813685248) (hfar : ∀ x, n.trans.getLast? = some x → 2160 ≤ P - x.pos) (env : Nat → SV)
  (e11 : env 11 = .loc 7 0) (e1 : env 1 = .loc 0 0) (e2 : env 2 = .loc 1 0) (e3 : env 3 = .loc 2 0) (e8 : env 8 = .loc 3 0) (e10 : env 10 = .loc 4 0) :
  CodeT ⟨Tryz.prog, 8⟩ v72B ⟨env, [.box [.val (.int .i64 n.cal.epoch), .val (.slice ma n.cal.months.length mc), .val (.int .i64 n.cal.leap), .val (.slice ra rln rc), .val (.int .i64 n.start), .val (.slice ta n.trans.length tc), .val (.int .i64 n.hor), .val (.slice ya n.yearly.length yc)], .box [.val (.pointer none)], .box [.val (.bool false)], .box [.val (.pointer (some ad))], .box [.val (.int .i64 n.trans.length)], .box [.val (.pointer (some ad))], .dead, .box [.val (.int .i64 P), .val (.int .i64 o)]], R9⟩ (fun _ => False) (fun _ _ => False) (TailK n L ad R9) .mk .mk .mk := by
 have hpos : 0 < n.trans.length := List.length_pos_iff.2 ht0
 obtain ⟨at', ct', et, hct, htf⟩ := htr.form
 simp only [Value.slice.injEq, true_and] at et
 obtain ⟨rfl, rfl⟩ := et
 obtain ⟨adp, hadp, hRp⟩ := htf (n.trans.length - 1) (by omega)
 have hll := htr.2
 have hlast := hfar n.trans[n.trans.length - 1] (by rw [List.getLast?_eq_getElem?, List.getElem?_eq_getElem (by omega)])
 have hlb := htb n.trans[n.trans.length - 1] (List.getElem_mem _)
 have hld := hRp 0 (.int .i64 n.trans[n.trans.length - 1].pos) rfl
 rw [Addr.add_zero'] at hld
 obtain ⟨q, hq⟩ : ∃ q, q = n.trans[n.trans.length - 1].pos := ⟨_, rfl⟩
 rw [← hq] at hlast hlb hld
 have hge2 : 2160 ≤ P - q := by omega
 have hidx : ((n.trans.length : Int) - 1).toNat = n.trans.length - 1 := by omega
 unfold v72B
 simp only [go_sem, ↓reduceIte, Qa, Qb, Qc, Qd, Qe, Qf, reduceCtorEq, e11, e1, e2, e3, e8, e10, hidx]
 repeat' (first
  | (with_reducible refine And.intro ?_ ?_)
  | (refine ⟨_, W.in64 (by omega), ?_⟩)
  | (rw [hidx]; refine vat adp hadp ?_; try simp only [go_sem, ↓reduceIte, Qa, Qb, Qc, Qd, Qe, Qf, reduceCtorEq, e11, e1, e2, e3, e8, e10, hidx])
  | (refine vload (.int .i64 q) hld ?_; try simp only [go_sem, ↓reduceIte, Qa, Qb, Qc, Qd, Qe, Qf, reduceCtorEq, e11, e1, e2, e3, e8, e10, hidx])
  | exact ⟨rfl, congrArg some (congrArg (fun b => Blk.box [.val (.bool b)]) (decide_eq_true hge2)), RO.le_refl _⟩
  | omega)
set_option maxHeartbeats 4000000 in
theorem open_tail (n : Zn) (L : List Tr) (R : RO) (ho : ZnOK n L) (hck : CkOK (ckOf n L)) (X : Ctx) (w0 : World) (hX : X = { w0 := w0, R0 := R, B := R, n := 173 }) (Q Q7 : Exit → Act → World → Prop)
  (hQ : Q = bodyPostM (Fr none) 0 Tryz.prog Tryz.f72 (fun e w' => ∃ v R', e = .returned v ∧ RO.le R R' ∧ (∀ a v, R' a v → w'.cell? a = some v ∧ (R a v ∨ (w0.heap.size ≤ a.block ∧ Loose w' a.block))) ∧ Ext w0 w' ∧ PostO n L R' v))
  (hQ7 : Exit.then (fun a' w' => (cR b72R).wpIn (Fr none) 0 Tryz.prog Q a' w') Q = Q7) (R9 : RO) (hle : RO.le R R9) (ad : Addr) (ta : Option Addr) (tc : Nat) (ya2 : Option Addr) (yc2 : Nat) (hCk : CkV R9 ad (ckOf n L) ta tc ya2 yc2) (env : Nat → SV)
  (ma : Option Addr) (mc : Nat) (ra : Option Addr) (rln rc : Nat) (ya : Option Addr) (yc : Nat) (htr : TrV R9 (.slice ta n.trans.length tc) n.trans) (ht0 : n.trans ≠ [])
  (e1 : env 1 = .loc 0 0) (e2 : env 2 = .loc 1 0) (e3 : env 3 = .loc 2 0) (e8 : env 8 = .loc 3 0) (e10 : env 10 = .loc 4 0) (e158 : env 158 = .fn 161 [.l 5 0, .l 6 0]) :
  SemI Tryz.prog none 0 X [] (cR (cL b72C)) ⟨env, [.box [.val (.int .i64 n.cal.epoch), .val (.slice ma n.cal.months.length mc), .val (.int .i64 n.cal.leap), .val (.slice ra rln rc), .val (.int .i64 n.start), .val (.slice ta n.trans.length tc), .val (.int .i64 n.hor), .val (.slice ya n.yearly.length yc)], .box [.val (.pointer none)], .box [.val (.bool false)], .box [.val (.pointer (some ad))], .box [.val (.int .i64 n.trans.length)], .box [.val (.pointer (some ad))], .box [.val (.int .i64 n.hor)]], R9⟩ Q7 := by
 have hXn : X.n = 173 := by rw [hX]
 have hXk : X.keep = [] := by rw [hX]
 rw [b72_rf]
 intro β κ tm w hr
 have hXw : X.w0.heap.size ≤ w.heap.size := hr.below.size
 obtain ⟨_, _, T5, h5⟩ := hr.blk 5 _ rfl
 obtain ⟨_, _, T6, h6⟩ := hr.blk 6 _ rfl
 have hl5 : β 5 < w.heap.size := (Array.getElem?_eq_some_iff.1 h5).1
 have hl6 : β 6 < w.heap.size := (Array.getElem?_eq_some_iff.1 h6).1
 have hne : β 5 ≠ β 6 := fun e => by have := hr.inj 5 6 _ _ rfl rfl rfl rfl e; cases this
 have h158 : (⟨tm, []⟩ : Act).eval (.tmp 158) = .func (.func 161) #[] #[.pointer (some ⟨β 5, 0, none⟩), .pointer (some ⟨β 6, 0, none⟩)] := (hr.eval [] (.tmp 158)).trans (by show den β κ (env 158) = _; rw [e158]; rfl)
 refine wpIn_block (wpIn_rangeFunc ?_)
 intro fnid _
 obtain ⟨rec, hrec⟩ : ∃ rec : LoopState → Option Code → Loop, rec = fun st pe => { state := st, pending := pe, fn := fnid, tmps := tm, params := #[159], assign := b72A, body := b72B, defers := w.heap.size } := ⟨_, rfl⟩
 obtain ⟨W1, hW1⟩ : ∃ W1, (w.alloc (.deferred (some []))).alloc (.loop (rec .ready none)) = W1 := ⟨_, rfl⟩
 have hext : Ext w W1 := by rw [← hW1]; exact (ext_alloc w _).tr (ext_alloc _ _)
 have hs1 : W1.heap.size = w.heap.size + 2 := by rw [← hW1]; simp
 have hL1 : W1.heap[w.heap.size + 1]? = some (.loop (rec .ready none)) := by
  rw [← hW1]; have := World.alloc_heap_new (w.alloc (.deferred (some []))) (.loop (rec .ready none)); rwa [World.size_alloc] at this
 have hD1 : W1.heap[w.heap.size]? = some (.deferred (some [])) := by
  rw [← hW1]; exact ((ext_alloc (w.alloc (.deferred (some []))) (.loop (rec .ready none))).block _ (by simp)).trans (World.alloc_heap_new w _)
 have hr1 := hr.ext hext
 refine ⟨w.heap.size + 1, [{ target := .collected w.heap.size, args := #[] }], W1, { target := .fn (.func 161) #[.pointer (some ⟨β 5, 0, none⟩), .pointer (some ⟨β 6, 0, none⟩)], args := #[.func (.yield (w.heap.size + 1)) #[] #[]] }, W1, 161,
  #[.func (.yield (w.heap.size + 1)) #[] #[]] ++ #[.pointer (some ⟨β 5, 0, none⟩), .pointer (some ⟨β 6, 0, none⟩)], W1, ?_, ?_, fun _ _ => trivial, ?_, fun h => (by cases h), ?_⟩
 ·rw [← hW1, hrec]; exact run_enterLoop_outer _ _ _ _ _
 ·simp only [resolve, h158]
  simp [go_sem]
 ·have eg := enters_of Tryz.func161 (by kernel_rfl) rfl
  simp [invoke, go_sem, eg]
 have hnext : ∀ x, n.trans.getLast? = some x → L ≠ [] → 2160 ≤ nextT (ckOf n L).ys (ckOf n L).cycle n.hor - x.pos := fun x hx hn => by
  obtain ⟨r0, r1, he, _⟩ := ho.years.resolve_left (fun h => hn h.2)
  show 2160 ≤ nextT L (if n.yearly = [] then 1 else cycD n.cal) n.hor - x.pos
  rw [if_neg (by rw [he]; simp)]
  exact ho.next hn x hx
 -- what the iterator is told
 have hlt : ∀ x ∈ (ckOf n L).trans, x.pos < n.hor := fun x hx => (ho.tr x hx).2.2
 have hcy : (ckOf n L).cycle ≤ 1836800 := by
  have hdb := ho.cal.days_bd
  have hpp := ho.cal.per.2.1
  have hcb := cycD_bd (c := n.cal) (by omega)
  show (if n.yearly = [] then (1 : Int) else cycD n.cal) ≤ 1836800
  split <;> omega
 obtain ⟨Rf, hRf⟩ : ∃ Rf : RO, Rf = fun a v => R9 a v ∨ (a = ⟨β 5, 0, none⟩ ∧ v = .pointer (some ad)) := ⟨_, rfl⟩
 have hleF : RO.le R9 Rf := fun a v h => by rw [hRf]; exact .inl h
 have hRF : ∀ a v, Rf a v → W1.cell? a = some v ∧ a.block ≠ β 6 := fun a v h => by
  rw [hRf] at h
  rcases h with h | ⟨rfl, rfl⟩
  ·obtain ⟨g1, _, g3⟩ := hr.ro a v h
   exact ⟨by rw [hext.cell (block_lt_of_cell g1)]; exact g1, g3 6 _ rfl rfl⟩
  ·exact ⟨by rw [hext.cell (p := ⟨β 5, 0, none⟩) hl5]; exact hr.boxCell (j := 5) (o := 0) rfl rfl, hne⟩
 have hB1 : W1.heap[β 6]? = some (.cells #[.int .i64 n.hor] T6 (0, 0)) := (hext.block _ hl6).trans h6
 obtain ⟨Jx, hJx⟩ : ∃ Jx : World → Prop, Jx = fun W' => W'.heap[w.heap.size + 1]? = some (.loop (rec .done (some .ret))) ∧ W'.heap[w.heap.size]? = some (.deferred (some [])) ∧
   ∃ β' κ' s' tm', Rel X β' κ' s' tm' W' ∧ 7 ≤ s'.blk.length ∧ (∀ i, i < 7 → β' i = β i ∧ κ' i = κ i) ∧ TailK n L ad R9 s' := ⟨_, rfl⟩
 refine CallsIn.mono (zFrom1 (ckOf n L) hck ad ta tc ya2 yc2 Rf (hCk.mono hleF) n.hor rfl hlt hcy (β 5) (β 6) T6 (by rw [hRf]; exact .inr ⟨rfl, rfl⟩) W1 hRF hB1 (0 - 1) (w.heap.size + 1) Jx ?_) ?_
 ·intro hyn W2 o hk2
  change L ≠ [] at hyn
  have hL2 : W2.heap[w.heap.size + 1]? = some (.loop (rec .ready none)) := (hk2.block _ (by omega) (by omega)).trans hL1
  have hD2 : W2.heap[w.heap.size]? = some (.deferred (some [])) := (hk2.block _ (by omega) (by omega)).trans hD1
  have hg2 : Grown W1 W2 (some (β 6)) := ⟨hk2.os, hk2.tape, hk2.output, hk2.size, fun k hk hne => hk2.block k hk (fun e => hne (by rw [e])), hk2.drawn⟩
  have hr2 := hr1.modify (j := 6) rfl rfl hg2 .dead (by simp) (by simp) trivial
  have hr3 := hr2.put (some 159) (fun t e => by cases e; rw [hXn]; decide) (.val (.agg #[.int .i64 (nextT (ckOf n L).ys (ckOf n L).cycle n.hor), .int .i64 o])) rfl
  refine ⟨fnid, _, b72A, b72B, run_yield hL2 (by rw [hrec]; rfl) |>.trans (by rw [hrec]), ?_⟩
  have hfold : ((rec .ready none).params.zip #[Value.agg #[.int .i64 (nextT (ckOf n L).ys (ckOf n L).cycle n.hor), .int .i64 o]]).foldl (fun tmps (t, a) => tmps.setIfInBounds t a) (rec .ready none).tmps = tm.setIfInBounds 159 (.agg #[.int .i64 (nextT (ckOf n L).ys (ckOf n L).cycle n.hor), .int .i64 o]) := by
   rw [hrec]; simp
  rw [hrec] at hfold
  rw [hfold]
  obtain ⟨P, hP⟩ : ∃ P, P = nextT (ckOf n L).ys (ckOf n L).cycle n.hor := ⟨_, rfl⟩
  rw [← hP] at hr3 ⊢
  refine roundIn_of_wpIn trivial ?_
  -- the loop's variable
  have hv3 : CodeT ⟨Tryz.prog, 7⟩ v72A (St.put ⟨env, [.box [.val (.int .i64 n.cal.epoch), .val (.slice ma n.cal.months.length mc), .val (.int .i64 n.cal.leap), .val (.slice ra rln rc), .val (.int .i64 n.start), .val (.slice ta n.trans.length tc), .val (.int .i64 n.hor), .val (.slice ya n.yearly.length yc)], .box [.val (.pointer none)], .box [.val (.bool false)], .box [.val (.pointer (some ad))], .box [.val (.int .i64 n.trans.length)], .box [.val (.pointer (some ad))], .dead], R9⟩ (some 159) (.val (.agg #[.int .i64 P, .int .i64 o])))
    (fun s' => ∃ env', s' = ⟨env', [.box [.val (.int .i64 n.cal.epoch), .val (.slice ma n.cal.months.length mc), .val (.int .i64 n.cal.leap), .val (.slice ra rln rc), .val (.int .i64 n.start), .val (.slice ta n.trans.length tc), .val (.int .i64 n.hor), .val (.slice ya n.yearly.length yc)], .box [.val (.pointer none)], .box [.val (.bool false)], .box [.val (.pointer (some ad))], .box [.val (.int .i64 n.trans.length)], .box [.val (.pointer (some ad))], .dead, .box [.val (.int .i64 P), .val (.int .i64 o)]], R9⟩ ∧ env' 11 = .loc 7 0 ∧ env' 1 = .loc 0 0 ∧ env' 2 = .loc 1 0 ∧ env' 3 = .loc 2 0 ∧ env' 8 = .loc 3 0 ∧ env' 10 = .loc 4 0) (fun _ _ => False) (fun _ => False) .mk .mk .mk := by
   simp only [v72A]
   simp only [go_sem, ↓reduceIte, Qa, Qb, Qc, Qd, Qe, Qf, reduceCtorEq, St.put, e1, e2, e3, e8, e10]
   refine ⟨_, rfl, ?_, ?_, ?_, ?_, ?_, ?_⟩ <;> simp only [go_sem, ↓reduceIte, Qa, Qb, Qc, Qd, Qe, Qf, reduceCtorEq, e1, e2, e3, e8, e10]
  have hsh3 := hr3.sharp (by rfl)
  refine wpIn_mono (code_sound (fr := some (w.heap.size + 1)) (fn := 0 - 1 - 1) (ds := []) mix b72A _ v72A rfl (by exact hXn ▸ b72_A) β κ _ _ W2 _ _ _ hsh3 hv3) ?_
  intro e a3 W3 hq
  cases e with
  | normal =>
   obtain ⟨β3, κ3, s3, tm3, rfl, hrel3, env', rfl, f11, f1, f2, f3, f8, f10⟩ := hq
   have hL3 : W3.heap[w.heap.size + 1]? = some (.loop (rec .ready none)) := (hrel3.below.block _ (Array.getElem?_eq_some_iff.1 hL2).1 (hr3.notG hL2 rfl rfl)).trans hL2
   have hD3 : W3.heap[w.heap.size]? = some (.deferred (some [])) := (hrel3.below.block _ (Array.getElem?_eq_some_iff.1 hD2).1 (hr3.notG hD2 rfl rfl)).trans hD2
   have hb3 := hr3.back hXk hrel3
   have hpos3 := hrel3.pos
   refine ⟨_, run_beginRound hL3 (by rw [hrec]), ?_⟩
   have hr4 := hb3.still (still_put (.loop { rec .ready none with state := .busy }) (by omega) hL3 rfl rfl)
   have hL4 : (W3.putObj (w.heap.size + 1) (.loop { rec .ready none with state := .busy })).heap[w.heap.size + 1]? = some (.loop { rec .ready none with state := .busy }) := World.putObj_heap_same (Array.getElem?_eq_some_iff.1 hL3).1
   have hD4 : (W3.putObj (w.heap.size + 1) (.loop { rec .ready none with state := .busy })).heap[w.heap.size]? = some (.deferred (some [])) := (World.putObj_heap_other (by omega)).trans hD3
   generalize W3.putObj (w.heap.size + 1) (.loop { rec .ready none with state := .busy }) = W4 at hr4 hL4 hD4 ⊢
   have hPb := nextT_bd ho.years hyn (t := n.hor) ho.hor ho.cal
   have hlen3 : 8 ≤ [Blk.box [.val (.int .i64 n.cal.epoch), .val (.slice ma n.cal.months.length mc), .val (.int .i64 n.cal.leap), .val (.slice ra rln rc), .val (.int .i64 n.start), .val (.slice ta n.trans.length tc), .val (.int .i64 n.hor), .val (.slice ya n.yearly.length yc)], .box [.val (.pointer none)], .box [.val (.bool false)], .box [.val (.pointer (some ad))], .box [.val (.int .i64 n.trans.length)], .box [.val (.pointer (some ad))], .dead, .box [.val (.int .i64 P), .val (.int .i64 o)]].length := by simp
   have hvB := open_body n L R9 ad ta tc ma mc ra rln rc ya yc htr ht0 P o (by rw [hP]; exact hPb) (fun x hx => (ho.tr x hx).2.1) (fun x hx => by rw [hP]; exact hnext x hx hyn) env' f11 f1 f2 f3 f8 f10
   have hsh4 := hr4.sharp (by rfl)
   refine wpIn_mono (code_sound (fr := some (w.heap.size + 1)) (fn := 0 - 1 - 1) (ds := []) mix b72B _ v72B rfl (by exact hXn ▸ b72_B) β3 κ3 _ _ W4 _ _ _ hsh4 hvB) ?_
   intro e a5 W5 hq
   cases e with
   | ret =>
    obtain ⟨β5, κ5, s5, tm5, rfl, hrel5, hK⟩ := hq
    have hL5 : W5.heap[w.heap.size + 1]? = some (.loop { rec .ready none with state := .busy }) := (hrel5.below.block _ (Array.getElem?_eq_some_iff.1 hL4).1 (hr4.notG hL4 rfl rfl)).trans hL4
    have hD5 : W5.heap[w.heap.size]? = some (.deferred (some [])) := (hrel5.below.block _ (Array.getElem?_eq_some_iff.1 hD4).1 (hr4.notG hD4 rfl rfl)).trans hD4
    have hb5 := hr4.back hXk hrel5
    have hpos5 := hrel5.pos
    have hlen5 := hrel5.len
    refine ⟨_, _, run_endRound (some .ret) hL5, rfl, ?_⟩
    rw [hJx]
    refine ⟨?_, (World.putObj_heap_other (by omega)).trans hD5, β5, κ5, s5, tm5, hb5.still (still_put _ (by omega) hL5 rfl rfl), ?_, fun i hi => ?_, hK⟩
    ·rw [World.putObj_heap_same (Array.getElem?_eq_some_iff.1 hL5).1, hrec]
     rfl
    ·exact Nat.le_trans (by decide) (Nat.le_trans hlen3 hlen5)
    ·obtain ⟨g1, g2⟩ := hpos3 i hi
     obtain ⟨g3, g4⟩ := hpos5 i (Nat.lt_of_lt_of_le (Nat.lt_trans hi (by decide)) hlen3)
     exact ⟨g3.trans g1, g4.trans g2⟩
   | normal => obtain ⟨_, _, _, _, _, _, hf⟩ := hq; exact hf.elim
   | exit i => obtain ⟨_, _, _, _, _, _, hf⟩ := hq; exact hf.elim
   | _ => exact hq.elim
  | exit i => obtain ⟨_, _, _, _, _, _, hf⟩ := hq; exact hf.elim
  | ret => obtain ⟨_, _, _, _, _, _, hf⟩ := hq; exact hf.elim
  | _ => exact hq.elim
 ·rintro e W' ⟨⟨v, rfl⟩, hA | hJ⟩
  ·obtain ⟨hy0, hk2⟩ := hA
   have hL2 : W'.heap[w.heap.size + 1]? = some (.loop (rec .ready none)) := (hk2.block _ (by omega) (by omega)).trans hL1
   have hD2 : W'.heap[w.heap.size]? = some (.deferred (some [])) := (hk2.block _ (by omega) (by omega)).trans hD1
   have hg2 : Grown W1 W' (some (β 6)) := ⟨hk2.os, hk2.tape, hk2.output, hk2.size, fun k hk hne => hk2.block k hk (fun e => hne (by rw [e])), hk2.drawn⟩
   have hr2 := hr1.modify (j := 6) rfl rfl hg2 .dead (by simp) (by simp) trivial
   refine ⟨_, _, run_endLoop hL2 (by rw [hrec]; simp), ?_⟩
   have hr4 := hr2.still (still_put (.loop { rec .ready none with state := .exhausted }) (by omega) hL2 rfl rfl)
   have hD4 : (W'.putObj (w.heap.size + 1) (.loop { rec .ready none with state := .exhausted })).heap[w.heap.size]? = some (.deferred (some [])) := (World.putObj_heap_other (by omega)).trans hD2
   generalize W'.putObj (w.heap.size + 1) (.loop { rec .ready none with state := .exhausted }) = W4 at hr4 hD4 ⊢
   rw [show (rec .ready none).pending = none by rw [hrec]]
   show Q7 .normal _ W4
   rw [← hQ7]
   show (cR b72R).wpIn (Fr none) 0 Tryz.prog Q ⟨tm, [{ target := .collected w.heap.size, args := #[] }]⟩ W4
   have hv8 : CodeT ⟨Tryz.prog, 7⟩ (vR v72R) ⟨env, [.box [.val (.int .i64 n.cal.epoch), .val (.slice ma n.cal.months.length mc), .val (.int .i64 n.cal.leap), .val (.slice ra rln rc), .val (.int .i64 n.start), .val (.slice ta n.trans.length tc), .val (.int .i64 n.hor), .val (.slice ya n.yearly.length yc)], .box [.val (.pointer none)], .box [.val (.bool false)], .box [.val (.pointer (some ad))], .box [.val (.int .i64 n.trans.length)], .box [.val (.pointer (some ad))], .dead], R9⟩ (fun _ => False) (fun _ _ => False) (fun s' => (s'.env 2 = .loc 1 0 ∧ s'.env 3 = .loc 2 0) ∧ TailK n L ad R9 s') .mk .mk .mk := by
    unfold v72R
    simp only [go_sem, ↓reduceIte, Qa, Qb, Qc, Qd, Qe, Qf, reduceCtorEq, vR, vc72, e1, e2, e3, e8, e10]
    exact ⟨rfl, rfl, RO.le_refl _⟩
   have hsh4 := hr4.sharp (by rfl)
   refine wpIn_mono (code_sound (fr := none) (fn := 0) (ds := [{ target := .collected w.heap.size, args := #[] }]) mix (cR b72R) _ (vR v72R) rfl (by exact hXn ▸ b72_8) β κ _ _ W4 _ _ _ hsh4 hv8) ?_
   intro e a5 W5 hq
   cases e with
   | ret =>
    obtain ⟨β5, κ5, s5, tm5, rfl, hrel5, ⟨q2, q3⟩, hK1, hK2, hK3⟩ := hq
    have hD5 : W5.heap[w.heap.size]? = some (.deferred (some [])) := (hrel5.below.block _ (Array.getElem?_eq_some_iff.1 hD4).1 (hr4.notG hD4 rfl rfl)).trans hD4
    have hb5 := hr4.back hXk hrel5
    rw [hQ]
    refine ⟨by simp, .inl ⟨_, _, rfl, run_takeDeferred hD5, ?_⟩⟩
    have hr5 := hb5.still (still_put (.deferred none) (by omega) hD5 rfl rfl)
    refine ret_fin (rs := rs72) (Post := PostO n L) hX (by kernel_rfl) hr5 ?_
    show RetT rs72 _ (fun vs s' => PostO n L s'.R (resVal vs)) .mk
    obtain ⟨env5, blk5, R5⟩ := s5
    dsimp only at q2 q3 hK1 hK2 hK3
    simp only [go_sem, ↓reduceIte, Qa, Qb, Qc, Qd, Qe, Qf, reduceCtorEq, rs72, q2, q3, hK1, hK2]
    exact ⟨ad, ta, tc, ya2, yc2, rfl, hCk.mono hK3⟩
   | normal => obtain ⟨_, _, _, _, _, _, hf⟩ := hq; exact hf.elim
   | exit i => obtain ⟨_, _, _, _, _, _, hf⟩ := hq; exact hf.elim
   | _ => exact hq.elim
  ·rw [hJx] at hJ
   obtain ⟨hL3, hD3, β', κ', s', tm', hrel, hlen, hpos, hK1, hK2, hK3⟩ := hJ
   refine ⟨_, _, run_endLoop hL3 (by rw [hrec]; simp), ?_⟩
   have hr4 := hrel.still (still_put (.loop { rec .done (some .ret) with state := .exhausted }) (by omega) hL3 rfl rfl)
   have hD4 : (W'.putObj (w.heap.size + 1) (.loop { rec .done (some .ret) with state := .exhausted })).heap[w.heap.size]? = some (.deferred (some [])) := (World.putObj_heap_other (by omega)).trans hD3
   generalize W'.putObj (w.heap.size + 1) (.loop { rec .done (some .ret) with state := .exhausted }) = W4 at hr4 hD4 ⊢
   rw [show (rec .done (some .ret)).pending = some .ret by rw [hrec]]
   show (Code.ret).wpIn (Fr none) 0 Tryz.prog _ _ W4
   refine wpIn_ret ?_
   show Q7 .ret _ W4
   rw [← hQ7]
   show Q .ret ⟨tm, [{ target := .collected w.heap.size, args := #[] }]⟩ W4
   rw [hQ]
   refine ⟨by simp, .inl ⟨_, _, rfl, run_takeDeferred hD4, ?_⟩⟩
   have hr5 := hr4.still (still_put (.deferred none) (by omega) hD4 rfl rfl)
   have hr6 := hr.slots hr5 hlen hpos
   refine ret_fin (rs := rs72) (Post := PostO n L) hX (by kernel_rfl) hr6 ?_
   show RetT rs72 _ (fun vs s' => PostO n L s'.R (resVal vs)) .mk
   simp only [go_sem, ↓reduceIte, Qa, Qb, Qc, Qd, Qe, Qf, reduceCtorEq, rs72, e1, e2, e3, hK1, hK2]
   exact ⟨ad, ta, tc, ya2, yc2, rfl, hCk.mono hK3⟩
end Go.Proofs.YtdgndfabdmecmaaGreat
namespace Go.Proofs.YtdgndfabdmecmaaGreat
open Go.Proofs.YtdgndfabdmecmaaGreat.Vc Go.RowKit
set_option maxHeartbeats 4000000 in
theorem zOpen (z : Zv) (n : Zn) (L : List Tr) (R0 : RO) (h : ZnIn R0 z n) (ho : ZnOK n L) : OpenC R0 z (ckOf n L) := by
 intro R hleR
 replace h := h.mono hleR
 clear hleR
 have hyl := h.yearly.slen
 have htl := h.trans.slen
 have hep := h.ep
 have hlp := h.leap
 have hyr := h.yearly
 have hcal := h.cal
 have htr := h.trans
 have hst := h.start
 have hho := h.hor
 have hVal := fun R' (hle : RO.le R R') => cValid n.cal _ _ R' (h.cal.mono hle)
 have hTick := fun R' (hle : RO.le R R') => zTick z n R' (h.mono hle) ho.cal L ho.years
 have hck := ho.ck
 obtain ⟨ep, ma, mn, mc, lp, ra, rln, rc, st, ta, tn, tc, hz, ya, yn, yc⟩ := z
 dsimp only at hyl hep hlp hyr hVal htr htl hst hho hcal hTick
 subst hep hlp hst hho htl hyl
 simp only [Zv.cells, cv] at hVal hTick ⊢
 have hstb := ho.start
 have hhob := ho.hor
 have htlb := ho.tlen
 rw [decide_eq_true ho.cal] at hVal
 obtain ⟨am, cm, em, _, _⟩ := hcal.m.form
 simp only [Value.slice.injEq] at em
 obtain ⟨rfl, rfl, rfl⟩ := em
 refine (show CallsR Tryz.prog 72 _ R (PostO n L) from ?_)
 intro w0 hRw
 refine (callsIn_wide (n := 0)).1 (callsIn_of_wp_marks (F := Fr none) (c := b72) Tryz.func72 rfl trivial ?_ rfl)
 obtain ⟨Q, hQ⟩ : ∃ Q, Q = bodyPostM (Fr none) 0 Tryz.prog Tryz.f72 (fun e w' => ∃ v R', e = .returned v ∧ RO.le R R' ∧ (∀ a v, R' a v → w'.cell? a = some v ∧ (R a v ∨ (w0.heap.size ≤ a.block ∧ Loose w' a.block))) ∧ Ext w0 w' ∧ PostO n L R' v) := ⟨_, rfl⟩
 rw [← hQ]
 have hstR := rel_startR (n := 173) (args := [.agg #[.int .i64 n.cal.epoch, .slice ma n.cal.months.length mc, .int .i64 n.cal.leap, .slice ra rln rc, .int .i64 n.start, .slice ta n.trans.length tc, .int .i64 n.hor, .slice ya n.yearly.length yc]]) (by simp) hRw
 obtain ⟨X, hX⟩ : ∃ X : Ctx, X = { w0 := w0, R0 := R, B := R, n := 173 } := ⟨_, rfl⟩
 rw [← hX] at hstR
 have hXn : X.n = 173 := by rw [hX]
 have hXk : X.keep = [] := by rw [hX]
 have hXg : X.ng = 0 := by rw [hX]
 suffices hS : SemI Tryz.prog none 0 X [] b72 ⟨envOf [.agg #[.int .i64 n.cal.epoch, .slice ma n.cal.months.length mc, .int .i64 n.cal.leap, .slice ra rln rc, .int .i64 n.start, .slice ta n.trans.length tc, .int .i64 n.hor, .slice ya n.yearly.length yc]], [], R⟩ Q by
  exact hS _ _ _ _ hstR
 show SemI Tryz.prog none 0 X [] (.seq (cL b72) (.seq (cL (cR b72)) (.seq (cL (cR (cR b72))) (.seq (cL (cR (cR (cR b72)))) (.seq (cL (cR (cR (cR (cR b72))))) (.seq (cL (cR (cR (cR (cR (cR b72)))))) (.seq (cL (cR (cR (cR (cR (cR (cR b72))))))) b72R))))))) _ Q
 refine sem_seq mix hXk (by rw [hXn]; exact b72_0) ?_
 rw [hXg]
 simp only [go_sem, ↓reduceIte, Qa, Qb, Qc, Qd, Qe, Qf, reduceCtorEq, vL, vR, vc72]
 refine sem_seq mix hXk (by rw [hXn]; exact b72_1) ?_
 rw [hXg]
 simp only [go_sem, ↓reduceIte, Qa, Qb, Qc, Qd, Qe, Qf, reduceCtorEq, vL, vR, vc72]
 have hnl : ¬ ((512 : Int) < n.trans.length) := by omega
 try simp only [go_sem, ↓reduceIte, Qa, Qb, Qc, Qd, Qe, Qf, reduceCtorEq, hnl]
 refine vcall (hVal R (RO.le_refl R)) ?_
 rintro R1 r hle1 rfl
 try simp only [go_sem, ↓reduceIte, Qa, Qb, Qc, Qd, Qe, Qf, reduceCtorEq, hnl]
 refine vcall (zWithin n.start 1080 R1 (by omega)) ?_
 rintro R2 r hle2 rfl
 rw [decide_eq_true (by omega : -1080 ≤ n.start ∧ n.start ≤ 1080)]
 try simp only [go_sem, ↓reduceIte, Qa, Qb, Qc, Qd, Qe, Qf, reduceCtorEq, hnl]
 refine vcall (zWithin n.hor 2251799813685248 R2 (by omega)) ?_
 rintro R3 r hle3 rfl
 rw [decide_eq_true (by omega : -2251799813685248 ≤ n.hor ∧ n.hor ≤ 2251799813685248)]
 try simp only [go_sem, ↓reduceIte, Qa, Qb, Qc, Qd, Qe, Qf, reduceCtorEq, hnl]
 refine sem_seq mix hXk (by rw [hXn]; exact b72_2) ?_
 rw [hXg]
 simp only [go_sem, ↓reduceIte, Qa, Qb, Qc, Qd, Qe, Qf, reduceCtorEq, vL, vR, vc72]
 have hle03 : RO.le R R3 := RO.le_trans hle1 (RO.le_trans hle2 hle3)
 obtain ⟨at', ct', et, _, htf⟩ := htr.form
 simp only [Value.slice.injEq, true_and] at et
 obtain ⟨rfl, rfl⟩ := et
 obtain ⟨ay', cy', ey, _, hyf⟩ := hyr.form
 simp only [Value.slice.injEq, true_and] at ey
 obtain ⟨rfl, rfl⟩ := ey
 refine vcLoop Nat (fun i => [(37, .val (.int .i64 i)), (35, .val (.slice ta n.trans.length tc)), (36, .val (.int .i64 n.trans.length)), (1, .loc 0 0), (2, .loc 1 0), (3, .loc 2 0)])
  (fun _ => [.box [.val (.int .i64 n.cal.epoch), .val (.slice ma n.cal.months.length mc), .val (.int .i64 n.cal.leap), .val (.slice ra rln rc), .val (.int .i64 n.start), .val (.slice ta n.trans.length tc), .val (.int .i64 n.hor), .val (.slice ya n.yearly.length yc)], .box [.val (.pointer none)], .box [.val (.bool false)]]) (fun i _ => i ≤ n.trans.length) (fun i => n.trans.length - i) 0 ?_ ?_ ?_ ?_
 ·(try simp only [go_sem, ↓reduceIte, Qa, Qb, Qc, Qd, Qe, Qf, reduceCtorEq]) <;> (repeat' (first | rfl | trivial | constructor | (intro h; exact absurd rfl h)))
 ·rfl
 ·exact Nat.zero_le _
 rintro i env R4 hle4 hE hi
 (simp only [go_sem] at hE; obtain ⟨e37, e35, e36, e1, e2, e3⟩ := hE; simp only [go_sem, ↓reduceIte, Qa, Qb, Qc, Qd, Qe, Qf, reduceCtorEq, e37, e35, e36, e1, e2, e3]; dsimp only at *)
 have hle04 : RO.le R R4 := RO.le_trans hle03 hle4
 refine ⟨fun hi1 => ?_, fun hi1 => ?_⟩
 ·have hi' : i < n.trans.length := by omega
  obtain ⟨adx, had, hRx⟩ := htf i hi'
  obtain ⟨hx1, hx2, hx3⟩ := ho.tr n.trans[i] (List.getElem_mem _)
  refine ⟨by omega, vat adx had ?_⟩
  try simp only [go_sem, ↓reduceIte, Qa, Qb, Qc, Qd, Qe, Qf, reduceCtorEq]
  refine vloadn n.trans[i].cells rfl (fun j u hj => hle04 _ _ (hRx j u hj)) ?_
  simp only [go_sem, ↓reduceIte, Qa, Qb, Qc, Qd, Qe, Qf, reduceCtorEq, Tr.cells, e37, e35, e36, e1, e2, e3]
  refine vcall (zWithin n.trans[i].off 1080 R4 (by omega)) ?_
  rintro R5 r hle5 rfl
  rw [decide_eq_true hx1]
  try simp only [go_sem, ↓reduceIte, Qa, Qb, Qc, Qd, Qe, Qf, reduceCtorEq, e37, e35, e36, e1, e2, e3]
  refine vcall (zWithin n.trans[i].pos 2251799813685248 R5 (by omega)) ?_
  rintro R6 r hle6 rfl
  rw [decide_eq_true hx2]
  try simp only [go_sem, ↓reduceIte, Qa, Qb, Qc, Qd, Qe, Qf, reduceCtorEq, e37, e35, e36, e1, e2, e3, show ¬ (n.hor ≤ n.trans[i].pos) by omega]
  by_cases h0 : i = 0
  ·subst h0
   try simp only [go_sem, ↓reduceIte, Qa, Qb, Qc, Qd, Qe, Qf, reduceCtorEq, e37, e35, e36, e1, e2, e3]
   refine ⟨fun h => absurd h (by omega), fun _ => ⟨_, W.in64 (by omega), 1, by omega, by norm_cast, by omega⟩⟩
  ·have hgt : ((0 : Int) < i) := by omega
   have hgap := ho.gap (i - 1) (by omega)
   simp only [Nat.sub_add_cancel (by omega : 1 ≤ i)] at hgap
   obtain ⟨hy1, hy2, hy3⟩ := ho.tr n.trans[i - 1] (List.getElem_mem _)
   try simp only [go_sem, ↓reduceIte, Qa, Qb, Qc, Qd, Qe, Qf, reduceCtorEq, e37, e35, e36, e1, e2, e3, hgt]
   obtain ⟨adp, hadp, hRp⟩ := htf (i - 1) (by omega)
   refine ⟨_, W.in64 (by omega), by omega, by omega, ?_⟩
   rw [show ((i : Int) - 1).toNat = i - 1 by omega]
   refine vat adp hadp ?_
   try simp only [go_sem, ↓reduceIte, Qa, Qb, Qc, Qd, Qe, Qf, reduceCtorEq]
   refine vload (.int .i64 n.trans[i - 1].pos) (by have := hle6 _ _ (hle5 _ _ (hle04 _ _ (hRp 0 _ rfl))); rwa [Addr.add_zero'] at this) ?_
   try simp only [go_sem, ↓reduceIte, Qa, Qb, Qc, Qd, Qe, Qf, reduceCtorEq, e37, e35, e36, e1, e2, e3, hgt]
   refine ⟨_, W.in64 (by omega), ?_⟩
   try simp only [go_sem, ↓reduceIte, Qa, Qb, Qc, Qd, Qe, Qf, reduceCtorEq, show ¬ (n.trans[i].pos - n.trans[i - 1].pos < 2160) by omega]
   exact ⟨_, W.in64 (by omega), i + 1, by omega, by norm_cast, by omega⟩
 have hyl02 : n.yearly.length = 0 ∨ n.yearly.length = 2 := by
  rcases ho.years with ⟨e, _⟩ | ⟨r0, r1, e, _⟩
  ·left; rw [e]; rfl
  ·right; rw [e]; rfl
 have hyall : ∀ r ∈ n.yearly, YrOK n.cal r := fun r hm => by
  rcases ho.years with ⟨e, _⟩ | ⟨r0, r1, e, k0, k1, _⟩
  ·rw [e] at hm; simp at hm
  ·rw [e] at hm
   simp only [List.mem_cons, List.not_mem_nil, or_false] at hm
   rcases hm with hm | hm
   ·rw [hm]; exact k0
   ·rw [hm]; exact k1
 refine sem_seq mix hXk (by rw [hXn]; exact b72_3) ?_
 rw [hXg]
 refine cutT (fun s' => ∃ env, s' = ⟨env, [.box [.val (.int .i64 n.cal.epoch), .val (.slice ma n.cal.months.length mc), .val (.int .i64 n.cal.leap), .val (.slice ra rln rc), .val (.int .i64 n.start), .val (.slice ta n.trans.length tc), .val (.int .i64 n.hor), .val (.slice ya n.yearly.length yc)], .box [.val (.pointer none)], .box [.val (.bool false)]], R4⟩ ∧ env 1 = .loc 0 0 ∧ env 2 = .loc 1 0 ∧ env 3 = .loc 2 0) ?_ ?_
 ·rcases hyl02 with hyy | hyy
  ·have hyi : ((n.yearly.length : Nat) : Int) = 0 := by omega
   simp only [go_sem, ↓reduceIte, Qa, Qb, Qc, Qd, Qe, Qf, reduceCtorEq, vL, vR, vc72, e37, e35, e36, e1, e2, e3, hyi]
   refine ⟨_, rfl, ?_, ?_, ?_⟩ <;> simp only [go_sem, ↓reduceIte, Qa, Qb, Qc, Qd, Qe, Qf, reduceCtorEq, e1, e2, e3]
  ·have hyi : ((n.yearly.length : Nat) : Int) = 2 := by omega
   simp only [go_sem, ↓reduceIte, Qa, Qb, Qc, Qd, Qe, Qf, reduceCtorEq, vL, vR, vc72, e37, e35, e36, e1, e2, e3, hyi]
   try simp only [go_sem, ↓reduceIte, Qa, Qb, Qc, Qd, Qe, Qf, reduceCtorEq, Ja, Jb, Jc, Jd, Je, Jf]
   refine ⟨_, rfl, ?_, ?_, ?_⟩ <;> simp only [go_sem, ↓reduceIte, Qa, Qb, Qc, Qd, Qe, Qf, reduceCtorEq, e1, e2, e3]
 rintro s' ⟨env', rfl, f1, f2, f3⟩
 refine sem_seq mix hXk (by rw [hXn]; exact b72_4) ?_
 rw [hXg]
 simp only [go_sem, ↓reduceIte, Qa, Qb, Qc, Qd, Qe, Qf, reduceCtorEq, vL, vR, vc72, f1, f2, f3]
 refine vcLoop Nat (fun i => [(90, .val (.int .i64 i)), (88, .val (.slice ya n.yearly.length yc)), (89, .val (.int .i64 n.yearly.length)), (1, .loc 0 0), (2, .loc 1 0), (3, .loc 2 0)])
  (fun _ => [.box [.val (.int .i64 n.cal.epoch), .val (.slice ma n.cal.months.length mc), .val (.int .i64 n.cal.leap), .val (.slice ra rln rc), .val (.int .i64 n.start), .val (.slice ta n.trans.length tc), .val (.int .i64 n.hor), .val (.slice ya n.yearly.length yc)], .box [.val (.pointer none)], .box [.val (.bool false)]]) (fun i _ => i ≤ n.yearly.length) (fun i => n.yearly.length - i) 0 ?_ ?_ ?_ ?_
 ·try simp only [go_sem, ↓reduceIte, Qa, Qb, Qc, Qd, Qe, Qf, reduceCtorEq, f1, f2, f3]
  first | trivial | rfl
 ·rfl
 ·exact Nat.zero_le _
 rintro q env2 R7 hle7 hE hq
 (simp only [go_sem] at hE; obtain ⟨e90, e88, e89, g1, g2, g3⟩ := hE; simp only [go_sem, ↓reduceIte, Qa, Qb, Qc, Qd, Qe, Qf, reduceCtorEq, e90, e88, e89, g1, g2, g3]; dsimp only at *)
 have hle07 : RO.le R R7 := RO.le_trans hle04 hle7
 refine ⟨fun hq1 => ?_, fun hq1 => ?_⟩
 ·have hq' : q < n.yearly.length := by omega
  obtain ⟨adx, had, hRx⟩ := hyf q hq'
  have hOK := hyall n.yearly[q] (List.getElem_mem _)
  obtain ⟨r, hr⟩ : ∃ r, r = n.yearly[q] := ⟨_, rfl⟩
  rw [← hr] at hOK hRx
  obtain ⟨k1, k2, k3, k4, k5⟩ := hOK
  refine ⟨by omega, vat adx had ?_⟩
  try simp only [go_sem, ↓reduceIte, Qa, Qb, Qc, Qd, Qe, Qf, reduceCtorEq]
  refine vloadn r.cells rfl (fun j u hj => hle07 _ _ (hRx j u hj)) ?_
  simp only [go_sem, ↓reduceIte, Qa, Qb, Qc, Qd, Qe, Qf, reduceCtorEq, Yr.cells, e90, e88, e89, g1, g2, g3]
  refine vcall (zWithin r.off 1080 R7 (by omega)) ?_
  rintro R8 rr hle8 rfl
  rw [decide_eq_true k5]
  try simp only [go_sem, ↓reduceIte, Qa, Qb, Qc, Qd, Qe, Qf, reduceCtorEq, e90, e88, e89, g1, g2, g3, show ¬ r.month < 1 by omega, show ¬ ((n.cal.months.length : Int) < r.month) by omega, show ¬ r.week < 1 by omega, show ¬ 5 < r.week by omega, show ¬ r.wday < 0 by omega, show ¬ 6 < r.wday by omega, show ¬ r.minute < 0 by omega, show ¬ 1440 ≤ r.minute by omega]
  exact ⟨_, W.in64 (by omega), q + 1, by omega, by norm_cast, by omega⟩
 refine sem_seq mix hXk (by rw [hXn]; exact b72_5) ?_
 rw [hXg]
 simp only [go_sem, ↓reduceIte, Qa, Qb, Qc, Qd, Qe, Qf, reduceCtorEq, vL, vR, vc72, g1, g2, g3]
 refine vcall (hTick R7 hle07) ?_
 rintro R8 rr hle8 ⟨ad, ya2, yc2, rfl, hCk⟩
 try simp only [go_sem, ↓reduceIte, Qa, Qb, Qc, Qd, Qe, Qf, reduceCtorEq, g1, g2, g3]
 refine sem_seq mix hXk (by rw [hXn]; exact b72_6) ?_
 rw [hXg]
 simp only [go_sem, ↓reduceIte, Qa, Qb, Qc, Qd, Qe, Qf, reduceCtorEq, vL, vR, vc72, g1, g2, g3]
 have hle08 : RO.le R R8 := RO.le_trans hle07 hle8
 by_cases ht0 : n.trans = []
 ·have hti : ((n.trans.length : Nat) : Int) = 0 := by rw [ht0]; rfl
  refine sem_vc mix hXk (by rw [hXn]; exact b72_R) ?_
  rw [hXg]
  simp only [go_sem, ↓reduceIte, Qa, Qb, Qc, Qd, Qe, Qf, reduceCtorEq, v72R, vL, vR, vc72, g1, g2, g3, hti]
  try simp only [go_sem, ↓reduceIte, Qa, Qb, Qc, Qd, Qe, Qf, reduceCtorEq, Ja, Jb, Jc, Jd, Je, Jf]
  intro β κ tm w hr
  rw [hQ]
  refine ret_fin (rs := rs72) (Post := PostO n L) hX (by kernel_rfl) hr ?_
  show RetT rs72 _ (fun vs s' => PostO n L s'.R (resVal vs)) .mk
  simp only [go_sem, ↓reduceIte, Qa, Qb, Qc, Qd, Qe, Qf, reduceCtorEq, rs72, g1, g2, g3]
  exact ⟨ad, ta, tc, ya2, yc2, rfl, hCk⟩
 have hti : ¬ (((n.trans.length : Nat) : Int) = 0) := fun e => ht0 (List.eq_nil_of_length_eq_zero (by omega))
 have htp : (0 : Int) < ((n.trans.length : Nat) : Int) := by omega
 show SemI Tryz.prog none 0 X [] (.seq (.seq (cL (cL b72R)) (.seq (cL (cR (cL b72R))) (.cond (.tmp 154) (.seq (cL (cL b72C)) (cR (cL b72C))) .skip))) (cR b72R)) _ Q
 refine sem_seqS ?_
 generalize hQ7 : Exit.then _ Q = Q7
 refine sem_seq mix hXk (by rw [hXn]; exact b72_20) ?_
 rw [hXg]
 simp only [go_sem, ↓reduceIte, Qa, Qb, Qc, Qd, Qe, Qf, reduceCtorEq, v72R, vL, vR, vc72, g1, g2, g3]
 refine sem_seq mix hXk (by rw [hXn]; exact b72_21) ?_
 rw [hXg]
 simp only [go_sem, ↓reduceIte, Qa, Qb, Qc, Qd, Qe, Qf, reduceCtorEq, v72R, vL, vR, vc72, g1, g2, g3, htp]
 refine sem_cond (t := true) (by simp only [go_sem, ↓reduceIte, Qa, Qb, Qc, Qd, Qe, Qf, reduceCtorEq, g1, g2, g3]) (fun _ => ?_) (fun e => by cases e)
 refine sem_seq mix hXk (by rw [hXn]; exact b72_22) ?_
 rw [hXg]
 simp only [go_sem, ↓reduceIte, Qa, Qb, Qc, Qd, Qe, Qf, reduceCtorEq, v72C, v72R, vL, vR, vc72, g1, g2, g3, htp]
 refine vhandE (zFrom ad n.hor R8) rfl ?_
 rintro R9 bs rr hle9 ⟨rfl, rfl, rfl⟩
 simp only [go_sem, ↓reduceIte, Qa, Qb, Qc, Qd, Qe, Qf, reduceCtorEq, ren, renC, renB, Vc.rn, List.range', g1, g2, g3]
 suffices hT : ∀ env : Nat → SV, env 1 = .loc 0 0 → env 2 = .loc 1 0 → env 3 = .loc 2 0 → env 8 = .loc 3 0 → env 10 = .loc 4 0 → env 158 = .fn 161 [.l 5 0, .l 6 0] →
   SemI Tryz.prog none 0 X [] (cR (cL b72C)) ⟨env, [.box [.val (.int .i64 n.cal.epoch), .val (.slice ma n.cal.months.length mc), .val (.int .i64 n.cal.leap), .val (.slice ra rln rc), .val (.int .i64 n.start), .val (.slice ta n.trans.length tc), .val (.int .i64 n.hor), .val (.slice ya n.yearly.length yc)], .box [.val (.pointer none)], .box [.val (.bool false)], .box [.val (.pointer (some ad))], .box [.val (.int .i64 n.trans.length)], .box [.val (.pointer (some ad))], .box [.val (.int .i64 n.hor)]], R9⟩ Q7 by
  refine hT _ ?_ ?_ ?_ ?_ ?_ ?_ <;> simp only [go_sem, ↓reduceIte, Qa, Qb, Qc, Qd, Qe, Qf, reduceCtorEq, g1, g2, g3]
 intro env3 p1 p2 p3 p8 p10 p158
 exact open_tail n L R ho hck X w0 hX Q Q7 hQ hQ7 R9 hle08 ad ta tc ya2 yc2 hCk env3 ma mc ra rln rc ya yc (htr.mono hle08) ht0 p1 p2 p3 p8 p10 p158
end Go.Proofs.YtdgndfabdmecmaaGreat
namespace Go.Proofs.YtdgndfabdmecmaaGreat
open Go.Proofs.YtdgndfabdmecmaaGreat.Vc
structure ZnPre (n : Zn) : Prop where
 cal : n.cal.valid
 start : -1080 ≤ n.start ∧ n.start ≤ 1080
 hor : -2251799813685248 ≤ n.hor ∧ n.hor ≤ 2251799813685248
 tlen : n.trans.length ≤ 512
 tr : ∀ x ∈ n.trans, (-1080 ≤ x.off ∧ x.off ≤ 1080) ∧ (-2251799813685248 ≤ x.pos ∧ x.pos ≤ 2251799813685248) ∧ x.pos < n.hor
 gap : ∀ i (h : i + 1 < n.trans.length), 2160 ≤ n.trans[i + 1].pos - n.trans[i].pos
 years : n.yearly = [] ∨ ∃ r0 r1, n.yearly = [r0, r1] ∧ (YrOK n.cal r0 ∧ (r0.week = 1 ∨ r0.week = 5)) ∧ (YrOK n.cal r1 ∧ (r1.week = 1 ∨ r1.week = 5))
theorem ZnPre.ok0 {n : Zn} (h : ZnPre n) (hy : n.yearly = []) : ZnOK n [] := ⟨h.cal, h.start, h.hor, h.tlen, h.tr, h.gap, .inl ⟨hy, rfl⟩, fun hn => absurd rfl hn⟩
theorem rWithin13 (n l : Int) (R : RO) (hl : 0 ≤ l ∧ l ≤ 9223372036854775807) : CallsR Tryz.prog 51 [.int .i64 n, .int .i64 l] R fun _ r => r = .bool (decide (-l ≤ n ∧ n ≤ l)) := by
 refine callsT mix Tryz.func51 comp51 (by simp [Tryz.ntmps51]) ?_; simp only [go_sem, ↓reduceIte, Qa, Qb, Qc, Qd, Qe, Qf, reduceCtorEq, vc51, rs51]
 refine ⟨_, W.in64 (by omega), fun h => ?_, fun h => ?_⟩
 ·congr 1; exact decide_eq_decide.2 (by omega)
 ·congr 1; exact (decide_eq_false (by omega)).symm
set_option maxHeartbeats 4000000 in
theorem rValid13 (z : Zv) (n : Zn) (R : RO) (h : ZnIn R z n) (hp : ZnPre n) : CallsR Tryz.prog 24 [.agg z.cells.toArray] R fun _ v => ∃ e, v = .int .i64 e ∧ (e = 0 → ∃ L, ZnOK n L) := by
 have hyl := h.yearly.slen
 have htl := h.trans.slen
 have hep := h.ep
 have hlp := h.leap
 have hyr := h.yearly
 have hcal := h.cal
 have htr := h.trans
 have hst := h.start
 have hho := h.hor
 have hVal := fun R' (hle : RO.le R R') => rValid n.cal _ _ R' (h.cal.mono hle)
 have hYea := fun R' (hle : RO.le R R') => rYearly z n R' (h.mono hle) hp.cal hp.years
 have hCyc := fun R' (hle : RO.le R R') => rCycle13 z n R' (h.mono hle) hp.cal
 obtain ⟨ep, ma, mn, mc, lp, ra, rln, rc, st, ta, tn, tc, hz, ya, yn, yc⟩ := z
 dsimp only at hyl hep hlp hyr hVal htr htl hst hho hcal hYea hCyc
 subst hep hlp hst hho htl hyl
 simp only [Zv.cells, cv] at hVal hYea hCyc ⊢
 have hstb := hp.start
 have hhob := hp.hor
 have htlb := hp.tlen
 rw [decide_eq_true hp.cal] at hVal
 obtain ⟨am, cm, em, _, _⟩ := hcal.m.form
 simp only [Value.slice.injEq] at em
 obtain ⟨rfl, rfl, rfl⟩ := em
 have hyl02 : ((n.yearly.length : Nat) : Int) = 0 ∨ ((n.yearly.length : Nat) : Int) = 2 := by
  rcases hp.years with e | ⟨r0, r1, e, _⟩
  ·left; rw [e]; rfl
  ·right; rw [e]; rfl
 have hyall : ∀ r ∈ n.yearly, YrOK n.cal r := fun r hm => by
  rcases hp.years with e | ⟨r0, r1, e, k0, k1⟩
  ·rw [e] at hm; simp at hm
  ·rw [e] at hm
   simp only [List.mem_cons, List.not_mem_nil, or_false] at hm
   rcases hm with hm | hm
   ·rw [hm]; exact k0.1
   ·rw [hm]; exact k1.1
 obtain ⟨at', ct', et, _, htf⟩ := htr.form
 simp only [Value.slice.injEq, true_and] at et
 obtain ⟨rfl, rfl⟩ := et
 obtain ⟨ay', cy', ey, _, hyf⟩ := hyr.form
 simp only [Value.slice.injEq, true_and] at ey
 obtain ⟨rfl, rfl⟩ := ey
 have hnl : ¬ ((512 : Int) < n.trans.length) := by omega
 refine callsT mix Tryz.func24 comp24 (by simp [Tryz.ntmps24]) ?_; simp only [go_sem, ↓reduceIte, Qa, Qb, Qc, Qd, Qe, Qf, reduceCtorEq, vc24, rs24]
 try simp only [go_sem, ↓reduceIte, Qa, Qb, Qc, Qd, Qe, Qf, reduceCtorEq, hnl]
 refine vcall (hVal R (RO.le_refl R)) ?_
 rintro R1 r hle1 rfl
 try simp only [go_sem, ↓reduceIte, Qa, Qb, Qc, Qd, Qe, Qf, reduceCtorEq, hnl]
 refine vcall (rWithin13 n.start 1080 R1 (by omega)) ?_
 rintro R2 r hle2 rfl
 rw [decide_eq_true (by omega : -1080 ≤ n.start ∧ n.start ≤ 1080)]
 try simp only [go_sem, ↓reduceIte, Qa, Qb, Qc, Qd, Qe, Qf, reduceCtorEq, hnl]
 refine vcall (rWithin13 n.hor 2251799813685248 R2 (by omega)) ?_
 rintro R3 r hle3 rfl
 rw [decide_eq_true (by omega : -2251799813685248 ≤ n.hor ∧ n.hor ≤ 2251799813685248)]
 try simp only [go_sem, ↓reduceIte, Qa, Qb, Qc, Qd, Qe, Qf, reduceCtorEq, hnl]
 have hle03 : RO.le R R3 := RO.le_trans hle1 (RO.le_trans hle2 hle3)
 refine ⟨fun h0 => ⟨fun h2 => absurd (hyl02.resolve_left h0) h2, fun _ => ?_⟩, fun _ => ?_⟩
 all_goals
  refine vcLoop Nat (fun i => [(3, .val (.int .i64 i)), (1, .loc 0 0)])
   (fun _ => [.box [.val (.int .i64 n.cal.epoch), .val (.slice ma n.cal.months.length mc), .val (.int .i64 n.cal.leap), .val (.slice ra rln rc), .val (.int .i64 n.start), .val (.slice ta n.trans.length tc), .val (.int .i64 n.hor), .val (.slice ya n.yearly.length yc)]]) (fun i _ => i ≤ n.trans.length) (fun i => n.trans.length - i) 0 ?_ ?_ ?_ ?_
  ·(try simp only [go_sem, ↓reduceIte, Qa, Qb, Qc, Qd, Qe, Qf, reduceCtorEq]) <;> (repeat' (first | rfl | trivial | constructor | (intro h; exact absurd rfl h)))
  ·rfl
  ·exact Nat.zero_le _
  rintro i env R4 hle4 hE hi
  (simp only [go_sem] at hE; obtain ⟨e3, e1⟩ := hE; simp only [go_sem, ↓reduceIte, Qa, Qb, Qc, Qd, Qe, Qf, reduceCtorEq, e3, e1]; dsimp only at *)
  have hle04 : RO.le R R4 := RO.le_trans hle03 hle4
  refine ⟨fun hi1 => ?_, fun hi1 => ?_⟩
  ·have hi' : i < n.trans.length := by omega
   obtain ⟨adx, had, hRx⟩ := htf i hi'
   obtain ⟨hx1, hx2, hx3⟩ := hp.tr n.trans[i] (List.getElem_mem _)
   refine ⟨by omega, vat adx had ?_⟩
   try simp only [go_sem, ↓reduceIte, Qa, Qb, Qc, Qd, Qe, Qf, reduceCtorEq]
   refine vloadn n.trans[i].cells rfl (fun j u hj => hle04 _ _ (hRx j u hj)) ?_
   simp only [go_sem, ↓reduceIte, Qa, Qb, Qc, Qd, Qe, Qf, reduceCtorEq, Tr.cells, e3, e1]
   refine vcall (rWithin13 n.trans[i].off 1080 R4 (by omega)) ?_
   rintro R5 r hle5 rfl
   rw [decide_eq_true hx1]
   try simp only [go_sem, ↓reduceIte, Qa, Qb, Qc, Qd, Qe, Qf, reduceCtorEq, e3, e1]
   refine vcall (rWithin13 n.trans[i].pos 2251799813685248 R5 (by omega)) ?_
   rintro R6 r hle6 rfl
   rw [decide_eq_true hx2]
   try simp only [go_sem, ↓reduceIte, Qa, Qb, Qc, Qd, Qe, Qf, reduceCtorEq, e3, e1, show ¬ (n.hor ≤ n.trans[i].pos) by omega]
   by_cases h0 : i = 0
   ·subst h0
    try simp only [go_sem, ↓reduceIte, Qa, Qb, Qc, Qd, Qe, Qf, reduceCtorEq, e3, e1]
    refine ⟨fun h => absurd h (by omega), fun _ => ⟨_, W.in64 (by omega), 1, by omega, by norm_cast, by omega⟩⟩
   ·have hgt : ((0 : Int) < i) := by omega
    have hgap := hp.gap (i - 1) (by omega)
    simp only [Nat.sub_add_cancel (by omega : 1 ≤ i)] at hgap
    obtain ⟨hy1, hy2, hy3⟩ := hp.tr n.trans[i - 1] (List.getElem_mem _)
    try simp only [go_sem, ↓reduceIte, Qa, Qb, Qc, Qd, Qe, Qf, reduceCtorEq, e3, e1, hgt]
    obtain ⟨adp, hadp, hRp⟩ := htf (i - 1) (by omega)
    refine ⟨_, W.in64 (by omega), by omega, by omega, ?_⟩
    rw [show ((i : Int) - 1).toNat = i - 1 by omega]
    refine vat adp hadp ?_
    try simp only [go_sem, ↓reduceIte, Qa, Qb, Qc, Qd, Qe, Qf, reduceCtorEq]
    refine vload (.int .i64 n.trans[i - 1].pos) (by have := hle6 _ _ (hle5 _ _ (hle04 _ _ (hRp 0 _ rfl))); rwa [Addr.add_zero'] at this) ?_
    try simp only [go_sem, ↓reduceIte, Qa, Qb, Qc, Qd, Qe, Qf, reduceCtorEq, e3, e1, hgt]
    refine ⟨_, W.in64 (by omega), ?_⟩
    try simp only [go_sem, ↓reduceIte, Qa, Qb, Qc, Qd, Qe, Qf, reduceCtorEq, show ¬ (n.trans[i].pos - n.trans[i - 1].pos < 2160) by omega]
    exact ⟨_, W.in64 (by omega), i + 1, by omega, by norm_cast, by omega⟩
  refine vcLoop Nat (fun i => [(5, .val (.int .i64 i)), (1, .loc 0 0)])
   (fun _ => [.box [.val (.int .i64 n.cal.epoch), .val (.slice ma n.cal.months.length mc), .val (.int .i64 n.cal.leap), .val (.slice ra rln rc), .val (.int .i64 n.start), .val (.slice ta n.trans.length tc), .val (.int .i64 n.hor), .val (.slice ya n.yearly.length yc)]]) (fun i _ => i ≤ n.yearly.length) (fun i => n.yearly.length - i) 0 ?_ ?_ ?_ ?_
  ·try simp only [go_sem, ↓reduceIte, Qa, Qb, Qc, Qd, Qe, Qf, reduceCtorEq, e1]
   first | trivial | rfl
  ·rfl
  ·exact Nat.zero_le _
  rintro q env2 R7 hle7 hE hq
  (simp only [go_sem] at hE; obtain ⟨e5, g1⟩ := hE; simp only [go_sem, ↓reduceIte, Qa, Qb, Qc, Qd, Qe, Qf, reduceCtorEq, e5, g1]; dsimp only at *)
  have hle07 : RO.le R R7 := RO.le_trans hle04 hle7
  refine ⟨fun hq1 => ?_, fun hq1 => ?_⟩
  ·have hq' : q < n.yearly.length := by omega
   obtain ⟨adx, had, hRx⟩ := hyf q hq'
   have hOK := hyall n.yearly[q] (List.getElem_mem _)
   obtain ⟨r, hr⟩ : ∃ r, r = n.yearly[q] := ⟨_, rfl⟩
   rw [← hr] at hOK hRx
   obtain ⟨k1, k2, k3, k4, k5⟩ := hOK
   refine ⟨by omega, vat adx had ?_⟩
   try simp only [go_sem, ↓reduceIte, Qa, Qb, Qc, Qd, Qe, Qf, reduceCtorEq]
   refine vloadn r.cells rfl (fun j u hj => hle07 _ _ (hRx j u hj)) ?_
   simp only [go_sem, ↓reduceIte, Qa, Qb, Qc, Qd, Qe, Qf, reduceCtorEq, Yr.cells, e5, g1]
   refine vcall (rWithin13 r.off 1080 R7 (by omega)) ?_
   rintro R8 rr hle8 rfl
   rw [decide_eq_true k5]
   try simp only [go_sem, ↓reduceIte, Qa, Qb, Qc, Qd, Qe, Qf, reduceCtorEq, e5, g1, show ¬ r.month < 1 by omega, show ¬ ((n.cal.months.length : Int) < r.month) by omega, show ¬ r.week < 1 by omega, show ¬ 5 < r.week by omega, show ¬ r.wday < 0 by omega, show ¬ 6 < r.wday by omega, show ¬ r.minute < 0 by omega, show ¬ 1439 < r.minute by omega]
   exact ⟨_, W.in64 (by omega), q + 1, by omega, by norm_cast, by omega⟩
  refine vcall (hYea R7 hle07) ?_
  rintro R8 v hle8 hYv
  have hle08 : RO.le R R8 := RO.le_trans hle07 hle8
  have hdb := hp.cal.days_bd
  have hpp := hp.cal.per.2.1
  have hcb := cycD_bd (c := n.cal) (by omega)
  rcases hp.years with hy0 | ⟨r0, r1, hy2, ⟨k0, _⟩, ⟨k1, _⟩⟩
  ·have hYv' : ∃ u, v = .tuple #[u, .bool true] ∧ TrV R8 u [] := by
    unfold YearsV at hYv
    rw [hy0] at hYv
    exact hYv
   obtain ⟨u, rfl, hu⟩ := hYv'
   obtain ⟨ua, uc, rfl, _, _⟩ := hu.form
   try simp only [go_sem, ↓reduceIte, Qa, Qb, Qc, Qd, Qe, Qf, reduceCtorEq, g1]
   refine vcall (hCyc R8 hle08) ?_
   rintro R9 r hle9 rfl
   rw [if_pos hy0]
   try simp only [go_sem, ↓reduceIte, Qa, Qb, Qc, Qd, Qe, Qf, reduceCtorEq, g1]
   refine vcall (rAfter [] _ R9 (hu.mono hle9) 1 n.hor (by omega) (by omega) (by simp)) ?_
   rintro R10 r hle10 (⟨_, rfl⟩ | ⟨hne, _⟩)
   ·try simp only [go_sem, ↓reduceIte, Qa, Qb, Qc, Qd, Qe, Qf, reduceCtorEq, g1]
    exact ⟨0, rfl, fun _ => ⟨[], hp.ok0 hy0⟩⟩
   ·exact absurd rfl hne
  ·have hYv' : ∃ L u, v = .tuple #[u, .bool (decide (Far L (cycD n.cal)))] ∧ TrV R8 u L ∧ L.Perm (unsT n.cal r0 r1) ∧ Sor L := by
    unfold YearsV at hYv
    rw [hy2] at hYv
    exact hYv
   obtain ⟨L, u, rfl, hu, hLp, hLs⟩ := hYv'
   have hLb : ∀ x ∈ L, -2251799813685248 ≤ x.pos ∧ x.pos ≤ 2251799813685248 := fun x hx => by have := unsT_bd hp.cal k0 k1 x (hLp.mem_iff.1 hx); omega
   obtain ⟨ua, uc, rfl, _, _⟩ := hu.form
   by_cases hF : Far L (cycD n.cal)
   ·rw [decide_eq_true hF]
    have hYO : YearsOK n L := .inr ⟨r0, r1, hy2, k0, k1, hLp, hF⟩
    try simp only [go_sem, ↓reduceIte, Qa, Qb, Qc, Qd, Qe, Qf, reduceCtorEq, g1]
    refine vcall (hCyc R8 hle08) ?_
    rintro R9 r hle9 rfl
    rw [if_neg (by rw [hy2]; simp)]
    try simp only [go_sem, ↓reduceIte, Qa, Qb, Qc, Qd, Qe, Qf, reduceCtorEq, g1]
    refine vcall (rAfter L _ R9 (hu.mono hle9) (cycD n.cal) n.hor (by omega) (by omega) hLb) ?_
    rintro R10 r hle10 (⟨hL0, rfl⟩ | ⟨hLn, o, rfl⟩)
    ·try simp only [go_sem, ↓reduceIte, Qa, Qb, Qc, Qd, Qe, Qf, reduceCtorEq, g1]
     exact ⟨0, rfl, fun _ => ⟨L, hp.cal, hp.start, hp.hor, hp.tlen, hp.tr, hp.gap, hYO, fun hn => absurd hL0 hn⟩⟩
    ·have hPb := nextT_bd hYO hLn (t := n.hor) hp.hor hp.cal
     change -4503599627370496 ≤ nextT L (if n.yearly = [] then 1 else cycD n.cal) n.hor ∧ nextT L (if n.yearly = [] then 1 else cycD n.cal) n.hor ≤ 4503599627370496 at hPb
     rw [if_neg (by rw [hy2]; simp)] at hPb
     try simp only [go_sem, ↓reduceIte, Qa, Qb, Qc, Qd, Qe, Qf, reduceCtorEq, g1]
     refine ⟨fun htp => ?_, fun htp => ?_⟩
     ·have hpos : 0 < n.trans.length := by omega
      obtain ⟨adp, hadp, hRp⟩ := htf (n.trans.length - 1) (by omega)
      have hla : n.trans.getLast? = some n.trans[n.trans.length - 1] := by rw [List.getLast?_eq_getElem?, List.getElem?_eq_getElem (by omega)]
      have hlb := (hp.tr n.trans[n.trans.length - 1] (List.getElem_mem _)).2.1
      refine ⟨_, W.in64 (by omega), by omega, by omega, ?_⟩
      rw [show ((n.trans.length : Int) - 1).toNat = n.trans.length - 1 by omega]
      refine vat adp hadp ?_
      try simp only [go_sem, ↓reduceIte, Qa, Qb, Qc, Qd, Qe, Qf, reduceCtorEq]
      refine vload (.int .i64 n.trans[n.trans.length - 1].pos) (by have := hle10 _ _ (hle9 _ _ (hle08 _ _ (hRp 0 _ rfl))); rwa [Addr.add_zero'] at this) ?_
      try simp only [go_sem, ↓reduceIte, Qa, Qb, Qc, Qd, Qe, Qf, reduceCtorEq, g1]
      refine ⟨_, W.in64 (by omega), fun hlt => ⟨1, rfl, fun e => by cases e⟩, fun hge => ⟨0, rfl, fun _ => ⟨L, hp.cal, hp.start, hp.hor, hp.tlen, hp.tr, hp.gap, hYO, fun _ x hx => ?_⟩⟩⟩
      rw [hla] at hx
      cases hx
      omega
     ·have ht0 : n.trans = [] := List.eq_nil_of_length_eq_zero (by omega)
      exact ⟨0, rfl, fun _ => ⟨L, hp.cal, hp.start, hp.hor, hp.tlen, hp.tr, hp.gap, hYO, fun _ x hx => by rw [ht0] at hx; cases hx⟩⟩
   ·rw [decide_eq_false hF]
    try simp only [go_sem, ↓reduceIte, Qa, Qb, Qc, Qd, Qe, Qf, reduceCtorEq, g1]
    exact ⟨1, rfl, fun e => by cases e⟩
end Go.Proofs.YtdgndfabdmecmaaGreat
