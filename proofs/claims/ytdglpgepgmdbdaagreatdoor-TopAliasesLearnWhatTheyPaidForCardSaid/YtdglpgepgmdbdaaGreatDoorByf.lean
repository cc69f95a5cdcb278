/- Lemmas of our own, no statement of the seat; the last one of the claim's texts proves the law. -/
import Derived.Shelf.Abstract
import Derived.Test.YtdglpgepgmdbdaaGreatDoorBye
import Derived.Test.YtdglpgepgmdbdaaGreatDoorByc
import Derived.Test.YtdglpgepgmdbdaaGreatDoorVcZ
open Nat renaming reduceEqDiff → nQ1, reduceAdd → nQ2, reduceMul → nQ3, reduceLeDiff → nQ4, reduceLT → nQ5, reduceBNe → nQ6
open Int renaming reduceLE → iQ1, reduceLT → iQ2, reduceToNat → iQ3, cast_ofNat_Int → iQ4, reduceEq → iQ5, reduceNe → iQ6
namespace Go.Proofs.YtdglpgepgmdbdaaGreatDoor
set_option linter.unusedSectionVars false
variable [Go.Proofs.YtdglpgepgmdbdaaGreatDoor.Vc.Drew]
set_option linter.unusedSimpArgs false
set_option linter.unusedVariables false
open Go.Proofs.YtdglpgepgmdbdaaGreatDoor.Vc
def b6 : Bu := ⟨60, [[0, 1, 2, 3, 4, 5]], []⟩
theorem b6_grp {p : Int} (h0 : 0 ≤ p) (h1 : p < 6) : grpOf b6.groups p = 0 := by
 rcases (by omega : p = 0 ∨ p = 1 ∨ p = 2 ∨ p = 3 ∨ p = 4 ∨ p = 5) with rfl | rfl | rfl | rfl | rfl | rfl <;> decide
theorem b6_ok : OkB b6 := by
 refine ⟨by decide, ⟨fun i hi => ?_, by decide⟩, by simp [b6], List.Pairwise.nil⟩
 have : i = 0 := by simp [b6] at hi; omega
 subst this
 show OkG b6.groups 0 [0, 1, 2, 3, 4, 5]
 refine ⟨by simp, by unfold Inc; decide, fun p hp => ?_⟩
 simp only [List.mem_cons, List.not_mem_nil, or_false] at hp
 rcases hp with rfl | rfl | rfl | rfl | rfl | rfl <;> exact ⟨by decide, by decide⟩
theorem okMk_M {l : List Mk} (h : ∀ m ∈ l, okMk m) : OkM l := fun m hm => by
 obtain ⟨_, h2, _, h4, h5⟩ := h m hm
 exact ⟨h2, h4, h5⟩
theorem viewC_len (l : List Mk) (k : Int) (w : Sp) : (viewC l k w).length = ((w.t - w.f) / sizeI k).toNat := by simp [viewC]
theorem count_ge {k : Int} : ∀ l : List Sp, (∀ s ∈ l, s.f < s.t) → (l.all fun c => alignedB c (sizeI k)) = true → (l.length : Int) ≤ countL (sizeI k) l
 | [], _, _ => by simp [countL]
 | s :: l, h1, h2 => by
  rw [List.all_cons, Bool.and_eq_true] at h2
  have ih := count_ge l (fun x hx => h1 x (List.mem_cons_of_mem _ hx)) h2.2
  have ha := alignedB_iff.1 h2.1
  have hp := h1 s (by simp)
  have : 1 ≤ (s.t - s.f) / sizeI k := by
   have g1 := ha.1
   have g2 := ha.2
   rcases sizeI_cases k with e | e | e <;> rw [e] at g1 g2 ⊢ <;> omega
  rw [countL, List.length_cons]
  omega
theorem cost_zero {b : Bu} {p k : Int} {w : Sp} (hw : OkW k w) (h : ¬ 0 < costQ b p k w) : missQ b p k w = [] := by
 have hf := missD_facts (K := memS (knownD b.spent (grpOf b.groups p) k)) hw
 have := count_ge (k := k) (missQ b p k w) (fun s hs => hf.1.pos s hs) hf.2.2.1
 unfold costQ at h
 exact List.eq_nil_of_length_eq_zero (by omega)
set_option maxHeartbeats 8000000 in
theorem lAliases (R : RO) (hSan : CallsR Tryz.prog 4 [] R fun _ r => r = .bool true)
  (hView : ∀ (xs : List Mk) (x : Value) (k : Int) (w : Sp) (R' : RO), EncV Mk.cells 3 R' x xs → (∀ m ∈ xs, okMk m) → 1 ≤ k ∧ k ≤ 4 → OkW k w → 0 ≤ w.f → (w.t - w.f) / sizeI k ≤ 65536 → CallsR Tryz.prog 11 [x, .int .i64 k, .agg w.cells.toArray] R' fun R2 r => ∃ y, r = .tuple #[y, .int .i64 0] ∧ Ints R2 y (viewC xs k w))
  (us vs : List U3) (u v : Value) (hz : SzR R) (hu : U3V R u us) (hv : U3V R v vs) (huo : ∀ x ∈ us, x.ok) (hvo : ∀ x ∈ vs, x.ok) (ds : List Dd) (d : Value) (hd : DdV R d ds) (x : Dd) :
  CallsR Tryz.prog 3 [.agg #[u, v], d, .agg x.cells.toArray] R fun _ r => r = .bool true := by
 have hdl := hd.2
 have hlo := marksD_ok huo
 have hmo := marksD_ok hvo
 have hM1 := fun R' (hle : RO.le R R') => cMarks us u R' (SlK.mono hu hle) huo
 have hM2 := fun R' (hle : RO.le R R') => cMarks vs v R' (SlK.mono hv hle) hvo
 obtain ⟨ua, uc, rfl, _⟩ := hu.form
 obtain ⟨va, vc, rfl, _⟩ := hv.form
 obtain ⟨a, cap, rfl, hc, hf⟩ := hd.form
 simp only [Dd.cells]
 refine callsT mix Tryz.func3 comp3 (by simp [Tryz.ntmps3]) ?_; simp only [go_sem, ↓reduceIte, nQ1, nQ2, nQ3, nQ4, nQ5, nQ6, reduceCtorEq, vc3, rs3]
 refine vcall hSan ?_
 rintro R1 r hle1 rfl
 try simp only [go_sem, ↓reduceIte, nQ1, nQ2, nQ3, nQ4, nQ5, nQ6, reduceCtorEq, iQ1, iQ2, iQ3, iQ4, iQ5, iQ6]
 refine vcall (hM1 R1 hle1) ?_
 intro R2 l1 hle2 hl
 obtain ⟨la, lc, rfl, _⟩ := hl.form
 try simp only [go_sem, ↓reduceIte, nQ1, nQ2, nQ3, nQ4, nQ5, nQ6, reduceCtorEq, iQ1, iQ2, iQ3, iQ4, iQ5, iQ6]
 refine vcall (hM2 R2 (RO.le_trans hle1 hle2)) ?_
 intro R3 m1 hle3 hm
 obtain ⟨ma, mc, rfl, _⟩ := hm.form
 obtain ⟨L, hL⟩ : ∃ L, L = marksD us := ⟨_, rfl⟩
 obtain ⟨M, hM⟩ : ∃ M, M = marksD vs := ⟨_, rfl⟩
 rw [← hL] at hl hlo
 rw [← hM] at hm hmo
 have hSame := fun (k : Int) (w : Sp) (R' : RO) (hle : RO.le R3 R') (hk : 1 ≤ k ∧ k ≤ 4) (hw : OkW k w) (h0 : 0 ≤ w.f) (hn : (w.t - w.f) / sizeI k ≤ 40) => cSame k w L M _ _ R' (hl.mono (RO.le_trans hle3 hle)) (hm.mono hle) (by rw [viewC_len]; omega) (fun xs y R2 hx hxs => hView xs y k w R2 hx (by rcases hxs with rfl | rfl; exact hlo; exact hmo) hk hw h0 (by omega))
 have hll : (marksD us).length = L.length := by rw [hL]
 have hml : (marksD vs).length = M.length := by rw [hM]
 try simp only [go_sem, ↓reduceIte, nQ1, nQ2, nQ3, nQ4, nQ5, nQ6, reduceCtorEq, iQ1, iQ2, iQ3, iQ4, iQ5, iQ6]
 rw [hll, hml]
 intro b1 cap1 R4 hle4 hrow1 hcap1 hfr1 b2 cap2 R5 hle5 hrow2 hcap2 hfr2
 have hI : IntV R5 (.slice (some ⟨b1, 0, none⟩) 6 cap1) [0, 1, 2, 3, 4, 5] := (RowIn.enc (enc := fun x : Int => [Value.int .i64 x]) (k := 1) (xs := [0, 1, 2, 3, 4, 5]) (fun _ => rfl) (by omega) hrow1 (show 6 ≤ cap1 * 1 by omega) (by decide)).mono hle5
 have hG : GV R5 (.slice (some ⟨b2, 0, none⟩) 1 cap2) [[0, 1, 2, 3, 4, 5]] := HsV.gv (hs := [.slice (some ⟨b1, 0, none⟩) 6 cap1]) ⟨rfl, fun i h1 h2 => by
  have : i = 0 := by simp at h2; omega
  subst this
  exact hI⟩ (rowV hrow2 (show 1 ≤ cap2 * 1 by omega) (show 1 ≤ 1000000000 by decide))
 have hle15 : RO.le R R5 := RO.le_trans hle1 (RO.le_trans hle2 (RO.le_trans hle3 (RO.le_trans hle4 hle5)))
 have hB0 : BxV R5 ⟨b6, some ⟨b2, 0, none⟩, cap2, none, 0⟩ := ⟨⟨_, _, rfl, hG, SpentV.nil _⟩⟩
 obtain ⟨bx, hbx⟩ : ∃ bx : List SV, bx = x.cells.map SV.val := ⟨_, rfl⟩
 have hbo : ∀ n, bx.all (SV.ok n) = true := fun n => by rw [hbx]; rfl
 have hx0 : bx[0]? = some (.val (.bool x.alias)) := by rw [hbx]; rfl
 have hx1 : bx[1]? = some (.val (.int .i64 x.person)) := by rw [hbx]; rfl
 have hx2 : bx[2]? = some (.val (.int .i64 x.other)) := by rw [hbx]; rfl
 have hx3 : bx[3]? = some (.val (.int .i64 x.grain)) := by rw [hbx]; rfl
 have hx4 : bx[4]? = some (.val (.int .i64 x.day)) := by rw [hbx]; rfl
 have hx5 : bx[5]? = some (.val (.int .i64 x.half)) := by rw [hbx]; rfl
 have hx6 : bx[6]? = some (.val (.int .i64 x.length)) := by rw [hbx]; rfl
 have hbr : ∀ ρ, bx = bx.map (ren ρ) := fun ρ => by rw [hbx]; rfl
 refine vcLoopR (Nat × Bx) (fun y => [(11, .val (.int .i64 y.1)), (1, .val (.slice a ds.length cap)), (8, .val (.slice la L.length lc)), (9, .val (.slice ma M.length mc)), (7, .val (.bool true)), (5, .loc 0 0), (10, .loc 1 0)]) (fun y => [.box bx, .box (y.2.cells.map SV.val)])
  (fun y R => y.1 ≤ 8 ∧ y.1 ≤ ds.length ∧ BxV R y.2 ∧ LimI y.1 y.2.b ∧ AgB L M y.2.b 0 ∧ y.2.b.groups = b6.groups ∧ y.2.b.limit = 60) (fun y => 8 - y.1) (0, ⟨b6, some ⟨b2, 0, none⟩, cap2, none, 0⟩) [1, 4] ?_ ?_ ?_ ?_
 ·simp only [hbx, Bx.cells, Dd.cells, List.map_cons, List.map_nil]
  (try simp only [go_sem, ↓reduceIte, nQ1, nQ2, nQ3, nQ4, nQ5, nQ6, reduceCtorEq]) <;> (repeat' (first | rfl | trivial | constructor | (intro h; exact absurd rfl h)))
 ·try simp only [go_sem, ↓reduceIte, nQ1, nQ2, nQ3, nQ4, nQ5, nQ6, reduceCtorEq]
  exact ⟨hbo 2, rfl⟩
 ·refine ⟨by omega, by omega, hB0, ⟨b6_ok, ⟨Nat.le_refl _, Nat.le_refl _⟩, fun g => show (0 : Int) ≤ 60 by decide⟩, fun k t _ _ h => ?_, rfl, rfl⟩
  exact absurd h (by simp [view, lookD, b6, memS])
 rintro ⟨i, ⟨b, ga, gc, sa, sc⟩⟩ env R6 hle6 hE ⟨hi, hil, ⟨hV⟩, hI6, hAg, hgr, hlim⟩
 simp only [Bx.cells, List.map_cons, List.map_nil] at hE hV hi hil hI6 hAg hgr hlim ⊢
 (simp only [go_sem] at hE; obtain ⟨e11, e1, e8, e9, e7, e5, e10⟩ := hE; simp only [go_sem, ↓reduceIte, nQ1, nQ2, nQ3, nQ4, nQ5, nQ6, reduceCtorEq, e11, e1, e8, e9, e7, e5, e10]; dsimp only at *)
 have hle16 := RO.le_trans hle15 hle6
 have hle36 : RO.le R3 R6 := RO.le_trans hle4 (RO.le_trans hle5 hle6)
 have hB := hI6.ok
 have hraw := hI6.raw (by omega)
 refine ⟨fun hlt => ⟨fun h8 => ?_, fun h8 => ?_⟩, fun hge => ?_⟩
 ·have hlt' : i < ds.length := by omega
  obtain ⟨ad, had, hR⟩ := hf i hlt'
  obtain ⟨⟨q1, q2⟩, q3, q4, q5, q6, -⟩ := madeQ_ok ds[i]
  have hpq := person6 q1 q2
  refine ⟨hlt, vat ad had ?_⟩
  try simp only [go_sem, ↓reduceIte, nQ1, nQ2, nQ3, nQ4, nQ5, nQ6, reduceCtorEq]
  refine vloadn (ds[i]).cells rfl (fun j u hj => hle16 _ _ (hR j u hj)) ?_
  try simp only [go_sem, ↓reduceIte, nQ1, nQ2, nQ3, nQ4, nQ5, nQ6, reduceCtorEq, e11, e1, e8, e9, e7, e5, e10]
  refine vcall (rMadeQ ds[i] R6) ?_
  rintro R7 r hle7 rfl
  obtain ⟨Q, hQ⟩ : ∃ Q, Q = madeQ ds[i] := ⟨_, rfl⟩
  rw [← hQ] at q1 q2 q3 q4 q5 q6 hpq ⊢
  simp only [Qn.val]
  try simp only [go_sem, ↓reduceIte, nQ1, nQ2, nQ3, nQ4, nQ5, nQ6, reduceCtorEq, e11, e1, e8, e9, e7, e5, e10]
  have hAsk := bAsk b hraw Q.person Q.grain Q.w _ R7 (hz.mono (RO.le_trans hle16 hle7)) (hV.mono hle7)
  simp only [Sp.cells] at hAsk
  refine vcall hAsk ?_
  intro R8 r hle8 hv
  have hv := hv.mono newR_le
  have hg0 : grpOf b.groups Q.person = 0 := by rw [hgr]; exact b6_grp q1 q2
  rcases hv with ⟨h, _⟩ | ⟨_, h, rfl⟩ | ⟨_, hlq, bv, rfl, gv', sv', rfl, hg', hs'⟩
  ·exact absurd (check_of hB hpq q3 q4 (by omega)) h
  ·simp only [zeroBu]
   try simp only [go_sem, ↓reduceIte, nQ1, nQ2, nQ3, nQ4, nQ5, nQ6, reduceCtorEq, e11, e1, e8, e9, e7, e5, e10]
   refine ⟨_, W.in64 (by omega), (i + 1, ⟨b, ga, gc, sa, sc⟩), [0, 1], by omega, ?_, ?_, by omega, by omega, BxV.of (hV.mono (RO.le_trans hle7 hle8)), hI6.next, hAg, hgr, hlim⟩
   ·exact ⟨⟨by norm_cast, rfl, rfl⟩, congrArg (fun l => some (Blk.box l)) (hbr _), rfl⟩
   ·exact ⟨hbo 2, rfl⟩
  ·have hg' : GV R8 gv' b.groups := hg'
   obtain ⟨-, ga', gc', rfl, -, -⟩ := hg'.form
   obtain ⟨-, sa', sc', rfl, -, -⟩ := hs'.form
   have hSm := fun R' (hle : RO.le R3 R') => hSame Q.grain Q.w R' hle q3 q4 q6 q5
   simp only [Sp.cells] at hSm
   have hql : (askB b Q.person Q.grain Q.w).limit = b.limit := rfl
   simp only [hql]
   try simp only [go_sem, ↓reduceIte, nQ1, nQ2, nQ3, nQ4, nQ5, nQ6, reduceCtorEq, e11, e1, e8, e9, e7, e5, e10]
   refine ⟨fun e => absurd e (by decide), fun _ => ?_⟩
   refine vcall (hSm R8 (RO.le_trans hle36 (RO.le_trans hle7 hle8))) ?_
   rintro R9 r hle9 rfl
   have hsm := viewC_eq (l := L) (m := M) q4
   have hV2 : BuV R9 (.agg #[.int .i64 b.limit, .slice ga' b.groups.length gc', .slice sa' (askB b Q.person Q.grain Q.w).spent.length sc']) (askB b Q.person Q.grain Q.w) := ⟨_, _, rfl, hg'.mono hle9, hs'.mono hle9⟩
   by_cases hsame : viewC L Q.grain Q.w = viewC M Q.grain Q.w
   ·rw [decide_eq_true hsame]
    try simp only [go_sem, ↓reduceIte, nQ1, nQ2, nQ3, nQ4, nQ5, nQ6, reduceCtorEq, e11, e1, e8, e9, e7, e5, e10]
    refine ⟨_, W.in64 (by omega), (i + 1, ⟨askB b Q.person Q.grain Q.w, ga', gc', sa', sc'⟩), [0, 1], by omega, ?_, ?_, by omega, by omega, BxV.of hV2, hI6.ask hpq q3 q4 (by omega) hlq, AgB.ask hB q4 hAg (hsm.1 hsame), hgr, hlim⟩
    ·exact ⟨⟨by norm_cast, rfl, rfl⟩, congrArg (fun l => some (Blk.box l)) (hbr _), rfl⟩
    ·exact ⟨hbo 2, rfl⟩
   ·rw [decide_eq_false hsame]
    try simp only [go_sem, ↓reduceIte, nQ1, nQ2, nQ3, nQ4, nQ5, nQ6, reduceCtorEq, e11, e1, e8, e9, e7, e5, e10]
    refine ⟨_, W.in64 (by omega), (i + 1, ⟨b, ga, gc, sa, sc⟩), [0, 1], by omega, ?_, ?_, by omega, by omega, BxV.of (hV.mono (RO.le_trans hle7 (RO.le_trans hle8 hle9))), hI6.next, hAg, hgr, hlim⟩
    ·exact ⟨⟨by norm_cast, rfl, rfl⟩, congrArg (fun l => some (Blk.box l)) (hbr _), rfl⟩
    ·exact ⟨hbo 2, rfl⟩
 all_goals (
  try simp only [go_sem, ↓reduceIte, nQ1, nQ2, nQ3, nQ4, nQ5, nQ6, reduceCtorEq, hx0, hx1, hx2, hx3, hx4, hx5, hx6, e11, e1, e8, e9, e7, e5, e10]
  have hmq := rMadeQ x R6
  simp only [Dd.cells] at hmq
  refine vcall hmq ?_
  rintro R7 r hle7 rfl
  obtain ⟨⟨q1, q2⟩, q3, q4, q5, q6, -⟩ := madeQ_ok x
  obtain ⟨Q, hQ⟩ : ∃ Q, Q = madeQ x := ⟨_, rfl⟩
  rw [← hQ] at q1 q2 q3 q4 q5 q6 ⊢
  have hpq := person6 q1 q2
  simp only [Qn.val]
  try simp only [go_sem, ↓reduceIte, nQ1, nQ2, nQ3, nQ4, nQ5, nQ6, reduceCtorEq, e11, e1, e8, e9, e7, e5, e10]
  have hCost := bCost b hraw Q.person Q.grain Q.w _ R7 (hz.mono (RO.le_trans hle16 hle7)) (hV.mono hle7)
  simp only [Sp.cells] at hCost
  refine vcall hCost ?_
  rintro R8 r hle8 rfl
  have hck := check_of hB hpq q3 q4 (by omega)
  simp only [costV, hck, if_true]
  try simp only [go_sem, ↓reduceIte, nQ1, nQ2, nQ3, nQ4, nQ5, nQ6, reduceCtorEq, e11, e1, e8, e9, e7, e5, e10]
  have hSm := hSame Q.grain Q.w R8 (RO.le_trans hle36 (RO.le_trans hle7 hle8)) q3 q4 q6 q5
  simp only [Sp.cells] at hSm
  refine vcall hSm ?_
  rintro R9 r hle9 rfl
  try simp only [go_sem, ↓reduceIte, nQ1, nQ2, nQ3, nQ4, nQ5, nQ6, reduceCtorEq, e11, e1, e8, e9, e7, e5, e10]
  have hg0 : grpOf b.groups Q.person = 0 := by rw [hgr]; exact b6_grp q1 q2
  have hT := rTotal b hB hraw 0 _ R9 (hV.mono (RO.le_trans hle7 (RO.le_trans hle8 hle9)))
  have htt := hI6.tot 0
  refine ⟨fun hz0 => ⟨fun _ => vcall hT ?_, fun hne => ?_⟩, fun _ => vcall hT ?_⟩
  ·rintro R10 r hle10 rfl
   try simp only [go_sem, ↓reduceIte, nQ1, nQ2, nQ3, nQ4, nQ5, nQ6, reduceCtorEq, htt, e11, e1, e8, e9, e7, e5, e10]
  ·exact absurd ((viewC_eq q4).2 (AgB.free (okMk_M hlo) (okMk_M hmo) q3 q4 (by rw [hg0]; exact hAg) (cost_zero q4 hz0))) hne
  ·rintro R10 r hle10 rfl
   try simp only [go_sem, ↓reduceIte, nQ1, nQ2, nQ3, nQ4, nQ5, nQ6, reduceCtorEq, htt, e11, e1, e8, e9, e7, e5, e10])
end Go.Proofs.YtdglpgepgmdbdaaGreatDoor
namespace Go.Proofs.YtdglpgepgmdbdaaGreatDoor
set_option linter.unusedSectionVars false
variable [Go.Proofs.YtdglpgepgmdbdaaGreatDoor.Vc.Drew]
set_option linter.unusedSimpArgs false
set_option linter.unusedVariables false
open Go.Proofs.YtdglpgepgmdbdaaGreatDoor.Vc Go.RowKit
def cL : Code → Code
 | .seq a _ => a
 | .cond _ a _ => a
 | .block _ a => a
 | .loop a => a
 | c => c
def cR : Code → Code
 | .seq _ b => b
 | .cond _ _ b => b
 | c => c
def cA : Code → Code
 | .rangeFunc _ _ a _ => a
 | c => c
def cB : Code → Code
 | .rangeFunc _ _ _ b => b
 | c => c
def vL : VCode → VCode
 | .seq a _ => a
 | .cond _ a _ => a
 | .block _ a => a
 | .loop a => a
 | c => c
def vR : VCode → VCode
 | .seq _ b => b
 | .cond _ _ b => b
 | c => c
def rOps : Code → Array Oper
 | .region _ ops _ => ops
 | _ => #[]
def rId : Code → Nat
 | .region id _ _ => id
 | _ => 0
def vOps : VCode → List VStep
 | .ops l => l
 | _ => []
theorem inScope_mk {ng : Nat} {ρ : List Nat} {vals : List (Nat × SV)} {blks : List Blk} (h1 : keysOK vals = true) (h2 : (vals.all fun p => p.2.ok blks.length) = true) (h3 : (blks.all (scB blks.length)) = true) (h4 : rnInj ρ blks.length = true) (h5 : decide (ng ≤ blks.length) = true) (h6 : ((List.range ng).all fun i => rn ρ i == i) = true) : inScope ng ρ vals blks = true := by
 unfold inScope
 rw [h1, h2, h3, h4, h5, h6]
 rfl
theorem sem_frzB {P : Program} {fr : Option Nat} {fn : Nat} {X : Ctx} {s : St} {ds : List Deferred} {c : Code} {Q : Exit → Act → World → Prop} (j : Nat) (vs : List Value) (hj : s.blk[j]? = some (.box (vs.map .val)))
  (h : ∀ b R', RO.le s.R R' → RowIn R' b vs → SemI P fr fn X ds c (frzB s j b R') Q) : SemI P fr fn X ds c s Q := fun β κ tm w hr => by
 obtain ⟨R', h1, h2, h3⟩ := hr.frzB hj vs (fun i v hv => hr.boxCell hj (by rw [List.getElem?_map, hv]; rfl))
 exact h (β j) R' h1 h2 β κ tm w h3
theorem sem_scrub {P : Program} {fr : Option Nat} {fn : Nat} {X : Ctx} {s : St} {ds : List Deferred} {c : Code} {Q : Exit → Act → World → Prop} (ρ : List Nat) (vals : List (Nat × SV)) (blks : List Blk) (hm : Matches ρ vals blks s) (hs : inScope X.ng ρ vals blks = true)
  (h : ∀ env, (∀ p ∈ vals, env p.1 = p.2) → SemI P fr fn X ds c ⟨env, blks, s.R⟩ Q) : SemI P fr fn X ds c s Q := fun β κ tm w hr => by
 obtain ⟨β', κ', env', h1, h2⟩ := hr.scrub hm hs
 exact h env' h2 β' κ' tm w h1
end Go.Proofs.YtdglpgepgmdbdaaGreatDoor
namespace Go.Proofs.YtdglpgepgmdbdaaGreatDoor
set_option linter.unusedSectionVars false
variable [Go.Proofs.YtdglpgepgmdbdaaGreatDoor.Vc.Drew]
set_option linter.unusedSimpArgs false
set_option linter.unusedVariables false
open Go.Proofs.YtdglpgepgmdbdaaGreatDoor.Vc
theorem hRot (x k : Int) (hk : k = -7 ∨ k = -18 ∨ k = -17 ∨ k = -19 ∨ k = -6 ∨ k = -11 ∨ k = -25 ∨ k = -2 ∨ k = -13 ∨ k = -22) (R : RO) : CallsR Tryz.prog 130 [.int .u32 x, .int .i64 k] R fun _ r => ∃ y, r = .int .u32 y := by
 rcases hk with rfl | rfl | rfl | rfl | rfl | rfl | rfl | rfl | rfl | rfl
 all_goals (
  refine callsT mix Tryz.func130 comp130 (by simp [Tryz.ntmps130]) ?_; simp only [go_sem, ↓reduceIte, nQ1, nQ2, nQ3, nQ4, nQ5, nQ6, reduceCtorEq, vc130, rs130]
  try simp only [go_sem, ↓reduceIte, nQ1, nQ2, nQ3, nQ4, nQ5, nQ6, reduceCtorEq, iQ1, iQ2, iQ3, iQ4, iQ5, iQ6]
  exact ⟨_, W.mk _ _, by decide +kernel, _, W.mk _ _, _, W.mk _ _, by decide +kernel, _, rfl⟩)
def w32 (l : List Int) : List SV := l.map fun r => .val (.int .u32 r)
theorem w32_get {l : List Int} {i : Nat} (h : i < l.length) : (w32 l)[i]? = some (.val (.int .u32 l[i])) := by unfold w32; rw [List.getElem?_map, List.getElem?_eq_getElem h]; rfl
theorem w32_getD {l : List Int} {i : Nat} (h : i < l.length) : (w32 l)[i]? = some (.val (.int .u32 (l.getD i 0))) := by rw [w32_get h, List.getD_eq_getElem?_getD, List.getElem?_eq_getElem h]; rfl
theorem w32_len (l : List Int) : (w32 l).length = l.length := by unfold w32; rw [List.length_map]
theorem w32_set (l : List Int) (i : Nat) (r : Int) : (w32 l).set i (.val (.int .u32 r)) = w32 (l.set i r) := by unfold w32; rw [List.map_set]
theorem w32_ren (l : List Int) (ρ : List Nat) : (w32 l).map (ren ρ) = w32 l := by unfold w32; rw [List.map_map]; rfl
theorem w32_ok (l : List Int) (n : Nat) : (w32 l).all (SV.ok n) = true := by unfold w32; rw [List.all_map]; exact List.all_eq_true.2 fun _ _ => rfl
set_option maxHeartbeats 4000000 in
theorem hSched (bs : List Int) (v : Value) (R : RO) (h : EncV (fun x : Int => [Value.int .u8 x]) 1 R v bs) (hl : bs.length = 64) : CallsR Tryz.prog 129 [v] R fun _ r => ∃ l : List Int, l.length = 64 ∧ r = .agg (l.map fun x => Value.int .u32 x).toArray := by
 obtain ⟨a, cap, rfl, hc, hf⟩ := h.form
 refine callsT mix Tryz.func129 comp129 (by simp [Tryz.ntmps129]) ?_; simp only [go_sem, ↓reduceIte, nQ1, nQ2, nQ3, nQ4, nQ5, nQ6, reduceCtorEq, vc129, rs129]
 obtain ⟨Z, hZ⟩ : ∃ Z : List Int, Z = List.replicate 64 0 := ⟨_, rfl⟩
 refine vcLoopR (Nat × List Int) (fun x => [(9, .val (.int .i64 x.1)), (0, .val (.slice a bs.length cap)), (2, .loc 1 0), (3, .loc 0 0)]) (fun x => [.box (w32 x.2), .box (w32 Z)]) (fun x _ => x.1 ≤ 64 ∧ x.2.length = 64) (fun x => 64 - x.1) (0, Z) [1, 0] ?_ ?_ ?_ ?_
 ·subst hZ
  (try simp only [go_sem, ↓reduceIte, nQ1, nQ2, nQ3, nQ4, nQ5, nQ6, reduceCtorEq]) <;> (repeat' (first | rfl | trivial | constructor | (intro h; exact absurd rfl h)))
 ·try simp only [go_sem, ↓reduceIte, nQ1, nQ2, nQ3, nQ4, nQ5, nQ6, reduceCtorEq]
  exact ⟨w32_ok _ _, rfl⟩
 ·exact ⟨Nat.zero_le _, by rw [hZ]; rfl⟩
 rintro ⟨i, ws⟩ env R1 hle1 hE ⟨hi, hW⟩
 dsimp only at hi hW
 (simp only [go_sem] at hE; obtain ⟨e9, e0, e2, e3⟩ := hE; simp only [go_sem, ↓reduceIte, nQ1, nQ2, nQ3, nQ4, nQ5, nQ6, reduceCtorEq, e9, e0, e2, e3]; dsimp only at *)
 refine ⟨fun hlt => ?_, fun hge => ?_⟩
 ·have hb := fun j (hj : j < 64) => hf j (by omega)
  refine ⟨fun h16 => ?_, fun h16 => ?_⟩
  ·have hi16 : i < 16 := by omega
   have ld : ∀ (c : Nat), c < 4 → ∃ ad, a = some ad ∧ R1 (ad.add (4 * i + c)) (.int .u8 (bs.getD (4 * i + c) 0)) := fun c hc4 => by
    obtain ⟨ad, had, hR⟩ := hb (4 * i + c) (by omega)
    refine ⟨ad, had, hle1 _ _ ?_⟩
    have := hR 0 _ rfl
    rw [Addr.add_zero', Nat.mul_one] at this
    rw [List.getD_eq_getElem?_getD, List.getElem?_eq_getElem (by omega)]
    exact this
   obtain ⟨d0, g0, r0⟩ := ld 0 (by omega)
   obtain ⟨d1, g1, r1⟩ := ld 1 (by omega)
   obtain ⟨d2, g2, r2⟩ := ld 2 (by omega)
   obtain ⟨d3, g3, r3⟩ := ld 3 (by omega)
   refine ⟨_, W.in64 (by omega), by omega, by omega, ?_⟩
   rw [show (4 * (i : Int)).toNat = 4 * i + 0 by omega]
   refine vat d0 g0 ?_
   try simp only [go_sem, ↓reduceIte, nQ1, nQ2, nQ3, nQ4, nQ5, nQ6, reduceCtorEq]
   refine vload _ r0 ?_
   try simp only [go_sem, ↓reduceIte, nQ1, nQ2, nQ3, nQ4, nQ5, nQ6, reduceCtorEq, iQ1, iQ2, iQ3, iQ4, iQ5, iQ6, e9, e0, e2, e3]
   refine ⟨_, W.mk _ _, _, W.mk _ _, _, W.in64 (by omega), _, W.in64 (by omega), by omega, by omega, ?_⟩
   rw [show (4 * (i : Int) + 1).toNat = 4 * i + 1 by omega]
   refine vat d1 g1 ?_
   try simp only [go_sem, ↓reduceIte, nQ1, nQ2, nQ3, nQ4, nQ5, nQ6, reduceCtorEq]
   refine vload _ r1 ?_
   try simp only [go_sem, ↓reduceIte, nQ1, nQ2, nQ3, nQ4, nQ5, nQ6, reduceCtorEq, iQ1, iQ2, iQ3, iQ4, iQ5, iQ6, e9, e0, e2, e3]
   refine ⟨_, W.mk _ _, _, W.mk _ _, _, W.in64 (by omega), _, W.in64 (by omega), by omega, by omega, ?_⟩
   rw [show (4 * (i : Int) + 2).toNat = 4 * i + 2 by omega]
   refine vat d2 g2 ?_
   try simp only [go_sem, ↓reduceIte, nQ1, nQ2, nQ3, nQ4, nQ5, nQ6, reduceCtorEq]
   refine vload _ r2 ?_
   try simp only [go_sem, ↓reduceIte, nQ1, nQ2, nQ3, nQ4, nQ5, nQ6, reduceCtorEq, iQ1, iQ2, iQ3, iQ4, iQ5, iQ6, e9, e0, e2, e3]
   refine ⟨_, W.mk _ _, _, W.mk _ _, _, W.in64 (by omega), _, W.in64 (by omega), by omega, by omega, ?_⟩
   rw [show (4 * (i : Int) + 3).toNat = 4 * i + 3 by omega]
   refine vat d3 g3 ?_
   try simp only [go_sem, ↓reduceIte, nQ1, nQ2, nQ3, nQ4, nQ5, nQ6, reduceCtorEq]
   refine vload _ r3 ?_
   try simp only [go_sem, ↓reduceIte, nQ1, nQ2, nQ3, nQ4, nQ5, nQ6, reduceCtorEq, iQ1, iQ2, iQ3, iQ4, iQ5, iQ6, e9, e0, e2, e3]
   refine ⟨_, W.mk _ _, hlt, by rw [w32_len]; omega, _, W.in64 (by omega), (i + 1, ws.set i ?_), [0, 1], by dsimp only; omega, ⟨⟨by norm_cast, rfl, rfl⟩, ?_, ?_⟩, ?_, by dsimp only; omega, by simp [hW]⟩
   rotate_left
   ·rw [w32_set, w32_ren]; rfl
   ·rw [w32_ren]; rfl
   ·exact ⟨⟨w32_ok _ _, w32_ok _ _⟩, rfl⟩
  ·have q1 : (w32 ws)[i - 15]? = some (.val (.int .u32 (ws.getD (i - 15) 0))) := w32_getD (by omega)
   have q2 : (w32 ws)[i - 2]? = some (.val (.int .u32 (ws.getD (i - 2) 0))) := w32_getD (by omega)
   refine ⟨_, W.in64 (by omega), by omega, by omega, ?_⟩
   rw [show ((i : Int) - 15).toNat = i - 15 by omega]
   try simp only [go_sem, ↓reduceIte, nQ1, nQ2, nQ3, nQ4, nQ5, nQ6, reduceCtorEq, iQ1, iQ2, iQ3, iQ4, iQ5, iQ6, q1, e9, e0, e2, e3]
   refine ⟨_, W.in64 (by omega), by omega, by omega, ?_⟩
   rw [show ((i : Int) - 2).toNat = i - 2 by omega]
   try simp only [go_sem, ↓reduceIte, nQ1, nQ2, nQ3, nQ4, nQ5, nQ6, reduceCtorEq, iQ1, iQ2, iQ3, iQ4, iQ5, iQ6, q2, e9, e0, e2, e3]
   refine vcall (hRot _ (-7) (by simp) R1) ?_
   rintro R2 r hle2 ⟨y1, rfl⟩
   try simp only [go_sem, ↓reduceIte, nQ1, nQ2, nQ3, nQ4, nQ5, nQ6, reduceCtorEq, iQ1, iQ2, iQ3, iQ4, iQ5, iQ6, e9, e0, e2, e3]
   refine vcall (hRot _ (-18) (by simp) R2) ?_
   rintro R3 r hle3 ⟨y2, rfl⟩
   try simp only [go_sem, ↓reduceIte, nQ1, nQ2, nQ3, nQ4, nQ5, nQ6, reduceCtorEq, iQ1, iQ2, iQ3, iQ4, iQ5, iQ6, e9, e0, e2, e3]
   refine vcall (hRot _ (-17) (by simp) R3) ?_
   rintro R4 r hle4 ⟨y3, rfl⟩
   try simp only [go_sem, ↓reduceIte, nQ1, nQ2, nQ3, nQ4, nQ5, nQ6, reduceCtorEq, iQ1, iQ2, iQ3, iQ4, iQ5, iQ6, e9, e0, e2, e3]
   refine vcall (hRot _ (-19) (by simp) R4) ?_
   rintro R5 r hle5 ⟨y4, rfl⟩
   try simp only [go_sem, ↓reduceIte, nQ1, nQ2, nQ3, nQ4, nQ5, nQ6, reduceCtorEq, iQ1, iQ2, iQ3, iQ4, iQ5, iQ6, e9, e0, e2, e3]
   have q3 : (w32 ws)[i - 16]? = some (.val (.int .u32 (ws.getD (i - 16) 0))) := w32_getD (by omega)
   have q4 : (w32 ws)[i - 7]? = some (.val (.int .u32 (ws.getD (i - 7) 0))) := w32_getD (by omega)
   refine ⟨_, W.in64 (by omega), by omega, by omega, ?_⟩
   rw [show ((i : Int) - 16).toNat = i - 16 by omega]
   try simp only [go_sem, ↓reduceIte, nQ1, nQ2, nQ3, nQ4, nQ5, nQ6, reduceCtorEq, iQ1, iQ2, iQ3, iQ4, iQ5, iQ6, q3, e9, e0, e2, e3]
   refine ⟨_, W.mk _ _, _, W.in64 (by omega), by omega, by omega, ?_⟩
   rw [show ((i : Int) - 7).toNat = i - 7 by omega]
   try simp only [go_sem, ↓reduceIte, nQ1, nQ2, nQ3, nQ4, nQ5, nQ6, reduceCtorEq, iQ1, iQ2, iQ3, iQ4, iQ5, iQ6, q4, e9, e0, e2, e3]
   refine ⟨_, W.mk _ _, _, W.mk _ _, hlt, by rw [w32_len]; omega, _, W.in64 (by omega), (i + 1, ws.set i ?_), [0, 1], by dsimp only; omega, ⟨⟨by norm_cast, rfl, rfl⟩, ?_, ?_⟩, ?_, by dsimp only; omega, by simp [hW]⟩
   rotate_left
   ·rw [w32_set, w32_ren]; rfl
   ·rw [w32_ren]; rfl
   ·exact ⟨⟨w32_ok _ _, w32_ok _ _⟩, rfl⟩
 ·subst hZ
  try simp only [go_sem, ↓reduceIte, nQ1, nQ2, nQ3, nQ4, nQ5, nQ6, reduceCtorEq, w32_getD, hW, e9, e0, e2, e3]
  refine ⟨by simp [w32], ?_⟩
  rw [show w32 (List.replicate 64 0) = List.replicate 64 (.val (.int .u32 0)) from rfl]
  try simp only [go_sem, ↓reduceIte, nQ1, nQ2, nQ3, nQ4, nQ5, nQ6, reduceCtorEq, List.replicate_succ, List.replicate_zero, List.set_cons_zero, List.set_cons_succ]
  exact ⟨(List.range 64).map fun i => ws.getD i 0, by simp, rfl⟩
end Go.Proofs.YtdglpgepgmdbdaaGreatDoor
namespace Go.Proofs.YtdglpgepgmdbdaaGreatDoor
set_option linter.unusedSectionVars false
variable [Go.Proofs.YtdglpgepgmdbdaaGreatDoor.Vc.Drew]
set_option linter.unusedSimpArgs false
set_option linter.unusedVariables false
open Go.Proofs.YtdglpgepgmdbdaaGreatDoor.Vc
def RdR (R : RO) : Prop := ∃ l : List Int, l.length = 64 ∧ ∀ i, i < 64 → R ⟨1, i, none⟩ (.int .u32 (l.getD i 0))
theorem RdR.mono {R R' : RO} (h : RdR R) (hle : RO.le R R') : RdR R' := by
 obtain ⟨l, h1, h2⟩ := h
 exact ⟨l, h1, fun i hi => hle _ _ (h2 i hi)⟩
theorem putAtS_all : ∀ (vs cs : List SV) (off : Nat), off + vs.length = cs.length → putAtS off cs vs = cs.take off ++ vs
 | [], cs, off, h => by
  rw [putAtS, List.append_nil, List.take_of_length_le]
  simp at h; omega
 | v :: vs, cs, off, h => by
  simp only [List.length_cons] at h
  rw [putAtS, putAtS_all vs (cs.set off v) (off + 1) (by rw [List.length_set]; omega), List.take_succ_eq_append_getElem (by rw [List.length_set]; omega), List.getElem_set_self, List.append_assoc]
  congr 1
  rw [List.take_set]
  rw [List.set_eq_of_length_le (by rw [List.length_take]; omega)]
theorem put64 {ws : List Int} (hws : ws.length = 64) (zs : List SV) (hz : zs.length = 64) : putAtS 0 zs (List.map SV.val (List.map (fun x => Value.int IntKind.u32 x) ws)) = w32 ws := by
 rw [putAtS_all _ _ _ (by simp; omega), List.take_zero, List.nil_append, List.map_map]
 rfl
theorem w32_8 {S : List Int} (h : S.length = 8) : w32 S = [.val (.int .u32 (S.getD 0 0)), .val (.int .u32 (S.getD 1 0)), .val (.int .u32 (S.getD 2 0)), .val (.int .u32 (S.getD 3 0)), .val (.int .u32 (S.getD 4 0)), .val (.int .u32 (S.getD 5 0)), .val (.int .u32 (S.getD 6 0)), .val (.int .u32 (S.getD 7 0))] := by
 match S, h with
 | [a, b, c, d, e, f, g, i], _ => rfl
theorem vals_one (ws : List Int) : (List.map SV.val (List.map (fun x => Value.int IntKind.u32 x) ws)).all one' = true := by
 rw [List.map_map, List.all_map]; exact List.all_eq_true.2 fun _ _ => rfl
set_option maxRecDepth 10000 in
set_option maxHeartbeats 8000000 in
theorem hAdd (S bs : List Int) (v : Value) (R : RO) (hS : S.length = 8) (hr : RdR R) (h : EncV (fun x : Int => [Value.int .u8 x]) 1 R v bs) (hl : bs.length = 64) :
  CallsS Tryz.prog 110 [.loc 0 0, .val v] [.box (w32 S)] R fun R' cs _ => ∃ S' u t, S'.length = 8 ∧ cs = [.box (w32 S'), .box (w32 u), .box (w32 t)] := by
 have hSc := fun R' (hle : RO.le R R') => hSched bs v R' (h.mono hle) hl
 obtain ⟨a, cap, rfl, hc, _⟩ := h.form
 refine callsTS mix Tryz.func110 comp110 (by simp [Tryz.ntmps110]) rfl rfl ?_; simp only [vc110, rs110]
 rw [tCode_seq]
 refine cutT (fun s => ∃ R1 ws p q env bl, s = ⟨env, bl, R1⟩ ∧ RO.le R R1 ∧ ws.length = 64 ∧ (p = 1 ∧ q = 2 ∨ p = 2 ∧ q = 1) ∧ bl[0]? = some (.box (w32 S)) ∧ bl[p]? = some (.box (w32 ws)) ∧ bl[q]? = some (.box (w32 S)) ∧ env 0 = .loc 0 0 ∧ env 4 = .loc p 0 ∧ env 5 = .loc q 0) ?_ ?_
 ·have s0 : (w32 S)[0]? = some (.val (.int .u32 (S.getD 0 0))) := w32_getD (by omega)
  have s1 : (w32 S)[1]? = some (.val (.int .u32 (S.getD 1 0))) := w32_getD (by omega)
  have s2 : (w32 S)[2]? = some (.val (.int .u32 (S.getD 2 0))) := w32_getD (by omega)
  have s3 : (w32 S)[3]? = some (.val (.int .u32 (S.getD 3 0))) := w32_getD (by omega)
  have s4 : (w32 S)[4]? = some (.val (.int .u32 (S.getD 4 0))) := w32_getD (by omega)
  have s5 : (w32 S)[5]? = some (.val (.int .u32 (S.getD 5 0))) := w32_getD (by omega)
  have s6 : (w32 S)[6]? = some (.val (.int .u32 (S.getD 6 0))) := w32_getD (by omega)
  have s7 : (w32 S)[7]? = some (.val (.int .u32 (S.getD 7 0))) := w32_getD (by omega)
  try simp only [go_sem, ↓reduceIte, nQ1, nQ2, nQ3, nQ4, nQ5, nQ6, reduceCtorEq, s0, s1, s2, s3, s4, s5, s6, s7]
  repeat' apply And.intro
  all_goals (
   refine vcall (hSc R (RO.le_refl _)) ?_
   rintro R1 r hle1 ⟨ws, hws, rfl⟩
   simp only [go_sem, ↓reduceIte, nQ1, nQ2, nQ3, nQ4, nQ5, nQ6, reduceCtorEq, s0, s1, s2, s3, s4, s5, s6, s7, hws, List.length_map]
   repeat' apply And.intro
   all_goals (
    first
     | exact vals_one ws
     | exact ⟨R1, ws, 1, 2, _, _, rfl, hle1, hws, .inl ⟨rfl, rfl⟩, rfl, congrArg (fun l => some (Blk.box l)) (put64 hws _ rfl), congrArg (fun l => some (Blk.box l)) (w32_8 hS).symm, rfl, rfl, rfl⟩
     | exact ⟨R1, ws, 2, 1, _, _, rfl, hle1, hws, .inr ⟨rfl, rfl⟩, rfl, congrArg (fun l => some (Blk.box l)) (put64 hws _ rfl), congrArg (fun l => some (Blk.box l)) (w32_8 hS).symm, rfl, rfl, rfl⟩))
 rintro _ ⟨R1, ws, p, q, env, bl, rfl, hle1, hws, hpq, b0, bp, bq, e0, e4, e5⟩
 obtain ⟨T, hT, hrt⟩ := hr
 obtain ⟨tv, htv⟩ : ∃ tv, tv = T.map fun x => Value.int IntKind.u32 x := ⟨_, rfl⟩
 have htl : tv.length = 64 := by rw [htv, List.length_map]; exact hT
 rw [tCode_seq]
 rw [tCode_seq]
 try simp only [go_sem, ↓reduceIte, nQ1, nQ2, nQ3, nQ4, nQ5, nQ6, reduceCtorEq, e0, e4, e5]
 refine vloadn tv htl (fun j u hj => ?_) ?_
 ·rw [htv, List.getElem?_map] at hj
  obtain ⟨y, hy, rfl⟩ := Option.map_eq_some_iff.1 hj
  have hj64 : j < 64 := by have := (List.getElem?_eq_some_iff.1 hy).1; omega
  have := hle1 _ _ (hrt j hj64)
  rw [List.getD_eq_getElem?_getD, hy] at this
  rcases Nat.eq_zero_or_pos j with rfl | hp
  ·simpa [Addr.add] using this
  ·simpa [Addr.add, Nat.pos_iff_ne_zero.1 hp] using this
 try simp only [go_sem, ↓reduceIte, nQ1, nQ2, nQ3, nQ4, nQ5, nQ6, reduceCtorEq, e0, e4, e5]
 refine vcLoopR (Nat × List Int) (fun x => [(17, .val (.int .i64 x.1)), (16, .val (.agg tv.toArray)), (0, .loc 0 0), (4, .loc 1 0), (5, .loc 2 0)]) (fun x => [.box (w32 S), .box (w32 ws), .box (w32 x.2)]) (fun x _ => x.1 ≤ 64 ∧ x.2.length = 8) (fun x => 64 - x.1) (0, S) [0, p, q] ?_ ?_ ?_ ?_
 ·rcases hpq with ⟨rfl, rfl⟩ | ⟨rfl, rfl⟩
  all_goals (
   try simp only [go_sem, ↓reduceIte, nQ1, nQ2, nQ3, nQ4, nQ5, nQ6, reduceCtorEq, b0, bp, bq, e0, e4, e5]
   simp only [w32_ren]
   (try simp only [go_sem, ↓reduceIte, nQ1, nQ2, nQ3, nQ4, nQ5, nQ6, reduceCtorEq]) <;> (repeat' (first | rfl | trivial | constructor | (intro h; exact absurd rfl h))))
 ·rcases hpq with ⟨rfl, rfl⟩ | ⟨rfl, rfl⟩
  all_goals exact inScope_mk rfl rfl (by simp only [List.all_cons, List.all_nil, scB, w32_ok, Bool.and_self]) rfl rfl rfl
 ·exact ⟨Nat.zero_le _, hS⟩
 rintro ⟨i, t⟩ env2 R2 hle2 hE ⟨hi, ht⟩
 dsimp only at hi ht
 (simp only [go_sem] at hE; obtain ⟨f17, f16, f0, f4, f5⟩ := hE; simp only [go_sem, ↓reduceIte, nQ1, nQ2, nQ3, nQ4, nQ5, nQ6, reduceCtorEq, f17, f16, f0, f4, f5]; dsimp only at *)
 have t0 : (w32 t)[0]? = some (.val (.int .u32 (t.getD 0 0))) := w32_getD (by omega)
 have t1 : (w32 t)[1]? = some (.val (.int .u32 (t.getD 1 0))) := w32_getD (by omega)
 have t2 : (w32 t)[2]? = some (.val (.int .u32 (t.getD 2 0))) := w32_getD (by omega)
 have t3 : (w32 t)[3]? = some (.val (.int .u32 (t.getD 3 0))) := w32_getD (by omega)
 have t4 : (w32 t)[4]? = some (.val (.int .u32 (t.getD 4 0))) := w32_getD (by omega)
 have t5 : (w32 t)[5]? = some (.val (.int .u32 (t.getD 5 0))) := w32_getD (by omega)
 have t6 : (w32 t)[6]? = some (.val (.int .u32 (t.getD 6 0))) := w32_getD (by omega)
 have t7 : (w32 t)[7]? = some (.val (.int .u32 (t.getD 7 0))) := w32_getD (by omega)
 refine ⟨fun hlt => ⟨hlt, ?_⟩, fun hge => ?_⟩
 ·have hti : tv[i]? = some (.int .u32 (T.getD i 0)) := by
   rw [htv, List.getElem?_map, List.getD_eq_getElem?_getD, List.getElem?_eq_getElem (by omega)]; rfl
  have hwi : (w32 ws)[i]? = some (.val (.int .u32 (ws.getD i 0))) := w32_getD (by omega)
  try simp only [go_sem, ↓reduceIte, nQ1, nQ2, nQ3, nQ4, nQ5, nQ6, reduceCtorEq, iQ1, iQ2, iQ3, iQ4, iQ5, iQ6, hti, hwi, t0, t1, t2, t3, t4, t5, t6, t7, f17, f16, f0, f4, f5]
  refine ⟨hlt, ?_⟩
  try simp only [go_sem, ↓reduceIte, nQ1, nQ2, nQ3, nQ4, nQ5, nQ6, reduceCtorEq, iQ1, iQ2, iQ3, iQ4, iQ5, iQ6, hti, hwi, t0, t1, t2, t3, t4, t5, t6, t7, f17, f16, f0, f4, f5]
  refine vcall (hRot _ (-6) (by simp) R2) ?_
  rintro R3 r hlR3 ⟨y1, rfl⟩
  try simp only [go_sem, ↓reduceIte, nQ1, nQ2, nQ3, nQ4, nQ5, nQ6, reduceCtorEq, iQ1, iQ2, iQ3, iQ4, iQ5, iQ6, hti, hwi, t0, t1, t2, t3, t4, t5, t6, t7, f17, f16, f0, f4, f5]
  refine vcall (hRot _ (-11) (by simp) R3) ?_
  rintro R4 r hlR4 ⟨y2, rfl⟩
  try simp only [go_sem, ↓reduceIte, nQ1, nQ2, nQ3, nQ4, nQ5, nQ6, reduceCtorEq, iQ1, iQ2, iQ3, iQ4, iQ5, iQ6, hti, hwi, t0, t1, t2, t3, t4, t5, t6, t7, f17, f16, f0, f4, f5]
  refine vcall (hRot _ (-25) (by simp) R4) ?_
  rintro R5 r hlR5 ⟨y3, rfl⟩
  try simp only [go_sem, ↓reduceIte, nQ1, nQ2, nQ3, nQ4, nQ5, nQ6, reduceCtorEq, iQ1, iQ2, iQ3, iQ4, iQ5, iQ6, hti, hwi, t0, t1, t2, t3, t4, t5, t6, t7, f17, f16, f0, f4, f5]
  refine ⟨_, W.mk _ _, _, W.mk _ _, _, W.mk _ _, _, W.mk _ _, ?_⟩
  try simp only [go_sem, ↓reduceIte, nQ1, nQ2, nQ3, nQ4, nQ5, nQ6, reduceCtorEq, iQ1, iQ2, iQ3, iQ4, iQ5, iQ6, hti, hwi, t0, t1, t2, t3, t4, t5, t6, t7, f17, f16, f0, f4, f5]
  refine vcall (hRot _ (-2) (by simp) R5) ?_
  rintro R6 r hlR6 ⟨z1, rfl⟩
  try simp only [go_sem, ↓reduceIte, nQ1, nQ2, nQ3, nQ4, nQ5, nQ6, reduceCtorEq, iQ1, iQ2, iQ3, iQ4, iQ5, iQ6, hti, hwi, t0, t1, t2, t3, t4, t5, t6, t7, f17, f16, f0, f4, f5]
  refine vcall (hRot _ (-13) (by simp) R6) ?_
  rintro R7 r hlR7 ⟨z2, rfl⟩
  try simp only [go_sem, ↓reduceIte, nQ1, nQ2, nQ3, nQ4, nQ5, nQ6, reduceCtorEq, iQ1, iQ2, iQ3, iQ4, iQ5, iQ6, hti, hwi, t0, t1, t2, t3, t4, t5, t6, t7, f17, f16, f0, f4, f5]
  refine vcall (hRot _ (-22) (by simp) R7) ?_
  rintro R8 r hlR8 ⟨z3, rfl⟩
  try simp only [go_sem, ↓reduceIte, nQ1, nQ2, nQ3, nQ4, nQ5, nQ6, reduceCtorEq, iQ1, iQ2, iQ3, iQ4, iQ5, iQ6, hti, hwi, t0, t1, t2, t3, t4, t5, t6, t7, f17, f16, f0, f4, f5]
  refine ⟨_, W.mk _ _, ?_⟩
  try simp only [go_sem, ↓reduceIte, nQ1, nQ2, nQ3, nQ4, nQ5, nQ6, reduceCtorEq, iQ1, iQ2, iQ3, iQ4, iQ5, iQ6, hti, hwi, t0, t1, t2, t3, t4, t5, t6, t7, f17, f16, f0, f4, f5]
  refine ⟨_, W.mk _ _, _, W.mk _ _, ?_⟩
  try simp only [go_sem, ↓reduceIte, nQ1, nQ2, nQ3, nQ4, nQ5, nQ6, reduceCtorEq, iQ1, iQ2, iQ3, iQ4, iQ5, iQ6, hti, hwi, t0, t1, t2, t3, t4, t5, t6, t7, f17, f16, f0, f4, f5]
  simp only [w32_set, w32_ren]
  refine ⟨by rw [w32_len]; omega, _, W.in64 (by omega), (i + 1, _), [0, 1, 2], by dsimp only; omega, ⟨⟨by norm_cast, rfl, rfl, rfl⟩, rfl, rfl, rfl⟩, ?_, by dsimp only; omega, ?_⟩
  ·exact inScope_mk rfl rfl (by simp only [List.all_cons, List.all_nil, scB, w32_ok, Bool.and_self]) rfl rfl rfl
  ·simp only [List.length_set]
   exact ht
 ·try simp only [go_sem, ↓reduceIte, nQ1, nQ2, nQ3, nQ4, nQ5, nQ6, reduceCtorEq, f17, f16, f0, f4, f5]
  refine vcLoopR (Nat × List Int) (fun x => [(104, .val (.int .i64 x.1)), (0, .loc 0 0), (5, .loc 2 0)]) (fun x => [.box (w32 x.2), .box (w32 ws), .box (w32 t)]) (fun x _ => x.1 ≤ 8 ∧ x.2.length = 8) (fun x => 8 - x.1) (0, S) [0, 1, 2] ?_ ?_ ?_ ?_
  ·try simp only [go_sem, ↓reduceIte, nQ1, nQ2, nQ3, nQ4, nQ5, nQ6, reduceCtorEq, f17, f16, f0, f4, f5]
   simp only [w32_ren]
   (try simp only [go_sem, ↓reduceIte, nQ1, nQ2, nQ3, nQ4, nQ5, nQ6, reduceCtorEq]) <;> (repeat' (first | rfl | trivial | constructor | (intro h; exact absurd rfl h)))
  ·exact inScope_mk rfl rfl (by simp only [List.all_cons, List.all_nil, scB, w32_ok, Bool.and_self]) rfl rfl rfl
  ·exact ⟨Nat.zero_le _, hS⟩
  rintro ⟨j, u⟩ env3 R3 hle3 hE ⟨hj, hu⟩
  dsimp only at hj hu
  (simp only [go_sem] at hE; obtain ⟨g104, g0, g5⟩ := hE; simp only [go_sem, ↓reduceIte, nQ1, nQ2, nQ3, nQ4, nQ5, nQ6, reduceCtorEq, g104, g0, g5]; dsimp only at *)
  refine ⟨fun hlt => ?_, fun hge => ?_⟩
  ·have u1 : (w32 u)[j]? = some (.val (.int .u32 (u.getD j 0))) := w32_getD (by omega)
   have u2 : (w32 t)[j]? = some (.val (.int .u32 (t.getD j 0))) := w32_getD (by omega)
   refine ⟨hlt, ?_⟩
   try simp only [go_sem, ↓reduceIte, nQ1, nQ2, nQ3, nQ4, nQ5, nQ6, reduceCtorEq, iQ1, iQ2, iQ3, iQ4, iQ5, iQ6, u1, u2, g104, g0, g5]
   refine ⟨hlt, _, W.mk _ _, hlt, by rw [w32_len]; omega, _, W.in64 (by omega), ?_⟩
   simp only [w32_set, w32_ren]
   refine ⟨(j + 1, _), [0, 1, 2], by dsimp only; omega, ⟨⟨by norm_cast, rfl, rfl⟩, rfl, rfl, rfl⟩, ?_, by dsimp only; omega, ?_⟩
   ·exact inScope_mk rfl rfl (by simp only [List.all_cons, List.all_nil, scB, w32_ok, Bool.and_self]) rfl rfl rfl
   ·simp only [List.length_set]
    exact hu
  ·exact ⟨u, ws, t, hu, rfl, rfl, rfl⟩
end Go.Proofs.YtdglpgepgmdbdaaGreatDoor
namespace Go.Proofs.YtdglpgepgmdbdaaGreatDoor
set_option linter.unusedSectionVars false
variable [Go.Proofs.YtdglpgepgmdbdaaGreatDoor.Vc.Drew]
set_option linter.unusedSimpArgs false
set_option linter.unusedVariables false
open Go.Proofs.YtdglpgepgmdbdaaGreatDoor.Vc Go.RowKit
def u8s (l : List Int) : List Value := l.map fun x => .int .u8 x
theorem u8s_len (l : List Int) : (u8s l).length = l.length := by unfold u8s; rw [List.length_map]
theorem u8s_app (l m : List Int) : u8s l ++ u8s m = u8s (l ++ m) := by unfold u8s; rw [List.map_append]
theorem u8s_one {l : List Int} : ∀ u ∈ u8s l, u.oneCell' = true := fun u hu => by obtain ⟨x, _, rfl⟩ := List.mem_map.1 hu; rfl
theorem u8s_flat (l : List Int) : (l.map fun x : Int => [Value.int .u8 x]).flatten = u8s l := by
 unfold u8s
 induction l with
 | nil => rfl
 | cons x l ih => rw [List.map_cons, List.flatten_cons, List.map_cons, ih]; rfl
def U8 (R : RO) (v : Value) (l : List Int) : Prop := EncV (fun x : Int => [Value.int .u8 x]) 1 R v l
theorem U8.mono {R R' : RO} {v : Value} {l : List Int} (h : U8 R v l) (hle : RO.le R R') : U8 R' v l := EncV.mono h hle
theorem U8.form {R : RO} {v : Value} {l : List Int} (h : U8 R v l) : ∃ a cap, v = .slice a l.length cap ∧ l.length ≤ cap ∧ (u8s l ≠ [] → ∃ ad, a = some ad ∧ ∀ i u, (u8s l)[i]? = some u → R (ad.add i) u) := by
 obtain ⟨a, cap, rfl, hc, hf⟩ := EncV.form h
 refine ⟨a, cap, rfl, hc, fun hne => ?_⟩
 have hpos : 0 < l.length := by
  rcases Nat.eq_zero_or_pos l.length with h0 | h0
  ·exact absurd (by rw [List.eq_nil_of_length_eq_zero h0]; rfl) hne
  ·exact h0
 obtain ⟨ad, had, _⟩ := hf 0 hpos
 refine ⟨ad, had, fun i u hi => ?_⟩
 have hil : i < l.length := by
  have := (List.getElem?_eq_some_iff.1 hi).1
  rwa [u8s_len] at this
 obtain ⟨ad', had', hR⟩ := hf i hil
 rw [had] at had'
 cases had'
 unfold u8s at hi
 rw [List.getElem?_map, List.getElem?_eq_getElem hil] at hi
 simp only [Option.map_some, Option.some.injEq] at hi
 subst hi
 have := hR 0 _ rfl
 rwa [Addr.add_zero', Nat.mul_one] at this
theorem U8.row {R : RO} {b cap : Nat} {l : List Int} (h : RowIn R b (u8s l)) (hc : l.length ≤ cap) (hl : l.length ≤ 1000000000) : U8 R (.slice (some ⟨b, 0, none⟩) l.length cap) l :=
 RowIn.enc (fun _ => rfl) (by decide) (by rw [u8s_flat]; exact h) (by rw [u8s_flat, u8s_len, Nat.mul_one]; exact hc) hl
theorem U8.part {R : RO} {b o n cap : Nat} {l : List Int} (h : RowIn R b (u8s l)) (ho : o + n ≤ l.length) (hc : n ≤ cap) (hl : n ≤ 1000000000) : U8 R (.slice (some ⟨b, o, none⟩) n cap) ((l.drop o).take n) := by
 have hln : ((l.drop o).take n).length = n := by rw [List.length_take, List.length_drop]; omega
 refine ⟨⟨some ⟨b, o, none⟩, cap, by rw [List.length_map, hln], by rw [List.length_map, hln]; exact hc, fun i us hi => ?_⟩, by rw [hln]; exact hl⟩
 rw [List.getElem?_map] at hi
 obtain ⟨x, hx, rfl⟩ := Option.map_eq_some_iff.1 hi
 refine ⟨rfl, ⟨b, o, none⟩, rfl, fun j u hj => ?_⟩
 cases j with
 | succ j => simp at hj
 | zero =>
  simp only [List.getElem?_cons_zero, Option.some.injEq] at hj
  subst hj
  have hx' : l[o + i]? = some x := by
   rw [List.getElem?_take] at hx
   split at hx
   ·rwa [List.getElem?_drop] at hx
   ·cases hx
  have := h (o + i) (.int .u8 x) (by unfold u8s; rw [List.getElem?_map, hx']; rfl)
  rw [Addr.add_zero', Nat.mul_one]
  simpa [Addr.add_lit] using this
theorem hBlocks (a : Option Addr) (n c : Nat) (R : RO) : CallsS Tryz.prog 109 [.val (.slice a n c)] [] R fun R' bs r => R' = R ∧ bs = [.box [.val (.slice a n c)]] ∧ r = .fn 128 [.l 0 0] := by
 refine callsTS mix Tryz.func109 comp109 (by simp [Tryz.ntmps109]) rfl rfl ?_; simp only [go_sem, ↓reduceIte, nQ1, nQ2, nQ3, nQ4, nQ5, nQ6, reduceCtorEq, vc109, rs109]
 first | rfl | exact ⟨rfl, rfl⟩ | exact ⟨⟨rfl, rfl⟩, rfl⟩
noncomputable def b128 : Code := Tryz.f128.body.getD .skip
noncomputable def b128R : Code := cR (cR (cR (cR (cR (cR b128)))))
noncomputable def b128L : Code := cL (cL b128R)
def v128R : VCode := vR (vR (vR (vR (vR (vR vc128)))))
def v128L : VCode := vL (vL v128R)
theorem b128_0 : comp Tryz.prog 53 (cL b128) = some (vL vc128) := by kernel_rfl
theorem b128_1 : comp Tryz.prog 53 (cL (cR b128)) = some (vL (vR vc128)) := by kernel_rfl
theorem b128_2 : comp Tryz.prog 53 (cL (cR (cR b128))) = some (vL (vR (vR vc128))) := by kernel_rfl
theorem b128_3 : comp Tryz.prog 53 (cL (cR (cR (cR b128)))) = some (vL (vR (vR (vR vc128)))) := by kernel_rfl
theorem b128_4 : comp Tryz.prog 53 (cL (cR (cR (cR (cR b128))))) = some (vL (vR (vR (vR (vR vc128))))) := by kernel_rfl
theorem b128_5 : comp Tryz.prog 53 (cL (cR (cR (cR (cR (cR b128)))))) = some (vL (vR (vR (vR (vR (vR vc128)))))) := by kernel_rfl
theorem b128_A : comp Tryz.prog 53 (cL b128L) = some (vL v128L) := by kernel_rfl
theorem b128_B : comp Tryz.prog 53 (cR (cR b128L)) = some (vR (vR v128L)) := by kernel_rfl
noncomputable def ops128 : Array Oper := rOps (cL (cL (cL (cR b128L))))
theorem ops128_eq : cL (cL (cL (cR b128L))) = .region (rId (cL (cL (cL (cR b128L))))) ops128 false := by kernel_rfl
theorem ops128_sp : List.range ops128.size = [0, 1, 2] ++ 3 :: [4] := by kernel_rfl
theorem ops128_nd : ops128.all noDefer = true := by kernel_rfl
theorem ops128_c1 : compSteps Tryz.prog true 53 ops128 [0, 1, 2] = some ((vOps (vL (vL (vL (vR v128L))))).take 3) := by kernel_rfl
theorem ops128_c2 : compSteps Tryz.prog true 53 ops128 [4] = some ((vOps (vL (vL (vL (vR v128L))))).drop 4) := by kernel_rfl
theorem ops128_y : ∃ at' ty pos after, ops128[3]? = some ⟨some 51, .call ⟨.value (.tmp 48), #[.tmp 50], at'⟩, ty, pos, after, none⟩ := ⟨_, _, _, _, rfl⟩
theorem dead_all {bs : List Blk} (h : ∀ b ∈ bs, b = .dead) : ∀ (j : Nat) (b : Blk), bs[j]? = some b → b = .dead := fun j b hj => h b (List.mem_of_getElem? hj)
set_option maxHeartbeats 4000000 in
theorem itBlocks_6 {n l m : Nat} {wz : World} {J : Nat → World → Prop} {R : RO} {Q : Exit → Act → World → Prop} (hQ : Q = bodyPost Tryz.prog Tryz.f128 (fun e W' => (∃ v, e = .returned v) ∧ J m W'))
  (hst : ∀ k W W', J k W → Ext W W' → J k W') (hJ0 : J 0 wz) (hY : ItY Tryz.prog n l wz R m (fun _ R' v => ∃ bs, bs.length = 64 ∧ U8 R' v bs) J) (X : Ctx) (hX : X = { w0 := wz, R0 := R, B := R, n := 53 })
  (ms : List Int) (hms : ms.length = 64 * m) (hm : m ≤ 2000) (R4 : RO) (hle4 : RO.le R R4) (env : Nat → SV) (e3 : env 3 = .sl 0 ms.length) (e0 : env 0 = .val (.func (.yield l) #[] #[])) :
  SemI Tryz.prog none n X [] b128R ⟨env, [.row 5 1 (u8s ms)], R4⟩ Q := by
 refine sem_frzD 0 rfl ?_
 intro b cap R5 hle5 hrow hcap
 rw [u8s_len, Nat.mul_one] at hcap
 have hle : RO.le R R5 := RO.le_trans hle4 hle5
 refine sem_anew (dead_all (by simp)) ?_
 intro w hkw hfc
 have hok : ItOK R R5 wz w := ⟨by rw [hX] at hkw; exact hkw.size, fun a v ha => by
  obtain ⟨g1, g2⟩ := hfc a v ha
  rw [hX] at g2
  exact ⟨g1, g2.imp id fun h => ⟨h.1.resolve_right id, h.2⟩⟩⟩
 have hJw : J 0 w := hst _ _ _ hJ0 (by rw [hX] at hkw; exact hkw.below)
 show SemI _ none n (Anew X _ w) [] (.block 6 (.loop b128L)) _ Q
 refine sem_block ?_
 obtain ⟨Q6, hQ6⟩ : ∃ Q6, Q6 = Exit.inBlock 6 Q := ⟨_, rfl⟩
 rw [← hQ6]
 refine iter_loop (N := 53) (R := R5) (D := [.dead]) Nat (fun k env W => k ≤ m ∧ J k W ∧ ItOK R R5 wz W ∧ env 0 = .val (.func (.yield l) #[] #[]) ∧ ∃ p cp, env 3 = .val (.slice p (64 * (m - k)) cp) ∧ 64 * (m - k) ≤ cp ∧ (k < m → p = some ⟨b, 64 * k, none⟩)) (fun k => m - k) 0 ?_ ?_ rfl ?_
 ·refine ⟨Nat.zero_le _, hJw, hok, ?_, some ⟨b, 0, none⟩, cap, ?_, by omega, fun _ => rfl⟩
  ·show unsl 0 b cap (env 0) = _
   rw [e0]; rfl
  ·show unsl 0 b cap (env 3) = _
   rw [e3, hms]; rfl
 ·rw [Anew, hX]
 rintro k env W ⟨hk, hJ, hok, f0, p, cp, f3, hcp, hp⟩
 obtain ⟨Q7, hQ7⟩ : ∃ Q7, Q7 = Exit.then (fun a' w' => ∃ y' β κ env' tm W', a' = (⟨tm, []⟩ : Act) ∧ m - y' < m - k ∧ Rel { w0 := W', R0 := R5, B := R5, n := 53 } β κ ⟨env', [.dead], R5⟩ tm w' ∧ (y' ≤ m ∧ J y' W' ∧ ItOK R R5 wz W' ∧ env' 0 = .val (.func (.yield l) #[] #[]) ∧ ∃ p cp, env' 3 = .val (.slice p (64 * (m - y')) cp) ∧ 64 * (m - y') ≤ cp ∧ (y' < m → p = some ⟨b, 64 * y', none⟩))) Q6 := ⟨_, rfl⟩
 rw [← hQ7]
 show SemI _ none n _ [] (.seq (cL b128L) (.seq (.block 7 (.seq (cL (cL (cL (cR b128L)))) (.cond (.tmp 52) .ret .skip))) (cR (cR b128L)))) _ _
 refine sem_seq mix rfl b128_A ?_
 simp only [go_sem, ↓reduceIte, nQ1, nQ2, nQ3, nQ4, nQ5, nQ6, reduceCtorEq, vL, vR, v128L, v128R, vc128, f0, f3]
 refine ⟨fun h1 => ?_, fun h1 => ?_⟩
 ·have hkm : k < m := by omega
  obtain rfl := hp hkm
  rw [ops128_eq]
  refine sem_seqS ?_
  refine sem_block ?_
  refine sem_seqS ?_
  refine sem_yield (l := l) (N := 53) rfl [0, 1, 2] 3 [4] ops128_sp ops128_nd ops128_c1 ops128_c2 ops128_y (by decide) ?_
  simp only [go_sem, ↓reduceIte, nQ1, nQ2, nQ3, nQ4, nQ5, nQ6, reduceCtorEq, vL, vR, v128L, v128R, vc128, vOps, List.take, List.drop, f0, f3]
  have hv : SV.val (Value.slice (if cp = 0 then some ⟨b, 64 * k, none⟩ else some ⟨b, 64 * k + 0, none⟩) (64 - 0) (cp - 0)) = .val (.slice (some ⟨b, 64 * k, none⟩) 64 cp) := by split <;> rfl
  refine ⟨0, 64, rfl, rfl, by omega, by omega, _, hv, dead_all (by simp), fun w1 hk1 hf1 => ?_⟩
  have hJ1 := hst k W w1 hJ hk1.below
  have hok1 := hok.ext hk1.below
  obtain ⟨gf, tmps, asg, bd, hrun, hround⟩ := hY k w1 R5 (.slice (some ⟨b, 64 * k, none⟩) 64 cp) hkm hJ1 hok1.1 hle hok1.2 ⟨(ms.drop (64 * k)).take 64, by rw [List.length_take, List.length_drop]; omega, U8.part hrow (by omega) (by omega) (by decide)⟩
  refine ⟨gf, tmps, asg, bd, hrun, RoundIn.mono hround ?_⟩
  rintro e W' ⟨rfl, hJ2, hsz, hbl⟩
  refine ⟨rfl, fun u x hu => by rw [World.cell?_of_block (hbl u x hu)]; exact (hok1.2 u x hu).1, ?_⟩
  have hok2 := hok1.next hsz hbl
  intro β κ tm w2 hr
  refine sem_cond (t := false) ?_ (fun e => by cases e) (fun _ => ?_) β κ tm w2 hr
  ·simp only [go_sem, ↓reduceIte, nQ1, nQ2, nQ3, nQ4, nQ5, nQ6, reduceCtorEq, f0, f3]
  refine sem_skip ?_
  intro β κ tm w2 hr
  refine sem_vc mix rfl b128_B ?_ β κ tm w2 hr
  simp only [go_sem, ↓reduceIte, nQ1, nQ2, nQ3, nQ4, nQ5, nQ6, reduceCtorEq, vL, vR, v128L, v128R, vc128, f0, f3]
  refine ⟨64, 64 * (m - k), rfl, by omega, by omega, by omega, ?_⟩
  intro β κ tm w3 hr
  rw [hQ7]
  refine ⟨k + 1, β, κ, _, tm, W', rfl, by omega, hr, by omega, hJ2, hok2, ?_, ?_⟩
  ·simp only [go_sem, ↓reduceIte, nQ1, nQ2, nQ3, nQ4, nQ5, nQ6, reduceCtorEq, f0, f3]
  ·refine ⟨if cp = 64 then some ⟨b, 64 * k, none⟩ else some ⟨b, 64 * k + 64, none⟩, cp - 64, ?_, by omega, fun h => ?_⟩
   ·simp only [go_sem, ↓reduceIte, nQ1, nQ2, nQ3, nQ4, nQ5, nQ6, reduceCtorEq, f0, f3, show 64 * (m - (k + 1)) = 64 * (m - k) - 64 by omega]
    try (split <;> rfl)
   ·rw [if_neg (by omega), show 64 * (k + 1) = 64 * k + 64 by omega]
 ·have hkm : k = m := by omega
  subst hkm
  intro β κ tm w2 hr
  rw [hQ7]
  show Q6 (.exit 6) _ _
  rw [hQ6]
  show Q .normal _ _
  subst hQ
  exact ⟨rfl, _, results_run (us := []) rfl, ⟨_, rfl⟩, hst _ _ _ hJ hr.below.below⟩
section
variable {n l m : Nat} {wz : World} {J : Nat → World → Prop} {R : RO} {Q : Exit → Act → World → Prop}
set_option maxHeartbeats 4000000 in
theorem itBlocks_5 (hQ : Q = bodyPost Tryz.prog Tryz.f128 (fun e W' => (∃ v, e = .returned v) ∧ J m W'))
  (hst : ∀ k W W', J k W → Ext W W' → J k W') (hJ0 : J 0 wz) (hY : ItY Tryz.prog n l wz R m (fun _ R' v => ∃ bs, bs.length = 64 ∧ U8 R' v bs) J) (X : Ctx) (hX : X = { w0 := wz, R0 := R, B := R, n := 53 })
  (ms : List Int) (hms : ms.length + 8 = 64 * m) (hm : m ≤ 2000) (R4 : RO) (hle4 : RO.le R R4) (S : Int) (env : Nat → SV) (e3 : env 3 = .sl 0 ms.length) (e6 : env 6 = .val (.int .u64 S)) (e0 : env 0 = .val (.func (.yield l) #[] #[])) :
  SemI Tryz.prog none n X [] (cR (cR (cR (cR (cR b128))))) ⟨env, [.row 5 1 (u8s ms)], R4⟩ Q := by
 have hXn : X.n = 53 := by rw [hX]
 have hXk : X.keep = [] := by rw [hX]
 have hXg : X.ng = 0 := by rw [hX]
 show SemI _ none n X [] (.seq (cL (cR (cR (cR (cR (cR b128)))))) b128R) _ Q
 refine sem_seq mix hXk (by rw [hXn]; exact b128_5) ?_
 rw [hXg]
 simp only [go_sem, ↓reduceIte, nQ1, nQ2, nQ3, nQ4, nQ5, nQ6, reduceCtorEq, vL, vR, vc128, e3, e6, e0]
 refine vcLoopR (Nat × List Int) (fun y => [(7, .val (.int .i64 (56 - 8 * y.1))), (3, .sl 0 y.2.length), (6, .val (.int .u64 S)), (0, .val (.func (.yield l) #[] #[]))]) (fun y => [.row 5 1 (u8s y.2)]) (fun y _ => y.1 ≤ 8 ∧ y.2.length + 8 = 64 * m + y.1) (fun y => 8 - y.1) (0, ms) [0] ?_ ?_ ?_ ?_
 ·(try simp only [go_sem, ↓reduceIte, nQ1, nQ2, nQ3, nQ4, nQ5, nQ6, reduceCtorEq]) <;> (repeat' (first | rfl | trivial | constructor | (intro h; exact absurd rfl h)))
 ·exact inScope_mk rfl rfl rfl rfl rfl rfl
 ·exact ⟨Nat.zero_le _, by dsimp only; omega⟩
 rintro ⟨j, us⟩ env R5 hle5 hE ⟨hj, hu⟩
 dsimp only at hj hu
 (simp only [go_sem] at hE; obtain ⟨f7, f3, f6, f0⟩ := hE; simp only [go_sem, ↓reduceIte, nQ1, nQ2, nQ3, nQ4, nQ5, nQ6, reduceCtorEq, f7, f3, f6, f0]; dsimp only at *)
 refine ⟨fun h1 => ?_, fun h1 => ?_⟩
 ·have hln : (u8s us).length = us.length * 1 := by rw [u8s_len, Nat.mul_one]
  obtain ⟨r, hr⟩ : ∃ r, W .u8 (S.fdiv (2 ^ min (56 - 8 * (j : Int)).toNat 64)) r := ⟨_, W.mk _ _⟩
  refine ⟨by omega, r, hr, vappO (u8s us) rfl hln (by omega) ?_⟩
  try simp only [go_sem, ↓reduceIte, nQ1, nQ2, nQ3, nQ4, nQ5, nQ6, reduceCtorEq, iQ1, iQ2, iQ3, iQ4, iQ5, iQ6, f7, f3, f6, f0]
  refine ⟨_, W.in64 (by omega), (j + 1, us ++ [r]), [2], by dsimp only; omega, ?_, by decide, by dsimp only; omega, ?_⟩
  rotate_left
  ·rw [List.length_append]
   simp only [List.length_cons, List.length_nil]
   omega
  ·dsimp only
   refine ⟨⟨?_, ?_⟩, ?_⟩
   ·rw [show (56 : Int) - 8 * j - 8 = 56 - 8 * ((j + 1 : Nat) : Int) by omega]
   ·rw [List.length_append]; rfl
   ·rw [← u8s_app]; rfl
 ·have hj8 : j = 8 := by omega
  subst hj8
  exact itBlocks_6 hQ hst hJ0 hY X hX us (by omega) hm R5 (RO.le_trans hle4 hle5) _ (by simp only [go_sem, ↓reduceIte, nQ1, nQ2, nQ3, nQ4, nQ5, nQ6, reduceCtorEq, f7, f3, f6, f0]) (by simp only [go_sem, ↓reduceIte, nQ1, nQ2, nQ3, nQ4, nQ5, nQ6, reduceCtorEq, f7, f3, f6, f0])
set_option maxHeartbeats 4000000 in
theorem itBlocks_4 (hQ : Q = bodyPost Tryz.prog Tryz.f128 (fun e W' => (∃ v, e = .returned v) ∧ J m W'))
  (hst : ∀ k W W', J k W → Ext W W' → J k W') (hJ0 : J 0 wz) (hY : ItY Tryz.prog n l wz R m (fun _ R' v => ∃ bs, bs.length = 64 ∧ U8 R' v bs) J) (X : Ctx) (hX : X = { w0 := wz, R0 := R, B := R, n := 53 })
  (ms : List Int) (hms : ms.length + 8 ≤ 64 * m ∧ 64 * m < ms.length + 72) (hm : m ≤ 2000) (R4 : RO) (hle4 : RO.le R R4) (S : Int) (env : Nat → SV) (e3 : env 3 = .sl 0 ms.length) (e6 : env 6 = .val (.int .u64 S)) (e0 : env 0 = .val (.func (.yield l) #[] #[])) :
  SemI Tryz.prog none n X [] (cR (cR (cR (cR b128)))) ⟨env, [.row 5 1 (u8s ms)], R4⟩ Q := by
 have hXn : X.n = 53 := by rw [hX]
 have hXk : X.keep = [] := by rw [hX]
 have hXg : X.ng = 0 := by rw [hX]
 show SemI _ none n X [] (.seq (cL (cR (cR (cR (cR b128))))) (cR (cR (cR (cR (cR b128)))))) _ Q
 refine sem_seq mix hXk (by rw [hXn]; exact b128_4) ?_
 rw [hXg]
 simp only [go_sem, ↓reduceIte, nQ1, nQ2, nQ3, nQ4, nQ5, nQ6, reduceCtorEq, vL, vR, vc128, e3, e6, e0]
 refine vcLoopR (List Int) (fun y => [(3, .sl 0 y.length), (6, .val (.int .u64 S)), (0, .val (.func (.yield l) #[] #[]))]) (fun y => [.row 5 1 (u8s y)]) (fun y _ => y.length + 8 ≤ 64 * m ∧ 64 * m < y.length + 72) (fun y => 64 * m - y.length) ms [0] ?_ ?_ ?_ ?_
 ·(try simp only [go_sem, ↓reduceIte, nQ1, nQ2, nQ3, nQ4, nQ5, nQ6, reduceCtorEq]) <;> (repeat' (first | rfl | trivial | constructor | (intro h; exact absurd rfl h)))
 ·exact inScope_mk rfl rfl rfl rfl rfl rfl
 ·exact hms
 rintro us env R5 hle5 hE hu
 (simp only [go_sem] at hE; obtain ⟨f3, f6, f0⟩ := hE; simp only [go_sem, ↓reduceIte, nQ1, nQ2, nQ3, nQ4, nQ5, nQ6, reduceCtorEq, f3, f6, f0]; dsimp only at *)
 have htm : ((us.length : Nat) : Int).tmod 64 = us.length % 64 := Int.tmod_eq_emod_of_nonneg (by omega)
 have hln : (u8s us).length = us.length * 1 := by rw [u8s_len, Nat.mul_one]
 refine ⟨by decide, fun h1 => ?_, fun h1 => ?_⟩
 ·rw [htm] at h1
  refine vappO (u8s us) rfl hln (by omega) ?_
  try simp only [go_sem, ↓reduceIte, nQ1, nQ2, nQ3, nQ4, nQ5, nQ6, reduceCtorEq, iQ1, iQ2, iQ3, iQ4, iQ5, iQ6, f3, f6, f0]
  refine ⟨us ++ [0], [2], ?_, ?_, by decide, ?_⟩
  ·rw [List.length_append]
   simp only [List.length_cons, List.length_nil]
   omega
  ·refine ⟨?_, ?_⟩
   ·rw [List.length_append]; rfl
   ·rw [← u8s_app]; rfl
  ·rw [List.length_append]
   simp only [List.length_cons, List.length_nil]
   omega
 ·rw [htm] at h1
  exact itBlocks_5 hQ hst hJ0 hY X hX us (by omega) hm R5 (RO.le_trans hle4 hle5) S _ (by simp only [go_sem, ↓reduceIte, nQ1, nQ2, nQ3, nQ4, nQ5, nQ6, reduceCtorEq, f3, f6, f0]) (by simp only [go_sem, ↓reduceIte, nQ1, nQ2, nQ3, nQ4, nQ5, nQ6, reduceCtorEq, f3, f6, f0]) (by simp only [go_sem, ↓reduceIte, nQ1, nQ2, nQ3, nQ4, nQ5, nQ6, reduceCtorEq, f3, f6, f0])
set_option maxHeartbeats 4000000 in
theorem itBlocks_2 (hQ : Q = bodyPost Tryz.prog Tryz.f128 (fun e W' => (∃ v, e = .returned v) ∧ J m W'))
  (hst : ∀ k W W', J k W → Ext W W' → J k W') (hJ0 : J 0 wz) (hY : ItY Tryz.prog n l wz R m (fun _ R' v => ∃ bs, bs.length = 64 ∧ U8 R' v bs) J) (X : Ctx) (hX : X = { w0 := wz, R0 := R, B := R, n := 53 })
  (ms : List Int) (hms : ms.length + 9 ≤ 64 * m ∧ 64 * m < ms.length + 73) (hm : m ≤ 2000) (R4 : RO) (hle4 : RO.le R R4) (env : Nat → SV) (e3 : env 3 = .sl 0 ms.length) (e0 : env 0 = .val (.func (.yield l) #[] #[])) :
  SemI Tryz.prog none n X [] (cR (cR b128)) ⟨env, [.row 5 1 (u8s ms)], R4⟩ Q := by
 have hXn : X.n = 53 := by rw [hX]
 have hXk : X.keep = [] := by rw [hX]
 have hXg : X.ng = 0 := by rw [hX]
 show SemI _ none n X [] (.seq (cL (cR (cR b128))) (cR (cR (cR b128)))) _ Q
 refine sem_seq mix hXk (by rw [hXn]; exact b128_2) ?_
 rw [hXg]
 simp only [go_sem, ↓reduceIte, nQ1, nQ2, nQ3, nQ4, nQ5, nQ6, reduceCtorEq, vL, vR, vc128, e3, e0]
 refine ⟨_, W.mk _ _, _, W.mk _ _, ?_⟩
 show SemI _ none n X [] (.seq (cL (cR (cR (cR b128)))) (cR (cR (cR (cR b128))))) _ Q
 refine sem_seq mix hXk (by rw [hXn]; exact b128_3) ?_
 rw [hXg]
 simp only [go_sem, ↓reduceIte, nQ1, nQ2, nQ3, nQ4, nQ5, nQ6, reduceCtorEq, vL, vR, vc128, e3, e0]
 have hln : (u8s ms).length = ms.length * 1 := by rw [u8s_len, Nat.mul_one]
 refine vappO (u8s ms) rfl hln (by omega) ?_
 try simp only [go_sem, ↓reduceIte, nQ1, nQ2, nQ3, nQ4, nQ5, nQ6, reduceCtorEq, iQ1, iQ2, iQ3, iQ4, iQ5, iQ6, e3, e0]
 refine sem_scrub [2] [(3, .sl 0 (ms ++ [128]).length), (6, .val (.int .u64 (IntKind.u64.wrap (8 * IntKind.u64.wrap ms.length)))), (0, .val (.func (.yield l) #[] #[]))] [.row 5 1 (u8s (ms ++ [128]))] ?_ (by rw [hXg]; exact inScope_mk rfl rfl rfl rfl rfl rfl) ?_
 ·rw [List.length_append, ← u8s_app]
  try simp only [go_sem, ↓reduceIte, nQ1, nQ2, nQ3, nQ4, nQ5, nQ6, reduceCtorEq, e3, e0]
  try trivial
 intro env' hE
 exact itBlocks_4 hQ hst hJ0 hY X hX (ms ++ [128]) (by rw [List.length_append]; simp only [List.length_cons, List.length_nil]; omega) hm R4 hle4 _ env' (hE _ (.head _)) (hE _ (.tail _ (.head _))) (hE _ (.tail _ (.tail _ (.head _))))
set_option maxHeartbeats 4000000 in
theorem itBlocks (xs ys : List Int) (p0 p1 pv : Value) (R : RO) (b0 : Nat) (hb : R ⟨b0, 0, none⟩ pv) (hp : EncV (fun x : Value => [x]) 1 R pv [p0, p1]) (h0 : U8 R p0 xs) (h1 : U8 R p1 ys) (hx : xs ≠ []) (hl : xs.length + ys.length ≤ 65536) :
  IterC Tryz.prog 128 [.pointer (some ⟨b0, 0, none⟩)] R ((xs.length + ys.length + 72) / 64) (fun _ R' v => ∃ bs, bs.length = 64 ∧ U8 R' v bs) := by
 intro n l wz J hR hst hJ0 hY
 have hpl := hp.2
 obtain ⟨pa, pc, rfl, _, hpf⟩ := EncV.form hp
 obtain ⟨a0, c0, rfl, hc0, hf0⟩ := h0.form
 obtain ⟨a1, c1, rfl, hc1, hf1⟩ := h1.form
 have hxp : 0 < xs.length := List.length_pos_iff.2 hx
 refine callsIn_of_wp (c := b128) Tryz.func128 rfl trivial ?_
 obtain ⟨Q, hQ⟩ : ∃ Q, Q = bodyPost Tryz.prog Tryz.f128 (fun e W' => (∃ v, e = .returned v) ∧ J ((xs.length + ys.length + 72) / 64) W') := ⟨_, rfl⟩
 rw [← hQ]
 have hst0 := rel_startR (n := 53) (args := [.func (.yield l) #[] #[], .pointer (some ⟨b0, 0, none⟩)]) (by simp) hR
 obtain ⟨X, hX⟩ : ∃ X : Ctx, X = { w0 := wz, R0 := R, B := R, n := 53 } := ⟨_, rfl⟩
 rw [← hX] at hst0
 have hXn : X.n = 53 := by rw [hX]
 have hXk : X.keep = [] := by rw [hX]
 have hXg : X.ng = 0 := by rw [hX]
 suffices hS : SemI Tryz.prog none n X [] b128 ⟨envOf [.func (.yield l) #[] #[], .pointer (some ⟨b0, 0, none⟩)], [], R⟩ Q by
  exact hS _ _ _ _ hst0
 show SemI Tryz.prog none n X [] (.seq (cL b128) (cR b128)) _ Q
 refine sem_seq mix hXk (by rw [hXn]; exact b128_0) ?_
 rw [hXg]
 simp only [go_sem, ↓reduceIte, nQ1, nQ2, nQ3, nQ4, nQ5, nQ6, reduceCtorEq, vL, vR, vc128]
 show SemI Tryz.prog none n X [] (.seq (cL (cR b128)) (cR (cR b128))) _ Q
 refine sem_seq mix hXk (by rw [hXn]; exact b128_1) ?_
 rw [hXg]
 simp only [go_sem, ↓reduceIte, nQ1, nQ2, nQ3, nQ4, nQ5, nQ6, reduceCtorEq, vL, vR, vc128]
 refine vload _ hb ?_
 try simp only [go_sem, ↓reduceIte, nQ1, nQ2, nQ3, nQ4, nQ5, nQ6, reduceCtorEq]
 refine vcLoopR (Nat × List Int) (fun y => [(10, .val (.int .i64 y.1)), (8, .val (.slice pa 2 pc)), (9, .val (.int .i64 2)), (3, gs 0 y.2.length), (0, .val (.func (.yield l) #[] #[]))]) (fun y => [gb 5 1 (u8s y.2)]) (fun y _ => y.1 = 0 ∧ y.2 = [] ∨ y.1 = 1 ∧ y.2 = xs ∨ y.1 = 2 ∧ y.2 = xs ++ ys) (fun y => 2 - y.1) (0, []) [0] ?_ ?_ ?_ ?_
 ·show Matches [0] [(10, .val (.int .i64 0)), (8, .val (.slice pa 2 pc)), (9, .val (.int .i64 2)), (3, .val (.slice none 0 0)), (0, .val (.func (.yield l) #[] #[]))] [.dead] _
  try simp only [go_sem, ↓reduceIte, nQ1, nQ2, nQ3, nQ4, nQ5, nQ6, reduceCtorEq]
  try trivial
 ·exact inScope_mk rfl rfl rfl rfl rfl rfl
 ·exact .inl ⟨rfl, rfl⟩
 have hne : u8s xs ≠ [] := fun h => by have := congrArg List.length h; rw [u8s_len, List.length_nil] at this; omega
 have gxs : gs 0 xs.length = .sl 0 xs.length := gs_pos (by omega)
 have gxy : gs 0 (xs ++ ys).length = .sl 0 (xs ++ ys).length := gs_pos (by rw [List.length_append]; omega)
 have gbs : gb 5 1 (u8s xs) = .row 5 1 (u8s xs) := gb_ne hne
 have gbxy : gb 5 1 (u8s (xs ++ ys)) = .row 5 1 (u8s (xs ++ ys)) := gb_ne (by rw [← u8s_app]; simp [hne])
 rintro ⟨i, ms⟩ env R1 hle1 hE hi
 dsimp only at hi
 (simp only [go_sem] at hE; obtain ⟨e10, e8, e9, e3, e0⟩ := hE; simp only [go_sem, ↓reduceIte, nQ1, nQ2, nQ3, nQ4, nQ5, nQ6, reduceCtorEq, e10, e8, e9, e3, e0]; dsimp only at *)
 rcases hi with ⟨rfl, rfl⟩ | ⟨rfl, hms⟩ | ⟨rfl, hms⟩
 ·rw [List.length_nil, gs_zero] at e3
  refine ⟨fun _ => ⟨by decide, ?_⟩, fun h => absurd (by decide) h⟩
  obtain ⟨ad, had, hR0⟩ := hpf 0 (by simp)
  refine vat ad had ?_
  try simp only [go_sem, ↓reduceIte, nQ1, nQ2, nQ3, nQ4, nQ5, nQ6, reduceCtorEq]
  refine vload (.slice a0 xs.length c0) (hle1 _ _ (by have := hR0 0 _ rfl; rwa [Addr.add_zero'] at this)) ?_
  try simp only [go_sem, ↓reduceIte, nQ1, nQ2, nQ3, nQ4, nQ5, nQ6, reduceCtorEq, e10, e8, e9, e3, e0]
  refine vsrc (u8s xs) (by rw [u8s_len, Nat.mul_one]) u8s_one (fun hne => by obtain ⟨ad, h, hf⟩ := hf0 hne; exact ⟨ad, h, fun i u hi => hle1 _ _ (hf i u hi)⟩) ?_
  try simp only [go_sem, ↓reduceIte, nQ1, nQ2, nQ3, nQ4, nQ5, nQ6, reduceCtorEq, iQ1, iQ2, iQ3, iQ4, iQ5, iQ6, e10, e8, e9, e3, e0]
  refine ⟨fun h => absurd h (by omega), fun _ => ⟨by omega, ?_⟩⟩
  try simp only [go_sem, ↓reduceIte, nQ1, nQ2, nQ3, nQ4, nQ5, nQ6, reduceCtorEq, iQ1, iQ2, iQ3, iQ4, iQ5, iQ6, e10, e8, e9, e3, e0]
  refine ⟨_, W.in64 (by omega), (1, xs), [1], by dsimp only; omega, ?_, by decide, .inr (.inl ⟨rfl, rfl⟩)⟩
  exact ⟨⟨rfl, (gs_pos (show xs.length ≠ 0 by omega)).symm⟩, fun _ => rfl⟩
 ·subst hms
  rw [gxs] at e3
  refine ⟨fun _ => ⟨by decide, ?_⟩, fun h => absurd (by decide) h⟩
  obtain ⟨ad, had, hR0⟩ := hpf 1 (by simp)
  refine vat ad had ?_
  try simp only [go_sem, ↓reduceIte, nQ1, nQ2, nQ3, nQ4, nQ5, nQ6, reduceCtorEq]
  refine vload (.slice a1 ys.length c1) (hle1 _ _ (by have := hR0 0 _ rfl; rwa [Addr.add_zero'] at this)) ?_
  try simp only [go_sem, ↓reduceIte, nQ1, nQ2, nQ3, nQ4, nQ5, nQ6, reduceCtorEq, e10, e8, e9, e3, e0]
  refine vsrc (u8s ys) (by rw [u8s_len, Nat.mul_one]) u8s_one (fun hne => by obtain ⟨ad, h, hf⟩ := hf1 hne; exact ⟨ad, h, fun i u hi => hle1 _ _ (hf i u hi)⟩) ?_
  try simp only [go_sem, ↓reduceIte, nQ1, nQ2, nQ3, nQ4, nQ5, nQ6, reduceCtorEq, iQ1, iQ2, iQ3, iQ4, iQ5, iQ6, e10, e8, e9, e3, e0]
  refine vappO (u8s ms) (by rw [gbs]; rfl) (by rw [u8s_len, Nat.mul_one]) (by omega) ?_
  try simp only [go_sem, ↓reduceIte, nQ1, nQ2, nQ3, nQ4, nQ5, nQ6, reduceCtorEq, iQ1, iQ2, iQ3, iQ4, iQ5, iQ6, e10, e8, e9, e3, e0]
  refine ⟨_, W.in64 (by omega), (2, ms ++ ys), [1], by dsimp only; omega, ?_, by decide, .inr (.inr ⟨rfl, rfl⟩)⟩
  dsimp only
  rw [← u8s_app, List.length_append]
  exact ⟨⟨rfl, (gs_pos (show ms.length + ys.length ≠ 0 by omega)).symm⟩, fun _ => rfl⟩
 ·subst hms
  rw [gxy] at e3
  refine ⟨fun h => absurd h (by decide), fun _ => ?_⟩
  rw [gbxy]
  exact itBlocks_2 hQ hst hJ0 hY X hX (xs ++ ys) (by rw [List.length_append]; omega) (by omega) R1 hle1 _ (by simp only [go_sem, ↓reduceIte, nQ1, nQ2, nQ3, nQ4, nQ5, nQ6, reduceCtorEq, e3, e0]) (by simp only [go_sem, ↓reduceIte, nQ1, nQ2, nQ3, nQ4, nQ5, nQ6, reduceCtorEq, e3, e0])
end
end Go.Proofs.YtdglpgepgmdbdaaGreatDoor
namespace Go.Proofs.YtdglpgepgmdbdaaGreatDoor
set_option linter.unusedSectionVars false
variable [Go.Proofs.YtdglpgepgmdbdaaGreatDoor.Vc.Drew]
set_option linter.unusedSimpArgs false
set_option linter.unusedVariables false
open Go.Proofs.YtdglpgepgmdbdaaGreatDoor.Vc Go.RowKit
def w8 (l : List Int) : List SV := l.map fun r => .val (.int .u8 r)
theorem w8_get {l : List Int} {i : Nat} (h : i < l.length) : (w8 l)[i]? = some (.val (.int .u8 l[i])) := by unfold w8; rw [List.getElem?_map, List.getElem?_eq_getElem h]; rfl
theorem w8_getD {l : List Int} {i : Nat} (h : i < l.length) : (w8 l)[i]? = some (.val (.int .u8 (l.getD i 0))) := by rw [w8_get h, List.getD_eq_getElem?_getD, List.getElem?_eq_getElem h]; rfl
theorem w8_len (l : List Int) : (w8 l).length = l.length := by unfold w8; rw [List.length_map]
theorem w8_set (l : List Int) (i : Nat) (r : Int) : (w8 l).set i (.val (.int .u8 r)) = w8 (l.set i r) := by unfold w8; rw [List.map_set]
theorem w8_ren (l : List Int) (ρ : List Nat) : (w8 l).map (ren ρ) = w8 l := by unfold w8; rw [List.map_map]; rfl
theorem w8_ok (l : List Int) (n : Nat) : (w8 l).all (SV.ok n) = true := by unfold w8; rw [List.all_map]; exact List.all_eq_true.2 fun _ _ => rfl
theorem w8_vals (l : List Int) : w8 l = (u8s l).map .val := by unfold w8 u8s; rw [List.map_map]; rfl
noncomputable def b84 : Code := Tryz.f84.body.getD .skip
noncomputable def c84_L : Code := (cL b84)
def v84_L : VCode := (.ops [⟨(some 2), none, (.alloc [(.int .u8 0), (.int .u8 0), (.int .u8 0), (.int .u8 0), (.int .u8 0), (.int .u8 0), (.int .u8 0), (.int .u8 0), (.int .u8 0), (.int .u8 0), (.int .u8 0), (.int .u8 0), (.int .u8 0), (.int .u8 0), (.int .u8 0), (.int .u8 0), (.int .u8 0), (.int .u8 0), (.int .u8 0), (.int .u8 0), (.int .u8 0), (.int .u8 0), (.int .u8 0), (.int .u8 0), (.int .u8 0), (.int .u8 0), (.int .u8 0), (.int .u8 0), (.int .u8 0), (.int .u8 0), (.int .u8 0), (.int .u8 0)])⟩])
theorem k84_L : comp Tryz.prog 30 c84_L = some v84_L := by kernel_rfl
noncomputable def c84_RL : Code := (cL (cR b84))
def v84_RL : VCode := (.ops [⟨(some 7), none, (.build [(.int .u32 0), (.int .u32 0), (.int .u32 0), (.int .u32 0), (.int .u32 0), (.int .u32 0), (.int .u32 0), (.int .u32 0)] [(0, (1, (.const (.int .u32 1779033703)))), (1, (1, (.const (.int .u32 3144134277)))), (2, (1, (.const (.int .u32 1013904242)))), (3, (1, (.const (.int .u32 2773480762)))), (4, (1, (.const (.int .u32 1359893119)))), (5, (1, (.const (.int .u32 2600822924)))), (6, (1, (.const (.int .u32 528734635)))), (7, (1, (.const (.int .u32 1541459225))))])⟩, ⟨(some 3), none, (.alloc [(.int .u32 0), (.int .u32 0), (.int .u32 0), (.int .u32 0), (.int .u32 0), (.int .u32 0), (.int .u32 0), (.int .u32 0)])⟩, ⟨none, none, (.store 8 (.tmp 3) (.tmp 7))⟩])
theorem k84_RL : comp Tryz.prog 30 c84_RL = some v84_RL := by kernel_rfl
noncomputable def c84_RRLL : Code := (cL (cL (cR (cR b84))))
def v84_RRLL : VCode := (.ops [⟨(some 8), none, (.mov (.tmp 0))⟩, ⟨(some 9), none, (.call true 109 [(.tmp 8)])⟩])
theorem k84_RRLL : comp Tryz.prog 30 c84_RRLL = some v84_RRLL := by kernel_rfl
noncomputable def c84_RRLRbA : Code := (cA (cL (cR (cL (cR (cR b84))))))
def v84_RRLRbA : VCode := (.ops [⟨(some 4), none, (.mov (.tmp 10))⟩])
theorem k84_RRLRbA : comp Tryz.prog 30 c84_RRLRbA = some v84_RRLRbA := by kernel_rfl
noncomputable def c84_RRLRbB : Code := (cB (cL (cR (cL (cR (cR b84))))))
def v84_RRLRbB : VCode := (.block 1 (.ops [⟨(some 11), none, (.mov (.tmp 4))⟩, ⟨(some 12), none, (.call true 110 [(.tmp 3), (.tmp 11)])⟩]))
theorem k84_RRLRbB : comp Tryz.prog 30 c84_RRLRbB = some v84_RRLRbB := by kernel_rfl
noncomputable def c84_RRR : Code := (cR (cR (cR b84)))
def v84_RRR : VCode := (.seq (.ops [⟨(some 5), none, (.alloc [(.int .u8 0), (.int .u8 0), (.int .u8 0), (.int .u8 0), (.int .u8 0), (.int .u8 0), (.int .u8 0), (.int .u8 0), (.int .u8 0), (.int .u8 0), (.int .u8 0), (.int .u8 0), (.int .u8 0), (.int .u8 0), (.int .u8 0), (.int .u8 0), (.int .u8 0), (.int .u8 0), (.int .u8 0), (.int .u8 0), (.int .u8 0), (.int .u8 0), (.int .u8 0), (.int .u8 0), (.int .u8 0), (.int .u8 0), (.int .u8 0), (.int .u8 0), (.int .u8 0), (.int .u8 0), (.int .u8 0), (.int .u8 0)])⟩]) (.seq (.seq (.ops [⟨(some 13), none, (.mov (.const (.int .i64 0)))⟩]) (.block 2 (.loop (.seq (.ops [⟨(some 14), none, (.bin .lss (.tmp 13) (.const (.int .i64 32)))⟩]) (.seq (.cond (.tmp 14) .skip (.exit 2)) (.seq (.block 3 (.seq (.ops [⟨(some 15), none, (.mov (.tmp 13))⟩, ⟨(some 6), none, (.mov (.tmp 15))⟩]) (.ops [⟨(some 16), none, (.mov (.tmp 6))⟩, ⟨(some 17), none, (.mov (.tmp 6))⟩, ⟨(some 18), none, (.bin .quo (.tmp 17) (.const (.int .i64 4)))⟩, ⟨(some 19), none, (.iaddrA (.tmp 3) (.tmp 18) 8 1)⟩, ⟨(some 20), none, (.load none (.tmp 19))⟩, ⟨(some 21), none, (.mov (.tmp 6))⟩, ⟨(some 22), none, (.bin .rem (.tmp 21) (.const (.int .i64 4)))⟩, ⟨(some 23), none, (.bin .mul (.const (.int .i64 8)) (.tmp 22))⟩, ⟨(some 24), none, (.bin .sub (.const (.int .i64 24)) (.tmp 23))⟩, ⟨(some 25), none, (.shift false (.tmp 20) (.tmp 24))⟩, ⟨(some 26), none, (.conv .u8 (.tmp 25))⟩, ⟨(some 27), none, (.iaddrA (.tmp 5) (.tmp 16) 32 1)⟩, ⟨none, none, (.store 1 (.tmp 27) (.tmp 26))⟩]))) (.ops [⟨(some 28), none, (.bin .add (.tmp 13) (.const (.int .i64 1)))⟩, ⟨(some 13), none, (.mov (.tmp 28))⟩]))))))) (.seq (.ops [⟨(some 29), none, (.load (some 32) (.tmp 5))⟩, ⟨none, none, (.store 32 (.tmp 2) (.tmp 29))⟩]) .ret)))
theorem k84_RRR : comp Tryz.prog 30 c84_RRR = some v84_RRR := by kernel_rfl
theorem b84_eq : b84 = (.seq c84_L (.seq c84_RL (.seq (.seq c84_RRLL (.block 0 (.rangeFunc (.tmp 9) #[10] c84_RRLRbA c84_RRLRbB))) c84_RRR))) := by kernel_rfl
def D2 (D S : List Int) : List Blk := [.box (w8 D), .box (w32 S), .dead]
theorem D2_sc (D S : List Int) : (D2 D S).all (scB 3) = true := by simp only [D2, List.all_cons, List.all_nil, scB, w8_ok, w32_ok, Bool.and_self]
set_option maxHeartbeats 4000000 in
theorem hHash (xs ys : List Int) (p0 p1 pv : Value) (R : RO) (hr : RdR R) (hp : EncV (fun x : Value => [x]) 1 R pv [p0, p1]) (h0 : U8 R p0 xs) (h1 : U8 R p1 ys) (hx : xs ≠ []) (hl : xs.length + ys.length ≤ 65536) :
  CallsR Tryz.prog 84 [pv] R fun _ r => ∃ l : List Int, l.length = 32 ∧ r = .agg (u8s l).toArray := by
 have hIt := fun (R' : RO) (hle : RO.le R R') (b0 : Nat) (hb : R' ⟨b0, 0, none⟩ pv) => itBlocks xs ys p0 p1 pv R' b0 hb (hp.mono hle) (h0.mono hle) (h1.mono hle) hx hl
 obtain ⟨pa, pc, rfl, _, _⟩ := EncV.form hp
 intro w0 hRw
 refine (callsIn_wide (n := 0)).1 (callsIn_of_wp_marks (F := Fr none) (c := b84) Tryz.func84 rfl trivial ?_ rfl)
 obtain ⟨Q, hQ⟩ : ∃ Q, Q = bodyPostM (Fr none) 0 Tryz.prog Tryz.f84 (fun e w' => ∃ v R', e = .returned v ∧ RO.le R R' ∧ (∀ a v, R' a v → w'.cell? a = some v ∧ (R a v ∨ (w0.heap.size ≤ a.block ∧ Loose w' a.block))) ∧ Ext w0 w' ∧ ∃ l : List Int, l.length = 32 ∧ v = .agg (u8s l).toArray) := ⟨_, rfl⟩
 rw [← hQ]
 have hst0 := rel_startR (n := 30) (args := [.slice pa [p0, p1].length pc]) (by simp) hRw
 obtain ⟨X, hX⟩ : ∃ X : Ctx, X = { w0 := w0, R0 := R, B := R, n := 30 } := ⟨_, rfl⟩
 rw [← hX] at hst0
 have hXn : X.n = 30 := by rw [hX]
 have hXk : X.keep = [] := by rw [hX]
 have hXg : X.ng = 0 := by rw [hX]
 suffices hS : SemI Tryz.prog none 0 X [] b84 ⟨envOf [.slice pa [p0, p1].length pc], [], R⟩ Q by
  exact hS _ _ _ _ hst0
 rw [b84_eq]
 refine sem_seq mix hXk (by rw [hXn]; exact k84_L) ?_
 rw [hXg]
 simp only [go_sem, ↓reduceIte, nQ1, nQ2, nQ3, nQ4, nQ5, nQ6, reduceCtorEq, v84_L]
 refine sem_seq mix hXk (by rw [hXn]; exact k84_RL) ?_
 rw [hXg]
 simp only [go_sem, ↓reduceIte, nQ1, nQ2, nQ3, nQ4, nQ5, nQ6, reduceCtorEq, v84_RL]
 refine sem_seqS ?_
 refine sem_seq mix hXk (by rw [hXn]; exact k84_RRLL) ?_
 rw [hXg]
 simp only [go_sem, ↓reduceIte, nQ1, nQ2, nQ3, nQ4, nQ5, nQ6, reduceCtorEq, v84_RRLL]
 refine vhandE (hBlocks pa 2 pc R) rfl ?_
 rintro R1 bs rr - ⟨hR1, rfl, rfl⟩
 rw [hR1]
 clear hR1
 simp only [go_sem, ↓reduceIte, nQ1, nQ2, nQ3, nQ4, nQ5, nQ6, reduceCtorEq, ren, renC, renB, Vc.rn, List.range']
 refine sem_block ?_
 refine sem_frzB 2 [.slice pa 2 pc] rfl ?_
 intro b R2 hle2 hrow
 have hle02 : RO.le R R2 := hle2
 suffices hS : ∀ env : Nat → SV, env 9 = .fn 128 [.v (.pointer (some ⟨b, 0, none⟩))] → env 2 = .loc 0 0 → env 3 = .loc 1 0 →
   SemI Tryz.prog none 0 X [] (.rangeFunc (.tmp 9) #[10] c84_RRLRbA c84_RRLRbB) ⟨env, D2 (List.replicate 32 0) [1779033703, 3144134277, 1013904242, 2773480762, 1359893119, 2600822924, 528734635, 1541459225], R2⟩ (Exit.inBlock 0 (Exit.then (fun a' w' => c84_RRR.wpIn (Fr none) 0 Tryz.prog Q a' w') Q)) by
  refine hS _ ?_ ?_ ?_ <;> simp only [go_sem, ↓reduceIte, nQ1, nQ2, nQ3, nQ4, nQ5, nQ6, reduceCtorEq, ]
 intro env e9 e2 e3
 refine semM0 ?_
 refine semM_range mix (vs := [.pointer (some ⟨b, 0, none⟩)]) (El := fun _ R' v => ∃ bs, bs.length = 64 ∧ U8 R' v bs) (fun _ bl => ∃ S, S.length = 8 ∧ bl = D2 (List.replicate 32 0) S) hXk e9 rfl (enters_of Tryz.func128 (by kernel_rfl) rfl) (hIt R2 hle02 b (hrow 0 _ rfl)) (by rw [hXn]; exact k84_RRLRbA) (by rw [hXn]; exact k84_RRLRbB) (by rw [hXn]; decide) ⟨_, rfl, rfl⟩ ?_ ?_ ?_
 ·rintro k bl ⟨S, _, rfl⟩
  refine ⟨rfl, fun j b hj hl => ?_⟩
  match j, hj with
  | 0, hj => exact ⟨_, rfl, rfl⟩
  | 1, hj => exact ⟨_, rfl, rfl⟩
  | 2, hj => cases hj; cases hl
 ·rintro k bl R' v hk hbl ⟨S, hS, rfl⟩ hle' ⟨bs, hbs, hU⟩
  simp only [v84_RRLRbA]
  simp only [go_sem, ↓reduceIte, nQ1, nQ2, nQ3, nQ4, nQ5, nQ6, reduceCtorEq, D2, e2, e3, e9]
  refine ⟨⟨rfl, rfl, rfl⟩, ?_⟩
  simp only [v84_RRLRbB]
  simp only [go_sem, ↓reduceIte, nQ1, nQ2, nQ3, nQ4, nQ5, nQ6, reduceCtorEq, D2, e2, e3, e9]
  refine vhand [1] [.loc 0 0, .val v] [.box (w32 S)] (hAdd S bs v R' hS (hr.mono (RO.le_trans hle02 hle')) hU hbs) rfl rfl rfl ?_ (by simp) rfl ?_ ?_
  ·simp only [go_sem, ↓reduceIte, nQ1, nQ2, nQ3, nQ4, nQ5, nQ6, reduceCtorEq, ]
   simp only [w32_ren]
  ·simp only [List.all_cons, List.all_nil, scB, w32_ok, Blk.noShr, Bool.and_self]
  rintro R3 bs' r hle3 ⟨S', u, t, hS', rfl⟩ _
  simp only [go_sem, ↓reduceIte, nQ1, nQ2, nQ3, nQ4, nQ5, nQ6, reduceCtorEq, ]
  simp only [renB, w32_ren]
  exact ⟨⟨S', hS', rfl⟩, D2_sc _ _, rfl⟩
 ·rintro D bl hbl ⟨S, hS, rfl⟩
  show SemM Tryz.prog 0 X [D] c84_RRR _ Q
  refine semM_vc mix hXk rfl (by rw [hXn]; exact k84_RRR) ?_
  simp only [v84_RRR]
  simp only [go_sem, ↓reduceIte, nQ1, nQ2, nQ3, nQ4, nQ5, nQ6, reduceCtorEq, D2, e2, e3, e9]
  obtain ⟨Z, hZ⟩ : ∃ Z : List Int, Z = List.replicate 32 0 := ⟨_, rfl⟩
  rw [← hZ]
  refine vcLoop (Nat × List Int) (fun y => [(13, .val (.int .i64 y.1)), (2, .loc 0 0), (3, .loc 1 0), (5, .loc 3 0)]) (fun y => [.box (w8 Z), .box (w32 S), .dead, .box (w8 y.2)]) (fun y _ => y.1 ≤ 32 ∧ y.2.length = 32) (fun y => 32 - y.1) (0, Z) ?_ ?_ ?_ ?_
  ·subst hZ
   try simp only [go_sem, ↓reduceIte, nQ1, nQ2, nQ3, nQ4, nQ5, nQ6, reduceCtorEq, e2, e3, e9]
   exact ⟨rfl, (w8_ren _ _).symm, (w32_ren _ _).symm, rfl⟩
  ·exact inScope_mk rfl rfl (by simp only [List.all_cons, List.all_nil, scB, w8_ok, w32_ok, Bool.and_self]) rfl rfl rfl
  ·exact ⟨Nat.zero_le _, by rw [hZ]; rfl⟩
  rintro ⟨i, ds⟩ env1 R3 hle3 hE ⟨hi, hd⟩
  dsimp only at hi hd
  (simp only [go_sem] at hE; obtain ⟨f13, f2, f3, f5⟩ := hE; simp only [go_sem, ↓reduceIte, nQ1, nQ2, nQ3, nQ4, nQ5, nQ6, reduceCtorEq, f13, f2, f3, f5]; dsimp only at *)
  refine ⟨fun hlt => ?_, fun hge => ?_⟩
  ·have ht : ((i : Nat) : Int).tdiv 4 = i / 4 := Int.tdiv_eq_ediv_of_nonneg (by omega)
   have hm : ((i : Nat) : Int).tmod 4 = i % 4 := Int.tmod_eq_emod_of_nonneg (by omega)
   have q1 : (w32 S)[((i : Int) / 4).toNat]? = some (.val (.int .u32 (S.getD ((i : Int) / 4).toNat 0))) := w32_getD (by omega)
   rw [ht]
   refine ⟨by decide, _, W.in64 (by omega), by omega, by omega, ?_⟩
   try simp only [go_sem, ↓reduceIte, nQ1, nQ2, nQ3, nQ4, nQ5, nQ6, reduceCtorEq, iQ1, iQ2, iQ3, iQ4, iQ5, iQ6, q1, hm, f13, f2, f3, f5]
   obtain ⟨r, hrw⟩ : ∃ r, W .u8 ((S.getD ((i : Int) / 4).toNat 0).fdiv (2 ^ min (24 - 8 * ((i : Int) % 4)).toNat 32)) r := ⟨_, W.mk _ _⟩
   refine ⟨_, W.in64 (by omega), _, W.in64 (by omega), by omega, r, hrw, by omega, by rw [w8_len]; omega, _, W.in64 (by omega), ?_⟩
   simp only [w8_set, w8_ren, w32_ren]
   refine ⟨(i + 1, ds.set i r), by dsimp only; omega, ?_, ?_, by dsimp only; omega, ?_⟩
   ·repeat' (first | trivial | rfl | norm_cast | apply And.intro)
   ·exact inScope_mk rfl rfl (by simp only [List.all_cons, List.all_nil, scB, w8_ok, w32_ok, Bool.and_self]) rfl rfl rfl
   ·simp only [List.length_set]
    exact hd
  ·try simp only [go_sem, ↓reduceIte, nQ1, nQ2, nQ3, nQ4, nQ5, nQ6, reduceCtorEq, w8_getD, hd, f13, f2, f3, f5]
   refine ⟨by rw [w8_len, hZ]; decide, ?_⟩
   simp only [w8_set]
   suffices hS : ∀ (env : Nat → SV) (E : List Int), E.length = 32 → env 2 = .loc 0 0 → SemMX X [D] .ret ⟨env, [.box (w8 E), .box (w32 S), .dead, .box (w8 ds)], R3⟩ Q by
    refine hS _ _ ?_ ?_
    ·simp only [List.length_set]
     rw [hZ]
     rfl
    ·simp only [go_sem, ↓reduceIte, nQ1, nQ2, nQ3, nQ4, nQ5, nQ6, reduceCtorEq, f13, f2, f3, f5]
   intro env2 E hE32 g2
   intro β κ tm w hr2 hm2
   rw [hQ]
   refine retM_fin (rv := [.cell 2 (some 32)]) hX (by kernel_rfl) ?_ [D] w hr2 hm2
   show RetT [.cell 2 (some 32)] _ (fun vs s' => ∃ l : List Int, l.length = 32 ∧ resVal vs = .agg (u8s l).toArray) .mk
   try simp only [go_sem, ↓reduceIte, nQ1, nQ2, nQ3, nQ4, nQ5, nQ6, reduceCtorEq, w8_getD, hE32, g2]
   exact ⟨(List.range 32).map fun i => E.getD i 0, by simp, rfl⟩
end Go.Proofs.YtdglpgepgmdbdaaGreatDoor
namespace Go.Proofs.YtdglpgepgmdbdaaGreatDoor
set_option linter.unusedSectionVars false
variable [Go.Proofs.YtdglpgepgmdbdaaGreatDoor.Vc.Drew]
set_option linter.unusedSimpArgs false
set_option linter.unusedVariables false
open Go.Proofs.YtdglpgepgmdbdaaGreatDoor.Vc Go.RowKit
noncomputable def b62 : Code := Tryz.f62.body.getD .skip
noncomputable def c62_L : Code := (cL b62)
def v62_L : VCode := (.ops [⟨(some 2), none, (.box (.tmp 0))⟩, ⟨(some 4), none, (.alloc [(.int .u8 0), (.int .u8 0), (.int .u8 0), (.int .u8 0), (.int .u8 0), (.int .u8 0), (.int .u8 0), (.int .u8 0), (.int .u8 0), (.int .u8 0), (.int .u8 0), (.int .u8 0), (.int .u8 0), (.int .u8 0), (.int .u8 0), (.int .u8 0), (.int .u8 0), (.int .u8 0), (.int .u8 0), (.int .u8 0), (.int .u8 0), (.int .u8 0), (.int .u8 0), (.int .u8 0), (.int .u8 0), (.int .u8 0), (.int .u8 0), (.int .u8 0), (.int .u8 0), (.int .u8 0), (.int .u8 0), (.int .u8 0)])⟩])
theorem k62_L : comp Tryz.prog 35 c62_L = some v62_L := by kernel_rfl
noncomputable def c62_RL : Code := (cL (cR b62))
def v62_RL : VCode := (.ops [⟨(some 5), none, (.alloc [(.int .u8 0), (.int .u8 0), (.int .u8 0), (.int .u8 0), (.int .u8 0), (.int .u8 0), (.int .u8 0), (.int .u8 0), (.int .u8 0), (.int .u8 0), (.int .u8 0), (.int .u8 0), (.int .u8 0), (.int .u8 0), (.int .u8 0), (.int .u8 0), (.int .u8 0), (.int .u8 0), (.int .u8 0), (.int .u8 0), (.int .u8 0), (.int .u8 0), (.int .u8 0), (.int .u8 0), (.int .u8 0), (.int .u8 0), (.int .u8 0), (.int .u8 0), (.int .u8 0), (.int .u8 0), (.int .u8 0), (.int .u8 0), (.int .u8 0), (.int .u8 0), (.int .u8 0), (.int .u8 0), (.int .u8 0), (.int .u8 0), (.int .u8 0), (.int .u8 0), (.int .u8 0), (.int .u8 0), (.int .u8 0), (.int .u8 0), (.int .u8 0), (.int .u8 0), (.int .u8 0), (.int .u8 0), (.int .u8 0), (.int .u8 0), (.int .u8 0), (.int .u8 0), (.int .u8 0), (.int .u8 0), (.int .u8 0), (.int .u8 0), (.int .u8 0), (.int .u8 0), (.int .u8 0), (.int .u8 0), (.int .u8 0), (.int .u8 0), (.int .u8 0), (.int .u8 0)])⟩, ⟨(some 6), none, (.alloc [(.int .u8 0), (.int .u8 0), (.int .u8 0), (.int .u8 0), (.int .u8 0), (.int .u8 0), (.int .u8 0), (.int .u8 0), (.int .u8 0), (.int .u8 0), (.int .u8 0), (.int .u8 0), (.int .u8 0), (.int .u8 0), (.int .u8 0), (.int .u8 0), (.int .u8 0), (.int .u8 0), (.int .u8 0), (.int .u8 0), (.int .u8 0), (.int .u8 0), (.int .u8 0), (.int .u8 0), (.int .u8 0), (.int .u8 0), (.int .u8 0), (.int .u8 0), (.int .u8 0), (.int .u8 0), (.int .u8 0), (.int .u8 0), (.int .u8 0), (.int .u8 0), (.int .u8 0), (.int .u8 0), (.int .u8 0), (.int .u8 0), (.int .u8 0), (.int .u8 0), (.int .u8 0), (.int .u8 0), (.int .u8 0), (.int .u8 0), (.int .u8 0), (.int .u8 0), (.int .u8 0), (.int .u8 0), (.int .u8 0), (.int .u8 0), (.int .u8 0), (.int .u8 0), (.int .u8 0), (.int .u8 0), (.int .u8 0), (.int .u8 0), (.int .u8 0), (.int .u8 0), (.int .u8 0), (.int .u8 0), (.int .u8 0), (.int .u8 0), (.int .u8 0), (.int .u8 0)])⟩])
theorem k62_RL : comp Tryz.prog 35 c62_RL = some v62_RL := by kernel_rfl
noncomputable def c62_RRL : Code := (cL (cR (cR b62)))
noncomputable def c62_RRR : Code := (cR (cR (cR b62)))
def v62_RRR : VCode := (.seq (.ops [⟨(some 12), none, (.load (some 64) (.tmp 5))⟩, ⟨none, none, (.store 64 (.tmp 6) (.tmp 12))⟩]) (.seq (.seq (.ops [⟨(some 13), none, (.mov (.const (.int .i64 0)))⟩]) (.block 0 (.loop (.seq (.ops [⟨(some 14), none, (.bin .lss (.tmp 13) (.const (.int .i64 64)))⟩]) (.seq (.cond (.tmp 14) .skip (.exit 0)) (.seq (.block 1 (.seq (.ops [⟨(some 15), none, (.mov (.tmp 13))⟩, ⟨(some 7), none, (.mov (.tmp 15))⟩]) (.seq (.ops [⟨(some 16), none, (.mov (.tmp 7))⟩, ⟨(some 17), none, (.iaddrA (.tmp 5) (.tmp 16) 64 1)⟩, ⟨(some 18), none, (.load none (.tmp 17))⟩, ⟨(some 19), none, (.bin .xor (.tmp 18) (.const (.int .u8 54)))⟩, ⟨(some 20), none, (.iaddrA (.tmp 5) (.tmp 16) 64 1)⟩, ⟨none, none, (.store 1 (.tmp 20) (.tmp 19))⟩]) (.ops [⟨(some 21), none, (.mov (.tmp 7))⟩, ⟨(some 22), none, (.iaddrA (.tmp 6) (.tmp 21) 64 1)⟩, ⟨(some 23), none, (.load none (.tmp 22))⟩, ⟨(some 24), none, (.bin .xor (.tmp 23) (.const (.int .u8 92)))⟩, ⟨(some 25), none, (.iaddrA (.tmp 6) (.tmp 21) 64 1)⟩, ⟨none, none, (.store 1 (.tmp 25) (.tmp 24))⟩])))) (.ops [⟨(some 26), none, (.bin .add (.tmp 13) (.const (.int .i64 1)))⟩, ⟨(some 13), none, (.mov (.tmp 26))⟩]))))))) (.seq (.ops [⟨(some 27), none, (.sliceA 64 (.tmp 5))⟩, ⟨(some 28), none, (.mov (.tmp 1))⟩, ⟨(some 29), none, (.bslice 53 1 2 [(.slice none 0 0), (.slice none 0 0)] [(0, (1, (.tmp 27))), (1, (1, (.tmp 28)))])⟩, ⟨(some 30), none, (.call true 84 [(.tmp 29)])⟩, ⟨(some 8), none, (.alloc [(.int .u8 0), (.int .u8 0), (.int .u8 0), (.int .u8 0), (.int .u8 0), (.int .u8 0), (.int .u8 0), (.int .u8 0), (.int .u8 0), (.int .u8 0), (.int .u8 0), (.int .u8 0), (.int .u8 0), (.int .u8 0), (.int .u8 0), (.int .u8 0), (.int .u8 0), (.int .u8 0), (.int .u8 0), (.int .u8 0), (.int .u8 0), (.int .u8 0), (.int .u8 0), (.int .u8 0), (.int .u8 0), (.int .u8 0), (.int .u8 0), (.int .u8 0), (.int .u8 0), (.int .u8 0), (.int .u8 0), (.int .u8 0)])⟩, ⟨none, none, (.store 32 (.tmp 8) (.tmp 30))⟩]) (.seq (.ops [⟨(some 31), none, (.sliceA 64 (.tmp 6))⟩, ⟨(some 32), none, (.sliceA 32 (.tmp 8))⟩, ⟨(some 33), none, (.bslice 53 1 2 [(.slice none 0 0), (.slice none 0 0)] [(0, (1, (.tmp 31))), (1, (1, (.tmp 32)))])⟩, ⟨(some 34), none, (.call true 84 [(.tmp 33)])⟩, ⟨none, none, (.store 32 (.tmp 4) (.tmp 34))⟩]) .ret))))
theorem k62_RRR : comp Tryz.prog 35 c62_RRR = some v62_RRR := by kernel_rfl
theorem b62_eq : b62 = (.seq c62_L (.seq c62_RL (.seq c62_RRL c62_RRR))) := by kernel_rfl
noncomputable def ops62 : Array Oper := rOps c62_RRL
theorem ops62_eq : c62_RRL = .region (rId c62_RRL) ops62 true := by kernel_rfl
theorem ops62_n : ops62.size = 3 := by kernel_rfl
theorem ops62_0 : ∃ ty pos after, ops62[0]? = some ⟨some 9, .slice 150 (.tmp 5) none none none, ty, pos, after, none⟩ := ⟨_, _, _, rfl⟩
theorem ops62_1 : ∃ ty pos after, ops62[1]? = some ⟨some 10, .slice 55 (.tmp 2) none none none, ty, pos, after, none⟩ := ⟨_, _, _, rfl⟩
theorem ops62_2 : ∃ ty pos after, ops62[2]? = some ⟨some 11, .call ⟨.builtin .copy, #[.tmp 9, .tmp 10], #[53, 53]⟩, ty, pos, after, none⟩ := ⟨_, _, _, rfl⟩
theorem r62_0 : Region.ready .any ops62 (Array.replicate 3 false) = [0, 1] := by kernel_rfl
theorem r62_1 : Region.ready .any ops62 ((Array.replicate 3 false).setIfInBounds 0 true) = [1] := by kernel_rfl
theorem r62_2 : Region.ready .any ops62 ((Array.replicate 3 false).setIfInBounds 1 true) = [0] := by kernel_rfl
theorem r62_3 : Region.ready .any ops62 (((Array.replicate 3 false).setIfInBounds 0 true).setIfInBounds 1 true) = [2] := by kernel_rfl
theorem r62_4 : Region.ready .any ops62 (((Array.replicate 3 false).setIfInBounds 1 true).setIfInBounds 0 true) = [2] := by kernel_rfl
theorem t62_53 : Tryz.prog.underlying 53 = some (.slice 5) := by kernel_rfl
theorem t62_5 : (Tryz.prog.info? 5).map (·.size) = some 1 := by kernel_rfl
theorem run_copy62 (w : World) (ty : TypeId) (g b : Nat) (arr : Array Value) (T : TypeId) (vs : List Value) (hg : w.heap[g]? = some (.cells arr T (0, 0))) (ha : arr.size = 64) (hv : vs.length = 32) (h1 : ∀ v ∈ vs, v.oneCell' = true) (hs : ∀ j v, vs[j]? = some v → w.cell? ⟨b, j, none⟩ = some v) :
  (Builtin.copy_ #[53, 53] ty #[.slice (some ⟨g, 0, none⟩) 64 64, .slice (some ⟨b, 0, none⟩) 32 32]).run Tryz.prog w = .ok (goInt 32) (w.setRow g (vs ++ arr.toList.drop 32).toArray) := by
 obtain ⟨inf, hi, hsz⟩ := Option.map_eq_some_iff.1 t62_5
 have hf := run_firstCells_some (P := Tryz.prog) w 1 32 ⟨b, 0, none⟩ 32 32 vs (by rw [hv]) (fun j v hj => by
  have := hs j v hj
  rcases Nat.eq_zero_or_pos j with rfl | hp
  ·simpa [Addr.add] using this
  ·simpa [Addr.add, Nat.pos_iff_ne_zero.1 hp] using this)
 have hst := run_storeCells_at Tryz.prog g 0 T vs 0 arr w hg (by omega) h1
 simp only [Nat.zero_add, Nat.add_zero, List.take_zero, List.nil_append, hv] at hst
 simp only [Builtin.copy_, Builtin.lenOf, List.getElem?_toArray, List.getElem?_cons_zero, List.getElem?_cons_succ, Sem.run_bind, run_underlying t62_53, Result.andThen_ok, Sem.run_pure, run_sizeOf' hi, hsz]
 rw [show Nat.min 32 64 = 32 from rfl, hf]
 simp only [Result.andThen_ok, Sem.run_bind, hst, Sem.run_pure]
 rfl
theorem rel_env {X : Ctx} {β κ : Nat → Nat} {s : St} {tm tm' : Array Value} {w : World} (h : Rel X β κ s tm w) (env' : Nat → SV) (h1 : tm'.size = X.n) (h2 : ∀ t, tm'.getD t undef = den β κ (env' t)) (h3 : ∀ t, SV.ok s.blk.length (env' t) = true) : Rel X β κ ⟨env', s.blk, s.R⟩ tm' w := { h with
 size := h1
 env := h2
 ok := h3
 shr := fun j b cap T sz cs hj => { h.shr j b cap T sz cs hj with }
 own := fun j F hj => { h.own j F hj with } }
theorem copy62 (key Z A B : List Int) (hk : key.length = 32) (hZ : Z.length = 64) {X : Ctx} (hXn : X.n = 35) (hXk : X.keep = []) (env : Nat → SV) (R : RO) (e5 : env 5 = .loc 2 0) (e2 : env 2 = .loc 0 0) {Q : Exit → Act → World → Prop}
  (h : ∀ env' : Nat → SV, (∀ t, t ≠ 9 → t ≠ 10 → t ≠ 11 → env' t = env t) → SemN X [] ⟨env', [.box (w8 key), .box (w8 A), .box (w8 (key ++ Z.drop 32)), .box (w8 B)], R⟩ Q) :
  SemI Tryz.prog none 0 X [] c62_RRL ⟨env, [.box (w8 key), .box (w8 A), .box (w8 Z), .box (w8 B)], R⟩ Q := by
 intro β κ tm w hr0
 rw [ops62_eq]
 refine wpIn_region_any mix ?_
 have hr := hr0.ext (w' := { w with drawn := w.drawn + 1 }) ⟨rfl, rfl, rfl, Nat.le_refl _, fun _ _ => rfl, Nat.mul_le_mul_left _ (Nat.le_succ _)⟩
 generalize { w with drawn := w.drawn + 1 } = w1 at hr
 rw [ops62_n]
 have hsz : tm.size = 35 := hr.size.trans hXn
 have v5 : tm.getD 5 undef = .pointer (some ⟨β 2, 0, none⟩) := (hr.env 5).trans (by show den β κ (env 5) = _; rw [e5]; rfl)
 have v2 : tm.getD 2 undef = .pointer (some ⟨β 0, 0, none⟩) := (hr.env 2).trans (by show den β κ (env 2) = _; rw [e2]; rfl)
 obtain ⟨ty0, pos0, af0, h0⟩ := ops62_0
 obtain ⟨ty1, pos1, af1, h1⟩ := ops62_1
 obtain ⟨ty2, pos2, af2, h2⟩ := ops62_2
 have pA : ∀ (tm' : Array Value) (K : Act → World → Prop), tm'.getD 5 undef = .pointer (some ⟨β 2, 0, none⟩) → K ⟨tm'.setIfInBounds 9 (.slice (some ⟨β 2, 0, none⟩) 64 64), []⟩ w1 → wpOpIn (Fr none) 0 Tryz.prog ops62 Q 0 K ⟨tm', []⟩ w1 := fun tm' K hv hK =>
  pure_op_in h0 rfl (by simp [Region.wanted]) (vo := .sliceA 64 (.tmp 5)) (by kernel_rfl) rfl (v := .slice (some ⟨β 2, 0, none⟩) 64 64) (by simp only [vcOp, St.ev, valS, leaf, leaf1, hv]) hK
 have pB : ∀ (tm' : Array Value) (K : Act → World → Prop), tm'.getD 2 undef = .pointer (some ⟨β 0, 0, none⟩) → K ⟨tm'.setIfInBounds 10 (.slice (some ⟨β 0, 0, none⟩) 32 32), []⟩ w1 → wpOpIn (Fr none) 0 Tryz.prog ops62 Q 1 K ⟨tm', []⟩ w1 := fun tm' K hv hK =>
  pure_op_in h1 rfl (by simp [Region.wanted]) (vo := .sliceA 32 (.tmp 2)) (by kernel_rfl) rfl (v := .slice (some ⟨β 0, 0, none⟩) 32 32) (by simp only [vcOp, St.ev, valS, leaf, leaf1, hv]) hK
 have hcell : ∀ j v, (u8s key)[j]? = some v → w1.cell? ⟨β 0, j, none⟩ = some v := fun j v hj => by
  have := hr.boxCell (j := 0) (o := j) (c := .val v) rfl (by rw [w8_vals, List.getElem?_map, hj]; rfl)
  exact this
 obtain ⟨hB, hok, T, hh⟩ := hr.blk 2 _ rfl
 have hg := grown_setRow w1 (β 2) _ (u8s key ++ ((w8 Z).map (den β κ)).toArray.toList.drop 32).toArray T hh
 have hnew : (u8s key ++ ((w8 Z).map (den β κ)).toArray.toList.drop 32).toArray = ((w8 (key ++ Z.drop 32)).map (den β κ)).toArray := by
  rw [w8_vals, w8_vals, map_val_den, map_val_den, ← u8s_app]
  unfold u8s
  rw [List.map_drop]
 have hr2 := hr.modify (j := 2) rfl rfl hg.1 (.box (w8 (key ++ Z.drop 32))) (fun _ _ _ _ _ e => by cases e) (fun _ e => by cases e) ⟨hB, fun c hc => List.all_eq_true.1 (w8_ok _ _) c hc, T, by rw [hg.2, hnew]⟩
 have fin : ∀ (tm' : Array Value) (L : Array Bool), tm'.size = 35 → tm'.getD 9 undef = .slice (some ⟨β 2, 0, none⟩) 64 64 → tm'.getD 10 undef = .slice (some ⟨β 0, 0, none⟩) 32 32 → (∀ t, t ≠ 9 → t ≠ 10 → tm'.getD t undef = tm.getD t undef) →
   Region.ready .any ops62 L = [2] → Region.ready .any ops62 (L.setIfInBounds 2 true) = [] → wpAnyIn (Fr none) 0 Tryz.prog .any ops62 Q 1 L ⟨tm', []⟩ w1 := fun tm' L hs9 h9 h10 hoth hrd hrd' => by
  refine ⟨fun e => (by rw [hrd] at e; cases e), fun i hi => ?_⟩
  rw [hrd] at hi
  simp only [List.mem_cons, List.not_mem_nil, or_false] at hi
  subst hi
  unfold wpOpIn
  simp only [h2]
  rw [if_pos (by simp [Region.wanted])]
  refine op_inF rfl ?_
  have e9 : (⟨tm', []⟩ : Act).eval (.tmp 9) = .slice (some ⟨β 2, 0, none⟩) 64 64 := h9
  have e10 : (⟨tm', []⟩ : Act).eval (.tmp 10) = .slice (some ⟨β 0, 0, none⟩) 32 32 := h10
  have hrun := run_copy62 w1 ty2 (β 2) (β 0) _ T (u8s key) hh (by simp [w8_len, hZ]) (by rw [u8s_len]; exact hk) u8s_one hcell
  have hx : (execOp (⟨tm', []⟩ : Act).eval ⟨some 11, .call ⟨.builtin .copy, #[.tmp 9, .tmp 10], #[53, 53]⟩, ty2, pos2, af2, none⟩).run Tryz.prog w1 = .ok (.value (goInt 32)) (w1.setRow (β 2) (u8s key ++ ((w8 Z).map (den β κ)).toArray.toList.drop 32).toArray) := by
   simp [execOp, resolve, Deferred.ofValue, Sem.run_bind, Sem.run_pure, Result.andThen_ok, invoke, e9, e10]
   show Sem.run _ (do pure (Next.value (← Builtin.copy_ #[53, 53] ty2 #[.slice (some ⟨β 2, 0, none⟩) 64 64, .slice (some ⟨β 0, 0, none⟩) 32 32]))) w1 = _
   rw [Sem.run_bind, hrun]
   simp
  unfold Oper.wp
  rw [hx]
  refine ⟨hrd', ?_⟩
  show Q .normal ⟨tm'.setIfInBounds 11 (goInt 32), []⟩ _
  refine h (fun t => if t = 9 ∨ t = 10 ∨ t = 11 then .val ((tm'.setIfInBounds 11 (goInt 32)).getD t undef) else env t) (fun t t9 t10 t11 => if_neg (fun e => by omega)) β κ _ _ (rel_env hr2 _ (by simp [hs9, hXn]) (fun t => ?_) (fun t => ?_))
  ·split
   ·rfl
   ·rename_i hne
    rw [getD_set _ _ _ _ (by omega), if_neg (by omega), hoth t (by omega) (by omega)]
    exact hr.env t
  ·split
   ·rfl
   ·exact hr.ok t
 have s9 : ∀ (a : Array Value) v, a.size = 35 → (a.setIfInBounds 9 v).getD 9 undef = v := fun a v h => by rw [getD_set _ _ _ _ (by omega), if_pos rfl]
 have s10 : ∀ (a : Array Value) v, a.size = 35 → (a.setIfInBounds 10 v).getD 10 undef = v := fun a v h => by rw [getD_set _ _ _ _ (by omega), if_pos rfl]
 have n9 : ∀ (a : Array Value) v t, a.size = 35 → t ≠ 9 → (a.setIfInBounds 9 v).getD t undef = a.getD t undef := fun a v t h ht => by rw [getD_set _ _ _ _ (by omega), if_neg ht]
 have n10 : ∀ (a : Array Value) v t, a.size = 35 → t ≠ 10 → (a.setIfInBounds 10 v).getD t undef = a.getD t undef := fun a v t h ht => by rw [getD_set _ _ _ _ (by omega), if_neg ht]
 refine ⟨fun e => (by rw [r62_0] at e; cases e), fun i hi => ?_⟩
 rw [r62_0] at hi
 simp only [List.mem_cons, List.not_mem_nil, or_false] at hi
 rcases hi with rfl | rfl
 ·refine pA tm _ v5 ?_
  refine ⟨fun e => (by rw [r62_1] at e; cases e), fun i hi => ?_⟩
  rw [r62_1] at hi
  simp only [List.mem_cons, List.not_mem_nil, or_false] at hi
  subst hi
  refine pB _ _ (by rw [n9 _ _ _ hsz (by decide)]; exact v2) ?_
  refine fin _ _ (by simp [hsz]) ?_ ?_ (fun t t9 t10 => ?_) r62_3 (by kernel_rfl)
  ·rw [n10 _ _ _ (by simp [hsz]) (by decide), s9 _ _ hsz]
  ·rw [s10 _ _ (by simp [hsz])]
  ·rw [n10 _ _ _ (by simp [hsz]) t10, n9 _ _ _ hsz t9]
 ·refine pB tm _ v2 ?_
  refine ⟨fun e => (by rw [r62_2] at e; cases e), fun i hi => ?_⟩
  rw [r62_2] at hi
  simp only [List.mem_cons, List.not_mem_nil, or_false] at hi
  subst hi
  refine pA _ _ (by rw [n10 _ _ _ hsz (by decide)]; exact v5) ?_
  refine fin _ _ (by simp [hsz]) ?_ ?_ (fun t t9 t10 => ?_) r62_4 (by kernel_rfl)
  ·rw [s9 _ _ (by simp [hsz])]
  ·rw [n9 _ _ _ (by simp [hsz]) (by decide), s10 _ _ hsz]
  ·rw [n9 _ _ _ (by simp [hsz]) t9, n10 _ _ _ hsz t10]
theorem cells_w8_aux {s : St} {j : Nat} {l : List Int} (hj : s.blk[j]? = some (.box (w8 l))) : ∀ (n off : Nat) (k : List Value → St → Prop), off + n = l.length → k ((u8s l).drop off) s → cellsAt s j off n k
 | 0, off, k, h, hk => by
  rw [List.drop_of_length_le (by rw [u8s_len]; omega)] at hk
  exact hk
 | n + 1, off, k, h, hk => by
  have hlt : off < l.length := by omega
  unfold cellsAt
  simp only [hj, w8_get hlt]
  refine cells_w8_aux hj n (off + 1) _ (by omega) ?_
  rw [List.drop_eq_getElem_cons (by rw [u8s_len]; exact hlt)] at hk
  have : (u8s l)[off]'(by rw [u8s_len]; exact hlt) = .int .u8 l[off] := by unfold u8s; rw [List.getElem_map]
  rw [this] at hk
  exact hk
theorem cells_w8 {s : St} {j : Nat} {l : List Int} (hj : s.blk[j]? = some (.box (w8 l))) {k : List Value → St → Prop} {t : Tok k} (hk : k (u8s l) s) : CellsT s j 0 (w8 l).length k t :=
 cells_w8_aux hj _ 0 k (by rw [w8_len]; omega) hk
theorem w8_unloc (l : List Int) (j b : Nat) : (w8 l).map (unloc j b) = w8 l := by unfold w8; rw [List.map_map]; rfl
theorem w8_unsl (l : List Int) (j b c : Nat) : (w8 l).map (unsl j b c) = w8 l := by unfold w8; rw [List.map_map]; rfl
theorem two_parts {R : RO} {b cap : Nat} {p0 p1 : Value} (h : RowIn R b [p0, p1]) (hc : 2 ≤ cap) : EncV (fun x : Value => [x]) 1 R (.slice (some ⟨b, 0, none⟩) 2 cap) [p0, p1] := RowIn.enc (xs := [p0, p1]) (fun _ => rfl) (by decide) h (by show 2 ≤ cap * 1; omega) (by show 2 ≤ 1000000000; decide)
theorem u8_one (l : List Int) : ((u8s l).map SV.val).all one' = true := by unfold u8s; rw [List.map_map, List.all_map]; exact List.all_eq_true.2 fun _ _ => rfl
theorem put_w8 (l : List Int) (zs : List SV) (hz : zs.length = l.length) : putAtS 0 zs ((u8s l).map .val) = w8 l := by
 rw [putAtS_all _ _ _ (by rw [List.length_map, u8s_len]; omega), List.take_zero, List.nil_append, w8_vals]
set_option maxHeartbeats 4000000 in
theorem hKeyed (key ys : List Int) (v : Value) (R : RO) (hr : RdR R) (hk : key.length = 32) (h : U8 R v ys) (hl : ys.length ≤ 60000) :
  CallsR Tryz.prog 62 [.agg (u8s key).toArray, v] R fun _ r => ∃ l : List Int, l.length = 32 ∧ r = .agg (u8s l).toArray := by
 have h' := fun R' (hle : RO.le R R') => h.mono hle
 obtain ⟨a, cap, rfl, hc, _⟩ := h.form
 intro w0 hRw
 refine (callsIn_wide (n := 0)).1 (callsIn_of_wp_marks (F := Fr none) (c := b62) Tryz.func62 rfl trivial ?_ rfl)
 obtain ⟨Q, hQ⟩ : ∃ Q, Q = bodyPostM (Fr none) 0 Tryz.prog Tryz.f62 (fun e w' => ∃ v R', e = .returned v ∧ RO.le R R' ∧ (∀ a v, R' a v → w'.cell? a = some v ∧ (R a v ∨ (w0.heap.size ≤ a.block ∧ Loose w' a.block))) ∧ Ext w0 w' ∧ ∃ l : List Int, l.length = 32 ∧ v = .agg (u8s l).toArray) := ⟨_, rfl⟩
 rw [← hQ]
 have hst0 := rel_startR (n := 35) (args := [.agg (u8s key).toArray, .slice a ys.length cap]) (by simp) hRw
 obtain ⟨X, hX⟩ : ∃ X : Ctx, X = { w0 := w0, R0 := R, B := R, n := 35 } := ⟨_, rfl⟩
 rw [← hX] at hst0
 have hXn : X.n = 35 := by rw [hX]
 have hXk : X.keep = [] := by rw [hX]
 have hXg : X.ng = 0 := by rw [hX]
 suffices hS : SemI Tryz.prog none 0 X [] b62 ⟨envOf [.agg (u8s key).toArray, .slice a ys.length cap], [], R⟩ Q by
  exact hS _ _ _ _ hst0
 rw [b62_eq]
 refine sem_seq mix hXk (by rw [hXn]; exact k62_L) ?_
 rw [hXg]
 simp only [go_sem, ↓reduceIte, nQ1, nQ2, nQ3, nQ4, nQ5, nQ6, reduceCtorEq, v62_L]
 refine sem_seq mix hXk (by rw [hXn]; exact k62_RL) ?_
 rw [hXg]
 simp only [go_sem, ↓reduceIte, nQ1, nQ2, nQ3, nQ4, nQ5, nQ6, reduceCtorEq, v62_RL]
 suffices hS : ∀ (env : Nat → SV) (Z32 Z64 : List Int), Z32.length = 32 → Z64.length = 64 → env 1 = .val (.slice a ys.length cap) → env 2 = .loc 0 0 → env 4 = .loc 1 0 → env 5 = .loc 2 0 → env 6 = .loc 3 0 →
   SemI Tryz.prog none 0 X [] (.seq c62_RRL c62_RRR) ⟨env, [.box (w8 key), .box (w8 Z32), .box (w8 Z64), .box (w8 Z64)], R⟩ Q by
  simp only [← w8_vals]
  refine hS _ (List.replicate 32 0) (List.replicate 64 0) rfl rfl ?_ ?_ ?_ ?_ ?_
  all_goals simp only [go_sem, ↓reduceIte, nQ1, nQ2, nQ3, nQ4, nQ5, nQ6, reduceCtorEq, ]
 intro env Z32 Z64 hz32 hz64 e1 e2 e4 e5 e6
 refine sem_seqS (copy62 key Z64 Z32 Z64 hk hz64 hXn hXk env R e5 e2 (fun env' hEq => ?_))
 have f1 : env' 1 = .val (.slice a ys.length cap) := (hEq 1 (by decide) (by decide) (by decide)).trans e1
 have f4 : env' 4 = .loc 1 0 := (hEq 4 (by decide) (by decide) (by decide)).trans e4
 have f5 : env' 5 = .loc 2 0 := (hEq 5 (by decide) (by decide) (by decide)).trans e5
 have f6 : env' 6 = .loc 3 0 := (hEq 6 (by decide) (by decide) (by decide)).trans e6
 show SemI Tryz.prog none 0 X [] c62_RRR _ Q
 obtain ⟨K, hK⟩ : ∃ K, K = key ++ Z64.drop 32 := ⟨_, rfl⟩
 have hKl : K.length = 64 := by rw [hK, List.length_append, List.length_drop, hk, hz64]
 rw [← hK]
 refine sem_vc mix hXk (by rw [hXn]; exact k62_RRR) ?_
 rw [hXg]
 simp only [v62_RRR]
 rw [tCode_seq]
 refine cutT (fun s' => ∃ env E, s' = ⟨env, [.box (w8 key), .box (w8 Z32), .box (w8 K), .box (w8 E)], R⟩ ∧ E.length = 64 ∧ env 1 = .val (.slice a ys.length cap) ∧ env 4 = .loc 1 0 ∧ env 5 = .loc 2 0 ∧ env 6 = .loc 3 0) ?_ ?_
 ·try simp only [go_sem, ↓reduceIte, nQ1, nQ2, nQ3, nQ4, nQ5, nQ6, reduceCtorEq, w8_getD, hKl, f1, f4, f5, f6]
  refine ⟨by rw [w8_len]; omega, ?_⟩
  simp only [w8_set]
  exact ⟨_, _, rfl, by simp only [List.length_set]; exact hz64, f1, f4, f5, f6⟩
 rintro _ ⟨env1, E, rfl, hEl, g1, g4, g5, g6⟩
 try simp only [go_sem, ↓reduceIte, nQ1, nQ2, nQ3, nQ4, nQ5, nQ6, reduceCtorEq, g1, g4, g5, g6]
 refine vcLoop (Nat × List Int × List Int) (fun y => [(13, .val (.int .i64 y.1)), (1, .val (.slice a ys.length cap)), (4, .loc 1 0), (5, .loc 2 0), (6, .loc 3 0)]) (fun y => [.dead, .box (w8 Z32), .box (w8 y.2.1), .box (w8 y.2.2)]) (fun y _ => y.1 ≤ 64 ∧ y.2.1.length = 64 ∧ y.2.2.length = 64) (fun y => 64 - y.1) (0, K, E) ?_ ?_ ?_ ?_
 ·try simp only [go_sem, ↓reduceIte, nQ1, nQ2, nQ3, nQ4, nQ5, nQ6, reduceCtorEq, g1, g4, g5, g6]
  simp only [w8_ren]
  repeat' (first | trivial | rfl | apply And.intro)
 ·exact inScope_mk rfl rfl (by simp only [List.all_cons, List.all_nil, scB, w8_ok, Bool.and_self]) rfl rfl rfl
 ·exact ⟨Nat.zero_le _, hKl, hEl⟩
 rintro ⟨i, K', E'⟩ env2 R2 hle2 hE ⟨hi, hk', he'⟩
 dsimp only at hi hk' he'
 (simp only [go_sem] at hE; obtain ⟨h13, h1, h4, h5, h6⟩ := hE; simp only [go_sem, ↓reduceIte, nQ1, nQ2, nQ3, nQ4, nQ5, nQ6, reduceCtorEq, h13, h1, h4, h5, h6]; dsimp only at *)
 refine ⟨fun hlt => ?_, fun hge => ?_⟩
 ·have q1 : (w8 K')[i]? = some (.val (.int .u8 (K'.getD i 0))) := w8_getD (by omega)
  have q2 : (w8 E')[i]? = some (.val (.int .u8 (E'.getD i 0))) := w8_getD (by omega)
  refine ⟨by omega, ?_⟩
  try simp only [go_sem, ↓reduceIte, nQ1, nQ2, nQ3, nQ4, nQ5, nQ6, reduceCtorEq, iQ1, iQ2, iQ3, iQ4, iQ5, iQ6, q1, q2, h13, h1, h4, h5, h6]
  simp only [w8_set, w8_ren]
  refine ⟨by omega, by rw [w8_len]; omega, by omega, by omega, by rw [w8_len]; omega, _, W.in64 (by omega), (i + 1, K'.set i (bits .xor .u8 (K'.getD i 0) 54), E'.set i (bits .xor .u8 (E'.getD i 0) 92)), by dsimp only; omega, ?_, ⟨w8_ok _ _, w8_ok _ _, w8_ok _ _⟩, by dsimp only; omega, ?_, ?_⟩
  ·repeat' (first | trivial | rfl | norm_cast | apply And.intro)
  ·rw [List.length_set]; exact hk'
  ·rw [List.length_set]; exact he'
 ·refine cells_w8 rfl ?_
  try simp only [go_sem, ↓reduceIte, nQ1, nQ2, nQ3, nQ4, nQ5, nQ6, reduceCtorEq, h13, h1, h4, h5, h6]
  intro b R3 hle3 hrow _
  try simp only [go_sem, ↓reduceIte, nQ1, nQ2, nQ3, nQ4, nQ5, nQ6, reduceCtorEq, h13, h1, h4, h5, h6, w8_unloc]
  refine vfreeze ?_
  try simp only [go_sem, ↓reduceIte, nQ1, nQ2, nQ3, nQ4, nQ5, nQ6, reduceCtorEq, h13, h1, h4, h5, h6, w8_unloc]
  intro b4 cap4 R4 hle4 hrow4 hcap4 _
  have hleR4 : RO.le R R4 := RO.le_trans hle2 (RO.le_trans hle3 hle4)
  refine vcall (hHash K' ys (.slice (some ⟨b, 0, none⟩) 64 64) (.slice a ys.length cap) _ R4 (hr.mono hleR4) (two_parts hrow4 (by omega)) (by have := U8.row (cap := 64) (fun i v hv => hle4 _ _ (hrow i v hv)) (by omega) (by omega); rwa [hk'] at this) (h' R4 hleR4) (by rintro rfl; simp at hk') (by omega)) ?_
  rintro R5 r hle5 ⟨D1, hD1, rfl⟩
  try simp only [go_sem, ↓reduceIte, nQ1, nQ2, nQ3, nQ4, nQ5, nQ6, reduceCtorEq, h13, h1, h4, h5, h6, w8_unloc, w8_unsl]
  refine ⟨by rw [List.length_map, u8s_len]; exact hD1, u8_one _, ?_⟩
  rw [put_w8 D1 _ (by rw [hD1]; rfl)]
  refine cells_w8 rfl ?_
  try simp only [go_sem, ↓reduceIte, nQ1, nQ2, nQ3, nQ4, nQ5, nQ6, reduceCtorEq, h13, h1, h4, h5, h6, w8_unloc, w8_unsl]
  intro b6 R6 hle6 hrow6 _
  try simp only [go_sem, ↓reduceIte, nQ1, nQ2, nQ3, nQ4, nQ5, nQ6, reduceCtorEq, h13, h1, h4, h5, h6, w8_unloc, w8_unsl]
  refine cells_w8 rfl ?_
  try simp only [go_sem, ↓reduceIte, nQ1, nQ2, nQ3, nQ4, nQ5, nQ6, reduceCtorEq, h13, h1, h4, h5, h6, w8_unloc, w8_unsl]
  intro b7 R7 hle7 hrow7 _
  try simp only [go_sem, ↓reduceIte, nQ1, nQ2, nQ3, nQ4, nQ5, nQ6, reduceCtorEq, h13, h1, h4, h5, h6, w8_unloc, w8_unsl]
  refine vfreeze ?_
  try simp only [go_sem, ↓reduceIte, nQ1, nQ2, nQ3, nQ4, nQ5, nQ6, reduceCtorEq, h13, h1, h4, h5, h6, w8_unloc, w8_unsl]
  intro b8 cap8 R8 hle8 hrow8 hcap8 _
  have hleR8 : RO.le R R8 := RO.le_trans hleR4 (RO.le_trans hle5 (RO.le_trans hle6 (RO.le_trans hle7 hle8)))
  refine vcall (hHash E' D1 (.slice (some ⟨b6, 0, none⟩) 64 64) (.slice (some ⟨b7, 0, none⟩) 32 32) _ R8 (hr.mono hleR8) (two_parts hrow8 (by omega)) (by have := U8.row (cap := 64) (fun i v hv => hle8 _ _ (hle7 _ _ (hrow6 i v hv))) (by omega) (by omega); rwa [he'] at this) (by have := U8.row (cap := 32) (fun i v hv => hle8 _ _ (hrow7 i v hv)) (by omega) (by omega); rwa [hD1] at this) (by rintro rfl; simp at he') (by omega)) ?_
  rintro R9 r hle9 ⟨D2, hD2, rfl⟩
  try simp only [go_sem, ↓reduceIte, nQ1, nQ2, nQ3, nQ4, nQ5, nQ6, reduceCtorEq, h13, h1, h4, h5, h6, w8_unloc, w8_unsl]
  refine ⟨by rw [List.length_map, u8s_len]; exact hD2, by rw [w8_len]; omega, u8_one _, ?_⟩
  rw [put_w8 D2 _ (by rw [w8_len]; omega)]
  intro β κ tm w hr2
  rw [hQ]
  refine retM_fin (rv := [.cell 4 (some 32)]) hX (by kernel_rfl) ?_ [] w hr2 ⟨List.nodup_nil, fun _ h => by cases h⟩
  show RetT [.cell 4 (some 32)] _ (fun vs s' => ∃ l : List Int, l.length = 32 ∧ resVal vs = .agg (u8s l).toArray) .mk
  try simp only [go_sem, ↓reduceIte, nQ1, nQ2, nQ3, nQ4, nQ5, nQ6, reduceCtorEq, h13, h1, h4, h5, h6, w8_getD, hD2]
  exact ⟨(List.range 32).map fun i => D2.getD i 0, by simp, rfl⟩
end Go.Proofs.YtdglpgepgmdbdaaGreatDoor
namespace Go.Proofs.YtdglpgepgmdbdaaGreatDoor
set_option linter.unusedSectionVars false
variable [Go.Proofs.YtdglpgepgmdbdaaGreatDoor.Vc.Drew]
set_option linter.unusedSimpArgs false
set_option linter.unusedVariables false
open Go.Proofs.YtdglpgepgmdbdaaGreatDoor.Vc Go.RowKit
set_option maxHeartbeats 2000000 in
theorem vNumber (n : Int) (R : RO) : CallsR Tryz.prog 85 [.int .i64 n] R fun R' r => ∃ l : List Int, l.length = 8 ∧ U8 R' r l := by
 refine callsT mix Tryz.func85 comp85 (by simp [Tryz.ntmps85]) ?_; simp only [go_sem, ↓reduceIte, nQ1, nQ2, nQ3, nQ4, nQ5, nQ6, reduceCtorEq, vc85, rs85]
 obtain ⟨Z, hZ⟩ : ∃ Z : List Int, Z = List.replicate 8 0 := ⟨_, rfl⟩
 refine vcLoop (Nat × List Int) (fun y => [(5, .val (.int .i64 y.1)), (0, .val (.int .i64 n)), (3, .loc 0 0)]) (fun y => [.box (w8 y.2)]) (fun y _ => y.1 ≤ 8 ∧ y.2.length = 8) (fun y => 8 - y.1) (0, Z) ?_ ?_ ?_ ?_
 ·subst hZ
  (try simp only [go_sem, ↓reduceIte, nQ1, nQ2, nQ3, nQ4, nQ5, nQ6, reduceCtorEq]) <;> (repeat' (first | rfl | trivial | constructor | (intro h; exact absurd rfl h)))
  try (repeat' (first | trivial | rfl | apply And.intro))
 ·exact inScope_mk rfl rfl (by simp only [List.all_cons, List.all_nil, scB, w8_ok, Bool.and_self]) rfl rfl rfl
 ·exact ⟨Nat.zero_le _, by rw [hZ]; rfl⟩
 rintro ⟨i, l⟩ env R1 hle1 hE ⟨hi, hl⟩
 dsimp only at hi hl
 (simp only [go_sem] at hE; obtain ⟨e5, e0, e3⟩ := hE; simp only [go_sem, ↓reduceIte, nQ1, nQ2, nQ3, nQ4, nQ5, nQ6, reduceCtorEq, e5, e0, e3]; dsimp only at *)
 refine ⟨fun hlt => ?_, fun hge => ?_⟩
 ·obtain ⟨r1, hr1⟩ : ∃ r, W .u64 n r := ⟨_, W.mk _ _⟩
  obtain ⟨r2, hr2⟩ : ∃ r, W .u8 (r1.fdiv (2 ^ min (8 * (i : Int)).toNat 64)) r := ⟨_, W.mk _ _⟩
  refine ⟨r1, hr1, _, W.in64 (by omega), by omega, r2, hr2, by omega, by rw [w8_len]; omega, _, W.in64 (by omega), ?_⟩
  simp only [w8_set, w8_ren]
  refine ⟨(i + 1, l.set i r2), by dsimp only; omega, ?_, w8_ok _ _, by dsimp only; omega, by rw [List.length_set]; exact hl⟩
  repeat' (first | trivial | rfl | norm_cast | apply And.intro)
 ·refine cells_w8 rfl ?_
  try simp only [go_sem, ↓reduceIte, nQ1, nQ2, nQ3, nQ4, nQ5, nQ6, reduceCtorEq, e5, e0, e3]
  intro b R2 hle2 hrow _
  try simp only [go_sem, ↓reduceIte, nQ1, nQ2, nQ3, nQ4, nQ5, nQ6, reduceCtorEq, e5, e0, e3]
  have := U8.row (cap := 8) hrow (by omega) (by omega)
  rw [hl] at this
  exact ⟨l, hl, this⟩
def envC (f t s : Int) (y : Value) (d : List Int) : List Value := [.int .i64 f, .int .i64 t, .int .i64 s, y] ++ u8s d
set_option maxHeartbeats 2000000 in
theorem vHeader (f t s : Int) (y : Value) (d : List Int) (R : RO) : CallsS Tryz.prog 63 [.val (.agg (envC f t s y d).toArray)] [] R fun _ bs r => ∃ l : List Int, l.length = 24 ∧ bs = [.row 5 1 (u8s l)] ∧ r = .sl 0 24 := by
 unfold envC
 refine callsTS mix Tryz.func63 comp63 (by simp [Tryz.ntmps63]) rfl rfl ?_; simp only [go_sem, ↓reduceIte, nQ1, nQ2, nQ3, nQ4, nQ5, nQ6, reduceCtorEq, vc63, rs63]
 refine ⟨by decide, by decide, by decide, ?_⟩
 refine vcLoopR (Nat × List Int) (fun x => [(14, .val (.int .i64 x.1)), (13, .val (.agg #[.int .i64 f, .int .i64 t, .int .i64 s])), (3, .sl 0 x.2.length)]) (fun x => [.row 5 1 (u8s x.2)]) (fun x _ => x.1 ≤ 3 ∧ x.2.length = 8 * x.1) (fun x => 3 - x.1) (0, []) [1] ?_ ?_ ?_ ?_
 ·(try simp only [go_sem, ↓reduceIte, nQ1, nQ2, nQ3, nQ4, nQ5, nQ6, reduceCtorEq]) <;> (repeat' (first | rfl | trivial | constructor | (intro h; exact absurd rfl h)))
  try (repeat' (first | trivial | rfl | apply And.intro))
 ·exact inScope_mk rfl rfl rfl rfl rfl rfl
 ·exact ⟨Nat.zero_le _, rfl⟩
 rintro ⟨i, l⟩ env R1 hle1 hE ⟨hi, hl⟩
 dsimp only at hi hl
 (simp only [go_sem] at hE; obtain ⟨e14, e13, e3⟩ := hE; simp only [go_sem, ↓reduceIte, nQ1, nQ2, nQ3, nQ4, nQ5, nQ6, reduceCtorEq, e14, e13, e3]; dsimp only at *)
 refine ⟨fun hlt => ?_, fun hge => ?_⟩
 ·have hln : (u8s l).length = l.length * 1 := by rw [u8s_len, Nat.mul_one]
  obtain ⟨nn, hnn⟩ : ∃ nn : Int, [Value.int .i64 f, .int .i64 t, .int .i64 s][i]? = some (.int .i64 nn) := by
   have : i = 0 ∨ i = 1 ∨ i = 2 := by omega
   rcases this with rfl | rfl | rfl <;> exact ⟨_, rfl⟩
  try simp only [go_sem, ↓reduceIte, nQ1, nQ2, nQ3, nQ4, nQ5, nQ6, reduceCtorEq, iQ1, iQ2, iQ3, iQ4, iQ5, iQ6, e14, e13, e3, hnn]
  refine ⟨by omega, ?_⟩
  try simp only [go_sem, ↓reduceIte, nQ1, nQ2, nQ3, nQ4, nQ5, nQ6, reduceCtorEq, iQ1, iQ2, iQ3, iQ4, iQ5, iQ6, e14, e13, e3, hnn]
  refine vcall (vNumber nn R1) ?_
  rintro R2 r hle2 ⟨m, hm, hU⟩
  obtain ⟨ma, mc, rfl, hmc, hmf⟩ := hU.form
  try simp only [go_sem, ↓reduceIte, nQ1, nQ2, nQ3, nQ4, nQ5, nQ6, reduceCtorEq, iQ1, iQ2, iQ3, iQ4, iQ5, iQ6, e14, e13, e3, hnn]
  refine vsrc (u8s m) (by rw [u8s_len, Nat.mul_one]) u8s_one hmf ?_
  try simp only [go_sem, ↓reduceIte, nQ1, nQ2, nQ3, nQ4, nQ5, nQ6, reduceCtorEq, iQ1, iQ2, iQ3, iQ4, iQ5, iQ6, e14, e13, e3, hnn]
  refine vappO (u8s l) rfl hln (by omega) ?_
  try simp only [go_sem, ↓reduceIte, nQ1, nQ2, nQ3, nQ4, nQ5, nQ6, reduceCtorEq, iQ1, iQ2, iQ3, iQ4, iQ5, iQ6, e14, e13, e3, hnn]
  refine ⟨_, W.in64 (by omega), (i + 1, l ++ m), [1], by dsimp only; omega, ?_, by decide, by dsimp only; omega, by rw [List.length_append]; omega⟩
  dsimp only
  rw [← u8s_app, List.length_append]
  repeat' (first | trivial | rfl | norm_cast | apply And.intro)
 ·exact ⟨l, by omega, rfl, by rw [show l.length = 24 by omega]⟩
def z32 : List Int := [0, 0, 0, 0, 0, 0, 0, 0, 0, 0, 0, 0, 0, 0, 0, 0, 0, 0, 0, 0, 0, 0, 0, 0, 0, 0, 0, 0, 0, 0, 0, 0]
theorem u8z : u8s z32 = [.int .u8 0, .int .u8 0, .int .u8 0, .int .u8 0, .int .u8 0, .int .u8 0, .int .u8 0, .int .u8 0, .int .u8 0, .int .u8 0, .int .u8 0, .int .u8 0, .int .u8 0, .int .u8 0, .int .u8 0, .int .u8 0, .int .u8 0, .int .u8 0, .int .u8 0, .int .u8 0, .int .u8 0, .int .u8 0, .int .u8 0, .int .u8 0, .int .u8 0, .int .u8 0, .int .u8 0, .int .u8 0, .int .u8 0, .int .u8 0, .int .u8 0, .int .u8 0] := rfl
theorem envz (f t s : Int) (y : Value) : envC f t s y z32 = [.int .i64 f, .int .i64 t, .int .i64 s, y, .int .u8 0, .int .u8 0, .int .u8 0, .int .u8 0, .int .u8 0, .int .u8 0, .int .u8 0, .int .u8 0, .int .u8 0, .int .u8 0, .int .u8 0, .int .u8 0, .int .u8 0, .int .u8 0, .int .u8 0, .int .u8 0, .int .u8 0, .int .u8 0, .int .u8 0, .int .u8 0, .int .u8 0, .int .u8 0, .int .u8 0, .int .u8 0, .int .u8 0, .int .u8 0, .int .u8 0, .int .u8 0, .int .u8 0, .int .u8 0, .int .u8 0, .int .u8 0] := rfl
set_option maxHeartbeats 4000000 in
theorem vRight (f t s : Int) (y : Value) (ys : List Int) (R : RO) (hr : RdR R) (hy : U8 R y ys) (hl : ys.length ≤ 1000) :
  CallsR Tryz.prog 31 [.agg (u8s z32).toArray, .agg (envC f t s y z32).toArray] R fun _ r => ∃ l : List Int, l.length = 32 ∧ r = .agg (u8s l).toArray := by
 have hH := fun y R' => vHeader f t s y z32 R'
 have hK := fun (m : List Int) (v : Value) (R' : RO) (hle : RO.le R R') (hU : U8 R' v m) (hm : m.length ≤ 60000) => hKeyed z32 m v R' (hr.mono hle) rfl hU hm
 obtain ⟨a, cap, rfl, hc, hf⟩ := hy.form
 simp only [envz, u8z] at hH hK ⊢
 refine callsT mix Tryz.func31 comp31 (by simp [Tryz.ntmps31]) ?_; simp only [go_sem, ↓reduceIte, nQ1, nQ2, nQ3, nQ4, nQ5, nQ6, reduceCtorEq, vc31, rs31]
 repeat' apply And.intro
 all_goals (
  refine vhandE (hH _ R) rfl ?_
  rintro R1 bs r hle1 ⟨l, hl24, rfl, rfl⟩
  simp only [go_sem, ↓reduceIte, nQ1, nQ2, nQ3, nQ4, nQ5, nQ6, reduceCtorEq, ren, renC, renB, Vc.rn, List.range']
  have hln : (u8s l).length = 24 * 1 := by rw [u8s_len, hl24]
  repeat' apply And.intro
  all_goals (
   refine vsrc (u8s ys) (by rw [u8s_len, Nat.mul_one]) u8s_one (fun hne => by obtain ⟨ad, h, hf⟩ := hf hne; exact ⟨ad, h, fun i u hi => hle1 _ _ (hf i u hi)⟩) ?_
   simp only [go_sem, ↓reduceIte, nQ1, nQ2, nQ3, nQ4, nQ5, nQ6, reduceCtorEq, ]
   refine vappO (u8s l) rfl hln (by omega) ?_
   simp only [go_sem, ↓reduceIte, nQ1, nQ2, nQ3, nQ4, nQ5, nQ6, reduceCtorEq, ]
   refine vfreeze ?_
   simp only [go_sem, ↓reduceIte, nQ1, nQ2, nQ3, nQ4, nQ5, nQ6, reduceCtorEq, ]
   intro b cap2 R2 hle2 hrow hcap _
   have hU : U8 R2 (.slice (some ⟨b, 0, none⟩) (24 + ys.length) cap2) (l ++ ys) := by
    have := U8.row (cap := cap2) (l := l ++ ys) (by rw [← u8s_app]; exact hrow) (by rw [List.length_append]; simp only [List.length_append, u8s_len] at hcap; omega) (by rw [List.length_append]; omega)
    rwa [List.length_append, hl24] at this
   refine vcall (hK (l ++ ys) _ R2 (RO.le_trans hle1 hle2) hU (by rw [List.length_append]; omega)) ?_
   rintro R3 r hle3 ⟨D, hD, rfl⟩
   simp only [go_sem, ↓reduceIte, nQ1, nQ2, nQ3, nQ4, nQ5, nQ6, reduceCtorEq, ]
   refine ⟨by rw [List.length_map, u8s_len]; exact hD, u8_one _, ?_⟩
   rw [put_w8 D _ (by rw [hD]; rfl)]
   try simp only [go_sem, ↓reduceIte, nQ1, nQ2, nQ3, nQ4, nQ5, nQ6, reduceCtorEq, w8_getD, hD]
   exact ⟨(List.range 32).map fun i => D.getD i 0, by simp, rfl⟩))
end Go.Proofs.YtdglpgepgmdbdaaGreatDoor
namespace Go.Proofs.YtdglpgepgmdbdaaGreatDoor
set_option linter.unusedSectionVars false
variable [Go.Proofs.YtdglpgepgmdbdaaGreatDoor.Vc.Drew]
set_option linter.unusedSimpArgs false
set_option linter.unusedVariables false
open Go.Proofs.YtdglpgepgmdbdaaGreatDoor.Vc Go.RowKit
def letC (y : Value) : List Value := [.int .i64 16, .int .i64 1, .int .i64 0, .int .i64 0, .int .i64 0, .int .i64 0, .int .i64 0, .int .i64 2, .int .i64 3, .int .i64 0, .int .i64 0, .int .i64 0, .int .i64 0, .bool false, .int .i64 0, .int .i64 0, .int .i64 0, .slice none 0 0, .int .i64 0, .int .i64 0, .string (⟨#[]⟩ : ByteArray), .int .i64 0, .int .i64 0, .slice none 0 0, .int .i64 0, .int .i64 0, .int .i64 3, .int .i64 0, .int .i64 90, y, .int .u8 0, .int .u8 0, .int .u8 0, .int .u8 0, .int .u8 0, .int .u8 0, .int .u8 0, .int .u8 0, .int .u8 0, .int .u8 0, .int .u8 0, .int .u8 0, .int .u8 0, .int .u8 0, .int .u8 0, .int .u8 0, .int .u8 0, .int .u8 0, .int .u8 0, .int .u8 0, .int .u8 0, .int .u8 0, .int .u8 0, .int .u8 0, .int .u8 0, .int .u8 0, .int .u8 0, .int .u8 0, .int .u8 0, .int .u8 0, .int .u8 0, .int .u8 0]
set_option maxHeartbeats 4000000 in
theorem tUses (f : Nat) (hf : f < 17) (R : RO) : CallsR Tryz.prog 61 [.int .i64 16, .int .i64 f] R fun _ r => r = .bool (decide (f = 4 ∨ f = 5 ∨ 13 ≤ f)) := by
 refine callsT mix Tryz.func61 comp61 (by simp [Tryz.ntmps61]) ?_; simp only [go_sem, ↓reduceIte, nQ1, nQ2, nQ3, nQ4, nQ5, nQ6, reduceCtorEq, vc61, rs61]
 have : f = 0 ∨ f = 1 ∨ f = 2 ∨ f = 3 ∨ f = 4 ∨ f = 5 ∨ f = 6 ∨ f = 7 ∨ f = 8 ∨ f = 9 ∨ f = 10 ∨ f = 11 ∨ f = 12 ∨ f = 13 ∨ f = 14 ∨ f = 15 ∨ f = 16 := by omega
 try simp only [go_sem, ↓reduceIte, nQ1, nQ2, nQ3, nQ4, nQ5, nQ6, reduceCtorEq, iQ1, iQ2, iQ3, iQ4, iQ5, iQ6]
 refine congrArg Value.bool ?_
 rcases this with rfl | rfl | rfl | rfl | rfl | rfl | rfl | rfl | rfl | rfl | rfl | rfl | rfl | rfl | rfl | rfl | rfl <;> decide +kernel
theorem tNoSeries (R : RO) : CallsR Tryz.prog 80 [.agg #[.slice none 0 0, .int .i64 0, .int .i64 0, .string (⟨#[]⟩ : ByteArray), .int .i64 0, .int .i64 0, .slice none 0 0]] R fun _ r => r = .bool true := by
 refine callsT mix Tryz.func80 comp80 (by simp [Tryz.ntmps80]) ?_; simp only [go_sem, ↓reduceIte, nQ1, nQ2, nQ3, nQ4, nQ5, nQ6, reduceCtorEq, vc80, rs80]
 exact ⟨_, W.in64 (by decide), _, W.in64 (by decide), fun h => absurd rfl h⟩
def limL : Nat → Int × Int
 | 0 => (1, 1099511627776) | 1 => (1, 1099511627776) | 2 => (0, 15) | 3 => (1, 64) | 4 => (0, 511) | 5 => (0, 511) | 6 => (0, 255) | 7 => (1, 3) | 8 => (0, 1099511627776) | 11 => (0, 2251799813685248) | 12 => (0, 18) | 13 => (1, 4) | _ => (0, 0)
set_option maxHeartbeats 8000000 in
theorem tLimits (f : Nat) (hf : f < 17) (R : RO) : CallsR Tryz.prog 100 [.int .i64 16, .int .i64 f] R fun _ r => r = .tuple #[.int .i64 (limL f).1, .int .i64 (limL f).2] := by
 refine callsT mix Tryz.func100 comp100 (by simp [Tryz.ntmps100]) ?_; simp only [go_sem, ↓reduceIte, nQ1, nQ2, nQ3, nQ4, nQ5, nQ6, reduceCtorEq, vc100, rs100]
 have : f = 0 ∨ f = 1 ∨ f = 2 ∨ f = 3 ∨ f = 4 ∨ f = 5 ∨ f = 6 ∨ f = 7 ∨ f = 8 ∨ f = 9 ∨ f = 10 ∨ f = 11 ∨ f = 12 ∨ f = 13 ∨ f = 14 ∨ f = 15 ∨ f = 16 := by omega
 have q1 : ([SV.val (Value.int .i64 1), SV.val (Value.int .i64 1099511627776), SV.val (Value.int .i64 1), SV.val (Value.int .i64 1099511627776), SV.val (Value.int .i64 0), SV.val (Value.int .i64 15), SV.val (Value.int .i64 1), SV.val (Value.int .i64 64), SV.val (Value.int .i64 0), SV.val (Value.int .i64 511), SV.val (Value.int .i64 0), SV.val (Value.int .i64 511), SV.val (Value.int .i64 0), SV.val (Value.int .i64 255), SV.val (Value.int .i64 1), SV.val (Value.int .i64 3), SV.val (Value.int .i64 0), SV.val (Value.int .i64 1099511627776), SV.val (Value.int .i64 0), SV.val (Value.int .i64 0), SV.val (Value.int .i64 0), SV.val (Value.int .i64 0), SV.val (Value.int .i64 0), SV.val (Value.int .i64 2251799813685248), SV.val (Value.int .i64 0), SV.val (Value.int .i64 18), SV.val (Value.int .i64 1), SV.val (Value.int .i64 4), SV.val (Value.int .i64 0), SV.val (Value.int .i64 0), SV.val (Value.int .i64 0), SV.val (Value.int .i64 0), SV.val (Value.int .i64 0), SV.val (Value.int .i64 0)] : List SV)[f * 2]? = some (.val (.int .i64 (limL f).1)) := by
  rcases this with rfl | rfl | rfl | rfl | rfl | rfl | rfl | rfl | rfl | rfl | rfl | rfl | rfl | rfl | rfl | rfl | rfl <;> rfl
 have q2 : ([SV.val (Value.int .i64 1), SV.val (Value.int .i64 1099511627776), SV.val (Value.int .i64 1), SV.val (Value.int .i64 1099511627776), SV.val (Value.int .i64 0), SV.val (Value.int .i64 15), SV.val (Value.int .i64 1), SV.val (Value.int .i64 64), SV.val (Value.int .i64 0), SV.val (Value.int .i64 511), SV.val (Value.int .i64 0), SV.val (Value.int .i64 511), SV.val (Value.int .i64 0), SV.val (Value.int .i64 255), SV.val (Value.int .i64 1), SV.val (Value.int .i64 3), SV.val (Value.int .i64 0), SV.val (Value.int .i64 1099511627776), SV.val (Value.int .i64 0), SV.val (Value.int .i64 0), SV.val (Value.int .i64 0), SV.val (Value.int .i64 0), SV.val (Value.int .i64 0), SV.val (Value.int .i64 2251799813685248), SV.val (Value.int .i64 0), SV.val (Value.int .i64 18), SV.val (Value.int .i64 1), SV.val (Value.int .i64 4), SV.val (Value.int .i64 0), SV.val (Value.int .i64 0), SV.val (Value.int .i64 0), SV.val (Value.int .i64 0), SV.val (Value.int .i64 0), SV.val (Value.int .i64 0)] : List SV)[f * 2 + 1]? = some (.val (.int .i64 (limL f).2)) := by
  rcases this with rfl | rfl | rfl | rfl | rfl | rfl | rfl | rfl | rfl | rfl | rfl | rfl | rfl | rfl | rfl | rfl | rfl <;> rfl
 try simp only [go_sem, ↓reduceIte, nQ1, nQ2, nQ3, nQ4, nQ5, nQ6, reduceCtorEq, iQ1, iQ2, iQ3, iQ4, iQ5, iQ6, q1, q2]
 omega
def ptrs (b : Nat) : List Value := [.pointer (some ⟨b, 3, none⟩), .pointer (some ⟨b, 4, none⟩), .pointer (some ⟨b, 5, none⟩), .pointer (some ⟨b, 6, none⟩), .pointer (some ⟨b, 7, none⟩), .pointer (some ⟨b, 8, none⟩), .pointer (some ⟨b, 9, none⟩), .pointer (some ⟨b, 10, none⟩), .pointer (some ⟨b, 11, none⟩), .pointer none, .pointer none, .pointer (some ⟨b, 24, none⟩), .pointer (some ⟨b, 25, none⟩), .pointer (some ⟨b, 26, none⟩), .pointer none, .pointer none, .pointer none]
theorem tNumbers (b : Nat) (R : RO) : CallsR Tryz.prog 60 [.pointer (some ⟨b, 0, none⟩)] R fun _ r => r = .agg (ptrs b).toArray := by
 refine callsT mix Tryz.func60 comp60 (by simp [Tryz.ntmps60]) ?_; simp only [go_sem, ↓reduceIte, nQ1, nQ2, nQ3, nQ4, nQ5, nQ6, reduceCtorEq, vc60, rs60]
 rfl
theorem tServer (n : Int) (h : 0 ≤ n ∧ n < 16) (R : RO) : CallsR Tryz.prog 77 [.int .i64 n] R fun _ r => r = .bool true := by
 refine callsT mix Tryz.func77 comp77 (by simp [Tryz.ntmps77]) ?_; simp only [go_sem, ↓reduceIte, nQ1, nQ2, nQ3, nQ4, nQ5, nQ6, reduceCtorEq, vc77, rs77]
 exact ⟨fun _ => by rw [decide_eq_true h.2], fun h' => absurd h.1 h'⟩
def fldV : Nat → Int
 | 7 => 0 | 8 => 0 | 4 => 2 | 5 => 3 | 13 => 3 | _ => 0
theorem letC_get (y : Value) (b : Nat) (R : RO) (h : RowIn R b (letC y)) (f : Nat) (hf : f < 17) (k : Nat) (hk : (ptrs b)[f]? = some (.pointer (some ⟨b, k, none⟩))) : R ⟨b, k, none⟩ (.int .i64 (fldV f)) := by
 have : f = 0 ∨ f = 1 ∨ f = 2 ∨ f = 3 ∨ f = 4 ∨ f = 5 ∨ f = 6 ∨ f = 7 ∨ f = 8 ∨ f = 9 ∨ f = 10 ∨ f = 11 ∨ f = 12 ∨ f = 13 ∨ f = 14 ∨ f = 15 ∨ f = 16 := by omega
 rcases this with rfl | rfl | rfl | rfl | rfl | rfl | rfl | rfl | rfl | rfl | rfl | rfl | rfl | rfl | rfl | rfl | rfl <;> cases hk <;> exact h _ _ rfl
theorem ptrs_cases (b f : Nat) (hf : f < 17) : ((ptrs b)[f]? = some (.pointer none) ∧ (f = 9 ∨ f = 10 ∨ 14 ≤ f)) ∨ (∃ k, (ptrs b)[f]? = some (.pointer (some ⟨b, k, none⟩)) ∧ ¬ (f = 9 ∨ f = 10 ∨ 14 ≤ f)) := by
 have : f = 0 ∨ f = 1 ∨ f = 2 ∨ f = 3 ∨ f = 4 ∨ f = 5 ∨ f = 6 ∨ f = 7 ∨ f = 8 ∨ f = 9 ∨ f = 10 ∨ f = 11 ∨ f = 12 ∨ f = 13 ∨ f = 14 ∨ f = 15 ∨ f = 16 := by omega
 rcases this with rfl | rfl | rfl | rfl | rfl | rfl | rfl | rfl | rfl | rfl | rfl | rfl | rfl | rfl | rfl | rfl | rfl <;> first
  | exact .inl ⟨rfl, by decide⟩
  | exact .inr ⟨_, rfl, by decide⟩
theorem limL_ok (f : Nat) (h : f = 4 ∨ f = 5 ∨ f = 13) : ¬ fldV f < (limL f).1 ∧ ¬ (limL f).2 < fldV f := by
 rcases h with rfl | rfl | rfl <;> decide
theorem fldV_zero (f : Nat) (hf : f < 17) (h : ¬ (f = 4 ∨ f = 5 ∨ 13 ≤ f)) : fldV f = 0 := by
 have : f = 0 ∨ f = 1 ∨ f = 2 ∨ f = 3 ∨ f = 4 ∨ f = 5 ∨ f = 6 ∨ f = 7 ∨ f = 8 ∨ f = 9 ∨ f = 10 ∨ f = 11 ∨ f = 12 ∨ f = 13 ∨ f = 14 ∨ f = 15 ∨ f = 16 := by omega
 rcases this with rfl | rfl | rfl | rfl | rfl | rfl | rfl | rfl | rfl | rfl | rfl | rfl | rfl | rfl | rfl | rfl | rfl <;> first
  | rfl
  | exact absurd (by decide) h
set_option maxHeartbeats 8000000 in
theorem tValidNumbers (y : Value) (R : RO) (hy : ∃ a c, y = .slice a 3 c) : CallsR Tryz.prog 78 [.agg (letC y).toArray] R fun _ r => r = .bool true := by
 obtain ⟨a, c, rfl⟩ := hy
 have hN := tNumbers
 have hL := fun b R' h => letC_get (.slice a 3 c) b R' h
 simp only [letC] at hL ⊢
 refine callsT mix Tryz.func78 comp78 (by simp [Tryz.ntmps78]) ?_; simp only [go_sem, ↓reduceIte, nQ1, nQ2, nQ3, nQ4, nQ5, nQ6, reduceCtorEq, vc78, rs78]
 try simp only [go_sem, ↓reduceIte, nQ1, nQ2, nQ3, nQ4, nQ5, nQ6, reduceCtorEq, iQ1, iQ2, iQ3, iQ4, iQ5, iQ6]
 refine vfreeze ?_
 try simp only [go_sem, ↓reduceIte, nQ1, nQ2, nQ3, nQ4, nQ5, nQ6, reduceCtorEq, iQ1, iQ2, iQ3, iQ4, iQ5, iQ6]
 intro b R1 hle1 hrow _
 try simp only [go_sem, ↓reduceIte, nQ1, nQ2, nQ3, nQ4, nQ5, nQ6, reduceCtorEq, iQ1, iQ2, iQ3, iQ4, iQ5, iQ6]
 refine vcall (hN b R1) ?_
 rintro R2 r hle2 rfl
 try simp only [go_sem, ↓reduceIte, nQ1, nQ2, nQ3, nQ4, nQ5, nQ6, reduceCtorEq, iQ1, iQ2, iQ3, iQ4, iQ5, iQ6]
 have hle12 := hle2
 refine vcLoop Nat (fun f => [(18, .val (.int .i64 f)), (17, .val (.agg (ptrs b).toArray)), (1, .val (.pointer (some ⟨b, 0, none⟩))), (3, .val (.bool false))]) (fun _ => []) (fun f _ => f ≤ 17) (fun f => 17 - f) 0 ?_ ?_ ?_ ?_
 ·(try simp only [go_sem, ↓reduceIte, nQ1, nQ2, nQ3, nQ4, nQ5, nQ6, reduceCtorEq]) <;> (repeat' (first | rfl | trivial | constructor | (intro h; exact absurd rfl h)))
  try trivial
 ·try simp only [go_sem, ↓reduceIte, nQ1, nQ2, nQ3, nQ4, nQ5, nQ6, reduceCtorEq]
 ·exact Nat.zero_le _
 rintro f env R3 hle3 hE hf
 (simp only [go_sem] at hE; obtain ⟨e18, e17, e1, e3⟩ := hE; simp only [go_sem, ↓reduceIte, nQ1, nQ2, nQ3, nQ4, nQ5, nQ6, reduceCtorEq, e18, e17, e1, e3]; dsimp only at *)
 have h16 : R3 ⟨b, 0, none⟩ (.int .i64 16) := hle3 _ _ (hle2 _ _ (hrow 0 _ rfl))
 refine ⟨fun hlt => ?_, fun hge => ?_⟩
 ·have hf17 : f < 17 := by omega
  rcases ptrs_cases b f hf17 with ⟨hp, hn⟩ | ⟨k, hp, hn⟩
  ·try simp only [go_sem, ↓reduceIte, nQ1, nQ2, nQ3, nQ4, nQ5, nQ6, reduceCtorEq, iQ1, iQ2, iQ3, iQ4, iQ5, iQ6, hp, e18, e17, e1, e3]
   exact ⟨by omega, _, W.in64 (by omega), f + 1, by omega, by norm_cast, by omega⟩
  ·try simp only [go_sem, ↓reduceIte, nQ1, nQ2, nQ3, nQ4, nQ5, nQ6, reduceCtorEq, iQ1, iQ2, iQ3, iQ4, iQ5, iQ6, hp, e18, e17, e1, e3]
   refine ⟨by omega, vload _ h16 ?_⟩
   try simp only [go_sem, ↓reduceIte, nQ1, nQ2, nQ3, nQ4, nQ5, nQ6, reduceCtorEq, iQ1, iQ2, iQ3, iQ4, iQ5, iQ6, hp, e18, e17, e1, e3]
   refine vcall (tLimits f hf17 R3) ?_
   rintro R4 r hle4 rfl
   try simp only [go_sem, ↓reduceIte, nQ1, nQ2, nQ3, nQ4, nQ5, nQ6, reduceCtorEq, iQ1, iQ2, iQ3, iQ4, iQ5, iQ6, hp, e18, e17, e1, e3]
   refine vload _ (hle4 _ _ h16) ?_
   try simp only [go_sem, ↓reduceIte, nQ1, nQ2, nQ3, nQ4, nQ5, nQ6, reduceCtorEq, iQ1, iQ2, iQ3, iQ4, iQ5, iQ6, hp, e18, e17, e1, e3]
   refine vcall (tUses f hf17 R4) ?_
   rintro R5 r hle5 rfl
   have hv : R5 ⟨b, k, none⟩ (.int .i64 (fldV f)) := hle5 _ _ (hle4 _ _ (hle3 _ _ (hle2 _ _ (hL b R1 hrow f hf17 k hp))))
   by_cases hu : f = 4 ∨ f = 5 ∨ 13 ≤ f
   ·obtain ⟨k1, k2⟩ := limL_ok f (by omega)
    rw [decide_eq_true hu]
    try simp only [go_sem, ↓reduceIte, nQ1, nQ2, nQ3, nQ4, nQ5, nQ6, reduceCtorEq, iQ1, iQ2, iQ3, iQ4, iQ5, iQ6, hp, e18, e17, e1, e3, k1, k2]
    refine vload _ hv ?_
    try simp only [go_sem, ↓reduceIte, nQ1, nQ2, nQ3, nQ4, nQ5, nQ6, reduceCtorEq, iQ1, iQ2, iQ3, iQ4, iQ5, iQ6, hp, e18, e17, e1, e3, k1, k2]
    refine vload _ hv ?_
    try simp only [go_sem, ↓reduceIte, nQ1, nQ2, nQ3, nQ4, nQ5, nQ6, reduceCtorEq, iQ1, iQ2, iQ3, iQ4, iQ5, iQ6, hp, e18, e17, e1, e3, k1, k2]
    exact ⟨_, W.in64 (by omega), f + 1, by omega, by norm_cast, by omega⟩
   ·have hz := fldV_zero f hf17 hu
    rw [decide_eq_false hu]
    rw [hz] at hv
    try simp only [go_sem, ↓reduceIte, nQ1, nQ2, nQ3, nQ4, nQ5, nQ6, reduceCtorEq, iQ1, iQ2, iQ3, iQ4, iQ5, iQ6, hp, e18, e17, e1, e3]
    refine vload _ hv ?_
    try simp only [go_sem, ↓reduceIte, nQ1, nQ2, nQ3, nQ4, nQ5, nQ6, reduceCtorEq, iQ1, iQ2, iQ3, iQ4, iQ5, iQ6, hp, e18, e17, e1, e3]
    refine vload _ hv ?_
    try simp only [go_sem, ↓reduceIte, nQ1, nQ2, nQ3, nQ4, nQ5, nQ6, reduceCtorEq, iQ1, iQ2, iQ3, iQ4, iQ5, iQ6, hp, e18, e17, e1, e3]
    exact ⟨_, W.in64 (by omega), f + 1, by omega, by norm_cast, by omega⟩
 ·try simp only [go_sem, ↓reduceIte, nQ1, nQ2, nQ3, nQ4, nQ5, nQ6, reduceCtorEq, iQ1, iQ2, iQ3, iQ4, iQ5, iQ6, e18, e17, e1, e3]
  refine vload _ h16 ?_
  try simp only [go_sem, ↓reduceIte, nQ1, nQ2, nQ3, nQ4, nQ5, nQ6, reduceCtorEq, iQ1, iQ2, iQ3, iQ4, iQ5, iQ6, e18, e17, e1, e3]
theorem c020 (i : Nat) (h : i < [(0 : Int), 2, 0].length) : 0 ≤ [(0 : Int), 2, 0][i] ∧ [(0 : Int), 2, 0][i] ≤ 255 := by
 match i, h with
 | 0, _ => show (0 : Int) ≤ 0 ∧ (0 : Int) ≤ 255; decide
 | 1, _ => show (0 : Int) ≤ 2 ∧ (2 : Int) ≤ 255; decide
 | 2, _ => show (0 : Int) ≤ 0 ∧ (0 : Int) ≤ 255; decide
set_option maxHeartbeats 8000000 in
theorem tValidCells (y : Value) (R : RO) (hy : Ints R y [0, 2, 0]) : CallsR Tryz.prog 103 [.agg (letC y).toArray] R fun _ r => r = .bool true := by
 obtain ⟨a, c, rfl, _, hf⟩ := hy.form
 simp only [letC, List.length_cons, List.length_nil]
 refine callsT mix Tryz.func103 comp103 (by simp [Tryz.ntmps103]) ?_; simp only [go_sem, ↓reduceIte, nQ1, nQ2, nQ3, nQ4, nQ5, nQ6, reduceCtorEq, vc103, rs103]
 try simp only [go_sem, ↓reduceIte, nQ1, nQ2, nQ3, nQ4, nQ5, nQ6, reduceCtorEq, iQ1, iQ2, iQ3, iQ4, iQ5, iQ6]
 refine vcLoop Nat (fun i => [(17, .val (.int .i64 i)), (15, .val (.slice a 3 c)), (16, .val (.int .i64 3)), (3, .val (.bool false)), (1, .loc 0 0)]) (fun _ => [.box ((letC (.slice a 3 c)).map .val)]) (fun i _ => i ≤ 3) (fun i => 3 - i) 0 ?_ ?_ ?_ ?_
 ·unfold letC
  (try simp only [go_sem, ↓reduceIte, nQ1, nQ2, nQ3, nQ4, nQ5, nQ6, reduceCtorEq]) <;> (repeat' (first | rfl | trivial | constructor | (intro h; exact absurd rfl h)))
  try trivial
 ·exact inScope_mk rfl rfl rfl rfl rfl rfl
 ·exact Nat.zero_le _
 rintro i env R1 hle1 hE hi
 (simp only [go_sem] at hE; obtain ⟨e17, e15, e16, e3, e1⟩ := hE; simp only [go_sem, ↓reduceIte, nQ1, nQ2, nQ3, nQ4, nQ5, nQ6, reduceCtorEq, e17, e15, e16, e3, e1]; dsimp only at *)
 refine ⟨fun hlt => ?_, fun hge => ?_⟩
 ·have hi3 : i < [(0 : Int), 2, 0].length := by show i < 3; omega
  obtain ⟨ad, had, hR⟩ := hf i hi3
  obtain ⟨x, hx⟩ : ∃ x : Int, [(0 : Int), 2, 0][i] = x := ⟨_, rfl⟩
  have hxb : 0 ≤ x ∧ x ≤ 255 := by rw [← hx]; exact c020 i hi3
  rw [hx] at hR
  refine ⟨by omega, vat ad had ?_⟩
  try simp only [go_sem, ↓reduceIte, nQ1, nQ2, nQ3, nQ4, nQ5, nQ6, reduceCtorEq]
  refine vload _ (hle1 _ _ hR) ?_
  try simp only [go_sem, ↓reduceIte, nQ1, nQ2, nQ3, nQ4, nQ5, nQ6, reduceCtorEq, iQ1, iQ2, iQ3, iQ4, iQ5, iQ6, e17, e15, e16, e3, e1, show ¬ x < 0 by omega, show ¬ 255 < x by omega]
  exact ⟨_, W.in64 (by omega), i + 1, by omega, ⟨by norm_cast, rfl⟩, rfl, by omega⟩
 ·try simp only [go_sem, ↓reduceIte, nQ1, nQ2, nQ3, nQ4, nQ5, nQ6, reduceCtorEq, iQ1, iQ2, iQ3, iQ4, iQ5, iQ6, letC, e17, e15, e16, e3, e1]
end Go.Proofs.YtdglpgepgmdbdaaGreatDoor
