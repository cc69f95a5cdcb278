/- Lemmas of our own, no statement of the seat; the last one of the claim's texts proves the law. -/
import Derived.ProofKit
import Derived.SizedLaws
import Derived.Deep.Slices
import Derived.Deep.Fields
import Derived.Lib.SmallJoins
import Derived.OpenShut
import Derived.Test.YtcjdbfnnbejmeaaGreatByd
import Derived.Test.YtcjdbfnnbejmeaaGreatByc
import Derived.Test.YtcjdbfnnbejmeaaGreatByb
import Derived.Test.YtcjdbfnnbejmeaaGreatRows
import Derived.Test.YtcjdbfnnbejmeaaGreatVcI
open Nat renaming reduceEqDiff → nQ1, reduceAdd → nQ2, reduceMul → nQ3, reduceLeDiff → nQ4, reduceLT → nQ5, reduceBNe → nQ6
open Int renaming reduceLE → iQ1, reduceLT → iQ2, reduceToNat → iQ3, cast_ofNat_Int → iQ4, reduceEq → iQ5, reduceNe → iQ6
namespace Go.Proofs.YtcjdbfnnbejmeaaGreat
set_option linter.unusedSimpArgs false
set_option linter.unusedVariables false
open Go.Proofs.YtcjdbfnnbejmeaaGreat.Vc
/-! ### The reference's devices: Valid, New, Restore -/
theorem rValidD (d : Dv) (v : Value) (R : RO) (h : EdsV R v d.edits) : CallsR Tryz.prog 26 [.agg (dvCells d v).toArray] R fun _ r => r = .bool (validV d) := by
 have hdl : d.edits.length ≤ 1000000000 := by obtain ⟨_, _, _, _, h⟩ := h; exact h
 obtain ⟨a, cap, rfl, hc, hf⟩ := PlOK.of h
 simp only [dvCells]
 refine callsT mix Tryz.func26 comp26 (by simp [Tryz.ntmps26]) ?_; simp only [go_sem, ↓reduceIte, nQ1, nQ2, nQ3, nQ4, nQ5, nQ6, reduceCtorEq, vc26, rs26]
 have hhdr : validV d = true → 0 ≤ d.id ∧ d.id ≤ 15 ∧ 0 ≤ d.epoch ∧ d.epoch ≤ 63 ∧ 1 ≤ d.next ∧ d.next ≤ 17179869184 ∧ d.edits.length ≤ 4096 := fun hT => by
  unfold validV hdrOK at hT
  simp only [Bool.and_eq_true, decide_eq_true_eq] at hT
  exact hT.1.1
 have hbad : ¬ (0 ≤ d.id ∧ d.id ≤ 15 ∧ 0 ≤ d.epoch ∧ d.epoch ≤ 63 ∧ 1 ≤ d.next ∧ d.next ≤ 17179869184 ∧ d.edits.length ≤ 4096) → Value.bool false = Value.bool (validV d) := fun hn => by
  cases hv : validV d with
  | false => rfl
  | true => exact absurd (hhdr hv) hn
 refine ⟨fun q1 => ⟨fun q2 => ⟨fun q3 => ⟨fun q4 => ⟨fun q5 => ⟨fun q6 => ⟨fun q7 => hbad (by omega), fun q7 => ?_⟩, fun q6 => hbad (by omega)⟩, fun q5 => hbad (by omega)⟩, fun q4 => hbad (by omega)⟩, fun q3 => hbad (by omega)⟩, fun q2 => hbad (by omega)⟩, fun q1 => hbad (by omega)⟩
 have hall : ∀ (i : Nat) (hi : i < d.edits.length), ¬ (okEd d.next d.edits[i] = true) → Value.bool false = Value.bool (validV d) := fun i hi hn => by
  cases hv : validV d with
  | false => rfl
  | true =>
   unfold validV at hv
   simp only [Bool.and_eq_true, decide_eq_true_eq, List.all_eq_true] at hv
   exact absurd (hv.1.2 _ (List.getElem_mem hi)) hn
 have hsrt : ∀ (i : Nat) (hi : i < d.edits.length), 0 < i → ¬ lessD (d.edits[i - 1]'(by omega)) d.edits[i] = true → Value.bool false = Value.bool (validV d) := fun i hi h0 hn => by
  cases hv : validV d with
  | false => rfl
  | true =>
   unfold validV at hv
   simp only [Bool.and_eq_true, decide_eq_true_eq] at hv
   exact absurd (List.pairwise_iff_getElem.1 hv.2 (i - 1) i (by omega) hi (by omega)) hn
 clear hbad hhdr
 refine vcLoop Nat (fun i => [(3, .val (.int .i64 i)), (1, .loc 0 0)])
  (fun _ => [.box [.val (.int .i64 d.id), .val (.int .i64 d.epoch), .val (.int .i64 d.next), .val (.slice a d.edits.length cap)]])
  (fun i _ => i ≤ d.edits.length ∧ (∀ e ∈ d.edits.take i, okEd d.next e = true) ∧ SortedD (d.edits.take i)) (fun i => d.edits.length - i) 0 ?_ ?_ ?_ ?_
 ·(try simp only [go_sem, ↓reduceIte, nQ1, nQ2, nQ3, nQ4, nQ5, nQ6, reduceCtorEq]) <;> (repeat' (first | rfl | trivial | constructor | (intro h; exact absurd rfl h)))
 ·try simp only [go_sem, ↓reduceIte, nQ1, nQ2, nQ3, nQ4, nQ5, nQ6, reduceCtorEq]
 ·exact ⟨Nat.zero_le _, by simp, List.Pairwise.nil⟩
 rintro i env R1 hle1 hE ⟨hi, hok, hso⟩
 (simp only [go_sem] at hE; obtain ⟨e3, e1⟩ := hE; simp only [go_sem, ↓reduceIte, nQ1, nQ2, nQ3, nQ4, nQ5, nQ6, reduceCtorEq, e3, e1]; dsimp only at *)
 refine ⟨fun hlt => ?_, fun hge => ?_⟩
 ·have hlt' : i < d.edits.length := by omega
  obtain ⟨ad, p, had, hp1, hR, hpok⟩ := hf i hlt'
  have hcells : ∀ j u, (p.ed.cells)[j]? = some u → R1 ((ad.add (i * 13)).add j) u := fun j u hj => hle1 _ _ (hR j u hj)
  have htk := List.take_succ_eq_append_getElem hlt'
  have hA := hall i hlt'
  rw [← hp1] at htk hA
  refine ⟨by omega, vat ad had ?_⟩
  try simp only [go_sem, ↓reduceIte, nQ1, nQ2, nQ3, nQ4, nQ5, nQ6, reduceCtorEq]
  refine vloadn p.ed.cells rfl hcells ?_
  simp only [go_sem, ↓reduceIte, nQ1, nQ2, nQ3, nQ4, nQ5, nQ6, reduceCtorEq, Ed.cells, Pl.ed, De.ed, e3, e1]
  refine vcall (rValidE p.ed R1) ?_
  rintro R2 v hle2 rfl
  rw [validE_ed p hpok.len]
  simp only [go_sem, ↓reduceIte, nQ1, nQ2, nQ3, nQ4, nQ5, nQ6, reduceCtorEq, e3, e1]
  refine ⟨fun hv => ?_, fun hv => hA (by rw [okEd_iff]; simp [hv])⟩
  have hsq := validD_seq hv
  have htd : p.1.seq.tdiv 64 = p.1.seq / 64 := tdiv_nonneg' (by omega) (by omega)
  have hnew : p.1.seq / 64 < d.next → (0 < i → lessD (d.edits[i - 1]'(by omega)) p.1 = true) → (∀ e ∈ d.edits.take (i + 1), okEd d.next e = true) ∧ SortedD (d.edits.take (i + 1)) := fun hn hl => by
   rw [htk]
   refine ⟨fun e he => ?_, List.pairwise_append.2 ⟨hso, List.pairwise_singleton _ _, fun x hx y hy => ?_⟩⟩
   ·rcases List.mem_append.1 he with he | he
    ·exact hok e he
    ·simp only [List.mem_cons, List.not_mem_nil, or_false] at he; subst he
     rw [okEd_iff]; exact ⟨hv, hn⟩
   ·simp only [List.mem_cons, List.not_mem_nil, or_false] at hy; subst hy
    obtain ⟨j, hj, rfl⟩ := List.mem_take_iff_getElem.1 hx
    by_cases hji : j = i - 1
    ·subst hji; exact hl (by omega)
    ·have h1 := List.pairwise_iff_getElem.1 hso j (i - 1) (by simp; omega) (by simp; omega) (by omega)
     rw [List.getElem_take, List.getElem_take] at h1
     exact lessD_trans h1 (hl (by omega))
  refine ⟨fun hpos => ?_, fun hz => ?_⟩
  ·obtain ⟨ad', q, had', hq1, hR', hqok⟩ := hf (i - 1) (by omega)
   have hti : ((i : Int) - 1).toNat = i - 1 := by omega
   have hS := hsrt i hlt' (by omega)
   rw [← hp1, ← hq1] at hS
   refine ⟨_, W.in64 (by omega), by omega, by omega, ?_⟩
   rw [hti]
   refine vat ad' had' ?_
   try simp only [go_sem, ↓reduceIte, nQ1, nQ2, nQ3, nQ4, nQ5, nQ6, reduceCtorEq]
   refine vloadn q.ed.cells rfl (fun j u hj => hle2 _ _ (hle1 _ _ (hR' j u hj))) ?_
   simp only [go_sem, ↓reduceIte, nQ1, nQ2, nQ3, nQ4, nQ5, nQ6, reduceCtorEq, Ed.cells, Pl.ed, De.ed, e3, e1]
   refine vcall (rLess q.ed p.ed R2) ?_
   rintro R3 v hle3 rfl
   have hle : lessE q.ed p.ed = lessD q.1 p.1 := rfl
   rw [hle]
   simp only [go_sem, ↓reduceIte, nQ1, nQ2, nQ3, nQ4, nQ5, nQ6, reduceCtorEq, e3, e1]
   refine ⟨fun hl => ?_, fun hl => hS (by rw [hl]; simp)⟩
   refine ⟨by omega, _, W.in64 (by rw [htd]; omega), ?_⟩
   rw [htd]
   refine ⟨fun hn => hA (by rw [okEd_iff]; omega), fun hn => ?_⟩
   refine ⟨_, W.in64 (by omega), i + 1, by omega, by constructor, by omega, ?_⟩
   exact hnew (by omega) (fun _ => by rw [← hq1]; exact hl)
  ·obtain rfl : i = 0 := by omega
   refine ⟨by omega, _, W.in64 (by rw [htd]; omega), ?_⟩
   rw [htd]
   refine ⟨fun hn => hA (by rw [okEd_iff]; omega), fun hn => ?_⟩
   refine ⟨_, W.in64 (by omega), 1, by omega, by constructor, by omega, ?_⟩
   exact hnew (by omega) (fun h => absurd h (by omega))
 ·obtain rfl : i = d.edits.length := by omega
  rw [List.take_length] at hok hso
  have : validV d = true := by
   unfold validV hdrOK
   simp only [Bool.and_eq_true, decide_eq_true_eq, List.all_eq_true]
   exact ⟨⟨by omega, hok⟩, hso⟩
  rw [this]
theorem rNewD (id : Int) (R : RO) : CallsR Tryz.prog 7 [.int .i64 id] R fun R' r => DvR R' r (dvNew id) := by
 refine callsT mix Tryz.func7 comp7 (by simp [Tryz.ntmps7]) ?_; simp only [go_sem, ↓reduceIte, nQ1, nQ2, nQ3, nQ4, nQ5, nQ6, reduceCtorEq, vc7, rs7]
 unfold dvNew
 refine ⟨fun h => ⟨fun h2 => ?_, fun h2 => ?_⟩, fun h => ?_⟩
 ·rw [if_neg (by omega)]; exact rfl
 ·rw [if_pos (by omega)]; exact ⟨_, rfl, EdsV.nil _⟩
 ·rw [if_neg (by omega)]; exact rfl
theorem rRestoreD (d : Dv) (v : Value) (ep : Int) (R : RO) (h : EdsV R v d.edits) : CallsR Tryz.prog 13 [.agg (dvCells d v).toArray, .int .i64 ep] R fun R' r => DvR R' r (dvRestore d ep) := by
 have hV := rValidD d v
 have h0 := h
 obtain ⟨a, cap, rfl, hc, hf⟩ := h.form
 simp only [dvCells] at hV ⊢
 refine callsT mix Tryz.func13 comp13 (by simp [Tryz.ntmps13]) ?_; simp only [go_sem, ↓reduceIte, nQ1, nQ2, nQ3, nQ4, nQ5, nQ6, reduceCtorEq, vc13, rs13]
 refine vcall (hV R h0) ?_
 rintro R1 r hle1 rfl
 try simp only [go_sem, ↓reduceIte, nQ1, nQ2, nQ3, nQ4, nQ5, nQ6, reduceCtorEq]
 unfold dvRestore
 refine ⟨fun hv => ⟨fun h1 => ⟨fun h2 => ?_, fun h2 => ⟨fun h3 => ?_, fun h3 => ?_⟩⟩, fun h1 => ?_⟩, fun hv => ?_⟩
 ·rw [if_neg (by omega)]; exact rfl
 ·rw [if_pos ⟨hv, by omega, by omega⟩, if_pos h3]; exact rfl
 ·rw [if_pos ⟨hv, by omega, by omega⟩, if_neg h3]
  exact ⟨_, rfl, h0.mono hle1⟩
 ·rw [if_neg (by omega)]; exact rfl
 ·rw [if_neg (by rw [hv]; simp)]; exact rfl
theorem dFind2 (l : List De) (v : Value) (d : De) (a : Option Addr) (n c : Nat) (R : RO) (h : EdsV R v l) : CallsR Tryz.prog 32 [v, .agg ((d.ed a n c).cells).toArray] R fun _ u => (u = .int .i64 (-1) ∧ ∀ x ∈ l, keyEq d x = false) ∨ ∃ (i : Nat) (hi : i < l.length), u = .int .i64 i ∧ keyEq d l[i] = true := by
 obtain ⟨la, lc, rfl, hc, hf⟩ := h.form
 obtain ⟨_, _, _, _, hl⟩ := h
 simp only [Ed.cells, De.ed]
 refine callsT mix Tryz.func32 comp32 (by simp [Tryz.ntmps32]) ?_; simp only [go_sem, ↓reduceIte, nQ1, nQ2, nQ3, nQ4, nQ5, nQ6, reduceCtorEq, vc32, rs32]
 refine vcLoop Nat (fun i => [(5, .val (.int .i64 i)), (0, .val (.slice la l.length lc)), (3, .loc 0 0)])
  (fun i => [.box [.val (.int .i64 d.kind), .val (.int .i64 d.day), .val (.int .i64 d.device), .val (.int .i64 d.seq), .val (.int .i64 d.mv.day), .val (.bool d.mv.drop), .val (.int .i64 d.mv.toDay), .val (.int .i64 d.mv.minute), .val (.int .i64 d.mv.length), .val (.int .i64 d.minute), .val (.int .i64 d.length), .val (.slice a n c), .val (.string d.zone)]])
  (fun i _ => i ≤ l.length ∧ ∀ j (hj : j < l.length), j < i → keyEq d l[j] = false) (fun i => l.length - i) 0 ?_ ?_ ?_ ?_
 ·(try simp only [go_sem, ↓reduceIte, nQ1, nQ2, nQ3, nQ4, nQ5, nQ6, reduceCtorEq]) <;> (repeat' (first | rfl | trivial | constructor | (intro h; exact absurd rfl h)))
 ·try simp only [go_sem, ↓reduceIte, nQ1, nQ2, nQ3, nQ4, nQ5, nQ6, reduceCtorEq]
 ·exact ⟨Nat.zero_le _, fun j _ hj => absurd hj (by omega)⟩
 rintro i env R1 hle1 hE ⟨hi, hno⟩
 (simp only [go_sem] at hE; obtain ⟨e5, e0, e3⟩ := hE; simp only [go_sem, ↓reduceIte, nQ1, nQ2, nQ3, nQ4, nQ5, nQ6, reduceCtorEq, e5, e0, e3]; dsimp only at *)
 refine ⟨fun hlt => ?_, fun hge => ?_⟩
 ·have hi' : i < l.length := by omega
  obtain ⟨ad, ra, rn, rc, had, hR, _⟩ := hf i hi'
  have hnext : keyEq d l[i] = false → ∀ j (hj : j < l.length), j < i + 1 → keyEq d l[j] = false := fun hk j hj hji => by
   by_cases h : j = i
   ·subst h; exact hk
   ·exact hno j hj (by omega)
  have hkq : keyEq d l[i] = (decide (l[i].device = d.device) && decide (l[i].seq = d.seq)) := by
   rw [Bool.eq_iff_iff, keyEq_iff]
   simp only [Bool.and_eq_true, decide_eq_true_eq]
   exact ⟨fun h => ⟨h.1.symm, h.2.symm⟩, fun h => ⟨h.1.symm, h.2.symm⟩⟩
  refine ⟨by omega, vat ad had ?_⟩
  try simp only [go_sem, ↓reduceIte, nQ1, nQ2, nQ3, nQ4, nQ5, nQ6, reduceCtorEq]
  refine vload (.int .i64 l[i].device) (hle1 _ _ (hR 2 _ rfl)) ?_
  simp only [go_sem, ↓reduceIte, nQ1, nQ2, nQ3, nQ4, nQ5, nQ6, reduceCtorEq, e5, e0, e3]
  refine ⟨fun h1 => ⟨by omega, vat ad had ?_⟩, fun h1 => ?_⟩
  ·try simp only [go_sem, ↓reduceIte, nQ1, nQ2, nQ3, nQ4, nQ5, nQ6, reduceCtorEq]
   refine vload (.int .i64 l[i].seq) (hle1 _ _ (hR 3 _ rfl)) ?_
   simp only [go_sem, ↓reduceIte, nQ1, nQ2, nQ3, nQ4, nQ5, nQ6, reduceCtorEq, e5, e0, e3]
   refine ⟨fun h2 => ?_, fun h2 => ?_⟩
   ·rw [decide_eq_true h1, decide_eq_true h2] at hkq
    exact .inr ⟨i, hi', rfl, hkq⟩
   ·rw [decide_eq_true h1, decide_eq_false h2] at hkq
    refine ⟨_, W.in64 (by omega), i + 1, by omega, ?_, by omega, hnext hkq⟩
    try simp only [go_sem, ↓reduceIte, nQ1, nQ2, nQ3, nQ4, nQ5, nQ6, reduceCtorEq]
    rfl
  ·rw [decide_eq_false h1] at hkq
   refine ⟨_, W.in64 (by omega), i + 1, by omega, ?_, by omega, hnext hkq⟩
   try simp only [go_sem, ↓reduceIte, nQ1, nQ2, nQ3, nQ4, nQ5, nQ6, reduceCtorEq]
   rfl
 ·refine .inl fun x hx => ?_
  obtain ⟨j, hj, rfl⟩ := List.mem_iff_getElem.1 hx
  exact hno j hj (by omega)
theorem rLacksD (d o : Dv) (dv ov : Value) (R : RO) (h : EdsV R dv d.edits) (k : EdsV R ov o.edits) : CallsR Tryz.prog 17 [.agg (dvCells d dv).toArray, .agg (dvCells o ov).toArray] R fun R' r => EdsV R' r (dvLacks d o) := by
 have hV := rValidD d dv
 have hW := rValidD o ov
 have h0 := h
 have k0 := k
 have hol : o.edits.length ≤ 1000000000 := by obtain ⟨_, _, _, _, h⟩ := k; exact h
 obtain ⟨a, cap, rfl, hc, _⟩ := h.form
 obtain ⟨b, bcap, rfl, hbc, hbf⟩ := PlOK.of k
 simp only [dvCells] at hV hW ⊢
 refine callsT mix Tryz.func17 comp17 (by simp [Tryz.ntmps17]) ?_; simp only [go_sem, ↓reduceIte, nQ1, nQ2, nQ3, nQ4, nQ5, nQ6, reduceCtorEq, vc17, rs17]
 refine vcall (hV R h0) ?_
 rintro R1 r hle1 rfl
 unfold dvLacks
 cases hv : validV d with
 | false =>
  try simp only [go_sem, ↓reduceIte, nQ1, nQ2, nQ3, nQ4, nQ5, nQ6, reduceCtorEq]
  try rw [if_neg (by simp)]
  try exact EdsV.nil _
 | true =>
 try simp only [go_sem, ↓reduceIte, nQ1, nQ2, nQ3, nQ4, nQ5, nQ6, reduceCtorEq]
 refine vcall (hW R1 (k0.mono hle1)) ?_
 rintro R2 r hle2 rfl
 cases hw : validV o with
 | false =>
  try simp only [go_sem, ↓reduceIte, nQ1, nQ2, nQ3, nQ4, nQ5, nQ6, reduceCtorEq]
  try rw [if_neg (by simp)]
  try exact EdsV.nil _
 | true =>
 try simp only [go_sem, ↓reduceIte, nQ1, nQ2, nQ3, nQ4, nQ5, nQ6, reduceCtorEq]
 try rw [if_pos ⟨rfl, rfl⟩]
 have hle12 := RO.le_trans hle1 hle2
 refine vcLoopR (Nat × List Pl) (fun x => [(6, .val (.int .i64 x.1)), (2, .loc 0 0), (3, .loc 1 0), (5, gs 2 x.2.length)])
  (fun x => [.box [.val (.int .i64 d.id), .val (.int .i64 d.epoch), .val (.int .i64 d.next), .val (.slice a d.edits.length cap)], .box [.val (.int .i64 o.id), .val (.int .i64 o.epoch), .val (.int .i64 o.next), .val (.slice b o.edits.length bcap)], gb 31 13 (rowP x.2)])
  (fun x R => x.1 ≤ o.edits.length ∧ x.2.map (·.1) = freshD d.edits (o.edits.take x.1) ∧ x.2.length ≤ x.1 ∧ ∀ p ∈ x.2, PlOK R p) (fun x => o.edits.length - x.1) (0, []) [] ?_ ?_ ?_ ?_
 ·(try simp only [go_sem, ↓reduceIte, nQ1, nQ2, nQ3, nQ4, nQ5, nQ6, reduceCtorEq]) <;> (repeat' (first | rfl | trivial | constructor | (intro h; exact absurd rfl h)))
 ·try simp only [go_sem, ↓reduceIte, nQ1, nQ2, nQ3, nQ4, nQ5, nQ6, reduceCtorEq]
 ·exact ⟨Nat.zero_le _, rfl, Nat.le_refl _, by simp⟩
 rintro ⟨i, ps⟩ env R3 hle3 hE ⟨hi, hps, hpl, hpo⟩
 simp only [] at hi hps hpl hpo
 (simp only [go_sem] at hE; obtain ⟨e6, e2, e3, e5⟩ := hE; simp only [go_sem, ↓reduceIte, nQ1, nQ2, nQ3, nQ4, nQ5, nQ6, reduceCtorEq, e6, e2, e3, e5]; dsimp only at *)
 have hle03 := RO.le_trans hle12 hle3
 refine ⟨fun hlt => ?_, fun hge => ?_⟩
 ·have hlt' : i < o.edits.length := by omega
  obtain ⟨ad, p, had, hp1, hR, hpok⟩ := hbf i hlt'
  have hcells : ∀ j u, (p.ed.cells)[j]? = some u → R3 ((ad.add (i * 13)).add j) u := fun j u hj => hle03 _ _ (hR j u hj)
  have hfs : freshD d.edits (o.edits.take (i + 1)) = freshD d.edits (o.edits.take i) ++ if d.edits.any (keyEq p.1) = true then [] else [p.1] := by
   unfold freshD
   rw [List.take_succ_eq_append_getElem hlt', List.filter_append, ← hp1]
   cases hany : d.edits.any (keyEq p.1) <;> simp [hany]
  refine ⟨by omega, vat ad had ?_⟩
  try simp only [go_sem, ↓reduceIte, nQ1, nQ2, nQ3, nQ4, nQ5, nQ6, reduceCtorEq]
  refine vloadn p.ed.cells rfl hcells ?_
  simp only [go_sem, ↓reduceIte, nQ1, nQ2, nQ3, nQ4, nQ5, nQ6, reduceCtorEq, Ed.cells, Pl.ed, De.ed, e6, e2, e3, e5]
  have hF := dFind2 d.edits _ p.1 p.2.1 p.2.2.1 p.2.2.2 R3 (h0.mono hle03)
  simp only [Ed.cells, De.ed] at hF
  refine vcall hF ?_
  rintro R4 v hle4 hfd
  have hpo4 : ∀ q ∈ ps, PlOK R4 q := fun q hq => (hpo q hq).mono hle4
  rcases hfd with ⟨rfl, hno⟩ | ⟨q, hq, rfl, hkq⟩
  ·have hany : d.edits.any (keyEq p.1) = false := List.any_eq_false.2 fun x hx => by rw [hno x hx]; simp
   rw [hany, if_neg (by simp)] at hfs
   try simp only [go_sem, ↓reduceIte, nQ1, nQ2, nQ3, nQ4, nQ5, nQ6, reduceCtorEq, iQ1, iQ2, iQ3, iQ4, iQ5, iQ6, e6, e2, e3, e5]
   refine ⟨by omega, vat ad had ?_⟩
   try simp only [go_sem, ↓reduceIte, nQ1, nQ2, nQ3, nQ4, nQ5, nQ6, reduceCtorEq]
   refine vloadn p.ed.cells rfl (fun j u hj => hle4 _ _ (hcells j u hj)) ?_
   simp only [go_sem, ↓reduceIte, nQ1, nQ2, nQ3, nQ4, nQ5, nQ6, reduceCtorEq, Ed.cells, Pl.ed, De.ed, e6, e2, e3, e5]
   refine vgrow (rowP ps) (fun h0 => by rw [gb_ne h0]; rfl) (fun h0 => by rw [h0, gb_nil]; rfl) (by rw [rowP_len]) (by omega) (by omega) (by omega) ?_
   simp only [go_sem, ↓reduceIte, nQ1, nQ2, nQ3, nQ4, nQ5, nQ6, reduceCtorEq, e6, e2, e3, e5]
   refine ⟨_, W.in64 (by omega), (i + 1, ps ++ [p]), [0, 1, 4], ?_⟩
   try simp only [go_sem, ↓reduceIte, nQ1, nQ2, nQ3, nQ4, nQ5, nQ6, reduceCtorEq]
   refine ⟨by omega, (by repeat' (first | rfl | exact fun _ => by rw [rowP_snoc]; rfl | exact fun h => gb_ne h | constructor)), by decide, by omega, by rw [hfs, ← hps]; simp, by omega, fun q hq => ?_⟩
   rcases List.mem_append.1 hq with hq | hq
   ·exact hpo4 q hq
   ·simp only [List.mem_cons, List.not_mem_nil, or_false] at hq
    subst hq
    exact hpok.mono (RO.le_trans hle03 hle4)
  ·have hany : d.edits.any (keyEq p.1) = true := List.any_eq_true.2 ⟨_, List.getElem_mem hq, hkq⟩
   rw [hany, if_pos rfl, List.append_nil] at hfs
   have hn : ¬ (q : Int) < 0 := by omega
   try simp only [go_sem, ↓reduceIte, nQ1, nQ2, nQ3, nQ4, nQ5, nQ6, reduceCtorEq, iQ1, iQ2, iQ3, iQ4, iQ5, iQ6, e6, e2, e3, e5, eq_false hn]
   refine ⟨_, W.in64 (by omega), (i + 1, ps), [], ?_⟩
   try simp only [go_sem, ↓reduceIte, nQ1, nQ2, nQ3, nQ4, nQ5, nQ6, reduceCtorEq]
   refine ⟨by omega, (by repeat' (first | rfl | exact fun h => gb_ne h | constructor)), by decide, by omega, by rw [hfs, hps], by omega, hpo4⟩
 ·obtain rfl : i = o.edits.length := by omega
  rw [List.take_length] at hps
  rw [← hps]
  by_cases hp0 : ps = []
  ·subst hp0
   simp only [List.length_nil, gs_zero, rowP_nil, gb_nil]
   try simp only [go_sem, ↓reduceIte, nQ1, nQ2, nQ3, nQ4, nQ5, nQ6, reduceCtorEq]
   exact EdsV.nil _
  ·have hp1 : ps.length ≠ 0 := fun h => hp0 (List.eq_nil_of_length_eq_zero h)
   rw [gs_pos hp1, gb_ne (fun h => hp1 (by have := rowP_len ps; rw [h] at this; simp at this; omega))]
   try simp only [go_sem, ↓reduceIte, nQ1, nQ2, nQ3, nQ4, nQ5, nQ6, reduceCtorEq]
   intro bb bc R4 hle4 hrow hcap _
   try simp only [go_sem, ↓reduceIte, nQ1, nQ2, nQ3, nQ4, nQ5, nQ6, reduceCtorEq]
   exact EdsV.row hrow hcap (fun q hq => (hpo q hq).mono hle4) (by omega)
end Go.Proofs.YtcjdbfnnbejmeaaGreat
namespace Go.Proofs.YtcjdbfnnbejmeaaGreat
set_option linter.unusedSimpArgs false
set_option linter.unusedVariables false
open Go.Proofs.YtcjdbfnnbejmeaaGreat.Vc
/-! ### Inserting, as the reference does: plain facts about edits -/
theorem mem_tw {α : Type} {p : α → Bool} : ∀ {l : List α} {a : α}, a ∈ l.takeWhile p → p a = true
 | [], a, h => by simp at h
 | x :: l, a, h => by
  rw [List.takeWhile_cons] at h
  split at h
  ·rcases List.mem_cons.1 h with rfl | h
   ·assumption
   ·exact mem_tw h
  ·simp at h
theorem drop_tw {α : Type} (p : α → Bool) : ∀ l : List α, l.drop (l.takeWhile p).length = l.dropWhile p
 | [] => rfl
 | x :: l => by
  rw [List.takeWhile_cons, List.dropWhile_cons]
  split
  ·rw [List.length_cons, List.drop_succ_cons]; exact drop_tw p l
  ·rfl
def insAt (out : List De) (d : De) : Nat := (out.takeWhile fun q => lessD q d).length
def insD (out : List De) (d : De) : List De := if (out[insAt out d]?).any (fun q => keyEq q d) = true then out else out.take (insAt out d) ++ d :: out.drop (insAt out d)
theorem insAt_le (out : List De) (d : De) : insAt out d ≤ out.length := (List.takeWhile_prefix _).length_le
theorem take_insAt (out : List De) (d : De) : out.take (insAt out d) = out.takeWhile fun q => lessD q d := (List.prefix_iff_eq_take.1 (List.takeWhile_prefix _)).symm
theorem insAt_less {out : List De} {d : De} {i : Nat} (h : i < insAt out d) (hi : i < out.length) : lessD out[i] d = true := by
 have h1 : out[i] ∈ out.takeWhile fun q => lessD q d := by
  rw [← take_insAt]
  rw [List.mem_take_iff_getElem]
  exact ⟨i, by omega, rfl⟩
 exact mem_tw (p := fun q => lessD q d) h1
theorem insAt_not {out : List De} {d : De} (h : insAt out d < out.length) : lessD out[insAt out d] d = false := by
 have h2 : out.drop (insAt out d) = out.dropWhile fun q => lessD q d := drop_tw _ out
 have h3 : (out.dropWhile fun q => lessD q d) ≠ [] := by
  intro e
  have := congrArg List.length (h2.trans e)
  simp at this; omega
 have h4 := List.head_dropWhile_not (fun q => lessD q d) h3
 have h5 : (out.dropWhile fun q => lessD q d).head h3 = out[insAt out d] := by
  simp only [← h2]
  rw [List.head_drop]
 rw [h5] at h4
 simpa using h4
theorem insD_sorted {out : List De} {d : De} (h : SortedD out) : SortedD (insD out d) := by
 unfold insD
 split
 ·exact h
 ·rename_i hk
  have hta : ∀ q ∈ out.take (insAt out d), lessD q d = true := fun q hq => by
   rw [take_insAt] at hq
   exact mem_tw (p := fun q => lessD q d) hq
  have hdr : ∀ q ∈ out.drop (insAt out d), lessD d q = true := fun q hq => by
   by_cases hlt : insAt out d < out.length
   ·have h1 := insAt_not hlt
    rw [List.drop_eq_getElem_cons hlt] at hq
    have h2 : lessD d out[insAt out d] = true := by
     cases h3 : lessD d out[insAt out d] with
     | true => rfl
     | false =>
      exfalso
      rw [List.getElem?_eq_getElem hlt] at hk
      exact hk (by simpa using lessD_total h1 h3)
    rcases List.mem_cons.1 hq with rfl | hq
    ·exact h2
    ·have h4 : SortedD (out.drop (insAt out d)) := List.Pairwise.sublist (List.drop_sublist _ _) h
     rw [List.drop_eq_getElem_cons hlt] at h4
     exact lessD_trans h2 ((List.pairwise_cons.1 h4).1 q hq)
   ·rw [List.drop_eq_nil_of_le (by omega)] at hq; simp at hq
  have hs := h
  rw [← List.take_append_drop (insAt out d) out] at hs
  have hs' := List.pairwise_append.1 hs
  refine List.pairwise_append.2 ⟨hs'.1, List.pairwise_cons.2 ⟨hdr, hs'.2.1⟩, fun a ha b hb => ?_⟩
  rcases List.mem_cons.1 hb with rfl | hb
  ·exact hta a ha
  ·exact hs'.2.2 a ha b hb
theorem insD_mem {out : List De} {d : De} (hc : ∀ q ∈ out, keyEq q d = true → q = d) (x : De) : x ∈ insD out d ↔ x = d ∨ x ∈ out := by
 unfold insD
 split
 ·rename_i hk
  have hlt : insAt out d < out.length := by
   rcases Nat.lt_or_ge (insAt out d) out.length with h | h
   ·exact h
   ·rw [List.getElem?_eq_none h] at hk; simp at hk
  rw [List.getElem?_eq_getElem hlt] at hk
  have := hc _ (List.getElem_mem hlt) (by simpa using hk)
  refine ⟨.inr, fun h => ?_⟩
  rcases h with rfl | h
  ·rw [← this]; exact List.getElem_mem hlt
  ·exact h
 ·have : x ∈ out ↔ x ∈ out.take (insAt out d) ∨ x ∈ out.drop (insAt out d) := by rw [← List.mem_append, List.take_append_drop]
  rw [List.mem_append, List.mem_cons, this]
  constructor
  ·rintro (h | h | h)
   ·exact .inr (.inl h)
   ·exact .inl h
   ·exact .inr (.inr h)
  ·rintro (h | h | h)
   ·exact .inr (.inl h)
   ·exact .inl h
   ·exact .inr (.inr h)
end Go.Proofs.YtcjdbfnnbejmeaaGreat
namespace Go.Proofs.YtcjdbfnnbejmeaaGreat
set_option linter.unusedSimpArgs false
set_option linter.unusedVariables false
open Go.Proofs.YtcjdbfnnbejmeaaGreat.Vc
/-! ### The reference's insertion -/
def insR (l : List De) (e : De) : List De := l.take (insAt l e) ++ e :: l.drop (insAt l e)
theorem insR_eq {l : List De} {e : De} (h : ∀ q ∈ l, keyEq q e = false) : insR l e = insD l e := by
 unfold insR insD
 rw [if_neg]
 intro hk
 rcases Nat.lt_or_ge (insAt l e) l.length with h1 | h1
 ·rw [List.getElem?_eq_getElem h1] at hk
  have := h _ (List.getElem_mem h1)
  simp [this] at hk
 ·rw [List.getElem?_eq_none h1] at hk; simp at hk
theorem insR_len (l : List De) (e : De) : (insR l e).length = l.length + 1 := by
 have := insAt_le l e
 unfold insR
 rw [List.length_append, List.length_take, List.length_cons, List.length_drop]; omega
theorem rInserted (l : List De) (e : Pl) (lv : Value) (R : RO) (h : EdsV R lv l) (he : PlOK R e) (hl : l.length ≤ 100000) : CallsR Tryz.prog 34 [lv, e.ed.val] R fun R' r => EdsV R' r (insR l e.1) := by
 have hL := fun p R' => rLess p e.ed R'
 obtain ⟨a, cap, rfl, hc, hf⟩ := PlOK.of h
 simp only [Ed.val, Ed.cells, Pl.ed, De.ed] at hL ⊢
 have hale := insAt_le l e.1
 refine callsT mix Tryz.func34 comp34 (by simp [Tryz.ntmps34]) ?_; simp only [go_sem, ↓reduceIte, nQ1, nQ2, nQ3, nQ4, nQ5, nQ6, reduceCtorEq, vc34, rs34]
 refine cutL (fun s' => ∃ env R1 ps, s' = ⟨env, [.box (boxc e.ed.cells), gb 31 13 (rowP ps)], R1⟩ ∧ RO.le R R1 ∧ env 6 = .val (.int .i64 (insAt l e.1)) ∧ env 0 = .val (.slice a l.length cap) ∧ env 3 = .loc 0 0 ∧ env 5 = gs 1 ps.length ∧ ps.map (·.1) = l.take (insAt l e.1) ∧ ∀ p ∈ ps, PlOK R1 p) ?_ ?_
 ·refine vcLoopR (Nat × List Pl) (fun x => [(6, .val (.int .i64 x.1)), (0, .val (.slice a l.length cap)), (3, .loc 0 0), (5, gs 1 x.2.length)]) (fun x => [.box (boxc e.ed.cells), gb 31 13 (rowP x.2)])
   (fun x R => x.1 ≤ insAt l e.1 ∧ x.2.map (·.1) = l.take x.1 ∧ x.2.length = x.1 ∧ ∀ p ∈ x.2, PlOK R p) (fun x => l.length - x.1) (0, []) [] ?_ ?_ ?_ ?_
  ·(try simp only [go_sem, ↓reduceIte, nQ1, nQ2, nQ3, nQ4, nQ5, nQ6, reduceCtorEq]) <;> (repeat' (first | rfl | trivial | constructor | (intro h; exact absurd rfl h)))
  ·try simp only [go_sem, ↓reduceIte, nQ1, nQ2, nQ3, nQ4, nQ5, nQ6, reduceCtorEq]
   exact boxc_ok _ _
  ·exact ⟨Nat.zero_le _, rfl, rfl, by simp⟩
  rintro ⟨i, ps⟩ env R1 hle1 hE ⟨hi, hps, hpl, hpo⟩
  simp only [] at hi hps hpl hpo
  simp only [boxc, Ed.cells, Pl.ed, De.ed, List.map_cons, List.map_nil] at hE ⊢
  (simp only [go_sem] at hE; obtain ⟨e6, e0, e3, e5⟩ := hE; simp only [go_sem, ↓reduceIte, nQ1, nQ2, nQ3, nQ4, nQ5, nQ6, reduceCtorEq, e6, e0, e3, e5]; dsimp only at *)
  refine ⟨fun hlt => ?_, fun hge => ?_⟩
  ·have hlt' : i < l.length := by omega
   obtain ⟨ad, p, had, hp1, hR, hpok⟩ := hf i hlt'
   have hcells : ∀ j u, (p.ed.cells)[j]? = some u → R1 ((ad.add (i * 13)).add j) u := fun j u hj => hle1 _ _ (hR j u hj)
   refine ⟨by omega, vat ad had ?_⟩
   try simp only [go_sem, ↓reduceIte, nQ1, nQ2, nQ3, nQ4, nQ5, nQ6, reduceCtorEq]
   refine vloadn p.ed.cells rfl hcells ?_
   simp only [go_sem, ↓reduceIte, nQ1, nQ2, nQ3, nQ4, nQ5, nQ6, reduceCtorEq, Ed.cells, Pl.ed, De.ed, e6, e0, e3, e5]
   have hLp := hL p.ed R1
   simp only [Ed.val, Ed.cells, Pl.ed, De.ed] at hLp
   refine vcall hLp ?_
   rintro R2 v hle2 rfl
   have hle : lessE p.ed e.ed = lessD p.1 e.1 := rfl
   simp only [Pl.ed, De.ed] at hle
   rw [hle]
   try simp only [go_sem, ↓reduceIte, nQ1, nQ2, nQ3, nQ4, nQ5, nQ6, reduceCtorEq, iQ1, iQ2, iQ3, iQ4, iQ5, iQ6, e6, e0, e3, e5]
   refine ⟨fun hl => ?_, fun hl => ?_⟩
   ·refine ⟨by omega, vat ad had ?_⟩
    try simp only [go_sem, ↓reduceIte, nQ1, nQ2, nQ3, nQ4, nQ5, nQ6, reduceCtorEq]
    refine vloadn p.ed.cells rfl (fun j u hj => hle2 _ _ (hcells j u hj)) ?_
    simp only [go_sem, ↓reduceIte, nQ1, nQ2, nQ3, nQ4, nQ5, nQ6, reduceCtorEq, Ed.cells, Pl.ed, De.ed, e6, e0, e3, e5]
    refine vgrow (rowP ps) (fun h0 => by rw [gb_ne h0]; rfl) (fun h0 => by rw [h0, gb_nil]; rfl) (by rw [rowP_len]) (by omega) (by omega) (by omega) ?_
    simp only [go_sem, ↓reduceIte, nQ1, nQ2, nQ3, nQ4, nQ5, nQ6, reduceCtorEq, e6, e0, e3, e5]
    refine ⟨_, W.in64 (by omega), (i + 1, ps ++ [p]), [0, 3], ?_⟩
    try simp only [go_sem, ↓reduceIte, nQ1, nQ2, nQ3, nQ4, nQ5, nQ6, reduceCtorEq]
    refine ⟨by omega, (by repeat' (first | rfl | exact fun _ => by rw [rowP_snoc]; rfl | exact fun h => gb_ne h | constructor)), (by first | decide | exact ⟨boxc_ok _ _, by decide⟩), ?_, by rw [List.map_append, hps, List.take_succ_eq_append_getElem hlt', ← hp1]; rfl, by simp [hpl], fun q hq => ?_⟩
    ·rcases Nat.lt_or_ge i (insAt l e.1) with h1 | h1
     ·exact h1
     ·exfalso
      obtain rfl : i = insAt l e.1 := by omega
      have := insAt_not (by omega : insAt l e.1 < l.length)
      rw [← hp1, hl] at this
      cases this
    ·rcases List.mem_append.1 hq with hq | hq
     ·exact (hpo q hq).mono hle2
     ·simp only [List.mem_cons, List.not_mem_nil, or_false] at hq
      subst hq
      exact hpok.mono (RO.le_trans hle1 hle2)
   ·have hia : i = insAt l e.1 := by
     rcases Nat.lt_or_ge i (insAt l e.1) with h1 | h1
     ·have := insAt_less h1 hlt'
      rw [← hp1, hl] at this; cases this
     ·omega
    rw [← hia]
    exact ⟨_, _, ps, rfl, RO.le_trans hle1 hle2, e6, e0, e3, e5, hps, fun q hq => (hpo q hq).mono hle2⟩
  ·have hia : i = insAt l e.1 := by omega
   rw [← hia]
   exact ⟨_, _, ps, rfl, hle1, e6, e0, e3, e5, hps, hpo⟩
 rintro s' ⟨env, R1, ps, rfl, hle1, e6, e0, e3, e5, hps, hpo⟩
 have hpl : ps.length = insAt l e.1 := by
  have := congrArg List.length hps
  rw [List.length_map, List.length_take] at this; omega
 simp only [boxc, Ed.cells, Pl.ed, De.ed, List.map_cons, List.map_nil]
 try simp only [go_sem, ↓reduceIte, nQ1, nQ2, nQ3, nQ4, nQ5, nQ6, reduceCtorEq, iQ1, iQ2, iQ3, iQ4, iQ5, iQ6, e6, e0, e3, e5]
 refine vgrow (rowP ps) (fun h0 => by rw [gb_ne h0]; rfl) (fun h0 => by rw [h0, gb_nil]; rfl) (by rw [rowP_len]) (by omega) (by omega) (by omega) ?_
 try simp only [go_sem, ↓reduceIte, nQ1, nQ2, nQ3, nQ4, nQ5, nQ6, reduceCtorEq, iQ1, iQ2, iQ3, iQ4, iQ5, iQ6, e6, e0, e3, e5]
 refine ⟨insAt l e.1, l.length, rfl, rfl, by omega, by omega, ?_⟩
 have hsub := EdsV.sub (h.mono hle1) hale (Nat.le_refl _)
 rw [List.take_length] at hsub
 have hdl : (l.drop (insAt l e.1)).length = l.length - insAt l e.1 := List.length_drop
 rw [← hdl] at hsub ⊢
 obtain ⟨a2, cap2, qs, e1, hqs, hqo, hsrc⟩ := hsub.src
 obtain ⟨rfl, _, rfl⟩ := Value.slice.inj e1
 refine hsrc ?_
 try simp only [go_sem, ↓reduceIte, nQ1, nQ2, nQ3, nQ4, nQ5, nQ6, reduceCtorEq, iQ1, iQ2, iQ3, iQ4, iQ5, iQ6, e6, e0, e3, e5]
 refine vappO (rowP (ps ++ [e])) (by rw [rowP_snoc]; rfl) (by rw [rowP_len]; simp) (by rw [hdl]; omega) ?_
 try simp only [go_sem, ↓reduceIte, nQ1, nQ2, nQ3, nQ4, nQ5, nQ6, reduceCtorEq, iQ1, iQ2, iQ3, iQ4, iQ5, iQ6, e6, e0, e3, e5]
 rw [← rowP_app]
 intro bb bc R2 hle2 hrow hcap _
 try simp only [go_sem, ↓reduceIte, nQ1, nQ2, nQ3, nQ4, nQ5, nQ6, reduceCtorEq]
 have hlen : ps.length + 1 + (l.drop (insAt l e.1)).length = (ps ++ [e] ++ qs).length := by
  have := congrArg List.length hqs
  rw [List.length_map] at this
  simp only [List.length_append, List.length_cons, List.length_nil]; omega
 have hm : insR l e.1 = (ps ++ [e] ++ qs).map (·.1) := by
  unfold insR
  rw [List.map_append, List.map_append, hps, hqs]; simp
 rw [hlen, hm]
 refine EdsV.row hrow (by rw [rowP_app, List.length_append]; exact hcap) (fun q hq => ?_) (by rw [← hlen, hdl]; omega)
 rcases List.mem_append.1 hq with hq | hq
 ·rcases List.mem_append.1 hq with hq | hq
  ·exact (hpo q hq).mono hle2
  ·simp only [List.mem_cons, List.not_mem_nil, or_false] at hq
   subst hq
   exact he.mono (RO.le_trans hle1 hle2)
 ·exact (hqo q hq).mono hle2
/-! ### Add, Sync of the reference -/
theorem rAddD (d : Dv) (v : Value) (e : De) (ra : Option Addr) (rn rc : Nat) (R : RO) (h : EdsV R v d.edits) (he : RuleV R (.slice ra rn rc) e.rule) :
  CallsR Tryz.prog 9 [.agg (dvCells d v).toArray, .agg ((e.ed ra rn rc).cells).toArray] R fun R' r => DvR R' r (dvAdd d e) := by
 have hV := rValidD d v
 have h0 := h
 have hrn := he.len
 have hVe := fun R' => rValidE ((bareD e).ed ra rn rc) R'
 obtain ⟨vb, hvb⟩ : ∃ vb, validD (bareD e) = vb := ⟨_, rfl⟩
 have hve : validE ((bareD e).ed ra rn rc) = vb := (validE_ed (bareD e, ra, rn, rc) hrn).trans hvb
 obtain ⟨a, cap, rfl, hc, _⟩ := h.form
 simp only [Ed.val, Ed.cells, De.ed, bareD] at hVe hve
 simp only [dvCells, Ed.cells, De.ed] at hV ⊢
 refine callsT mix Tryz.func9 comp9 (by simp [Tryz.ntmps9]) ?_; simp only [go_sem, ↓reduceIte, nQ1, nQ2, nQ3, nQ4, nQ5, nQ6, reduceCtorEq, vc9, rs9]
 refine vcall (hV R h0) ?_
 rintro R1 r hle1 rfl
 unfold dvAdd
 rw [hvb]
 cases hv : validV d with
 | false =>
  try simp only [go_sem, ↓reduceIte, nQ1, nQ2, nQ3, nQ4, nQ5, nQ6, reduceCtorEq]
  try rw [if_neg (by simp)]
  try exact rfl
 | true =>
 have hh := validV_hdr hv
 try simp only [go_sem, ↓reduceIte, nQ1, nQ2, nQ3, nQ4, nQ5, nQ6, reduceCtorEq]
 refine vcall (hVe R1) ?_
 rintro R2 r hle2 rfl
 rw [hve]
 cases vb with
 | false =>
  try simp only [go_sem, ↓reduceIte, nQ1, nQ2, nQ3, nQ4, nQ5, nQ6, reduceCtorEq]
  try rw [if_neg (by simp)]
  try exact rfl
 | true =>
 try simp only [go_sem, ↓reduceIte, nQ1, nQ2, nQ3, nQ4, nQ5, nQ6, reduceCtorEq]
 refine ⟨fun h1 => ⟨fun h2 => ?_, fun h2 => ?_⟩, fun h1 => ?_⟩
 ·rw [if_pos (.inr h2)]; exact rfl
 ·rw [if_neg (show ¬ (4096 ≤ d.edits.length ∨ 17179869184 ≤ d.next) by omega)]
  refine ⟨_, W.in64 (by omega), _, W.in64 (by omega), ?_⟩
  have hle02 := RO.le_trans hle1 hle2
  obtain ⟨a', cap', ps, e1, hps, hpo, hsrc⟩ := (h0.mono hle02).src
  obtain ⟨rfl, _, rfl⟩ := Value.slice.inj e1
  have hpl : ps.length = d.edits.length := by rw [← hps, List.length_map]
  refine hsrc ?_
  try simp only [go_sem, ↓reduceIte, nQ1, nQ2, nQ3, nQ4, nQ5, nQ6, reduceCtorEq]
  refine vappO [] rfl rfl (by omega) ?_
  try simp only [go_sem, ↓reduceIte, nQ1, nQ2, nQ3, nQ4, nQ5, nQ6, reduceCtorEq]
  refine vappO (rowP ps) rfl (by rw [rowP_len, hpl]) (by omega) ?_
  try simp only [go_sem, ↓reduceIte, nQ1, nQ2, nQ3, nQ4, nQ5, nQ6, reduceCtorEq]
  refine ⟨_, W.in64 (by omega), ?_⟩
  try simp only [go_sem, ↓reduceIte, nQ1, nQ2, nQ3, nQ4, nQ5, nQ6, reduceCtorEq]
  intro bb bc R3 hle3 hrow hcap _
  try simp only [go_sem, ↓reduceIte, nQ1, nQ2, nQ3, nQ4, nQ5, nQ6, reduceCtorEq]
  refine ⟨_, rfl, ?_⟩
  have hrow' : RowIn R3 bb (rowP (ps ++ [(stampD d e, ra, rn, rc)])) := by rw [rowP_snoc]; exact hrow
  have := EdsV.row hrow' (by rw [rowP_snoc, List.length_append]; exact hcap) (fun q hq => ?_) (by rw [List.length_append, hpl]; show d.edits.length + 1 ≤ _; omega)
  ·rw [List.map_append, hps, List.length_append, hpl] at this
   exact this
  ·rcases List.mem_append.1 hq with hq | hq
   ·exact (hpo q hq).mono hle3
   ·simp only [List.mem_cons, List.not_mem_nil, or_false] at hq
    subst hq
    exact he.mono (RO.le_trans hle02 hle3)
 ·rw [if_pos (.inl (by omega))]; exact rfl
end Go.Proofs.YtcjdbfnnbejmeaaGreat
namespace Go.Proofs.YtcjdbfnnbejmeaaGreat
set_option linter.unusedSimpArgs false
set_option linter.unusedVariables false
open Go.Proofs.YtcjdbfnnbejmeaaGreat.Vc
/-! ### The reference's Sync: plain -/
theorem insAll_spec : ∀ (l a : List De), SortedD a → SortedD l → (∀ x ∈ l, ∀ y ∈ a, keyEq x y = false) → SortedD (l.foldl insR a) ∧ ∀ x, x ∈ l.foldl insR a ↔ x ∈ a ∨ x ∈ l
 | [], a, ha, _, _ => ⟨ha, fun x => by simp⟩
 | e :: l, a, ha, hl, hk => by
  have hl' := List.pairwise_cons.1 hl
  have hne : ∀ q ∈ a, keyEq q e = false := fun q hq => keyEq_comm' (hk e (by simp) q hq)
  have hi := insR_eq hne
  have hm := insD_mem (out := a) (d := e) (fun q hq h => by rw [hne q hq] at h; cases h)
  have hs := insD_sorted (out := a) (d := e) ha
  rw [← hi] at hs
  have ih := insAll_spec l (insR a e) hs hl'.2 (fun x hx y hy => by
   rw [hi] at hy
   rcases (hm y).1 hy with rfl | hy
   ·exact keyEq_comm' (lessD_key (hl'.1 x hx))
   ·exact hk x (by simp [hx]) y hy)
  rw [List.foldl_cons]
  refine ⟨ih.1, fun x => ?_⟩
  rw [ih.2, hi, hm, List.mem_cons]
  constructor
  ·rintro ((h | h) | h)
   ·exact .inr (.inl h)
   ·exact .inl h
   ·exact .inr (.inr h)
  ·rintro (h | h | h)
   ·exact .inl (.inr h)
   ·exact .inl (.inl h)
   ·exact .inr h
theorem mem_freshD {a b : List De} {x : De} : x ∈ freshD a b ↔ x ∈ b ∧ ∀ y ∈ a, keyEq x y = false := by
 unfold freshD
 rw [List.mem_filter]
 refine and_congr_right fun _ => ?_
 constructor
 ·intro h y hy
  cases hk : keyEq x y with
  | false => rfl
  | true =>
   have : a.any (keyEq x) = true := List.any_eq_true.2 ⟨y, hy, hk⟩
   rw [this] at h; cases h
 ·intro h
  have : a.any (keyEq x) = false := List.any_eq_false.2 fun y hy => by rw [h y hy]; simp
  rw [this]; rfl
theorem ins_union {a b : List De} (ha : SortedD a) (hb : SortedD b) : (freshD a b).foldl insR a = unionD a b := by
 have hf : SortedD (freshD a b) := List.Pairwise.sublist List.filter_sublist hb
 have h := insAll_spec (freshD a b) a ha hf fun x hx => (mem_freshD.1 hx).2
 have hu := unionD_spec ha hb
 exact SortedD.ext h.1 hu.1 fun x => by rw [h.2, hu.2, mem_freshD]
theorem insAll_len : ∀ (l a : List De), (l.foldl insR a).length = a.length + l.length
 | [], a => rfl
 | e :: l, a => by rw [List.foldl_cons, insAll_len l, insR_len, List.length_cons]; omega
def ouSV (n : Nat) : Option (Option Addr × Nat) → SV
 | none => .sl 4 n
 | some x => .val (.slice x.1 n x.2)
def ouBlk (ps : List Pl) : Option (Option Addr × Nat) → Blk
 | none => .row 31 13 (rowP ps)
 | some _ => .dead
theorem freshD_snoc (a b : List De) {i : Nat} (hi : i < b.length) : freshD a (b.take (i + 1)) = freshD a (b.take i) ++ if a.any (keyEq b[i]) = true then [] else [b[i]] := by
 unfold freshD
 rw [List.take_succ_eq_append_getElem hi, List.filter_append]
 cases hany : a.any (keyEq b[i]) <;> simp [hany]
theorem rSyncD (d o : Dv) (dv ov : Value) (R : RO) (h : EdsV R dv d.edits) (k : EdsV R ov o.edits) : CallsR Tryz.prog 11 [.agg (dvCells d dv).toArray, .agg (dvCells o ov).toArray] R fun R' r => DvR R' r (dvSync d o) := by
 have hV := rValidD d dv
 have hW := rValidD o ov
 have h0 := h
 have k0 := k
 obtain ⟨a, cap, rfl, hc, hf⟩ := PlOK.of h
 obtain ⟨b, bcap, rfl, hbc, hbf⟩ := PlOK.of k
 simp only [dvCells] at hV hW ⊢
 refine callsT mix Tryz.func11 comp11 (by simp [Tryz.ntmps11]) ?_; simp only [go_sem, ↓reduceIte, nQ1, nQ2, nQ3, nQ4, nQ5, nQ6, reduceCtorEq, vc11, rs11]
 refine vcall (hV R h0) ?_
 rintro R1 r hle1 rfl
 unfold dvSync
 cases hv : validV d with
 | false =>
  try simp only [go_sem, ↓reduceIte, nQ1, nQ2, nQ3, nQ4, nQ5, nQ6, reduceCtorEq]
  try rw [if_neg (by simp)]
  try exact rfl
 | true =>
 try simp only [go_sem, ↓reduceIte, nQ1, nQ2, nQ3, nQ4, nQ5, nQ6, reduceCtorEq]
 refine vcall (hW R1 (k0.mono hle1)) ?_
 rintro R2 r hle2 rfl
 cases hw : validV o with
 | false =>
  try simp only [go_sem, ↓reduceIte, nQ1, nQ2, nQ3, nQ4, nQ5, nQ6, reduceCtorEq]
  try rw [if_neg (by simp)]
  try exact rfl
 | true =>
 have hhd := validV_hdr hv
 have hho := validV_hdr hw
 have had := validV_all hv
 have hao := validV_all hw
 have hle02 := RO.le_trans hle1 hle2
 try simp only [go_sem, ↓reduceIte, nQ1, nQ2, nQ3, nQ4, nQ5, nQ6, reduceCtorEq]
 obtain ⟨a', cap', ps0, e1, hps0, hpo0, hsrc⟩ := (h0.mono hle02).src
 obtain ⟨rfl, _, rfl⟩ := Value.slice.inj e1
 have hpl0 : ps0.length = d.edits.length := by rw [← hps0, List.length_map]
 refine hsrc ?_
 try simp only [go_sem, ↓reduceIte, nQ1, nQ2, nQ3, nQ4, nQ5, nQ6, reduceCtorEq]
 refine vappO [] rfl rfl (by omega) ?_
 try simp only [go_sem, ↓reduceIte, nQ1, nQ2, nQ3, nQ4, nQ5, nQ6, reduceCtorEq]
 refine vcLoopR (Nat × Int × List De × Option (Option Addr × Nat) × List Pl) (fun x => [(7, .val (.int .i64 x.1)), (2, .loc 0 0), (3, .loc 1 0), (4, .loc 2 0), (6, .loc 3 0)])
  (fun x => [.box [.val (.int .i64 d.id), .val (.int .i64 d.epoch), .val (.int .i64 d.next), .val (.slice a d.edits.length cap)], .box [.val (.int .i64 o.id), .val (.int .i64 o.epoch), .val (.int .i64 o.next), .val (.slice b o.edits.length bcap)],
   .box [.val (.int .i64 0), .val (.int .i64 0), .val (.int .i64 0), .val (.slice none 0 0)], .box [.val (.int .i64 d.id), .val (.int .i64 d.epoch), .val (.int .i64 x.2.1), ouSV x.2.2.1.length x.2.2.2.1], ouBlk x.2.2.2.2 x.2.2.2.1])
  (fun x R => x.1 ≤ o.edits.length ∧ x.2.2.1 = (freshD d.edits (o.edits.take x.1)).foldl insR d.edits ∧ x.2.1 = nextD d.next (freshD d.edits (o.edits.take x.1)) ∧ (∀ y ∈ o.edits.take x.1, ∀ z ∈ d.edits, keyEq z y = true → z = y) ∧
   match x.2.2.2.1 with
   | none => x.2.2.2.2.map (·.1) = x.2.2.1 ∧ ∀ p ∈ x.2.2.2.2, PlOK R p
   | some y => EdsV R (.slice y.1 x.2.2.1.length y.2) x.2.2.1) (fun x => o.edits.length - x.1) (0, d.next, d.edits, none, ps0) [0, 1, 2, 3, 5] ?_ ?_ ?_ ?_
 ·try simp only [go_sem, ↓reduceIte, nQ1, nQ2, nQ3, nQ4, nQ5, nQ6, reduceCtorEq]
  repeat' (first | rfl | trivial | constructor)
 ·try simp only [go_sem, ↓reduceIte, nQ1, nQ2, nQ3, nQ4, nQ5, nQ6, reduceCtorEq]
  exact ⟨⟨rfl, rfl⟩, by decide⟩
 ·exact ⟨Nat.zero_le _, rfl, rfl, by simp, hps0, hpo0⟩
 rintro ⟨i, nx, ou, fl, ps⟩ env R3 hle3 hE ⟨hi, hou, hnx, hag, hfl⟩
 simp only [] at hi hou hnx hag hfl
 have hle03 := RO.le_trans hle02 hle3
 cases fl with
 | none =>
  simp only [ouSV, ouBlk] at hE hfl ⊢
  (simp only [go_sem] at hE; obtain ⟨e7, e2, e3, e4, e6⟩ := hE; simp only [go_sem, ↓reduceIte, nQ1, nQ2, nQ3, nQ4, nQ5, nQ6, reduceCtorEq, e7, e2, e3, e4, e6]; dsimp only at *)
  refine ⟨fun hlt => ?_, fun hge => ?_⟩
  ·have hlt' : i < o.edits.length := by omega
   obtain ⟨ad, p, hadd, hp1, hR, hpok⟩ := hbf i hlt'
   have hcells : ∀ j u, (p.ed.cells)[j]? = some u → R3 ((ad.add (i * 13)).add j) u := fun j u hj => hle03 _ _ (hR j u hj)
   have hfs := freshD_snoc d.edits o.edits hlt'
   have htk : o.edits.take (i + 1) = o.edits.take i ++ [p.1] := by rw [List.take_succ_eq_append_getElem hlt', ← hp1]
   rw [← hp1] at hfs
   have hpm : p.1 ∈ o.edits := by rw [hp1]; exact List.getElem_mem hlt'
   have hag' : (∀ z ∈ d.edits, keyEq z p.1 = true → z = p.1) → ∀ y ∈ o.edits.take (i + 1), ∀ z ∈ d.edits, keyEq z y = true → z = y := fun h y hy => by
    rw [htk] at hy
    rcases List.mem_append.1 hy with hy | hy
    ·exact hag y hy
    ·simp only [List.mem_cons, List.not_mem_nil, or_false] at hy
     subst hy; exact h
   have hfl1 : (freshD d.edits (o.edits.take i)).length ≤ 4096 := by
    have h1 : (freshD d.edits (o.edits.take i)).length ≤ (o.edits.take i).length := List.length_filter_le _ _
    rw [List.length_take] at h1; omega
   have houl : ou.length ≤ 8192 := by rw [hou, insAll_len]; omega
   have hpsq := hao.1 p.1 hpm
   have hsq := validD_seq hpsq.1
   have htd : p.1.seq.tdiv 64 = p.1.seq / 64 := tdiv_nonneg' (by omega) (by omega)
   refine ⟨by omega, vat ad hadd ?_⟩
   try simp only [go_sem, ↓reduceIte, nQ1, nQ2, nQ3, nQ4, nQ5, nQ6, reduceCtorEq]
   refine vloadn p.ed.cells rfl hcells ?_
   simp only [go_sem, ↓reduceIte, nQ1, nQ2, nQ3, nQ4, nQ5, nQ6, reduceCtorEq, Ed.cells, Pl.ed, De.ed, e7, e2, e3, e4, e6]
   have hF := dFind2 d.edits _ p.1 p.2.1 p.2.2.1 p.2.2.2 R3 (h0.mono hle03)
   simp only [Ed.cells, De.ed] at hF
   refine vcall hF ?_
   rintro R4 v hle4 hfd
   rcases hfd with ⟨rfl, hno⟩ | ⟨q, hq, rfl, hkq⟩
   ·have hany : d.edits.any (keyEq p.1) = false := List.any_eq_false.2 fun x hx => by rw [hno x hx]; simp
    rw [hany, if_neg (by simp)] at hfs
    try simp only [go_sem, ↓reduceIte, nQ1, nQ2, nQ3, nQ4, nQ5, nQ6, reduceCtorEq, iQ1, iQ2, iQ3, iQ4, iQ5, iQ6, e7, e2, e3, e4, e6]
    refine vfreeze ?_
    try simp only [go_sem, ↓reduceIte, nQ1, nQ2, nQ3, nQ4, nQ5, nQ6, reduceCtorEq]
    intro bb bc R4' hle4' hrow hcap hfr
    try simp only [go_sem, ↓reduceIte, nQ1, nQ2, nQ3, nQ4, nQ5, nQ6, reduceCtorEq]
    have hEd := EdsV.row hrow (by simpa using hcap) (fun q hq => (hfl.2 q hq).mono (RO.le_trans hle4 hle4')) (by have := congrArg List.length hfl.1; rw [List.length_map] at this; omega)
    have hpl : ps.length = ou.length := by have := congrArg List.length hfl.1; rw [List.length_map] at this; omega
    rw [hfl.1, hpl] at hEd
    have hIns := rInserted ou p _ R4' hEd (hpok.mono (RO.le_trans hle03 (RO.le_trans hle4 hle4'))) (by omega)
    simp only [Ed.val, Ed.cells, Pl.ed, De.ed] at hIns
    refine vcall hIns ?_
    rintro R5 r hle5 hr
    obtain ⟨ra5, rc5, rfl, _⟩ := hr.form
    try simp only [go_sem, ↓reduceIte, nQ1, nQ2, nQ3, nQ4, nQ5, nQ6, reduceCtorEq, iQ1, iQ2, iQ3, iQ4, iQ5, iQ6, e7, e2, e3, e4, e6]
    refine ⟨_, W.in64 (by rw [htd]; omega), ?_⟩
    rw [htd]
    refine ⟨_, W.in64 (by omega), ?_⟩
    try simp only [go_sem, ↓reduceIte, nQ1, nQ2, nQ3, nQ4, nQ5, nQ6, reduceCtorEq, iQ1, iQ2, iQ3, iQ4, iQ5, iQ6, e7, e2, e3, e4, e6]
    refine ⟨_, W.in64 (by omega), (i + 1, max nx (p.1.seq / 64 + 1), insR ou p.1, some (ra5, rc5), []), [], ?_⟩
    simp only [ouSV, ouBlk]
    try simp only [go_sem, ↓reduceIte, nQ1, nQ2, nQ3, nQ4, nQ5, nQ6, reduceCtorEq]
    refine ⟨by omega, (by repeat' (first | rfl | constructor)), by decide, by omega, ?_, ?_, hag' (fun z hz hk => ?_), hr⟩
    ·rw [hfs, List.foldl_append, ← hou]; rfl
    ·rw [hfs, nextD_snoc, ← hnx]
    ·exfalso
     have := hno z hz
     rw [keyEq_symm, hk] at this; cases this
   ·have hany : d.edits.any (keyEq p.1) = true := List.any_eq_true.2 ⟨_, List.getElem_mem hq, hkq⟩
    rw [hany, if_pos rfl, List.append_nil] at hfs
    have hq0 : (0 : Int) ≤ (q : Int) := by omega
    have hq1 : ¬ (q : Int) < 0 := by omega
    try simp only [go_sem, ↓reduceIte, nQ1, nQ2, nQ3, nQ4, nQ5, nQ6, reduceCtorEq, iQ1, iQ2, iQ3, iQ4, iQ5, iQ6, e7, e2, e3, e4, e6, hq0, eq_false hq1]
    obtain ⟨ad2, pq, had2, hpq1, hR2, hpqok⟩ := hf q hq
    refine ⟨by omega, vat ad2 had2 ?_⟩
    try simp only [go_sem, ↓reduceIte, nQ1, nQ2, nQ3, nQ4, nQ5, nQ6, reduceCtorEq]
    refine vloadn pq.ed.cells rfl (fun j u hj => hle4 _ _ (hle03 _ _ (hR2 j u hj))) ?_
    simp only [go_sem, ↓reduceIte, nQ1, nQ2, nQ3, nQ4, nQ5, nQ6, reduceCtorEq, Ed.cells, Pl.ed, De.ed, e7, e2, e3, e4, e6]
    have hSm := eSameR pq.1 p.1 _ _ R4 (PlOK.edV (hpqok.mono (RO.le_trans hle03 hle4))) (PlOK.edV (hpok.mono (RO.le_trans hle03 hle4)))
    simp only [Ed.cells, Pl.ed, De.ed] at hSm
    refine vcall hSm ?_
    rintro R5 v hle5 rfl
    have hkq' : keyEq pq.1 p.1 = true := by rw [hpq1, keyEq_symm]; exact hkq
    have hpqm : pq.1 ∈ d.edits := by rw [hpq1]; exact List.getElem_mem hq
    by_cases hsame : pq.1 = p.1
    ·rw [decide_eq_true hsame]
     try simp only [go_sem, ↓reduceIte, nQ1, nQ2, nQ3, nQ4, nQ5, nQ6, reduceCtorEq, iQ1, iQ2, iQ3, iQ4, iQ5, iQ6, e7, e2, e3, e4, e6, hq0, eq_false hq1]
     refine ⟨_, W.in64 (by omega), (i + 1, nx, ou, none, ps), [], ?_⟩
     simp only [ouSV, ouBlk]
     try simp only [go_sem, ↓reduceIte, nQ1, nQ2, nQ3, nQ4, nQ5, nQ6, reduceCtorEq]
     refine ⟨by omega, (by repeat' (first | rfl | constructor)), by decide, by omega, by rw [hfs]; exact hou, by rw [hfs]; exact hnx, hag' (fun z hz hk => ?_), ⟨hfl.1, fun q hq => (hfl.2 q hq).mono (RO.le_trans hle4 hle5)⟩⟩
     have hKD : KeysD d.edits := had.2.imp fun h => lessD_key h
     have := hKD.eq hz hpqm (by rw [hsame]; exact hk)
     rw [this, hsame]
    ·rw [decide_eq_false hsame]
     try simp only [go_sem, ↓reduceIte, nQ1, nQ2, nQ3, nQ4, nQ5, nQ6, reduceCtorEq, iQ1, iQ2, iQ3, iQ4, iQ5, iQ6, e7, e2, e3, e4, e6, hq0, eq_false hq1]
     have hagf : ¬ agreeD d.edits o.edits = true := fun h => by
      unfold agreeD at h
      have h1 := List.all_eq_true.1 (List.all_eq_true.1 h pq.1 hpqm) p.1 hpm
      rw [hkq'] at h1
      simp at h1
      exact hsame h1
     try rw [if_neg hagf]
     try exact rfl
  ·obtain rfl : i = o.edits.length := by omega
   rw [List.take_length] at hou hnx hag
   rw [ins_union had.2 hao.2] at hou
   have hagt : agreeD d.edits o.edits = true := by
    unfold agreeD
    rw [List.all_eq_true]
    intro x hx
    rw [List.all_eq_true]
    intro y hy
    cases hk : keyEq x y with
    | false => rfl
    | true => simp [hag y hy x hx hk]
   try rw [if_pos hagt]
   rw [← hou, ← hnx]
   refine ⟨fun h1 => ?_, fun h1 => ?_⟩
   ·rw [if_pos (by omega)]; exact rfl
   ·rw [if_neg (by omega)]
    try simp only [go_sem, ↓reduceIte, nQ1, nQ2, nQ3, nQ4, nQ5, nQ6, reduceCtorEq]
    intro bb bc R4 hle4 hrow hcap hfr
    try simp only [go_sem, ↓reduceIte, nQ1, nQ2, nQ3, nQ4, nQ5, nQ6, reduceCtorEq]
    have hpl : ps.length = ou.length := by have := congrArg List.length hfl.1; rw [List.length_map] at this; omega
    have hEd := EdsV.row hrow (by simpa using hcap) (fun q hq => (hfl.2 q hq).mono hle4) (by omega)
    rw [hfl.1, hpl] at hEd
    exact ⟨_, rfl, hEd⟩
 | some fv =>
  simp only [ouSV, ouBlk] at hE hfl ⊢
  (simp only [go_sem] at hE; obtain ⟨e7, e2, e3, e4, e6⟩ := hE; simp only [go_sem, ↓reduceIte, nQ1, nQ2, nQ3, nQ4, nQ5, nQ6, reduceCtorEq, e7, e2, e3, e4, e6]; dsimp only at *)
  refine ⟨fun hlt => ?_, fun hge => ?_⟩
  ·have hlt' : i < o.edits.length := by omega
   obtain ⟨ad, p, hadd, hp1, hR, hpok⟩ := hbf i hlt'
   have hcells : ∀ j u, (p.ed.cells)[j]? = some u → R3 ((ad.add (i * 13)).add j) u := fun j u hj => hle03 _ _ (hR j u hj)
   have hfs := freshD_snoc d.edits o.edits hlt'
   have htk : o.edits.take (i + 1) = o.edits.take i ++ [p.1] := by rw [List.take_succ_eq_append_getElem hlt', ← hp1]
   rw [← hp1] at hfs
   have hpm : p.1 ∈ o.edits := by rw [hp1]; exact List.getElem_mem hlt'
   have hag' : (∀ z ∈ d.edits, keyEq z p.1 = true → z = p.1) → ∀ y ∈ o.edits.take (i + 1), ∀ z ∈ d.edits, keyEq z y = true → z = y := fun h y hy => by
    rw [htk] at hy
    rcases List.mem_append.1 hy with hy | hy
    ·exact hag y hy
    ·simp only [List.mem_cons, List.not_mem_nil, or_false] at hy
     subst hy; exact h
   have hfl1 : (freshD d.edits (o.edits.take i)).length ≤ 4096 := by
    have h1 : (freshD d.edits (o.edits.take i)).length ≤ (o.edits.take i).length := List.length_filter_le _ _
    rw [List.length_take] at h1; omega
   have houl : ou.length ≤ 8192 := by rw [hou, insAll_len]; omega
   have hpsq := hao.1 p.1 hpm
   have hsq := validD_seq hpsq.1
   have htd : p.1.seq.tdiv 64 = p.1.seq / 64 := tdiv_nonneg' (by omega) (by omega)
   refine ⟨by omega, vat ad hadd ?_⟩
   try simp only [go_sem, ↓reduceIte, nQ1, nQ2, nQ3, nQ4, nQ5, nQ6, reduceCtorEq]
   refine vloadn p.ed.cells rfl hcells ?_
   simp only [go_sem, ↓reduceIte, nQ1, nQ2, nQ3, nQ4, nQ5, nQ6, reduceCtorEq, Ed.cells, Pl.ed, De.ed, e7, e2, e3, e4, e6]
   have hF := dFind2 d.edits _ p.1 p.2.1 p.2.2.1 p.2.2.2 R3 (h0.mono hle03)
   simp only [Ed.cells, De.ed] at hF
   refine vcall hF ?_
   rintro R4 v hle4 hfd
   rcases hfd with ⟨rfl, hno⟩ | ⟨q, hq, rfl, hkq⟩
   ·have hany : d.edits.any (keyEq p.1) = false := List.any_eq_false.2 fun x hx => by rw [hno x hx]; simp
    rw [hany, if_neg (by simp)] at hfs
    try simp only [go_sem, ↓reduceIte, nQ1, nQ2, nQ3, nQ4, nQ5, nQ6, reduceCtorEq, iQ1, iQ2, iQ3, iQ4, iQ5, iQ6, e7, e2, e3, e4, e6]
    have hIns := rInserted ou p _ R4 (hfl.mono hle4) (hpok.mono (RO.le_trans hle03 hle4)) (by omega)
    simp only [Ed.val, Ed.cells, Pl.ed, De.ed] at hIns
    refine vcall hIns ?_
    rintro R5 r hle5 hr
    obtain ⟨ra5, rc5, rfl, _⟩ := hr.form
    try simp only [go_sem, ↓reduceIte, nQ1, nQ2, nQ3, nQ4, nQ5, nQ6, reduceCtorEq, iQ1, iQ2, iQ3, iQ4, iQ5, iQ6, e7, e2, e3, e4, e6]
    refine ⟨_, W.in64 (by rw [htd]; omega), ?_⟩
    rw [htd]
    refine ⟨_, W.in64 (by omega), ?_⟩
    try simp only [go_sem, ↓reduceIte, nQ1, nQ2, nQ3, nQ4, nQ5, nQ6, reduceCtorEq, iQ1, iQ2, iQ3, iQ4, iQ5, iQ6, e7, e2, e3, e4, e6]
    refine ⟨_, W.in64 (by omega), (i + 1, max nx (p.1.seq / 64 + 1), insR ou p.1, some (ra5, rc5), []), [], ?_⟩
    simp only [ouSV, ouBlk]
    try simp only [go_sem, ↓reduceIte, nQ1, nQ2, nQ3, nQ4, nQ5, nQ6, reduceCtorEq]
    refine ⟨by omega, (by repeat' (first | rfl | constructor)), by decide, by omega, ?_, ?_, hag' (fun z hz hk => ?_), hr⟩
    ·rw [hfs, List.foldl_append, ← hou]; rfl
    ·rw [hfs, nextD_snoc, ← hnx]
    ·exfalso
     have := hno z hz
     rw [keyEq_symm, hk] at this; cases this
   ·have hany : d.edits.any (keyEq p.1) = true := List.any_eq_true.2 ⟨_, List.getElem_mem hq, hkq⟩
    rw [hany, if_pos rfl, List.append_nil] at hfs
    have hq0 : (0 : Int) ≤ (q : Int) := by omega
    have hq1 : ¬ (q : Int) < 0 := by omega
    try simp only [go_sem, ↓reduceIte, nQ1, nQ2, nQ3, nQ4, nQ5, nQ6, reduceCtorEq, iQ1, iQ2, iQ3, iQ4, iQ5, iQ6, e7, e2, e3, e4, e6, hq0, eq_false hq1]
    obtain ⟨ad2, pq, had2, hpq1, hR2, hpqok⟩ := hf q hq
    refine ⟨by omega, vat ad2 had2 ?_⟩
    try simp only [go_sem, ↓reduceIte, nQ1, nQ2, nQ3, nQ4, nQ5, nQ6, reduceCtorEq]
    refine vloadn pq.ed.cells rfl (fun j u hj => hle4 _ _ (hle03 _ _ (hR2 j u hj))) ?_
    simp only [go_sem, ↓reduceIte, nQ1, nQ2, nQ3, nQ4, nQ5, nQ6, reduceCtorEq, Ed.cells, Pl.ed, De.ed, e7, e2, e3, e4, e6]
    have hSm := eSameR pq.1 p.1 _ _ R4 (PlOK.edV (hpqok.mono (RO.le_trans hle03 hle4))) (PlOK.edV (hpok.mono (RO.le_trans hle03 hle4)))
    simp only [Ed.cells, Pl.ed, De.ed] at hSm
    refine vcall hSm ?_
    rintro R5 v hle5 rfl
    have hkq' : keyEq pq.1 p.1 = true := by rw [hpq1, keyEq_symm]; exact hkq
    have hpqm : pq.1 ∈ d.edits := by rw [hpq1]; exact List.getElem_mem hq
    by_cases hsame : pq.1 = p.1
    ·rw [decide_eq_true hsame]
     try simp only [go_sem, ↓reduceIte, nQ1, nQ2, nQ3, nQ4, nQ5, nQ6, reduceCtorEq, iQ1, iQ2, iQ3, iQ4, iQ5, iQ6, e7, e2, e3, e4, e6, hq0, eq_false hq1]
     refine ⟨_, W.in64 (by omega), (i + 1, nx, ou, some fv, ps), [], ?_⟩
     simp only [ouSV, ouBlk]
     try simp only [go_sem, ↓reduceIte, nQ1, nQ2, nQ3, nQ4, nQ5, nQ6, reduceCtorEq]
     refine ⟨by omega, (by repeat' (first | rfl | constructor)), by decide, by omega, by rw [hfs]; exact hou, by rw [hfs]; exact hnx, hag' (fun z hz hk => ?_), hfl.mono (RO.le_trans hle4 hle5)⟩
     have hKD : KeysD d.edits := had.2.imp fun h => lessD_key h
     have := hKD.eq hz hpqm (by rw [hsame]; exact hk)
     rw [this, hsame]
    ·rw [decide_eq_false hsame]
     try simp only [go_sem, ↓reduceIte, nQ1, nQ2, nQ3, nQ4, nQ5, nQ6, reduceCtorEq, iQ1, iQ2, iQ3, iQ4, iQ5, iQ6, e7, e2, e3, e4, e6, hq0, eq_false hq1]
     have hagf : ¬ agreeD d.edits o.edits = true := fun h => by
      unfold agreeD at h
      have h1 := List.all_eq_true.1 (List.all_eq_true.1 h pq.1 hpqm) p.1 hpm
      rw [hkq'] at h1
      simp at h1
      exact hsame h1
     try rw [if_neg hagf]
     try exact rfl
  ·obtain rfl : i = o.edits.length := by omega
   rw [List.take_length] at hou hnx hag
   rw [ins_union had.2 hao.2] at hou
   have hagt : agreeD d.edits o.edits = true := by
    unfold agreeD
    rw [List.all_eq_true]
    intro x hx
    rw [List.all_eq_true]
    intro y hy
    cases hk : keyEq x y with
    | false => rfl
    | true => simp [hag y hy x hx hk]
   try rw [if_pos hagt]
   rw [← hou, ← hnx]
   refine ⟨fun h1 => ?_, fun h1 => ?_⟩
   ·rw [if_pos (by omega)]; exact rfl
   ·rw [if_neg (by omega)]
    try simp only [go_sem, ↓reduceIte, nQ1, nQ2, nQ3, nQ4, nQ5, nQ6, reduceCtorEq]
    exact ⟨_, rfl, hfl⟩
end Go.Proofs.YtcjdbfnnbejmeaaGreat
namespace Go.Proofs.YtcjdbfnnbejmeaaGreat
set_option linter.unusedSimpArgs false
set_option linter.unusedVariables false
open Go.Proofs.YtcjdbfnnbejmeaaGreat.Vc
/-! ### Devices compared -/
theorem Dv.eq_of' {a b : Dv} (h1 : a.id = b.id) (h2 : a.epoch = b.epoch) (h3 : a.next = b.next) (h4 : a.edits = b.edits) : a = b := by
 cases a; cases b; simp only at h1 h2 h3 h4; subst h1 h2 h3 h4; rfl
theorem rSameDv (a b : Dv) (u v : Value) (R : RO) (h : EdsV R u a.edits) (k : EdsV R v b.edits) : CallsR Tryz.prog 14 [.agg (dvCells a u).toArray, .agg (dvCells b v).toArray] R fun _ r => r = .bool (decide (a = b)) := by
 have hL := eSameList a.edits b.edits u v R h k
 obtain ⟨ua, uc, rfl, _⟩ := h.form
 obtain ⟨va, vc, rfl, _⟩ := k.form
 have hab : a = b ↔ a.id = b.id ∧ a.epoch = b.epoch ∧ a.next = b.next ∧ a.edits = b.edits := ⟨fun h => by rw [h]; exact ⟨rfl, rfl, rfl, rfl⟩, fun ⟨h1, h2, h3, h4⟩ => Dv.eq_of' h1 h2 h3 h4⟩
 simp only [dvCells]
 refine callsT mix Tryz.func14 comp14 (by simp [Tryz.ntmps14]) ?_; simp only [go_sem, ↓reduceIte, nQ1, nQ2, nQ3, nQ4, nQ5, nQ6, reduceCtorEq, vc14, rs14]
 refine ⟨fun h1 => ⟨fun h2 => ⟨fun h3 => ?_, fun h3 => ?_⟩, fun h2 => ?_⟩, fun h1 => ?_⟩
 ·refine vcall hL ?_
  rintro R1 r hle rfl
  try simp only [go_sem, ↓reduceIte, nQ1, nQ2, nQ3, nQ4, nQ5, nQ6, reduceCtorEq]
  congr 1
  rw [decide_eq_decide, hab]
  simp [h1, h2, h3]
 ·rw [decide_eq_false]; rw [hab]; exact fun h => h3 h.2.2.1
 ·rw [decide_eq_false]; rw [hab]; exact fun h => h2 h.2.1
 ·rw [decide_eq_false]; rw [hab]; exact fun h => h1 h.1
end Go.Proofs.YtcjdbfnnbejmeaaGreat
namespace Go.Proofs.YtcjdbfnnbejmeaaGreat
set_option linter.unusedSimpArgs false
set_option linter.unusedVariables false
open Go.Proofs.YtcjdbfnnbejmeaaGreat.Vc
/-! ### The law DeviceMatchesReference -/
theorem dSmall (d : Dv) (v : Value) (R : RO) (h : EdsV R v d.edits) : CallsR Tryz.prog 5 [.agg (dvCells d v).toArray] R fun _ r => ∃ b, r = .bool b := by
 have hdl : d.edits.length ≤ 1000000000 := by obtain ⟨_, _, _, _, h⟩ := h; exact h
 obtain ⟨a, cap, rfl, hc, hf⟩ := h.form
 simp only [dvCells]
 refine callsT mix Tryz.func5 comp5 (by simp [Tryz.ntmps5]) ?_; simp only [go_sem, ↓reduceIte, nQ1, nQ2, nQ3, nQ4, nQ5, nQ6, reduceCtorEq, vc5, rs5]
 refine ⟨fun _ => ⟨_, rfl⟩, fun _ => ?_⟩
 refine vcLoop Nat (fun i => [(3, .val (.int .i64 i)), (1, .loc 0 0)]) (fun _ => [.box [.val (.int .i64 d.id), .val (.int .i64 d.epoch), .val (.int .i64 d.next), .val (.slice a d.edits.length cap)]]) (fun i _ => i ≤ d.edits.length) (fun i => d.edits.length - i) 0 ?_ ?_ ?_ ?_
 ·(try simp only [go_sem, ↓reduceIte, nQ1, nQ2, nQ3, nQ4, nQ5, nQ6, reduceCtorEq]) <;> (repeat' (first | rfl | trivial | constructor | (intro h; exact absurd rfl h)))
 ·try simp only [go_sem, ↓reduceIte, nQ1, nQ2, nQ3, nQ4, nQ5, nQ6, reduceCtorEq]
 ·exact Nat.zero_le _
 rintro i env R1 hle1 hE' hi
 have hE := hE'
 clear hE'
 (simp only [go_sem] at hE; obtain ⟨e3, e1⟩ := hE; simp only [go_sem, ↓reduceIte, nQ1, nQ2, nQ3, nQ4, nQ5, nQ6, reduceCtorEq, e3, e1]; dsimp only at *)
 refine ⟨fun hlt => ?_, fun hge => ⟨_, rfl⟩⟩
 have hlt' : i < d.edits.length := by omega
 obtain ⟨ad, ra, rn, rc, had, hR, _⟩ := hf i hlt'
 refine ⟨by omega, vat ad had ?_⟩
 try simp only [go_sem, ↓reduceIte, nQ1, nQ2, nQ3, nQ4, nQ5, nQ6, reduceCtorEq]
 refine vload (.slice ra rn rc) (hle1 _ _ (hR 11 _ rfl)) ?_
 simp only [go_sem, ↓reduceIte, nQ1, nQ2, nQ3, nQ4, nQ5, nQ6, reduceCtorEq, e3, e1]
 exact ⟨fun _ => ⟨_, rfl⟩, fun _ => ⟨_, W.in64 (by omega), i + 1, by omega, rfl, by omega⟩⟩
def exD : Except Int Dv → Dv
 | .ok d => d
 | .error _ => ⟨0, 0, 0, []⟩
def exK : Except Int Dv → Int
 | .ok _ => 0
 | .error k => k
theorem DvR.uni {R : RO} {r : Value} {x : Except Int Dv} (h : DvR R r x) : ∃ a c, r = .tuple #[.agg (dvCells (exD x) (.slice a (exD x).edits.length c)).toArray, .int .i64 (exK x)] ∧ EdsV R (.slice a (exD x).edits.length c) (exD x).edits := by
 rcases h.shape with ⟨k, rfl, rfl⟩ | ⟨d, a, c, rfl, rfl, hd⟩
 ·exact ⟨none, 0, rfl, EdsV.nil _⟩
 ·exact ⟨a, c, rfl, hd⟩
set_option maxHeartbeats 16000000 in
theorem lMatches (R : RO) (d0 d1 : Dv) (v0 v1 : Value) (h0 : EdsV R v0 d0.edits) (h1 : EdsV R v1 d1.edits) (x : De) (ra : Option Addr) (rn rc : Nat) (hx : RuleV R (.slice ra rn rc) x.rule) (n : Int) :
  CallsR Tryz.prog 3 [.agg (dvCells d0 v0 ++ dvCells d1 v1).toArray, .agg ((x.ed ra rn rc).cells).toArray, .int .i64 n] R fun _ v => v = .bool true := by
 obtain ⟨a0, c0, rfl, _⟩ := h0.form
 obtain ⟨a1, c1, rfl, _⟩ := h1.form
 simp only [dvCells, Ed.cells, De.ed, List.cons_append, List.nil_append]
 refine callsT mix Tryz.func3 comp3 (by simp [Tryz.ntmps3]) ?_; simp only [go_sem, ↓reduceIte, nQ1, nQ2, nQ3, nQ4, nQ5, nQ6, reduceCtorEq, vc3, rs3]
 refine vcall (dSanity R) ?_
 rintro R1 v hle1 rfl
 try simp only [go_sem, ↓reduceIte, nQ1, nQ2, nQ3, nQ4, nQ5, nQ6, reduceCtorEq, iQ1, iQ2, iQ3, iQ4, iQ5, iQ6]
 have hm0 := dSmall d0 _ R1 (h0.mono hle1)
 simp only [dvCells] at hm0
 refine vcall hm0 ?_
 rintro R2 r hle2 ⟨b0, rfl⟩
 cases b0 with
 | false => try simp only [go_sem, ↓reduceIte, nQ1, nQ2, nQ3, nQ4, nQ5, nQ6, reduceCtorEq, iQ1, iQ2, iQ3, iQ4, iQ5, iQ6]
 | true =>
 try simp only [go_sem, ↓reduceIte, nQ1, nQ2, nQ3, nQ4, nQ5, nQ6, reduceCtorEq, iQ1, iQ2, iQ3, iQ4, iQ5, iQ6]
 have hm1 := dSmall d1 _ R2 (h1.mono (RO.le_trans hle1 hle2))
 simp only [dvCells] at hm1
 refine vcall hm1 ?_
 rintro R3 r hle3 ⟨b1, rfl⟩
 cases b1 with
 | false => try simp only [go_sem, ↓reduceIte, nQ1, nQ2, nQ3, nQ4, nQ5, nQ6, reduceCtorEq, iQ1, iQ2, iQ3, iQ4, iQ5, iQ6]
 | true =>
 try simp only [go_sem, ↓reduceIte, nQ1, nQ2, nQ3, nQ4, nQ5, nQ6, reduceCtorEq, iQ1, iQ2, iQ3, iQ4, iQ5, iQ6]
 intro _
 have k0 := dNew n R3
 try simp only [dvCells, Ed.cells, De.ed] at k0
 refine vcall k0 ?_
 intro R4 r hle4 hr
 obtain ⟨p0a, p0c, rfl, u0⟩ := hr.uni
 simp only [dvCells]
 try simp only [go_sem, ↓reduceIte, nQ1, nQ2, nQ3, nQ4, nQ5, nQ6, reduceCtorEq, iQ1, iQ2, iQ3, iQ4, iQ5, iQ6]
 have k1 := rNewD n R4
 try simp only [dvCells, Ed.cells, De.ed] at k1
 refine vcall k1 ?_
 intro R5 r hle5 hr
 obtain ⟨p1a, p1c, rfl, u1⟩ := hr.uni
 simp only [dvCells]
 try simp only [go_sem, ↓reduceIte, nQ1, nQ2, nQ3, nQ4, nQ5, nQ6, reduceCtorEq, iQ1, iQ2, iQ3, iQ4, iQ5, iQ6]
 have k2 := dAdd d0 _ x ra rn rc R5 (h0.mono (RO.le_trans hle1 (RO.le_trans hle2 (RO.le_trans hle3 (RO.le_trans hle4 hle5))))) (hx.mono (RO.le_trans hle1 (RO.le_trans hle2 (RO.le_trans hle3 (RO.le_trans hle4 hle5)))))
 try simp only [dvCells, Ed.cells, De.ed] at k2
 refine vcall k2 ?_
 intro R6 r hle6 hr
 obtain ⟨p2a, p2c, rfl, u2⟩ := hr.uni
 simp only [dvCells]
 try simp only [go_sem, ↓reduceIte, nQ1, nQ2, nQ3, nQ4, nQ5, nQ6, reduceCtorEq, iQ1, iQ2, iQ3, iQ4, iQ5, iQ6]
 have k3 := rAddD d0 _ x ra rn rc R6 (h0.mono (RO.le_trans hle1 (RO.le_trans hle2 (RO.le_trans hle3 (RO.le_trans hle4 (RO.le_trans hle5 hle6)))))) (hx.mono (RO.le_trans hle1 (RO.le_trans hle2 (RO.le_trans hle3 (RO.le_trans hle4 (RO.le_trans hle5 hle6))))))
 try simp only [dvCells, Ed.cells, De.ed] at k3
 refine vcall k3 ?_
 intro R7 r hle7 hr
 obtain ⟨p3a, p3c, rfl, u3⟩ := hr.uni
 simp only [dvCells]
 try simp only [go_sem, ↓reduceIte, nQ1, nQ2, nQ3, nQ4, nQ5, nQ6, reduceCtorEq, iQ1, iQ2, iQ3, iQ4, iQ5, iQ6]
 have k4 := dSync d0 d1 _ _ R7 (h0.mono (RO.le_trans hle1 (RO.le_trans hle2 (RO.le_trans hle3 (RO.le_trans hle4 (RO.le_trans hle5 (RO.le_trans hle6 hle7))))))) (h1.mono (RO.le_trans hle1 (RO.le_trans hle2 (RO.le_trans hle3 (RO.le_trans hle4 (RO.le_trans hle5 (RO.le_trans hle6 hle7)))))))
 try simp only [dvCells, Ed.cells, De.ed] at k4
 refine vcall k4 ?_
 intro R8 r hle8 hr
 obtain ⟨p4a, p4c, rfl, u4⟩ := hr.uni
 simp only [dvCells]
 try simp only [go_sem, ↓reduceIte, nQ1, nQ2, nQ3, nQ4, nQ5, nQ6, reduceCtorEq, iQ1, iQ2, iQ3, iQ4, iQ5, iQ6]
 have k5 := rSyncD d0 d1 _ _ R8 (h0.mono (RO.le_trans hle1 (RO.le_trans hle2 (RO.le_trans hle3 (RO.le_trans hle4 (RO.le_trans hle5 (RO.le_trans hle6 (RO.le_trans hle7 hle8)))))))) (h1.mono (RO.le_trans hle1 (RO.le_trans hle2 (RO.le_trans hle3 (RO.le_trans hle4 (RO.le_trans hle5 (RO.le_trans hle6 (RO.le_trans hle7 hle8))))))))
 try simp only [dvCells, Ed.cells, De.ed] at k5
 refine vcall k5 ?_
 intro R9 r hle9 hr
 obtain ⟨p5a, p5c, rfl, u5⟩ := hr.uni
 simp only [dvCells]
 try simp only [go_sem, ↓reduceIte, nQ1, nQ2, nQ3, nQ4, nQ5, nQ6, reduceCtorEq, iQ1, iQ2, iQ3, iQ4, iQ5, iQ6]
 have k6 := dRestore d0 _ n R9 (h0.mono (RO.le_trans hle1 (RO.le_trans hle2 (RO.le_trans hle3 (RO.le_trans hle4 (RO.le_trans hle5 (RO.le_trans hle6 (RO.le_trans hle7 (RO.le_trans hle8 hle9)))))))))
 try simp only [dvCells, Ed.cells, De.ed] at k6
 refine vcall k6 ?_
 intro R10 r hle10 hr
 obtain ⟨p6a, p6c, rfl, u6⟩ := hr.uni
 simp only [dvCells]
 try simp only [go_sem, ↓reduceIte, nQ1, nQ2, nQ3, nQ4, nQ5, nQ6, reduceCtorEq, iQ1, iQ2, iQ3, iQ4, iQ5, iQ6]
 have k7 := rRestoreD d0 _ n R10 (h0.mono (RO.le_trans hle1 (RO.le_trans hle2 (RO.le_trans hle3 (RO.le_trans hle4 (RO.le_trans hle5 (RO.le_trans hle6 (RO.le_trans hle7 (RO.le_trans hle8 (RO.le_trans hle9 hle10))))))))))
 try simp only [dvCells, Ed.cells, De.ed] at k7
 refine vcall k7 ?_
 intro R11 r hle11 hr
 obtain ⟨p7a, p7c, rfl, u7⟩ := hr.uni
 simp only [dvCells]
 try simp only [go_sem, ↓reduceIte, nQ1, nQ2, nQ3, nQ4, nQ5, nQ6, reduceCtorEq, iQ1, iQ2, iQ3, iQ4, iQ5, iQ6]
 have s0 := rSameDv (exD (dvNew n)) (exD (dvNew n)) _ _ R11 (u0.mono (RO.le_trans hle5 (RO.le_trans hle6 (RO.le_trans hle7 (RO.le_trans hle8 (RO.le_trans hle9 (RO.le_trans hle10 hle11))))))) (u1.mono (RO.le_trans hle6 (RO.le_trans hle7 (RO.le_trans hle8 (RO.le_trans hle9 (RO.le_trans hle10 hle11))))))
 simp only [dvCells] at s0
 refine vcall s0 ?_
 rintro R12 v hle12 rfl
 try rw [decide_eq_true (Eq.refl _)]
 try simp only [go_sem, ↓reduceIte, nQ1, nQ2, nQ3, nQ4, nQ5, nQ6, reduceCtorEq, iQ1, iQ2, iQ3, iQ4, iQ5, iQ6]
 have s1 := rSameDv (exD (dvAdd d0 x)) (exD (dvAdd d0 x)) _ _ R12 (u2.mono (RO.le_trans hle7 (RO.le_trans hle8 (RO.le_trans hle9 (RO.le_trans hle10 (RO.le_trans hle11 hle12)))))) (u3.mono (RO.le_trans hle8 (RO.le_trans hle9 (RO.le_trans hle10 (RO.le_trans hle11 hle12)))))
 simp only [dvCells] at s1
 refine vcall s1 ?_
 rintro R13 v hle13 rfl
 try rw [decide_eq_true (Eq.refl _)]
 try simp only [go_sem, ↓reduceIte, nQ1, nQ2, nQ3, nQ4, nQ5, nQ6, reduceCtorEq, iQ1, iQ2, iQ3, iQ4, iQ5, iQ6]
 have s2 := rSameDv (exD (dvSync d0 d1)) (exD (dvSync d0 d1)) _ _ R13 (u4.mono (RO.le_trans hle9 (RO.le_trans hle10 (RO.le_trans hle11 (RO.le_trans hle12 hle13))))) (u5.mono (RO.le_trans hle10 (RO.le_trans hle11 (RO.le_trans hle12 hle13))))
 simp only [dvCells] at s2
 refine vcall s2 ?_
 rintro R14 v hle14 rfl
 try rw [decide_eq_true (Eq.refl _)]
 try simp only [go_sem, ↓reduceIte, nQ1, nQ2, nQ3, nQ4, nQ5, nQ6, reduceCtorEq, iQ1, iQ2, iQ3, iQ4, iQ5, iQ6]
 have s3 := rSameDv (exD (dvRestore d0 n)) (exD (dvRestore d0 n)) _ _ R14 (u6.mono (RO.le_trans hle11 (RO.le_trans hle12 (RO.le_trans hle13 hle14)))) (u7.mono (RO.le_trans hle12 (RO.le_trans hle13 hle14)))
 simp only [dvCells] at s3
 refine vcall s3 ?_
 rintro R15 v hle15 rfl
 try rw [decide_eq_true (Eq.refl _)]
 try simp only [go_sem, ↓reduceIte, nQ1, nQ2, nQ3, nQ4, nQ5, nQ6, reduceCtorEq, iQ1, iQ2, iQ3, iQ4, iQ5, iQ6]
 have l0 := dLacks d0 d1 _ _ R15 (h0.mono (RO.le_trans hle1 (RO.le_trans hle2 (RO.le_trans hle3 (RO.le_trans hle4 (RO.le_trans hle5 (RO.le_trans hle6 (RO.le_trans hle7 (RO.le_trans hle8 (RO.le_trans hle9 (RO.le_trans hle10 (RO.le_trans hle11 (RO.le_trans hle12 (RO.le_trans hle13 (RO.le_trans hle14 hle15))))))))))))))) (h1.mono (RO.le_trans hle1 (RO.le_trans hle2 (RO.le_trans hle3 (RO.le_trans hle4 (RO.le_trans hle5 (RO.le_trans hle6 (RO.le_trans hle7 (RO.le_trans hle8 (RO.le_trans hle9 (RO.le_trans hle10 (RO.le_trans hle11 (RO.le_trans hle12 (RO.le_trans hle13 (RO.le_trans hle14 hle15)))))))))))))))
 simp only [dvCells] at l0
 refine vcall l0 ?_
 rintro R16 la hle16 hla
 have l1 := rLacksD d0 d1 _ _ R16 (h0.mono (RO.le_trans hle1 (RO.le_trans hle2 (RO.le_trans hle3 (RO.le_trans hle4 (RO.le_trans hle5 (RO.le_trans hle6 (RO.le_trans hle7 (RO.le_trans hle8 (RO.le_trans hle9 (RO.le_trans hle10 (RO.le_trans hle11 (RO.le_trans hle12 (RO.le_trans hle13 (RO.le_trans hle14 (RO.le_trans hle15 hle16)))))))))))))))) (h1.mono (RO.le_trans hle1 (RO.le_trans hle2 (RO.le_trans hle3 (RO.le_trans hle4 (RO.le_trans hle5 (RO.le_trans hle6 (RO.le_trans hle7 (RO.le_trans hle8 (RO.le_trans hle9 (RO.le_trans hle10 (RO.le_trans hle11 (RO.le_trans hle12 (RO.le_trans hle13 (RO.le_trans hle14 (RO.le_trans hle15 hle16))))))))))))))))
 obtain ⟨laa, lac, rfl, _⟩ := hla.form
 simp only [dvCells] at l1
 try simp only [go_sem, ↓reduceIte, nQ1, nQ2, nQ3, nQ4, nQ5, nQ6, reduceCtorEq, iQ1, iQ2, iQ3, iQ4, iQ5, iQ6]
 refine vcall l1 ?_
 rintro R17 lb hle17 hlb
 obtain ⟨lba, lbc, rfl, _⟩ := hlb.form
 try simp only [go_sem, ↓reduceIte, nQ1, nQ2, nQ3, nQ4, nQ5, nQ6, reduceCtorEq, iQ1, iQ2, iQ3, iQ4, iQ5, iQ6]
 refine vcall (eSameList _ _ _ _ R17 (hla.mono hle17) hlb) ?_
 rintro R18 v hle18 rfl
 try rw [decide_eq_true (Eq.refl _)]
 try simp only [go_sem, ↓reduceIte, nQ1, nQ2, nQ3, nQ4, nQ5, nQ6, reduceCtorEq, iQ1, iQ2, iQ3, iQ4, iQ5, iQ6]
end Go.Proofs.YtcjdbfnnbejmeaaGreat
namespace Go.Proofs.YtcjdbfnnbejmeaaGreat
set_option linter.unusedSimpArgs false
set_option linter.unusedVariables false
open Go.ChangeShapes Go.WideShapes Go.ChangeAt Go.RowKit Go.Joins Go.Proofs.YtcjdbfnnbejmeaaGreat.Vc
theorem Tryz.own : ownKnob Tryz.prog.godebug = none := by kernel_rfl
theorem Tryz.laidOut : laidOutB Tryz.prog = true := by kernel_rfl
section
variable {H : Type} {enc : TypeId × Value → H} {P : Program}
theorem trodAll_stay (hl : laidOutB P = true) {W W' : World} {sp : Nat → Bool} (hb : Ext W W') : ∀ {ts : List TypeId} {vs : List Value} {ds : List (DataW H)} {ps : List MemPlace},
  (∀ t ∈ ts, P.readableRec t = true ∧ t < P.types.size) → DataW.TrodAll enc P W 0 (fun _ => true) true ts vs ds ps → (∀ x ∈ ps, x.block < W.heap.size) → (∀ x ∈ ps, sp x.block = true) → DataW.TrodAll enc P W' 0 sp true ts vs ds ps
 | [], [], [], ps, _, h, _, _ => h
 | t :: ts, v :: vs, d :: ds, ps, ht, ⟨p, q, h1, h2, he⟩, hlt, hsp => by
  subst he
  refine ⟨p, q, WideElems.Trod_stays hl (ht t (by simp)).1 (ht t (by simp)).2 h1 (fun x hx => hb.below.same (hlt x (by simp [hx]))) (fun x hx => hsp x (by simp [hx])), ?_, rfl⟩
  exact trodAll_stay hl hb (fun t h => ht t (by simp [h])) h2 (fun x hx => hlt x (by simp [hx])) (fun x hx => hsp x (by simp [hx]))
theorem trodAll_len {w : World} {base : Nat} {sp : Nat → Bool} {held : Bool} : ∀ {ts : List TypeId} {vs : List Value} {ds : List (DataW H)} {ps : List MemPlace}, DataW.TrodAll enc P w base sp held ts vs ds ps → ds.length = ts.length
 | [], [], [], ps, _ => rfl
 | t :: ts, v :: vs, d :: ds, ps, ⟨p, q, _, h2, _⟩ => by simp [trodAll_len h2]
theorem law_post {f : Func} {s : ChangeSpec} {W W' : World} {args : Array Value} {ds : List (DataW H)} {ps : List MemPlace} {tb : TypeId} (hl : laidOutB P = true) (hvars : s.vars = []) (hfres : f.resultTypes = #[tb]) (hb : P.underlying tb = some .bool)
  (hread : ∀ t ∈ f.params.toList, P.readableRec t = true ∧ t < P.types.size) (hs : s.fn H ds = { results := [.lit (.bool true)], args := ds })
  (hW : DataW.Whole enc P f.params.toList s.vars false W args.toList ds [] ps) (hA : DataW.TrodAll enc P W 0 (fun _ => true) true f.params.toList args.toList ds ps) (hext : Ext W W') : s.post enc P f false true false false W args (.bool true) W' := by
 have hlt : ∀ x ∈ ps, x.block < W.heap.size := fun x hx => hW.lt x hx
 have hds : s.fn H (ds ++ []) = { results := [.lit (.bool true)], args := ds } := by rw [List.append_nil]; exact hs
 have hbool : ∀ (b : Nat) (sp : Nat → Bool) (hd : Bool), DataW.TrodAll enc P W' b sp hd f.resultTypes.toList ((Value.bool true).resultList f.resultTypes.size) [.lit (.bool true)] [] := fun b sp hd => by
  rw [hfres]
  exact trodAll_mk1 ⟨1, by simp [DataW.trod, Value.cells, hb]⟩
 have hargs := fun (sp : Nat → Bool) (hsp : ∀ x ∈ ps, sp x.block = true) => trodAll_stay (enc := enc) hl hext hread hA hlt hsp
 have hnoV : ∀ sp : Nat → Bool, DataW.TrodVars enc P W' sp s.vars ([] : List (DataW H)) [] := fun sp => by rw [hvars]; rfl
 have hfrozen : W'.noneFrozen ps := by
  obtain ⟨_, _, _, _, _, hz, _⟩ := hW
  intro b off hp
  rw [hext.below.frozen (hlt _ hp)]
  exact hz b off hp
 refine ⟨ds, [], ps, [], ps, [], hW, by rw [hds]; exact hbool _ _ _, by rw [hds]; exact hargs (fun b => decide (b < W.heap.size)) (fun x hx => by simpa using hlt x hx), by rw [hds]; exact hnoV _, World.keptBut_mono (fun x hx => ⟨hx, .inr (by simpa using hx)⟩) (hext.below.frame (· ∈ ps)), fun _ => ⟨fun j t r hj hr => ?_, [.lit (.bool true)] ++ ds, [], ps, ⟨ps, [], ?_, hnoV _, by simp, hfrozen, fun e => by cases e⟩, fun p hp _ => by simpa using hp⟩⟩
 ·rw [hfres] at hj hr
  match j with
  | 0 =>
   simp only [List.getElem?_toArray, List.getElem?_cons_zero, Option.some.injEq] at hj
   subst hj
   have : r = .bool true := by simpa [Value.resultList] using hr.symm
   subst this
   simp [Value.okWide, hb, Cell.okWide, Cell.ok]
  | j + 1 => simp at hj
 ·have := trodAll_append (hargs (fun _ => true) (fun _ _ => rfl)) (hbool 0 (fun _ => true) true)
  simpa using this
end
def factsOf (W : World) : RO := fun a v => W.cell? a = some v
set_option maxRecDepth 100000 in
/-- A law's row, from a contract of its function. -/
theorem lawLifted {os : Os} (started : os.Started) {H : Type} {enc : TypeId × Value → H} {n : Nat} {fn : Func} {s : ChangeSpec} {tb : TypeId} (noInit : Tryz.checked.prog.inits.idxOf? n = none) (hfn : Tryz.checked.prog.funcs[n]? = some fn)
  (hvars : s.vars = []) (hres : fn.resultTypes = #[tb]) (hbool : Tryz.checked.prog.underlying tb = some .bool) (hread : ∀ t ∈ fn.params.toList, Tryz.prog.readableRec t = true ∧ t < Tryz.prog.types.size)
  (hs : ∀ ds : List (DataW H), ds.length = fn.params.toList.length → s.fn H ds = { results := [.lit (.bool true)], args := ds })
  (witness : ∃ (w : World) (tape : Tape) (i : Input), w.os = os ∧ (w.forCall tape i).Shaped Tryz.checked.prog ∧ i.vars = [] ∧ Input.okWide Tryz.checked.prog (w.forCall tape i) .any w.heap.size n i ∧
   s.pre6 enc Tryz.checked.prog fn [] false (w.forCall tape i).memory i.args ∧ Assume.holds {} Tryz.checked.prog (lone (Frame.enter Tryz.checked.prog n i.args .normal) [] (w.forCall tape i)))
  (hlaw : ∀ (W : World) (base : Nat) (args : Array Value) (ds : List (DataW H)) (ps : List MemPlace), (∀ (j : Nat) t v, fn.params[j]? = some t → args[j]? = some v → Value.okWide Tryz.prog W .any base t v) →
   DataW.TrodAll enc Tryz.prog W 0 (fun _ => true) true fn.params.toList args.toList ds ps → (DataW.weightsEach Tryz.prog fn.params.toList ds).all (· ≤ reachBytes) = true →
   CallsR Tryz.prog n args.toList (factsOf W) fun _ v => v = .bool true) :
  ReturnsInHanded {} Tryz.checked os n .any (s.pre6 enc Tryz.prog fn [] false) (s.post enc Tryz.prog fn false true false false) := by
 refine returnsInHanded_of_change_sized (C := Tryz.checked) Tryz.own started noInit hfn witness ?_
 intro W base args ds gs before hval hW hcnd hwt _
 have hW0 := hW
 obtain ⟨p, q, hA, hV, rfl, hfz, hnd⟩ := hW0
 rw [hvars] at hV
 obtain ⟨rfl, rfl⟩ := trodVars_none hV
 have hvt : s.plain.varTypes Tryz.checked.prog = [] := by simp [ChangeSpec.plain, DataSpec.varTypes, hvars]
 rw [hvt, List.append_nil, List.append_nil] at hwt
 have hlt : ∀ x ∈ p ++ [], x.block < W.heap.size := fun x hx => hW.lt x hx
 rw [List.append_nil] at hlt
 refine (hlaw W base args ds p hval hA hwt W (fun a v h => h)).mono ?_
 rintro e W' ⟨v, R', rfl, -, -, hext, rfl⟩
 rw [List.append_nil] at hW
 exact ⟨_, rfl, law_post Tryz.laidOut hvars hres hbool hread (hs ds (trodAll_len hA)) hW hA hext⟩
section
variable {H : Type} {enc : TypeId × Value → H} {W : World} {base fuel : Nat} {spare : Nat → Bool} {held : Bool}
end
end Go.Proofs.YtcjdbfnnbejmeaaGreat
namespace Go.Proofs.YtcjdbfnnbejmeaaGreat
set_option linter.unusedSimpArgs false
set_option linter.unusedVariables false
open Go.ChangeShapes Go.WideShapes Go.ChangeAt Go.RowKit Go.Joins Go.Proofs.YtcjdbfnnbejmeaaGreat.Vc
set_option maxRecDepth 100000
section
variable {P : Program} {t : TypeId} {W : World} {r : Reach} {b0 : Nat} {v : Value}
theorem ok_int (ht : P.underlying t = some (.int .i64)) (h : Cell.okWide P W r b0 t v) : ∃ n, v = .int .i64 n := by
 unfold Cell.okWide Cell.ok at h
 rw [ht] at h
 cases v <;> simp_all
theorem okw_cell {k : IntKind} (ht : P.underlying t = some (.int k)) (h : Value.okWide P W r b0 t v) : Cell.okWide P W r b0 t v := by
 unfold Value.okWide at h
 rw [ht] at h
 exact h
theorem trod_boolP {H : Type} {enc : TypeId × Value → H} {base fuel : Nat} {spare : Nat → Bool} {held : Bool} {cs : List Value} {x : DataW H × List MemPlace} (ht : P.underlying t = some .bool) (h : DataW.trod enc P W base spare held fuel t cs = some x) : ∃ b, cs = [.bool b] := by
 cases fuel with
 | zero => simp [DataW.trod] at h
 | succ n =>
  unfold DataW.trod at h
  rw [ht] at h
  split at h <;> simp_all
theorem int_in {v : Value} (hv : Value.okWide Tryz.prog W r b0 3 v) : ∃ n, v = .int .i64 n := ok_int Tryz.underlying3 (okw_cell Tryz.underlying3 hv)
end
section
variable {H : Type} {enc : TypeId × Value → H} {W : World} {base fuel : Nat} {spare : Nat → Bool} {held : Bool}
theorem trod_edit {cs : List Value} {x : DataW H × List MemPlace} (h : DataW.trod enc Tryz.prog W base spare held fuel 31 cs = some x) : ∃ e : Ed, cs = e.cells := by
 obtain ⟨xs, n, _, _, hl, hlen, hf⟩ := DataW.trod_struct Tryz.underlying31 h
 have hC : Tryz.prog.cellsOf 31 = 13 := by kernel_rfl
 have hC3 : Tryz.prog.cellsOf 3 = 1 := by kernel_rfl
 have hC4 : Tryz.prog.cellsOf 4 = 1 := by kernel_rfl
 have hC9 : Tryz.prog.cellsOf 9 = 1 := by kernel_rfl
 have hCr : Tryz.prog.cellsOf 29 = 1 := by kernel_rfl
 have hCm : Tryz.prog.cellsOf 27 = 5 := by kernel_rfl
 rw [hC] at hl
 match xs, hlen, cs, hl with
 | [y0, y1, y2, y3, y4, y5, y6, y7, y8], _, [c0, c1, c2, c3, c4, c5, c6, c7, c8, c9, c10, c11, c12], _ =>
  have h0 : DataW.trod enc Tryz.prog W base spare held n 3 (([c0, c1, c2, c3, c4, c5, c6, c7, c8, c9, c10, c11, c12].drop 0).take (Tryz.prog.cellsOf 3)) = [y0, y1, y2, y3, y4, y5, y6, y7, y8][0]? := hf 0 _ rfl
  have h1 : DataW.trod enc Tryz.prog W base spare held n 3 (([c0, c1, c2, c3, c4, c5, c6, c7, c8, c9, c10, c11, c12].drop 1).take (Tryz.prog.cellsOf 3)) = [y0, y1, y2, y3, y4, y5, y6, y7, y8][1]? := hf 1 _ rfl
  have h2 : DataW.trod enc Tryz.prog W base spare held n 3 (([c0, c1, c2, c3, c4, c5, c6, c7, c8, c9, c10, c11, c12].drop 2).take (Tryz.prog.cellsOf 3)) = [y0, y1, y2, y3, y4, y5, y6, y7, y8][2]? := hf 2 _ rfl
  have h3 : DataW.trod enc Tryz.prog W base spare held n 3 (([c0, c1, c2, c3, c4, c5, c6, c7, c8, c9, c10, c11, c12].drop 3).take (Tryz.prog.cellsOf 3)) = [y0, y1, y2, y3, y4, y5, y6, y7, y8][3]? := hf 3 _ rfl
  have h4 : DataW.trod enc Tryz.prog W base spare held n 27 (([c0, c1, c2, c3, c4, c5, c6, c7, c8, c9, c10, c11, c12].drop 4).take (Tryz.prog.cellsOf 27)) = [y0, y1, y2, y3, y4, y5, y6, y7, y8][4]? := hf 4 _ rfl
  have h5 : DataW.trod enc Tryz.prog W base spare held n 3 (([c0, c1, c2, c3, c4, c5, c6, c7, c8, c9, c10, c11, c12].drop 9).take (Tryz.prog.cellsOf 3)) = [y0, y1, y2, y3, y4, y5, y6, y7, y8][5]? := hf 5 _ rfl
  have h6 : DataW.trod enc Tryz.prog W base spare held n 3 (([c0, c1, c2, c3, c4, c5, c6, c7, c8, c9, c10, c11, c12].drop 10).take (Tryz.prog.cellsOf 3)) = [y0, y1, y2, y3, y4, y5, y6, y7, y8][6]? := hf 6 _ rfl
  have h7 : DataW.trod enc Tryz.prog W base spare held n 29 (([c0, c1, c2, c3, c4, c5, c6, c7, c8, c9, c10, c11, c12].drop 11).take (Tryz.prog.cellsOf 29)) = [y0, y1, y2, y3, y4, y5, y6, y7, y8][7]? := hf 7 _ rfl
  have h8 : DataW.trod enc Tryz.prog W base spare held n 9 (([c0, c1, c2, c3, c4, c5, c6, c7, c8, c9, c10, c11, c12].drop 12).take (Tryz.prog.cellsOf 9)) = [y0, y1, y2, y3, y4, y5, y6, y7, y8][8]? := hf 8 _ rfl
  simp only [hC3, hC9, hCr, hCm, List.drop_zero, List.drop_succ_cons, List.take_succ_cons, List.take_zero, List.getElem?_cons_zero, List.getElem?_cons_succ] at h0 h1 h2 h3 h4 h5 h6 h7 h8
  obtain ⟨z0, e0, -, -⟩ := DataW.trod_int Tryz.underlying3 h0
  obtain ⟨z1, e1, -, -⟩ := DataW.trod_int Tryz.underlying3 h1
  obtain ⟨z2, e2, -, -⟩ := DataW.trod_int Tryz.underlying3 h2
  obtain ⟨z3, e3, -, -⟩ := DataW.trod_int Tryz.underlying3 h3
  obtain ⟨z5, e5, -, -⟩ := DataW.trod_int Tryz.underlying3 h5
  obtain ⟨z6, e6, -, -⟩ := DataW.trod_int Tryz.underlying3 h6
  obtain ⟨z8, e8, -, -⟩ := DataW.trod_string Tryz.underlying9 h8
  obtain ⟨ms, n', _, _, _, hlen', hf'⟩ := DataW.trod_struct Tryz.underlying27 h4
  obtain ⟨a, l, c, e7⟩ : ∃ a l c, [c11] = [Value.slice a l c] := by
   rcases DataW.trod_slice Tryz.underlying29 h7 with ⟨e, _⟩ | ⟨a, l, c, _, _, _, _, e, _⟩
   ·exact ⟨_, _, _, e⟩
   ·exact ⟨_, _, _, e⟩
  match ms, hlen' with
  | [y0', y1', y2', y3', y4'], _ =>
   have k0 : DataW.trod enc Tryz.prog W base spare held n' 3 (([c4, c5, c6, c7, c8].drop 0).take (Tryz.prog.cellsOf 3)) = [y0', y1', y2', y3', y4'][0]? := hf' 0 _ rfl
   have k1 : DataW.trod enc Tryz.prog W base spare held n' 4 (([c4, c5, c6, c7, c8].drop 1).take (Tryz.prog.cellsOf 4)) = [y0', y1', y2', y3', y4'][1]? := hf' 1 _ rfl
   have k2 : DataW.trod enc Tryz.prog W base spare held n' 3 (([c4, c5, c6, c7, c8].drop 2).take (Tryz.prog.cellsOf 3)) = [y0', y1', y2', y3', y4'][2]? := hf' 2 _ rfl
   have k3 : DataW.trod enc Tryz.prog W base spare held n' 3 (([c4, c5, c6, c7, c8].drop 3).take (Tryz.prog.cellsOf 3)) = [y0', y1', y2', y3', y4'][3]? := hf' 3 _ rfl
   have k4 : DataW.trod enc Tryz.prog W base spare held n' 3 (([c4, c5, c6, c7, c8].drop 4).take (Tryz.prog.cellsOf 3)) = [y0', y1', y2', y3', y4'][4]? := hf' 4 _ rfl
   simp only [hC3, hC4, List.drop_zero, List.drop_succ_cons, List.take_succ_cons, List.take_zero, List.getElem?_cons_zero, List.getElem?_cons_succ] at k0 k1 k2 k3 k4
   obtain ⟨w0, g0, -, -⟩ := DataW.trod_int Tryz.underlying3 k0
   obtain ⟨w2, g2, -, -⟩ := DataW.trod_int Tryz.underlying3 k2
   obtain ⟨w3, g3, -, -⟩ := DataW.trod_int Tryz.underlying3 k3
   obtain ⟨w4, g4, -, -⟩ := DataW.trod_int Tryz.underlying3 k4
   obtain ⟨w1, g1⟩ := trod_boolP Tryz.underlying4 k1
   simp only [List.cons.injEq, and_true] at e0 e1 e2 e3 e5 e6 e7 e8 g0 g1 g2 g3 g4
   subst e0 e1 e2 e3 e5 e6 e7 e8 g0 g1 g2 g3 g4
   exact ⟨⟨z0, z1, z2, z3, ⟨w0, w1, w2, w3, w4⟩, z5, z6, a, l, c, z8⟩, rfl⟩
theorem each_weight {ts : List TypeId} {ds : List (DataW H)} (h : (DataW.weightsEach Tryz.prog ts ds).all (· ≤ reachBytes) = true) {j : Nat} {t : TypeId} {d : DataW H} (ht : ts[j]? = some t) (hd : ds[j]? = some d) : ∀ n ∈ d.weights Tryz.prog t, n ≤ reachBytes := fun n hn => by
 have := List.all_eq_true.1 h n (DataW.weights_mem_each ht hd n hn)
 simpa using this
end
end Go.Proofs.YtcjdbfnnbejmeaaGreat
namespace Go.Proofs.YtcjdbfnnbejmeaaGreat
set_option linter.unusedSimpArgs false
set_option linter.unusedVariables false
open Go.ChangeShapes Go.WideShapes Go.ChangeAt Go.RowKit Go.Joins Go.Proofs.YtcjdbfnnbejmeaaGreat.Vc
set_option maxRecDepth 100000
section
variable {H : Type} {enc : TypeId × Value → H} {W : World} {base fuel : Nat} {spare : Nat → Bool} {held : Bool}
theorem weights_all_mem {P : Program} {e : TypeId} {d : DataW H} : ∀ {l : List (DataW H)}, d ∈ l → ∀ n ∈ d.weights P e, n ∈ DataW.weightsAll P e l
 | x :: l, h, n, hn => by
  simp only [DataW.weightsAll, List.mem_append]
  rcases List.mem_cons.1 h with rfl | h
  ·exact .inl hn
  ·exact .inr (weights_all_mem h n hn)
theorem reach_len {n by' : Nat} (h : n * by' ≤ reachBytes) {b : Nat} (hb : 140737488351232 < (b + 1) * by') : n ≤ b := by
 unfold reachBytes at h
 rcases Nat.lt_or_ge b n with hlt | hge
 ·have := Nat.mul_le_mul_right by' (Nat.succ_le_of_lt hlt)
  simp only [Nat.succ_eq_add_one] at this
  omega
 ·exact hge
theorem trod_intsW {cs : List Value} {x : DataW H × List MemPlace} (h : DataW.trod enc Tryz.prog W base spare held fuel 46 cs = some x) (hw : ∀ n ∈ x.1.weights Tryz.prog 46, n ≤ reachBytes) :
  ∃ v xs, cs = [v] ∧ Ints (factsOf W) v xs ∧ xs.length ≤ 17592186044416 := by
 have hB : Tryz.prog.bytesOf 3 = 8 := by kernel_rfl
 rcases open_ints Tryz.underlying46 Tryz.underlying3 (by kernel_rfl) h with ⟨rfl, rfl⟩ | ⟨a, len, cap, zs, rfl, -, hl, hm, hz, rfl, hcell, hwf⟩
 ·exact ⟨_, [], rfl, Ints.nil _, by simp⟩
 ·have hlen : len ≤ zs.length := by rw [hz]; split <;> omega
  refine ⟨_, zs.take len, rfl, ⟨some a, cap, by simp [List.length_take, Nat.min_eq_left hlen], by simp [List.length_take]; omega, fun i u hi => ⟨a, rfl, ?_⟩⟩, ?_⟩
  ·rw [List.getElem?_map] at hi
   obtain ⟨z, hz', rfl⟩ := Option.map_eq_some_iff.1 hi
   rw [List.getElem?_take] at hz'
   split at hz'
   ·rename_i hil
    have := hcell i (by omega)
    rw [List.getD_eq_getElem?_getD, hz', Option.getD_some] at this
    exact this
   ·cases hz'
  ·have := hw (((lits .i64 (zs.take len) : List (DataW H)).length + (lits .i64 (zs.drop len) : List (DataW H)).length) * 8) (by
    simp only [DataW.weights, Tryz.underlying46, hB]
    exact List.mem_cons_self)
   have h8 := reach_len (b := 17592186044416) this (by decide)
   simp only [lits, List.length_map, List.length_take] at h8 ⊢
   omega
theorem slice_wide {α : Type} {t e : TypeId} {k by' : Nat} (mk : List Value → α → Prop) (ht : Tryz.prog.underlying t = some (.slice e)) (hC : Tryz.prog.cellsOf e = k) (hB : Tryz.prog.bytesOf e = by')
  (each : ∀ (fuel : Nat) (cs : List Value) (x : DataW H × List MemPlace), DataW.trod enc Tryz.prog W base spare held fuel e cs = some x → (∀ n ∈ x.1.weights Tryz.prog e, n ≤ reachBytes) → ∃ a : α, mk cs a)
  {cs : List Value} {x : DataW H × List MemPlace} (h : DataW.trod enc Tryz.prog W base spare held fuel t cs = some x) (hw : ∀ n ∈ x.1.weights Tryz.prog t, n ≤ reachBytes) :
  ∃ (v : Value) (css : List (List Value)) (ys : List α), cs = [v] ∧ SlK (factsOf W) v k css ∧ css.length = ys.length ∧ (∀ (i : Nat) (c : List Value) (a : α), css[i]? = some c → ys[i]? = some a → mk c a) ∧ ys.length * by' ≤ reachBytes := by
 rcases Go.Deep.open_slice ht h with ⟨rfl, _⟩ | ⟨a, len, cap, m, n, D, Pl, rfl, -, hl, hm, hmm, rfl, hi⟩
 ·exact ⟨_, [], [], rfl, ⟨none, 0, rfl, Nat.le_refl _, by simp⟩, rfl, by simp, by simp⟩
 ·have hlm : len ≤ m := by rw [hmm]; split <;> omega
  rw [hC] at hi
  simp only [DataW.weights, ht, hB] at hw
  have hlen : len * by' ≤ reachBytes := by
   have := hw _ List.mem_cons_self
   rw [List.length_map, List.length_range] at this
   exact Nat.le_trans (Nat.mul_le_mul_right _ (Nat.le_add_right _ _)) this
  have ex : ∀ i, i < len → ∃ (c : List Value) (y : α), c.length = k ∧ (∀ j v, c[j]? = some v → W.cell? ((a.add (i * k)).add j) = some v) ∧ mk c y := fun i hil => by
   obtain ⟨cs', hc, htr⟩ := hi i (by omega)
   obtain ⟨_, hcl, hat⟩ := World.cells?_some hc
   obtain ⟨y, hy⟩ := each n cs' _ htr (fun n hn => hw n (List.mem_cons_of_mem _ (List.mem_append_left _ (weights_all_mem (List.mem_map.2 ⟨i, by simpa using hil, rfl⟩) n hn))))
   exact ⟨cs', y, hcl, fun j v hj => by rw [hat j (by rw [← hcl]; exact (List.getElem?_eq_some_iff.1 hj).1)]; exact hj, hy⟩
  by_cases h0 : len = 0
  ·subst h0
   exact ⟨_, [], [], rfl, ⟨some a, cap, rfl, Nat.zero_le _, by simp⟩, rfl, by simp, by simp⟩
  obtain ⟨c0, y0, _⟩ := ex 0 (by omega)
  let fc : Nat → List Value := fun i => if h : i < len then (ex i h).choose else c0
  let fy : Nat → α := fun i => if h : i < len then (ex i h).choose_spec.choose else y0
  have hf : ∀ i, i < len → (fc i).length = k ∧ (∀ j v, (fc i)[j]? = some v → W.cell? ((a.add (i * k)).add j) = some v) ∧ mk (fc i) (fy i) := fun i hil => by
   simp only [fc, fy, hil, dif_pos]
   exact (ex i hil).choose_spec.choose_spec
  refine ⟨_, (List.range len).map fc, (List.range len).map fy, rfl, ⟨some a, cap, by simp, by simpa using hl, fun i us hus => ?_⟩, by simp, fun i c y hc hy => ?_, by simpa using hlen⟩
  ·obtain ⟨i', hi', rfl⟩ := Option.map_eq_some_iff.1 (by rw [← List.getElem?_map]; exact hus)
   obtain ⟨hlt, rfl⟩ := List.getElem?_eq_some_iff.1 hi'
   simp only [List.length_range, List.getElem_range] at hlt ⊢
   exact ⟨(hf i hlt).1, a, rfl, (hf i hlt).2.1⟩
  ·obtain ⟨i', hi', rfl⟩ := Option.map_eq_some_iff.1 (by rw [← List.getElem?_map]; exact hc)
   obtain ⟨i'', hi'', rfl⟩ := Option.map_eq_some_iff.1 (by rw [← List.getElem?_map]; exact hy)
   obtain ⟨hlt, rfl⟩ := List.getElem?_eq_some_iff.1 hi'
   obtain ⟨_, rfl⟩ := List.getElem?_eq_some_iff.1 hi''
   simp only [List.length_range, List.getElem_range] at hlt ⊢
   exact (hf i hlt).2.2
theorem trod_node {cs : List Value} {x : DataW H × List MemPlace} (h : DataW.trod enc Tryz.prog W base spare held fuel 78 cs = some x) (hw : ∀ n ∈ x.1.weights Tryz.prog 78, n ≤ reachBytes) : ∃ nd : Nd, NodeV (factsOf W) cs nd := by
 obtain ⟨xs, n, _, rfl, hl, hlen, hf⟩ := DataW.trod_struct Tryz.underlying78 h
 have hC : Tryz.prog.cellsOf 78 = 8 := by kernel_rfl
 have hC3 : Tryz.prog.cellsOf 3 = 1 := by kernel_rfl
 have hC9 : Tryz.prog.cellsOf 9 = 1 := by kernel_rfl
 have hCl : Tryz.prog.cellsOf 46 = 1 := by kernel_rfl
 rw [hC] at hl
 match xs, hlen, cs, hl with
 | [y0, y1, y2, y3, y4, y5, y6, y7], _, [c0, c1, c2, c3, c4, c5, c6, c7], _ =>
  have h0 : DataW.trod enc Tryz.prog W base spare held n 3 (([c0, c1, c2, c3, c4, c5, c6, c7].drop 0).take (Tryz.prog.cellsOf 3)) = [y0, y1, y2, y3, y4, y5, y6, y7][0]? := hf 0 _ rfl
  have h1 : DataW.trod enc Tryz.prog W base spare held n 3 (([c0, c1, c2, c3, c4, c5, c6, c7].drop 1).take (Tryz.prog.cellsOf 3)) = [y0, y1, y2, y3, y4, y5, y6, y7][1]? := hf 1 _ rfl
  have h2 : DataW.trod enc Tryz.prog W base spare held n 3 (([c0, c1, c2, c3, c4, c5, c6, c7].drop 2).take (Tryz.prog.cellsOf 3)) = [y0, y1, y2, y3, y4, y5, y6, y7][2]? := hf 2 _ rfl
  have h3 : DataW.trod enc Tryz.prog W base spare held n 3 (([c0, c1, c2, c3, c4, c5, c6, c7].drop 3).take (Tryz.prog.cellsOf 3)) = [y0, y1, y2, y3, y4, y5, y6, y7][3]? := hf 3 _ rfl
  have h4 : DataW.trod enc Tryz.prog W base spare held n 3 (([c0, c1, c2, c3, c4, c5, c6, c7].drop 4).take (Tryz.prog.cellsOf 3)) = [y0, y1, y2, y3, y4, y5, y6, y7][4]? := hf 4 _ rfl
  have h5 : DataW.trod enc Tryz.prog W base spare held n 3 (([c0, c1, c2, c3, c4, c5, c6, c7].drop 5).take (Tryz.prog.cellsOf 3)) = [y0, y1, y2, y3, y4, y5, y6, y7][5]? := hf 5 _ rfl
  have h6 : DataW.trod enc Tryz.prog W base spare held n 46 (([c0, c1, c2, c3, c4, c5, c6, c7].drop 6).take (Tryz.prog.cellsOf 46)) = [y0, y1, y2, y3, y4, y5, y6, y7][6]? := hf 6 _ rfl
  have h7 : DataW.trod enc Tryz.prog W base spare held n 9 (([c0, c1, c2, c3, c4, c5, c6, c7].drop 7).take (Tryz.prog.cellsOf 9)) = [y0, y1, y2, y3, y4, y5, y6, y7][7]? := hf 7 _ rfl
  simp only [hC3, hC9, hCl, List.drop_zero, List.drop_succ_cons, List.take_succ_cons, List.take_zero, List.getElem?_cons_zero, List.getElem?_cons_succ] at h0 h1 h2 h3 h4 h5 h6 h7
  obtain ⟨z0, e0, -, -⟩ := DataW.trod_int Tryz.underlying3 h0
  obtain ⟨z1, e1, -, -⟩ := DataW.trod_int Tryz.underlying3 h1
  obtain ⟨z2, e2, -, -⟩ := DataW.trod_int Tryz.underlying3 h2
  obtain ⟨z3, e3, -, -⟩ := DataW.trod_int Tryz.underlying3 h3
  obtain ⟨z4, e4, -, -⟩ := DataW.trod_int Tryz.underlying3 h4
  obtain ⟨z5, e5, -, -⟩ := DataW.trod_int Tryz.underlying3 h5
  obtain ⟨z7, e7, -, -⟩ := DataW.trod_string Tryz.underlying9 h7
  obtain ⟨lv, zs, e6, hI, hzl⟩ := trod_intsW h6 (fun n hn => hw n (by
   simp only [DataW.weights, Tryz.underlying78]
   exact DataW.weights_mem_each (j := 6) (t := 46) rfl rfl n hn))
  simp only [List.cons.injEq, and_true] at e0 e1 e2 e3 e4 e5 e6 e7
  subst e0 e1 e2 e3 e4 e5 e6 e7
  exact ⟨⟨z0, z1, z2, z3, z4, z5, zs, z7⟩, _, rfl, hI, hzl⟩
theorem trod_rule {cs : List Value} {x : DataW H × List MemPlace} (h : DataW.trod enc Tryz.prog W base spare held fuel 29 cs = some x) (hw : ∀ n ∈ x.1.weights Tryz.prog 29, n ≤ reachBytes) : ∃ v nds, cs = [v] ∧ RuleV (factsOf W) v nds := by
 obtain ⟨v, css, ys, e, h1, h2, h3, h4⟩ := slice_wide (k := 8) (by' := 88) (NodeV (factsOf W)) Tryz.underlying29 (by kernel_rfl) (by kernel_rfl) (fun fuel cs x h hw => trod_node h hw) h hw
 exact ⟨v, ys, e, css, h1, h2, h3, reach_len h4 (by decide)⟩
theorem trod_editD {cs : List Value} {x : DataW H × List MemPlace} (h : DataW.trod enc Tryz.prog W base spare held fuel 31 cs = some x) (hw : ∀ n ∈ x.1.weights Tryz.prog 31, n ≤ reachBytes) : ∃ d : De, EdV (factsOf W) cs d := by
 obtain ⟨e, rfl⟩ := trod_edit h
 obtain ⟨xs, n, _, rfl, hl, hlen, hf⟩ := DataW.trod_struct Tryz.underlying31 h
 have hCr : Tryz.prog.cellsOf 29 = 1 := by kernel_rfl
 match xs, hlen with
 | [y0, y1, y2, y3, y4, y5, y6, y7, y8], _ =>
  have h7 : DataW.trod enc Tryz.prog W base spare held n 29 ((e.cells.drop 11).take (Tryz.prog.cellsOf 29)) = [y0, y1, y2, y3, y4, y5, y6, y7, y8][7]? := hf 7 _ rfl
  simp only [hCr, Ed.cells, List.drop_zero, List.drop_succ_cons, List.take_succ_cons, List.take_zero, List.getElem?_cons_zero, List.getElem?_cons_succ] at h7
  obtain ⟨v, nds, e7, hR⟩ := trod_rule h7 (fun n hn => hw n (by
   simp only [DataW.weights, Tryz.underlying31]
   exact DataW.weights_mem_each (j := 7) (t := 29) rfl rfl n hn))
  simp only [List.cons.injEq, and_true] at e7
  subst e7
  exact ⟨⟨e.kind, e.day, e.device, e.seq, e.mv, e.minute, e.length, nds, e.zone⟩, e.ra, e.rn, e.rc, rfl, hR⟩
def EdsW (R : RO) (v : Value) (ds : List De) : Prop := ∃ cs : List (List Value), SlK R v 13 cs ∧ cs.length = ds.length ∧ (∀ (i : Nat) (c : List Value) (d : De), cs[i]? = some c → ds[i]? = some d → EdV R c d)
theorem trod_device {cs : List Value} {x : DataW H × List MemPlace} (h : DataW.trod enc Tryz.prog W base spare held fuel 24 cs = some x) (hw : ∀ n ∈ x.1.weights Tryz.prog 24, n ≤ reachBytes) : ∃ (d : Dv) (v : Value), cs = dvCells d v ∧ EdsW (factsOf W) v d.edits := by
 obtain ⟨xs, n, _, rfl, hl, hlen, hf⟩ := DataW.trod_struct Tryz.underlying24 h
 have hC : Tryz.prog.cellsOf 24 = 4 := by kernel_rfl
 have hC3 : Tryz.prog.cellsOf 3 = 1 := by kernel_rfl
 have hCe : Tryz.prog.cellsOf 22 = 1 := by kernel_rfl
 rw [hC] at hl
 match xs, hlen, cs, hl with
 | [y0, y1, y2, y3], _, [c0, c1, c2, c3], _ =>
  have h0 : DataW.trod enc Tryz.prog W base spare held n 3 (([c0, c1, c2, c3].drop 0).take (Tryz.prog.cellsOf 3)) = [y0, y1, y2, y3][0]? := hf 0 _ rfl
  have h1 : DataW.trod enc Tryz.prog W base spare held n 3 (([c0, c1, c2, c3].drop 1).take (Tryz.prog.cellsOf 3)) = [y0, y1, y2, y3][1]? := hf 1 _ rfl
  have h2 : DataW.trod enc Tryz.prog W base spare held n 3 (([c0, c1, c2, c3].drop 2).take (Tryz.prog.cellsOf 3)) = [y0, y1, y2, y3][2]? := hf 2 _ rfl
  have h3 : DataW.trod enc Tryz.prog W base spare held n 22 (([c0, c1, c2, c3].drop 3).take (Tryz.prog.cellsOf 22)) = [y0, y1, y2, y3][3]? := hf 3 _ rfl
  simp only [hC3, hCe, List.drop_zero, List.drop_succ_cons, List.take_succ_cons, List.take_zero, List.getElem?_cons_zero, List.getElem?_cons_succ] at h0 h1 h2 h3
  obtain ⟨z0, e0, -, -⟩ := DataW.trod_int Tryz.underlying3 h0
  obtain ⟨z1, e1, -, -⟩ := DataW.trod_int Tryz.underlying3 h1
  obtain ⟨z2, e2, -, -⟩ := DataW.trod_int Tryz.underlying3 h2
  obtain ⟨v, css, ds, e3, g1, g2, g3, g4⟩ := slice_wide (k := 13) (by' := Tryz.prog.bytesOf 31) (EdV (factsOf W)) Tryz.underlying22 (by kernel_rfl) rfl (fun fuel cs x h hw => trod_editD h hw) h3 (fun n hn => hw n (by
   simp only [DataW.weights, Tryz.underlying24]
   exact DataW.weights_mem_each (j := 3) (t := 22) rfl rfl n hn))
  simp only [List.cons.injEq, and_true] at e0 e1 e2 e3
  subst e0 e1 e2 e3
  exact ⟨⟨z0, z1, z2, ds⟩, _, rfl, css, g1, g2, g3⟩
theorem trod_devices {cs : List Value} {x : DataW H × List MemPlace} (h : DataW.trod enc Tryz.prog W base spare held fuel 25 cs = some x) (hw : ∀ n ∈ x.1.weights Tryz.prog 25, n ≤ reachBytes) :
  ∃ (d0 d1 : Dv) (v0 v1 : Value), cs = dvCells d0 v0 ++ dvCells d1 v1 ∧ EdsW (factsOf W) v0 d0.edits ∧ EdsW (factsOf W) v1 d1.edits := by
 obtain ⟨xs, n, _, rfl, hl, hlen, hf⟩ := DataW.trod_array Tryz.underlying25 h
 have hC : Tryz.prog.cellsOf 25 = 8 := by kernel_rfl
 have hC4 : Tryz.prog.cellsOf 24 = 4 := by kernel_rfl
 rw [hC] at hl
 match xs, hlen, cs, hl with
 | [y0, y1], _, [c0, c1, c2, c3, c4, c5, c6, c7], _ =>
  have h0 : DataW.trod enc Tryz.prog W base spare held n 24 (([c0, c1, c2, c3, c4, c5, c6, c7].drop (0 * Tryz.prog.cellsOf 24)).take (Tryz.prog.cellsOf 24)) = [y0, y1][0]? := hf 0 (by decide)
  have h1 : DataW.trod enc Tryz.prog W base spare held n 24 (([c0, c1, c2, c3, c4, c5, c6, c7].drop (1 * Tryz.prog.cellsOf 24)).take (Tryz.prog.cellsOf 24)) = [y0, y1][1]? := hf 1 (by decide)
  simp only [hC4, Nat.zero_mul, Nat.one_mul, List.drop_zero, List.drop_succ_cons, List.take_succ_cons, List.take_zero, List.getElem?_cons_zero, List.getElem?_cons_succ] at h0 h1
  have hbs := fun (y : DataW H × List MemPlace) (hy : y ∈ [y0, y1]) => show ∀ n ∈ y.1.weights Tryz.prog 24, n ≤ reachBytes from fun n hn => hw n (by
   simp only [DataW.weights, Tryz.underlying25]
   exact weights_all_mem (List.mem_map_of_mem hy) n hn)
  obtain ⟨d0, v0, e0, g0⟩ := trod_device h0 (hbs y0 (by simp))
  obtain ⟨d1, v1, e1, g1⟩ := trod_device h1 (hbs y1 (by simp))
  refine ⟨d0, d1, v0, v1, ?_, g0, g1⟩
  rw [← e0, ← e1]; rfl
theorem agg_of {v : Value} {cs : List Value} (h : v.cells.toList = cs) (hl : 2 ≤ cs.length) : v = .agg cs.toArray := by
 subst h
 cases v with
 | agg a => simp [Value.cells]
 | _ => simp [Value.cells] at hl
end
end Go.Proofs.YtcjdbfnnbejmeaaGreat
namespace Go.Proofs.YtcjdbfnnbejmeaaGreat
set_option linter.unusedSimpArgs false
set_option linter.unusedVariables false
open Go.Proofs.YtcjdbfnnbejmeaaGreat.Vc
theorem EdsW.mono {R R' : RO} {v : Value} {ds : List De} (h : EdsW R v ds) (hle : RO.le R R') : EdsW R' v ds := by
 obtain ⟨cs, h1, h2, h3⟩ := h
 exact ⟨cs, h1.mono hle, h2, fun i c x hi hx => (h3 i c x hi hx).mono hle⟩
theorem EdsW.few {R : RO} {v : Value} {ds : List De} (h : EdsW R v ds) (hl : ds.length ≤ 30) : EdsV R v ds := by
 obtain ⟨cs, h1, h2, h3⟩ := h
 exact ⟨cs, h1, h2, h3, by omega⟩
theorem EdsW.form {R : RO} {v : Value} {ds : List De} (h : EdsW R v ds) : ∃ a cap, v = .slice a ds.length cap := by
 obtain ⟨cs, ⟨a, cap, rfl, _⟩, h2, _⟩ := h
 exact ⟨a, cap, by rw [h2]⟩
theorem dSmallBig (i e n : Int) (a : Option Addr) (l cap : Nat) (h : 30 < l) (R : RO) : CallsR Tryz.prog 5 [.agg #[.int .i64 i, .int .i64 e, .int .i64 n, .slice a l cap]] R fun _ r => r = .bool false := by
 have h30 : (30 : Int) < (l : Int) := by omega
 refine callsT mix Tryz.func5 comp5 (by simp [Tryz.ntmps5]) ?_; simp only [go_sem, ↓reduceIte, nQ1, nQ2, nQ3, nQ4, nQ5, nQ6, reduceCtorEq, vc5, rs5]
 try simp only [go_sem, ↓reduceIte, nQ1, nQ2, nQ3, nQ4, nQ5, nQ6, reduceCtorEq, h30]
set_option maxHeartbeats 4000000 in
theorem lMatchesW (R : RO) (d0 d1 : Dv) (v0 v1 : Value) (h0 : EdsW R v0 d0.edits) (h1 : EdsW R v1 d1.edits) (x : De) (ra : Option Addr) (rn rc : Nat) (hx : RuleV R (.slice ra rn rc) x.rule) (n : Int) :
  CallsR Tryz.prog 3 [.agg (dvCells d0 v0 ++ dvCells d1 v1).toArray, .agg ((x.ed ra rn rc).cells).toArray, .int .i64 n] R fun _ v => v = .bool true := by
 by_cases l0 : d0.edits.length ≤ 30
 ·by_cases l1 : d1.edits.length ≤ 30
  ·exact lMatches R d0 d1 v0 v1 (h0.few l0) (h1.few l1) x ra rn rc hx n
  ·have h0' := h0.few l0
   obtain ⟨a0, c0, rfl⟩ := h0.form
   obtain ⟨a1, c1, rfl⟩ := h1.form
   have hb1 := fun R' => dSmallBig d1.id d1.epoch d1.next a1 d1.edits.length c1 (by omega) R'
   simp only [dvCells, Ed.cells, De.ed, List.cons_append, List.nil_append]
   refine callsT mix Tryz.func3 comp3 (by simp [Tryz.ntmps3]) ?_; simp only [go_sem, ↓reduceIte, nQ1, nQ2, nQ3, nQ4, nQ5, nQ6, reduceCtorEq, vc3, rs3]
   refine vcall (dSanity R) ?_
   rintro R1 v hle1 rfl
   try simp only [go_sem, ↓reduceIte, nQ1, nQ2, nQ3, nQ4, nQ5, nQ6, reduceCtorEq, iQ1, iQ2, iQ3, iQ4, iQ5, iQ6]
   have hm0 := dSmall d0 _ R1 (h0'.mono hle1)
   simp only [dvCells] at hm0
   refine vcall hm0 ?_
   rintro R2 r hle2 ⟨b0, rfl⟩
   cases b0 with
   | false => try simp only [go_sem, ↓reduceIte, nQ1, nQ2, nQ3, nQ4, nQ5, nQ6, reduceCtorEq, iQ1, iQ2, iQ3, iQ4, iQ5, iQ6]
   | true =>
   try simp only [go_sem, ↓reduceIte, nQ1, nQ2, nQ3, nQ4, nQ5, nQ6, reduceCtorEq, iQ1, iQ2, iQ3, iQ4, iQ5, iQ6]
   refine vcall (hb1 R2) ?_
   rintro R3 r hle3 rfl
   try simp only [go_sem, ↓reduceIte, nQ1, nQ2, nQ3, nQ4, nQ5, nQ6, reduceCtorEq, iQ1, iQ2, iQ3, iQ4, iQ5, iQ6]
 ·obtain ⟨a0, c0, rfl⟩ := h0.form
  obtain ⟨a1, c1, rfl⟩ := h1.form
  have hb0 := fun R' => dSmallBig d0.id d0.epoch d0.next a0 d0.edits.length c0 (by omega) R'
  simp only [dvCells, Ed.cells, De.ed, List.cons_append, List.nil_append]
  refine callsT mix Tryz.func3 comp3 (by simp [Tryz.ntmps3]) ?_; simp only [go_sem, ↓reduceIte, nQ1, nQ2, nQ3, nQ4, nQ5, nQ6, reduceCtorEq, vc3, rs3]
  refine vcall (dSanity R) ?_
  rintro R1 v hle1 rfl
  try simp only [go_sem, ↓reduceIte, nQ1, nQ2, nQ3, nQ4, nQ5, nQ6, reduceCtorEq, iQ1, iQ2, iQ3, iQ4, iQ5, iQ6]
  refine vcall (hb0 R1) ?_
  rintro R2 r hle2 rfl
  try simp only [go_sem, ↓reduceIte, nQ1, nQ2, nQ3, nQ4, nQ5, nQ6, reduceCtorEq, iQ1, iQ2, iQ3, iQ4, iQ5, iQ6]
end Go.Proofs.YtcjdbfnnbejmeaaGreat
