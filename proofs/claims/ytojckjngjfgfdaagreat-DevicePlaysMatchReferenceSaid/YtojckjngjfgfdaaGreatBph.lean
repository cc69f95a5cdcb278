/- Lemmas of our own, no statement of the seat; the last one of the claim's texts proves the law. -/
import Derived.ProofKit
import Derived.SizedLaws
import Derived.Deep.Slices
import Derived.Deep.Fields
import Derived.Lib.SmallJoins
import Derived.Test.YtojckjngjfgfdaaGreatBpg
import Derived.Test.YtojckjngjfgfdaaGreatBpc
import Derived.Test.YtojckjngjfgfdaaGreatBpf
import Derived.Test.YtojckjngjfgfdaaGreatRows
import Derived.Test.YtojckjngjfgfdaaGreatVcI
open Nat renaming reduceEqDiff → nQ1, reduceAdd → nQ2, reduceMul → nQ3, reduceLeDiff → nQ4, reduceLT → nQ5, reduceBNe → nQ6
open Int renaming reduceLE → iQ1, reduceLT → iQ2, reduceToNat → iQ3, cast_ofNat_Int → iQ4, reduceEq → iQ5, reduceNe → iQ6
namespace Go.Proofs.YtojckjngjfgfdaaGreat
set_option linter.unusedSimpArgs false
set_option linter.unusedVariables false
open Go.Proofs.YtojckjngjfgfdaaGreat.Vc
/-! ### The reference's list of all edits -/
set_option maxHeartbeats 1000000 in
theorem rSorted (ds : List De) (v : Value) (R : RO) (h : EdsV R v ds) (hv : ∀ d ∈ ds, validD d = true) (hc : ∀ a ∈ ds, ∀ b ∈ ds, keyEq a b = true → a = b) (hsz : ds.length ≤ 100000000) :
  CallsR Tryz.prog 70 [v] R fun R' r => ∃ u, r = .tuple #[u, .bool true] ∧ EdsV R' u (ds.foldl insD []) := by
 obtain ⟨a, cap, rfl, hcap, hf⟩ := PlOK.of h
 refine callsT mix Tryz.func70 comp70 (by simp [Tryz.ntmps70]) ?_; simp only [go_sem, ↓reduceIte, nQ1, nQ2, nQ3, nQ4, nQ5, nQ6, reduceCtorEq, vc70, rs70]
 refine vcLoopR (Nat × List Pl) (fun x => [(5, .val (.int .i64 x.1)), (0, .val (.slice a ds.length cap)), (4, .sl 0 x.2.length)])
  (fun x => [.row 31 13 (rowP x.2)])
  (fun x R => x.1 ≤ ds.length ∧ x.2.map (·.1) = (ds.take x.1).foldl insD [] ∧ x.2.length ≤ x.1 ∧ (∀ p ∈ x.2, p.1 ∈ ds) ∧ ∀ p ∈ x.2, PlOK R p) (fun x => ds.length - x.1) (0, []) [] ?_ ?_ ?_ ?_
 ·(try simp only [go_sem, ↓reduceIte, nQ1, nQ2, nQ3, nQ4, nQ5, nQ6, reduceCtorEq]) <;> (repeat' (first | rfl | trivial | constructor | (intro h; exact absurd rfl h)))
 ·try simp only [go_sem, ↓reduceIte, nQ1, nQ2, nQ3, nQ4, nQ5, nQ6, reduceCtorEq]
 ·exact ⟨Nat.zero_le _, rfl, Nat.le_refl _, by simp, by simp⟩
 rintro ⟨i, ps⟩ env R1 hle1 hE ⟨hi, hps, hpl, hpm, hpo⟩
 (simp only [go_sem] at hE; obtain ⟨e5, e0, e4⟩ := hE; simp only [go_sem, ↓reduceIte, nQ1, nQ2, nQ3, nQ4, nQ5, nQ6, reduceCtorEq, e5, e0, e4]; dsimp only at *)
 refine ⟨fun hlt => ⟨hlt, ?_⟩, fun hge => ?_⟩
 ·have hlt' : i < ds.length := by omega
  obtain ⟨ad, p, had, hp1, hR, hpok⟩ := hf i hlt'
  have hcells : ∀ j u, (p.ed.cells)[j]? = some u → R1 ((ad.add (i * 13)).add j) u := fun j u hj => hle1 _ _ (hR j u hj)
  have hpd : p.1 ∈ ds := by rw [hp1]; exact List.getElem_mem hlt'
  refine vat ad had ?_
  try simp only [go_sem, ↓reduceIte, nQ1, nQ2, nQ3, nQ4, nQ5, nQ6, reduceCtorEq]
  refine vloadn p.ed.cells rfl hcells ?_
  simp only [go_sem, ↓reduceIte, nQ1, nQ2, nQ3, nQ4, nQ5, nQ6, reduceCtorEq, Ed.cells, Pl.ed, De.ed, e5, e0, e4]
  refine vcall (rValid p.ed R1) ?_
  rintro R2 v hle2 rfl
  try simp only [go_sem, ↓reduceIte, nQ1, nQ2, nQ3, nQ4, nQ5, nQ6, reduceCtorEq]
  rw [validE_ed p hpok.len, hv _ hpd]
  try simp only [go_sem, ↓reduceIte, nQ1, nQ2, nQ3, nQ4, nQ5, nQ6, reduceCtorEq]
  obtain ⟨out, hout⟩ : ∃ out, out = ps.map (·.1) := ⟨_, rfl⟩
  have hol : out.length = ps.length := by rw [hout]; simp
  have hog : ∀ (j : Nat) (hj : j < ps.length), out[j]'(by omega) = (ps[j]).1 := fun j hj => by simp [hout]
  have hale := insAt_le out p.1
  have hstep : (ds.take (i + 1)).foldl insD [] = insD out p.1 := by
   rw [List.take_succ_eq_append_getElem hlt', List.foldl_append, ← hps, hout, ← hp1]; rfl
  refine cutL (fun s' => ∃ env R, s' = ⟨env, [.row 31 13 (rowP ps)], R⟩ ∧ RO.le R2 R ∧ env 7 = .val (.int .i64 (insAt out p.1)) ∧ env 5 = .val (.int .i64 i) ∧ env 0 = .val (.slice a ds.length cap) ∧ env 4 = .sl 0 ps.length) ?_ ?_
  ·refine vcLoop Nat (fun k => [(7, .val (.int .i64 k)), (5, .val (.int .i64 i)), (0, .val (.slice a ds.length cap)), (4, .sl 0 ps.length)])
    (fun _ => [.row 31 13 (rowP ps)]) (fun k _ => k ≤ insAt out p.1) (fun k => ps.length - k) 0 ?_ ?_ ?_ ?_
   ·(try simp only [go_sem, ↓reduceIte, nQ1, nQ2, nQ3, nQ4, nQ5, nQ6, reduceCtorEq]) <;> (repeat' (first | rfl | trivial | constructor | (intro h; exact absurd rfl h)))
   ·try simp only [go_sem, ↓reduceIte, nQ1, nQ2, nQ3, nQ4, nQ5, nQ6, reduceCtorEq]
   ·exact Nat.zero_le _
   rintro k env R3 hle3 hE hk
   (simp only [go_sem] at hE; obtain ⟨e7, e5', e0', e4'⟩ := hE; simp only [go_sem, ↓reduceIte, nQ1, nQ2, nQ3, nQ4, nQ5, nQ6, reduceCtorEq, e7, e5', e0', e4']; dsimp only at *)
   have hR3 : ∀ j u, (p.ed.cells)[j]? = some u → R3 ((ad.add (i * 13)).add j) u := fun j u hj => hle3 _ _ (hle2 _ _ (hcells j u hj))
   refine ⟨fun hkl => ?_, fun hkg => ?_⟩
   ·have hkn : k < ps.length := by omega
    obtain ⟨q, hq⟩ : ∃ q, q = ps[k] := ⟨_, rfl⟩
    have hcell : ∀ (c : Nat), c < 13 → (rowP ps)[k * 13 + c]? = (q.ed.cells)[c]? := fun c hc => by rw [hq]; exact rowP_get ps k c hkn hc
    refine ⟨hkl, _, (hcell 0 (by omega)).trans rfl, _, (hcell 1 (by omega)).trans rfl, _, (hcell 2 (by omega)).trans rfl, _, (hcell 3 (by omega)).trans rfl, _, (hcell 4 (by omega)).trans rfl, _, (hcell 5 (by omega)).trans rfl, _, (hcell 6 (by omega)).trans rfl, _, (hcell 7 (by omega)).trans rfl, _, (hcell 8 (by omega)).trans rfl, _, (hcell 9 (by omega)).trans rfl, _, (hcell 10 (by omega)).trans rfl, _, (hcell 11 (by omega)).trans rfl, _, (hcell 12 (by omega)).trans rfl, by omega, vat ad had ?_⟩
    try simp only [go_sem, ↓reduceIte, nQ1, nQ2, nQ3, nQ4, nQ5, nQ6, reduceCtorEq]
    refine vloadn p.ed.cells rfl hR3 ?_
    simp only [go_sem, ↓reduceIte, nQ1, nQ2, nQ3, nQ4, nQ5, nQ6, reduceCtorEq, Ed.cells, Pl.ed, De.ed, e7, e5', e0', e4']
    refine vcall (rLess q.ed p.ed R3) ?_
    rintro R4 v hle4 rfl
    simp only [go_sem, ↓reduceIte, nQ1, nQ2, nQ3, nQ4, nQ5, nQ6, reduceCtorEq, e7, e5', e0', e4']
    have hqd : lessE q.ed p.ed = lessD (out[k]'(by omega)) p.1 := by rw [hog k hkn, ← hq]; rfl
    rw [hqd]
    refine ⟨fun hl => ?_, fun hl => ?_⟩
    ·refine ⟨_, W.in64 (by omega), k + 1, by omega, by constructor, ?_⟩
     rcases Nat.lt_or_ge k (insAt out p.1) with h1 | h1
     ·exact h1
     ·exfalso
      obtain rfl : k = insAt out p.1 := by omega
      rw [insAt_not (by omega)] at hl
      cases hl
    ·have hka : k = insAt out p.1 := by
      rcases Nat.lt_or_ge k (insAt out p.1) with h1 | h1
      ·rw [insAt_less h1 (by omega)] at hl; cases hl
      ·omega
     rw [← hka]
     exact ⟨_, _, rfl, RO.le_trans hle3 hle4, e7, e5', e0', e4'⟩
   ·have hka : k = insAt out p.1 := by omega
    rw [← hka]
    exact ⟨_, _, rfl, hle3, e7, e5', e0', e4'⟩
  rintro s' ⟨env, R3, rfl, hle3, e7, e5', e0', e4'⟩
  have hR3 : ∀ j u, (p.ed.cells)[j]? = some u → R3 ((ad.add (i * 13)).add j) u := fun j u hj => hle3 _ _ (hle2 _ _ (hcells j u hj))
  obtain ⟨k, hk⟩ : ∃ k, k = insAt out p.1 := ⟨_, rfl⟩
  rw [← hk] at e7 hale
  rw [tCode_seq]
  refine cutT (fun s' => ∃ env R, s' = ⟨env, [.row 31 13 (rowP ps)], R⟩ ∧ RO.le R3 R ∧ (out[k]?).any (fun q => keyEq q p.1) = false ∧ env 7 = .val (.int .i64 k) ∧ env 5 = .val (.int .i64 i) ∧ env 0 = .val (.slice a ds.length cap) ∧ env 4 = .sl 0 ps.length) ?_ ?_
  ·try simp only [go_sem, ↓reduceIte, nQ1, nQ2, nQ3, nQ4, nQ5, nQ6, reduceCtorEq, e7, e5', e0', e4']
   refine ⟨fun hkl => ?_, fun hkg => ?_⟩
   ·have hkn : k < ps.length := by omega
    obtain ⟨q, hq⟩ : ∃ q, q = ps[k] := ⟨_, rfl⟩
    have hcell : ∀ (c : Nat), c < 13 → (rowP ps)[k * 13 + c]? = (q.ed.cells)[c]? := fun c hc => by rw [hq]; exact rowP_get ps k c hkn hc
    have hok : out[k]? = some q.1 := by rw [List.getElem?_eq_getElem (by omega), hog k hkn, hq]
    rw [hok]
    have hkey : keyEq q.1 p.1 = decide (q.1.device = p.1.device ∧ q.1.seq = p.1.seq) := rfl
    have hqm : q ∈ ps := by rw [hq]; exact List.getElem_mem hkn
    refine ⟨hkl, _, (hcell 3 (by omega)).trans rfl, by omega, vat ad had ?_⟩
    try simp only [go_sem, ↓reduceIte, nQ1, nQ2, nQ3, nQ4, nQ5, nQ6, reduceCtorEq]
    refine vload _ (hR3 3 _ rfl) ?_
    simp only [go_sem, ↓reduceIte, nQ1, nQ2, nQ3, nQ4, nQ5, nQ6, reduceCtorEq, Pl.ed, De.ed, e7, e5', e0', e4']
    refine ⟨fun hs => ?_, fun hs => ?_⟩
    ·refine ⟨hkl, _, (hcell 2 (by omega)).trans rfl, by omega, vat ad had ?_⟩
     try simp only [go_sem, ↓reduceIte, nQ1, nQ2, nQ3, nQ4, nQ5, nQ6, reduceCtorEq]
     refine vload _ (hR3 2 _ rfl) ?_
     simp only [go_sem, ↓reduceIte, nQ1, nQ2, nQ3, nQ4, nQ5, nQ6, reduceCtorEq, Pl.ed, De.ed, e7, e5', e0', e4']
     refine ⟨fun hd => ?_, fun hd => ?_⟩
     ·have hqp : q.1 = p.1 := hc _ (hpm q hqm) _ hpd (by rw [hkey]; simp [hd, hs])
      refine ⟨hkl, _, (hcell 0 (by omega)).trans rfl, _, (hcell 1 (by omega)).trans rfl, _, (hcell 2 (by omega)).trans rfl, _, (hcell 3 (by omega)).trans rfl, _, (hcell 4 (by omega)).trans rfl, _, (hcell 5 (by omega)).trans rfl, _, (hcell 6 (by omega)).trans rfl, _, (hcell 7 (by omega)).trans rfl, _, (hcell 8 (by omega)).trans rfl, _, (hcell 9 (by omega)).trans rfl, _, (hcell 10 (by omega)).trans rfl, _, (hcell 11 (by omega)).trans rfl, _, (hcell 12 (by omega)).trans rfl, by omega, vat ad had ?_⟩
      try simp only [go_sem, ↓reduceIte, nQ1, nQ2, nQ3, nQ4, nQ5, nQ6, reduceCtorEq]
      refine vloadn p.ed.cells rfl hR3 ?_
      simp only [go_sem, ↓reduceIte, nQ1, nQ2, nQ3, nQ4, nQ5, nQ6, reduceCtorEq, Ed.cells, Pl.ed, De.ed, e7, e5', e0', e4']
      refine vcall (eSameR q.1 p.1 q.ed.cells p.ed.cells R3 ((hpo q hqm).mono (RO.le_trans hle2 hle3)).edV (hpok.mono (RO.le_trans hle1 (RO.le_trans hle2 hle3))).edV) ?_
      rintro R4 v hle4 rfl
      rw [hqp]
      simp only [go_sem, ↓reduceIte, nQ1, nQ2, nQ3, nQ4, nQ5, nQ6, reduceCtorEq, e7, e5', e0', e4']
      refine ⟨_, W.in64 (by omega), (i + 1, ps), [], ?_⟩
      try simp only [go_sem, ↓reduceIte, nQ1, nQ2, nQ3, nQ4, nQ5, nQ6, reduceCtorEq]
      refine ⟨by omega, rfl, by decide, by omega, ?_, by omega, hpm, fun x hx => (hpo x hx).mono (RO.le_trans hle2 (RO.le_trans hle3 hle4))⟩
      rw [hstep]
      unfold insD
      rw [← hk, hok, if_pos (by rw [hqp]; simp [keyEq]), hout]
     ·exact ⟨_, _, rfl, RO.le_refl _, by simp [hkey, hd], e7, e5', e0', e4'⟩
    ·exact ⟨_, _, rfl, RO.le_refl _, by simp [hkey, hs], e7, e5', e0', e4'⟩
   ·exact ⟨_, _, rfl, RO.le_refl _, by rw [List.getElem?_eq_none (by omega)]; rfl, e7, e5', e0', e4'⟩
  rintro s' ⟨env, R4, rfl, hle4, hnk, e7, e5, e0, e4⟩
  have hins : insD out p.1 = out.take k ++ p.1 :: out.drop k := by
   unfold insD
   rw [← hk, if_neg (by rw [hnk]; simp)]
  have hkl : k ≤ ps.length := by omega
  have hR4 : ∀ j u, (p.ed.cells)[j]? = some u → R4 ((ad.add (i * 13)).add j) u := fun j u hj => hle4 _ _ (hR3 j u hj)
  rw [tCode_seq]
  refine cutT (fun s' => ∃ env, s' = ⟨env, [.row 31 13 (rowP ps), .dead, .row 31 13 (rowP (ps.drop k))], R4⟩ ∧ env 9 = .sl 2 (ps.length - k) ∧ env 7 = .val (.int .i64 k) ∧ env 5 = .val (.int .i64 i) ∧ env 0 = .val (.slice a ds.length cap) ∧ env 4 = .sl 0 ps.length) ?_ ?_
  ·try simp only [go_sem, ↓reduceIte, nQ1, nQ2, nQ3, nQ4, nQ5, nQ6, reduceCtorEq, e7, e5, e0, e4]
   refine ⟨k, ps.length, rfl, rfl, by omega, ⟨_, _, ⟨rfl, rfl⟩, by rw [rowP_len]; omega⟩, ?_⟩
   by_cases hk0 : k = 0
   ·rw [if_pos hk0]
    subst hk0
    try simp only [go_sem, ↓reduceIte, nQ1, nQ2, nQ3, nQ4, nQ5, nQ6, reduceCtorEq, e7, e5, e0, e4]
    refine ⟨by rw [rowP_len]; omega, fun u hu => rowP_one ps u hu, ?_⟩
    refine vappO [] rfl rfl (by omega) ?_
    try simp only [go_sem, ↓reduceIte, nQ1, nQ2, nQ3, nQ4, nQ5, nQ6, reduceCtorEq, e7, e5, e0, e4]
    rw [List.take_of_length_le (by rw [rowP_len]; omega)]
    exact ⟨_, rfl, rfl, e7, e5, e0, e4⟩
   ·rw [if_neg hk0]
    try simp only [go_sem, ↓reduceIte, nQ1, nQ2, nQ3, nQ4, nQ5, nQ6, reduceCtorEq, e7, e5, e0, e4]
    refine ⟨by rw [rowP_len]; omega, fun u hu => rowP_one ps u hu, ?_⟩
    refine vappO [] rfl rfl (by omega) ?_
    try simp only [go_sem, ↓reduceIte, nQ1, nQ2, nQ3, nQ4, nQ5, nQ6, reduceCtorEq, e7, e5, e0, e4]
    rw [rowP_drop, List.take_of_length_le (by rw [rowP_len, List.length_drop]; omega)]
    exact ⟨_, rfl, rfl, e7, e5, e0, e4⟩
  rintro s' ⟨env, rfl, e9, e7, e5, e0, e4⟩
  try simp only [go_sem, ↓reduceIte, nQ1, nQ2, nQ3, nQ4, nQ5, nQ6, reduceCtorEq, e9, e7, e5, e0, e4]
  refine ⟨0, k, rfl, rfl, by omega, ⟨_, _, ⟨rfl, rfl⟩, by rw [rowP_len]; omega⟩, by omega, vat ad had ?_⟩
  try simp only [go_sem, ↓reduceIte, nQ1, nQ2, nQ3, nQ4, nQ5, nQ6, reduceCtorEq]
  refine vloadn p.ed.cells rfl hR4 ?_
  simp only [go_sem, ↓reduceIte, nQ1, nQ2, nQ3, nQ4, nQ5, nQ6, reduceCtorEq, Ed.cells, Pl.ed, De.ed, e9, e7, e5, e0, e4]
  refine vappP (rowP (ps.take k)) (rowP ps) rfl (by rw [← rowP_take]; exact List.take_prefix _ _) (by rw [rowP_len, List.length_take]; congr 1; omega) (by omega) ?_
  simp only [go_sem, ↓reduceIte, nQ1, nQ2, nQ3, nQ4, nQ5, nQ6, reduceCtorEq, Ed.cells, Pl.ed, De.ed, e9, e7, e5, e0, e4]
  refine ⟨by rw [rowP_len, List.length_drop]; omega, fun u hu => rowP_one _ u hu, ?_⟩
  refine vappO _ rfl (by rw [List.length_append, rowP_len, List.length_take]; simp; omega) (by omega) ?_
  simp only [go_sem, ↓reduceIte, nQ1, nQ2, nQ3, nQ4, nQ5, nQ6, reduceCtorEq, e9, e7, e5, e0, e4]
  refine ⟨_, W.in64 (by omega), (i + 1, ps.take k ++ p :: ps.drop k), [5], ?_⟩
  have hlen2 : (ps.take k ++ p :: ps.drop k).length = k + 1 + (ps.length - k) := by simp; omega
  rw [hlen2]
  try simp only [go_sem, ↓reduceIte, nQ1, nQ2, nQ3, nQ4, nQ5, nQ6, reduceCtorEq]
  have hmem : ∀ x ∈ ps.take k ++ p :: ps.drop k, x = p ∨ x ∈ ps := fun x hx => by
   rcases List.mem_append.1 hx with h1 | h1
   ·exact .inr (List.mem_of_mem_take h1)
   ·rcases List.mem_cons.1 h1 with h1 | h1
    ·exact .inl h1
    ·exact .inr (List.mem_of_mem_drop h1)
  refine ⟨by omega, ?_, by decide, by omega, ?_, by omega, fun x hx => ?_, fun x hx => ?_⟩
  ·have ht : (rowP (ps.drop k)).take ((ps.length - k) * 13) = rowP (ps.drop k) := List.take_of_length_le (by rw [rowP_len, List.length_drop]; omega)
   refine ⟨rfl, ?_⟩
   rw [ht, rowP_app, List.append_assoc]
   rfl
  ·rw [hstep, hins, hout]
   simp
  ·rcases hmem x hx with rfl | hx
   ·exact hpd
   ·exact hpm x hx
  ·rcases hmem x hx with rfl | hx
   ·exact hpok.mono (RO.le_trans hle1 (RO.le_trans hle2 (RO.le_trans hle3 hle4)))
   ·exact (hpo x hx).mono (RO.le_trans hle2 (RO.le_trans hle3 hle4))
 ·intro b cap1 R2 hle2 hrow hcap1 hfr
  obtain rfl : i = ds.length := by omega
  rw [List.take_length] at hps
  rw [← hps]
  exact ⟨_, rfl, EdsV.row hrow hcap1 (fun p hp => (hpo p hp).mono hle2) (by omega)⟩
end Go.Proofs.YtojckjngjfgfdaaGreat
namespace Go.Proofs.YtojckjngjfgfdaaGreat
set_option linter.unusedSimpArgs false
set_option linter.unusedVariables false
open Go.Proofs.YtojckjngjfgfdaaGreat.Vc
/-! ### The reference's Rebase -/
theorem rAll (ds o : List De) (v : Value) (R : RO) (h : EdsV R v ds) (hc : Cons ds) (hl : ds.length ≤ 4096) (ho : allD ds = .ok o) :
  CallsR Tryz.prog 70 [v] R fun R' r => ∃ u, r = .tuple #[u, .bool true] ∧ EdsV R' u o := by
 have := rSorted ds v R h hc.1 hc.2 (by omega)
 rw [insAll hc hl ho] at this
 exact this
theorem idxE_step (p : De → Bool) (o : List De) (m : Nat) (hm : m < o.length) : idxE p m (o.drop m) = if p o[m] = true then (m : Int) else idxE p (m + 1) (o.drop (m + 1)) := by
 rw [List.drop_eq_getElem_cons hm, idxE]
set_option maxHeartbeats 1000000 in
theorem rRebase (ds o : List De) (v : Value) (R : RO) (h : EdsV R v ds) (hc : Cons ds) (hl : ds.length ≤ 4096) (ho : allD ds = .ok o) :
  CallsR Tryz.prog 32 [v] R fun R' r => ∃ u w, r = .agg #[u, w, .int .i64 0] ∧ EdsV R' u (forceD o) ∧ EncV Ov.cells 4 R' w (recsD o) := by
 have hS := rAll ds o v R h hc hl ho
 obtain ⟨a0, cap0, rfl, _⟩ := h.form
 refine callsT mix Tryz.func32 comp32 (by simp [Tryz.ntmps32]) ?_; simp only [go_sem, ↓reduceIte, nQ1, nQ2, nQ3, nQ4, nQ5, nQ6, reduceCtorEq, vc32, rs32]
 refine ⟨fun hgt => by omega, fun _ => ?_⟩
 refine vcall hS ?_
 rintro R1 r hle1 ⟨u, rfl, hu⟩
 have hol : o.length ≤ 1000000000 := by obtain ⟨_, _, _, _, h⟩ := hu; exact h
 obtain ⟨a, cap, rfl, hcap, hf⟩ := PlOK.of hu
 try simp only [go_sem, ↓reduceIte, nQ1, nQ2, nQ3, nQ4, nQ5, nQ6, reduceCtorEq]
 refine vcLoopR (Nat × List Pl × List Ov) (fun x => [(6, .val (.int .i64 x.1)), (3, .val (.slice a o.length cap)), (2, .loc 0 0), (5, .loc 1 0)])
  (fun x => [.box [.val (.slice none 0 0), .val (.slice none 0 0), .val (.int .i64 0)], .box [gs 2 x.2.1.length, gs 3 x.2.2.length, .val (.int .i64 0)], gb 31 13 (rowP x.2.1), gb 78 4 (rowO x.2.2)])
  (fun x R => x.1 ≤ o.length ∧ x.2.1.map (·.1) = (o.take x.1).filter (fun a => !(o.any (overD a))) ∧ x.2.2 = (o.take x.1).filterMap (fun a => (o.find? (overD a)).map (ovOf a)) ∧ x.2.1.length ≤ x.1 ∧ x.2.2.length ≤ x.1 ∧ ∀ p ∈ x.2.1, PlOK R p) (fun x => o.length - x.1) (0, [], []) [] ?_ ?_ ?_ ?_
 ·(try simp only [go_sem, ↓reduceIte, nQ1, nQ2, nQ3, nQ4, nQ5, nQ6, reduceCtorEq]) <;> (repeat' (first | rfl | trivial | constructor | (intro h; exact absurd rfl h)))
 ·try simp only [go_sem, ↓reduceIte, nQ1, nQ2, nQ3, nQ4, nQ5, nQ6, reduceCtorEq]
 ·exact ⟨Nat.zero_le _, rfl, rfl, Nat.le_refl _, Nat.le_refl _, by simp⟩
 rintro ⟨i, ps, os⟩ env R2 hle2 hE ⟨hi, hps, hos, hpl, hol2, hpo⟩
 (simp only [go_sem] at hE; obtain ⟨e6, e3, e2, e5⟩ := hE; simp only [go_sem, ↓reduceIte, nQ1, nQ2, nQ3, nQ4, nQ5, nQ6, reduceCtorEq, e6, e3, e2, e5]; dsimp only at *)
 refine ⟨fun hlt => ?_, fun hge => ?_⟩
 ·have hlt' : i < o.length := by omega
  obtain ⟨ad, p, had, hp1, hR, hpok⟩ := hf i hlt'
  have hflt := filter_snoc (fun a => !(o.any (overD a))) o i hlt'
  have hflm := filterMap_snoc (fun a => (o.find? (overD a)).map (ovOf a)) o i hlt'
  rw [← hp1] at hflt hflm
  refine ⟨_, W.in64 (by omega), ?_⟩
  refine vcLoop Nat (fun m => [(8, .val (.int .i64 ((m : Int) - 1))), (7, .val (.int .i64 (idxE (overD p.1) m (o.drop m)))), (6, .val (.int .i64 i)), (3, .val (.slice a o.length cap)), (2, .loc 0 0), (5, .loc 1 0)])
   (fun _ => [.box [.val (.slice none 0 0), .val (.slice none 0 0), .val (.int .i64 0)], .box [gs 2 ps.length, gs 3 os.length, .val (.int .i64 0)], gb 31 13 (rowP ps), gb 78 4 (rowO os)]) (fun m _ => m ≤ o.length) (fun m => m) o.length ?_ ?_ ?_ ?_
  ·(try simp only [go_sem, ↓reduceIte, nQ1, nQ2, nQ3, nQ4, nQ5, nQ6, reduceCtorEq]) <;> (repeat' (first | rfl | trivial | constructor | (intro h; exact absurd rfl h)))
   ·rw [List.drop_length]; rfl
   all_goals exact fun h0 => gb_ne h0
  ·try simp only [go_sem, ↓reduceIte, nQ1, nQ2, nQ3, nQ4, nQ5, nQ6, reduceCtorEq]
  ·exact Nat.le_refl _
  rintro m env R3 hle3 hE hm
  (simp only [go_sem] at hE; obtain ⟨e8, e7, e6', e3', e2', e5'⟩ := hE; simp only [go_sem, ↓reduceIte, nQ1, nQ2, nQ3, nQ4, nQ5, nQ6, reduceCtorEq, e8, e7, e6', e3', e2', e5']; dsimp only at *)
  have hle23 := RO.le_trans hle2 hle3
  refine ⟨fun hge => ?_, fun hlt0 => ?_⟩
  ·have hm1 : m - 1 < o.length := by omega
   have hti : ((m : Int) - 1).toNat = m - 1 := by omega
   obtain ⟨adb, q, hadb, hq1, hRq, hqok⟩ := hf (m - 1) hm1
   have hstep := idxE_step (overD p.1) o (m - 1) hm1
   rw [show m - 1 + 1 = m by omega, ← hq1] at hstep
   refine ⟨by omega, vat ad had ?_⟩
   try simp only [go_sem, ↓reduceIte, nQ1, nQ2, nQ3, nQ4, nQ5, nQ6, reduceCtorEq]
   refine vloadn p.ed.cells rfl (fun j u hj => hle23 _ _ (hR j u hj)) ?_
   simp only [go_sem, ↓reduceIte, nQ1, nQ2, nQ3, nQ4, nQ5, nQ6, reduceCtorEq, Ed.cells, Pl.ed, De.ed, e8, e7, e6', e3', e2', e5']
   rw [hti]
   refine ⟨by omega, by omega, vat adb hadb ?_⟩
   try simp only [go_sem, ↓reduceIte, nQ1, nQ2, nQ3, nQ4, nQ5, nQ6, reduceCtorEq]
   refine vloadn q.ed.cells rfl (fun j u hj => hle23 _ _ (hRq j u hj)) ?_
   simp only [go_sem, ↓reduceIte, nQ1, nQ2, nQ3, nQ4, nQ5, nQ6, reduceCtorEq, Ed.cells, Pl.ed, De.ed, e8, e7, e6', e3', e2', e5']
   refine vcall (rOverrules p.ed q.ed R3) ?_
   rintro R4 v hle4 rfl
   simp only [go_sem, ↓reduceIte, nQ1, nQ2, nQ3, nQ4, nQ5, nQ6, reduceCtorEq, e8, e7, e6', e3', e2', e5']
   rw [show overE p.ed q.ed = overD p.1 q.1 from rfl]
   refine ⟨fun ho1 => ?_, fun ho1 => ?_⟩
   ·refine ⟨_, W.in64 (by omega), m - 1, by omega, ⟨⟨?_, ?_⟩, fun h0 => gb_ne h0, fun h0 => gb_ne h0⟩, by omega⟩
    ·congr 2; omega
    ·rw [hstep, if_pos ho1]
     congr 2; omega
   ·refine ⟨_, W.in64 (by omega), m - 1, by omega, ⟨⟨?_, ?_⟩, fun h0 => gb_ne h0, fun h0 => gb_ne h0⟩, by omega⟩
    ·congr 2; omega
    ·rw [hstep, if_neg (by rw [ho1]; simp)]
  ·obtain rfl : m = 0 := by omega
   rw [List.drop_zero] at e7
   simp only [go_sem, ↓reduceIte, nQ1, nQ2, nQ3, nQ4, nQ5, nQ6, reduceCtorEq, e7]
   have hpo3 : ∀ q ∈ ps, PlOK R3 q := fun q hq => (hpo q hq).mono hle3
   refine ⟨fun hn => ?_, fun hn => ?_⟩
   ·have hany : o.any (overD p.1) = false := by
     cases hf : o.find? (overD p.1) with
     | none => rw [List.any_eq_false]; exact fun x hx => List.find?_eq_none.1 hf x hx
     | some b => obtain ⟨j, hj, _⟩ := idxE_pos (i := 0) hf; omega
    have hfind : o.find? (overD p.1) = none := List.find?_eq_none.2 (List.any_eq_false.1 hany)
    rw [hany, if_pos (by rfl)] at hflt
    rw [hfind] at hflm
    refine ⟨hlt, vat ad had ?_⟩
    try simp only [go_sem, ↓reduceIte, nQ1, nQ2, nQ3, nQ4, nQ5, nQ6, reduceCtorEq]
    refine vloadn p.ed.cells rfl (fun j u hj => hle23 _ _ (hR j u hj)) ?_
    simp only [go_sem, ↓reduceIte, nQ1, nQ2, nQ3, nQ4, nQ5, nQ6, reduceCtorEq, Ed.cells, Pl.ed, De.ed, e8, e6', e3', e2', e5']
    refine vgrow (rowP ps) (fun h0 => by rw [gb_ne h0]; rfl) (fun h0 => by rw [h0, gb_nil]; rfl) (by rw [rowP_len]) (by omega) (by omega) (by omega) ?_
    simp only [go_sem, ↓reduceIte, nQ1, nQ2, nQ3, nQ4, nQ5, nQ6, reduceCtorEq, e8, e6', e3', e2', e5']
    refine ⟨_, W.in64 (by omega), (i + 1, ps ++ [p], os), [0, 1, 5, 3], ?_⟩
    try simp only [go_sem, ↓reduceIte, nQ1, nQ2, nQ3, nQ4, nQ5, nQ6, reduceCtorEq]
    refine ⟨by omega, ?_, by decide, by omega, by rw [hflt, ← hps]; simp, by rw [hflm, hos]; simp, by omega, by omega, fun q hq => ?_⟩
    ·exact ⟨rfl, fun _ => by rw [rowP_snoc]; rfl, fun h0 => gb_ne h0⟩
    rcases List.mem_append.1 hq with hq | hq
    ·exact hpo3 q hq
    ·simp only [List.mem_cons, List.not_mem_nil, or_false] at hq; subst hq; exact hpok.mono hle23
   ·have hany : o.any (overD p.1) = true := by
     cases ha : o.any (overD p.1) with
     | true => rfl
     | false => rw [idxE_neg ha] at hn; omega
    obtain ⟨b, hb⟩ : ∃ b, o.find? (overD p.1) = some b := by
     cases hf : o.find? (overD p.1) with
     | none => rw [List.find?_eq_none] at hf; rw [List.any_eq_true] at hany; obtain ⟨x, hx, hx'⟩ := hany; exact absurd hx' (hf x hx)
     | some b => exact ⟨b, rfl⟩
    rw [hany, if_neg (by simp)] at hflt
    rw [hb] at hflm
    obtain ⟨j, hj, hbj⟩ := idxE_pos (i := 0) hb
    rw [Nat.zero_add] at hj
    obtain ⟨hjl, hbe⟩ := List.getElem?_eq_some_iff.1 hbj
    obtain ⟨adb, q, hadb, hq1, hRq, _⟩ := hf j hjl
    rw [hbe] at hq1
    have hcq : ∀ k u, (q.ed.cells)[k]? = some u → R3 ((adb.add (j * 13)).add k) u := fun k u hk => hle23 _ _ (hRq k u hk)
    have hcp : ∀ k u, (p.ed.cells)[k]? = some u → R3 ((ad.add (i * 13)).add k) u := fun k u hk => hle23 _ _ (hR k u hk)
    rw [hj] at e7
    refine ⟨hlt, vat ad had ?_⟩
    try simp only [go_sem, ↓reduceIte, nQ1, nQ2, nQ3, nQ4, nQ5, nQ6, reduceCtorEq]
    refine vload _ (hcp 2 _ rfl) ?_
    simp only [go_sem, ↓reduceIte, nQ1, nQ2, nQ3, nQ4, nQ5, nQ6, reduceCtorEq, e8, e6', e3', e2', e5']
    refine ⟨hlt, vat ad had ?_⟩
    try simp only [go_sem, ↓reduceIte, nQ1, nQ2, nQ3, nQ4, nQ5, nQ6, reduceCtorEq]
    refine vload _ (hcp 3 _ rfl) ?_
    simp only [go_sem, ↓reduceIte, nQ1, nQ2, nQ3, nQ4, nQ5, nQ6, reduceCtorEq, e8, e7, e6', e3', e2', e5']
    refine ⟨by omega, vat adb hadb ?_⟩
    try simp only [go_sem, ↓reduceIte, nQ1, nQ2, nQ3, nQ4, nQ5, nQ6, reduceCtorEq]
    refine vload _ (hcq 2 _ rfl) ?_
    simp only [go_sem, ↓reduceIte, nQ1, nQ2, nQ3, nQ4, nQ5, nQ6, reduceCtorEq, e8, e7, e6', e3', e2', e5']
    refine ⟨by omega, vat adb hadb ?_⟩
    try simp only [go_sem, ↓reduceIte, nQ1, nQ2, nQ3, nQ4, nQ5, nQ6, reduceCtorEq]
    refine vload _ (hcq 3 _ rfl) ?_
    simp only [go_sem, ↓reduceIte, nQ1, nQ2, nQ3, nQ4, nQ5, nQ6, reduceCtorEq, Ed.cells, Pl.ed, De.ed, e8, e7, e6', e3', e2', e5']
    refine vgrow (rowO os) (fun h0 => by rw [gb_ne h0]; rfl) (fun h0 => by rw [h0, gb_nil]; rfl) (by rw [rowO_len]) (by omega) (by omega) (by omega) ?_
    simp only [go_sem, ↓reduceIte, nQ1, nQ2, nQ3, nQ4, nQ5, nQ6, reduceCtorEq, e8, e7, e6', e3', e2', e5']
    refine ⟨_, W.in64 (by omega), (i + 1, ps, os ++ [ovOf p.1 b]), [0, 1, 2, 5], ?_⟩
    try simp only [go_sem, ↓reduceIte, nQ1, nQ2, nQ3, nQ4, nQ5, nQ6, reduceCtorEq]
    exact ⟨by omega, ⟨rfl, fun h0 => gb_ne h0, fun _ => by rw [rowO_snoc, ← hq1]; rfl⟩, by decide, by omega, by rw [hflt, ← hps]; simp, by rw [hflm, hos]; simp, by omega, by omega, hpo3⟩
 ·obtain rfl : i = o.length := by omega
  rw [List.take_length] at hps hos
  have hF0 : ∀ R', RO.le R2 R' → ps = [] → EdsV R' (.slice none 0 0) (forceD o) := fun R' _ h0 => by
   unfold forceD; rw [← hps, h0]; exact EdsV.nil R'
  have hO0 : ∀ R', RO.le R2 R' → os = [] → EncV Ov.cells 4 R' (.slice none 0 0) (recsD o) := fun R' _ h0 => by
   unfold recsD; rw [← hos, h0]; exact EncV.nil _ _ R'
  have hF1 : ∀ R' b cap, RO.le R2 R' → RowIn R' b (rowP ps) → (rowP ps).length ≤ cap * 13 → EdsV R' (.slice (some ⟨b, 0, none⟩) ps.length cap) (forceD o) := fun R' b cap hle hrow hcap => by
   unfold forceD
   rw [← hps]
   exact EdsV.row hrow hcap (fun p hp => (hpo p hp).mono hle) (by omega)
  have hO1 : ∀ R' b cap, RowIn R' b (rowO os) → (rowO os).length ≤ cap * 4 → EncV Ov.cells 4 R' (.slice (some ⟨b, 0, none⟩) os.length cap) (recsD o) := fun R' b cap hrow hcap => by
   unfold recsD; rw [← hos]; exact RowIn.enc (fun _ => rfl) (by omega) hrow hcap (by omega)
  have hgP : ps.length ≠ 0 → gb 31 13 (rowP ps) = .row 31 13 (rowP ps) := fun h1 => gb_ne (fun e => h1 (by have := rowP_len ps; rw [e] at this; simp at this; omega))
  have hgO : os.length ≠ 0 → gb 78 4 (rowO os) = .row 78 4 (rowO os) := fun h2 => gb_ne (fun e => h2 (by have := rowO_len os; rw [e] at this; simp at this; omega))
  by_cases h1 : ps.length = 0
  ·have hp0 := List.eq_nil_of_length_eq_zero h1
   rw [h1]
   by_cases h2 : os.length = 0
   ·rw [h2]
    try simp only [go_sem, ↓reduceIte, nQ1, nQ2, nQ3, nQ4, nQ5, nQ6, reduceCtorEq, e2, e5]
    exact ⟨_, _, rfl, hF0 _ (RO.le_refl _) hp0, hO0 _ (RO.le_refl _) (List.eq_nil_of_length_eq_zero h2)⟩
   ·rw [gs_pos h2, hgO h2]
    try simp only [go_sem, ↓reduceIte, nQ1, nQ2, nQ3, nQ4, nQ5, nQ6, reduceCtorEq, e2, e5]
    intro b cap' R3 hle3 hrow hcap hfr
    try simp only [go_sem, ↓reduceIte, nQ1, nQ2, nQ3, nQ4, nQ5, nQ6, reduceCtorEq, e2, e5]
    exact ⟨_, _, rfl, hF0 _ hle3 hp0, hO1 _ _ _ hrow hcap⟩
  ·rw [gs_pos h1, hgP h1]
   try simp only [go_sem, ↓reduceIte, nQ1, nQ2, nQ3, nQ4, nQ5, nQ6, reduceCtorEq, e2, e5]
   intro b cap' R3 hle3 hrow hcap hfr
   by_cases h2 : os.length = 0
   ·rw [h2]
    try simp only [go_sem, ↓reduceIte, nQ1, nQ2, nQ3, nQ4, nQ5, nQ6, reduceCtorEq, e2, e5]
    exact ⟨_, _, rfl, hF1 _ _ _ hle3 hrow hcap, hO0 _ hle3 (List.eq_nil_of_length_eq_zero h2)⟩
   ·rw [gs_pos h2, hgO h2]
    try simp only [go_sem, ↓reduceIte, nQ1, nQ2, nQ3, nQ4, nQ5, nQ6, reduceCtorEq, e2, e5]
    intro b' cap'' R4 hle4 hrow' hcap2 hfr'
    try simp only [go_sem, ↓reduceIte, nQ1, nQ2, nQ3, nQ4, nQ5, nQ6, reduceCtorEq, e2, e5]
    exact ⟨_, _, rfl, (hF1 _ _ _ hle3 hrow hcap).mono hle4, hO1 _ _ _ hrow' hcap2⟩
end Go.Proofs.YtojckjngjfgfdaaGreat
namespace Go.Proofs.YtojckjngjfgfdaaGreat
set_option linter.unusedSimpArgs false
set_option linter.unusedVariables false
open Go.Proofs.YtojckjngjfgfdaaGreat.Vc
/-! ### The reference's On -/
def goneOn (x : Int) (d : De) : Bool := decide (d.kind = 5) && decide (d.day ≤ x)
def OnV (R : RO) (r : Value) (s : Se) (rl : List Nd) (ms : List Mv) (o : List De) (x : Int) : Prop :=
 if o.any (goneOn x) = true then r = .tuple #[.agg Se.zero.cells.toArray, .bool false]
 else ∃ rv mv, r = .tuple #[.agg (Se.cells ⟨rv, (onE x (s.on rl) o).minute, (onE x (s.on rl) o).length, (onE x (s.on rl) o).zone, s.gap, s.fold, mv⟩).toArray, .bool true] ∧ RuleV R rv (onE x (s.on rl) o).rule ∧ EncV Mv.cells 5 R mv (mvRef ms o x)
theorem filt_last {ms : List Mv} (hp : ms.Pairwise fun a b => a.day ≠ b.day) {x : Int} {i : Nat} (hi : i < ms.length) (hx : ms[i].day = x) : (ms.take i).filter (fun m => decide (m.day = x)) = [] := by
 rw [List.filter_eq_nil_iff]
 intro m hm
 obtain ⟨j, hj, rfl⟩ := List.mem_take_iff_getElem.1 hm
 have := List.pairwise_iff_getElem.1 hp j i (by omega) hi (by omega)
 simp; omega
set_option maxHeartbeats 1000000 in
theorem rOn (s : Se) (rl : List Nd) (ms : List Mv) (o : List De) (v : Value) (x : Int) (R : RO) (hr : RuleV R s.rule rl) (hm : EncV Mv.cells 5 R s.moves ms) (hp : ms.Pairwise fun a b => a.day ≠ b.day) (h : EdsV R v o) (hk : ∀ d ∈ o, 1 ≤ d.kind ∧ d.kind ≤ 5) :
  CallsR Tryz.prog 72 [.agg s.cells.toArray, v, .int .i64 x] R fun R' r => OnV R' r s rl ms o x := by
 have hml := hm.2
 have hol : o.length ≤ 1000000000 := by obtain ⟨_, _, _, _, h⟩ := h; exact h
 have hsr := hr.one
 obtain ⟨sr, sm, sl, sz, sg, sf, smv⟩ := s
 dsimp only at hr hm hsr
 obtain ⟨ra0, rn0, rc0, rfl⟩ := hr.form
 obtain ⟨ma, mcap, rfl, hmc, hmf⟩ := hm.form
 obtain ⟨a, cap, rfl, hcap, hf⟩ := PlOK.of h
 simp only [Se.cells]
 refine callsT mix Tryz.func72 comp72 (by simp [Tryz.ntmps72]) ?_; simp only [go_sem, ↓reduceIte, nQ1, nQ2, nQ3, nQ4, nQ5, nQ6, reduceCtorEq, vc72, rs72]
 refine vcLoopR (Nat × List Mv) (fun y => [(9, .val (.int .i64 y.1)), (3, .loc 0 0), (6, .loc 1 0), (8, .loc 2 0), (1, .val (.slice a o.length cap)), (2, .val (.int .i64 x)), (7, .val (.bool false))])
  (fun y => [.box [.val (.slice ra0 rn0 rc0), .val (.int .i64 sm), .val (.int .i64 sl), .val (.string sz), .val (.int .i64 sg), .val (.int .i64 sf), .val (.slice ma ms.length mcap)],
   .box [.val (.slice none 0 0), .val (.int .i64 0), .val (.int .i64 0), .val (.string ⟨#[]⟩), .val (.int .i64 0), .val (.int .i64 0), .val (.slice none 0 0)],
   .box [.val (.slice ra0 rn0 rc0), .val (.int .i64 sm), .val (.int .i64 sl), .val (.string sz), .val (.int .i64 sg), .val (.int .i64 sf), gs 3 y.2.length], gb 27 5 (rowM y.2)])
  (fun y _ => y.1 ≤ ms.length ∧ y.2 = (ms.take y.1).filter (fun m => decide (m.day = x))) (fun y => ms.length - y.1) (0, []) [] ?_ ?_ ?_ ?_
 ·(try simp only [go_sem, ↓reduceIte, nQ1, nQ2, nQ3, nQ4, nQ5, nQ6, reduceCtorEq]) <;> (repeat' (first | rfl | trivial | constructor | (intro h; exact absurd rfl h)))
 ·try simp only [go_sem, ↓reduceIte, nQ1, nQ2, nQ3, nQ4, nQ5, nQ6, reduceCtorEq]
 ·exact ⟨Nat.zero_le _, rfl⟩
 rintro ⟨i, mv⟩ env R1 hle1 hE ⟨hi, hmv⟩
 (simp only [go_sem] at hE; obtain ⟨e9, e3, e6, e8, e1, e2, e7⟩ := hE; simp only [go_sem, ↓reduceIte, nQ1, nQ2, nQ3, nQ4, nQ5, nQ6, reduceCtorEq, e9, e3, e6, e8, e1, e2, e7]; dsimp only at *)
 refine ⟨fun hlt => ?_, fun hge => ?_⟩
 ·have hlt' : i < ms.length := by omega
  obtain ⟨ad, had, hR⟩ := hmf i hlt'
  have hcl : ∀ j u, ((ms[i]).cells)[j]? = some u → R1 ((ad.add (i * 5)).add j) u := fun j u hj => hle1 _ _ (hR j u hj)
  have hflt := filter_snoc (fun m => decide (m.day = x)) ms i hlt'
  refine ⟨hlt, vat ad had ?_⟩
  try simp only [go_sem, ↓reduceIte, nQ1, nQ2, nQ3, nQ4, nQ5, nQ6, reduceCtorEq]
  refine vload _ (hcl 0 _ rfl) ?_
  simp only [go_sem, ↓reduceIte, nQ1, nQ2, nQ3, nQ4, nQ5, nQ6, reduceCtorEq, e9, e3, e6, e8, e1, e2, e7]
  refine ⟨fun hd => ?_, fun hd => ?_⟩
  ·rw [filt_last hp hlt' hd, if_pos (by simpa using hd), List.nil_append] at hflt
   refine ⟨hlt, vat ad had ?_⟩
   try simp only [go_sem, ↓reduceIte, nQ1, nQ2, nQ3, nQ4, nQ5, nQ6, reduceCtorEq]
   refine vloadn (ms[i]).cells rfl hcl ?_
   simp only [go_sem, ↓reduceIte, nQ1, nQ2, nQ3, nQ4, nQ5, nQ6, reduceCtorEq, Mv.cells, e9, e3, e6, e8, e1, e2, e7]
   refine ⟨_, W.in64 (by omega), (i + 1, [ms[i]]), [0, 1, 2, 4], ?_⟩
   try simp only [go_sem, ↓reduceIte, nQ1, nQ2, nQ3, nQ4, nQ5, nQ6, reduceCtorEq]
   exact ⟨by omega, ⟨rfl, fun _ => rfl⟩, by decide, by omega, hflt.symm⟩
  ·rw [if_neg (by simpa using hd), List.append_nil] at hflt
   refine ⟨_, W.in64 (by omega), (i + 1, mv), [], ?_⟩
   try simp only [go_sem, ↓reduceIte, nQ1, nQ2, nQ3, nQ4, nQ5, nQ6, reduceCtorEq]
   exact ⟨by omega, ⟨rfl, fun h0 => gb_ne h0⟩, by decide, by omega, by rw [hflt]; exact hmv⟩
 obtain rfl : i = ms.length := by omega
 rw [List.take_length] at hmv
 have hst : OnV = OnV := rfl
 refine vcLoopR (Nat × Value × List Mv) (fun y => [(10, .val (.int .i64 y.1)), (3, .loc 0 0), (6, .loc 1 0), (8, .loc 2 0), (1, .val (.slice a o.length cap)), (2, .val (.int .i64 x)), (7, .val (.bool false))])
  (fun y => [.box [.val (.slice ra0 rn0 rc0), .val (.int .i64 sm), .val (.int .i64 sl), .val (.string sz), .val (.int .i64 sg), .val (.int .i64 sf), .val (.slice ma ms.length mcap)],
   .box [.val (.slice none 0 0), .val (.int .i64 0), .val (.int .i64 0), .val (.string ⟨#[]⟩), .val (.int .i64 0), .val (.int .i64 0), .val (.slice none 0 0)],
   .box [.val y.2.1, .val (.int .i64 (onE x ⟨rl, sm, sl, sz⟩ (o.take y.1)).minute), .val (.int .i64 (onE x ⟨rl, sm, sl, sz⟩ (o.take y.1)).length), .val (.string (onE x ⟨rl, sm, sl, sz⟩ (o.take y.1)).zone), .val (.int .i64 sg), .val (.int .i64 sf), gs 3 y.2.2.length], gb 27 5 (rowM y.2.2)])
  (fun y R => y.1 ≤ o.length ∧ RuleV R y.2.1 (onE x ⟨rl, sm, sl, sz⟩ (o.take y.1)).rule ∧ y.2.2 = mvRef ms (o.take y.1) x ∧ (o.take y.1).any (goneOn x) = false ∧ y.2.2.length ≤ 1000000000) (fun y => o.length - y.1) (0, .slice ra0 rn0 rc0, mv) [] ?_ ?_ ?_ ?_
 ·(try simp only [go_sem, ↓reduceIte, nQ1, nQ2, nQ3, nQ4, nQ5, nQ6, reduceCtorEq]) <;> (repeat' (first | rfl | trivial | constructor | (intro h; exact absurd rfl h)))
  exact fun h0 => gb_ne h0
 ·try simp only [go_sem, ↓reduceIte, nQ1, nQ2, nQ3, nQ4, nQ5, nQ6, reduceCtorEq]
 ·exact ⟨Nat.zero_le _, hr.mono hle1, hmv, rfl, by rw [hmv]; exact Nat.le_trans (List.length_filter_le _ _) hml⟩
 rintro ⟨i, rv, mv2⟩ env R2 hle2 hE ⟨hi2, hrv, hmv2, hgone, hmvl⟩
 (simp only [go_sem] at hE; obtain ⟨e10, e3', e6', e8', e1', e2', e7'⟩ := hE; simp only [go_sem, ↓reduceIte, nQ1, nQ2, nQ3, nQ4, nQ5, nQ6, reduceCtorEq, e10, e3', e6', e8', e1', e2', e7']; dsimp only at *)
 refine ⟨fun hlt => ⟨hlt, ?_⟩, fun hge => ?_⟩
 ·have hlt' : i < o.length := by omega
  obtain ⟨ad, p, had, hp1, hR, hpok⟩ := hf i hlt'
  have hle12 := RO.le_trans hle1 hle2
  have htk := List.take_succ_eq_append_getElem hlt'
  rw [← hp1] at htk
  have hrv1 := hrv.one
  refine vat ad had ?_
  try simp only [go_sem, ↓reduceIte, nQ1, nQ2, nQ3, nQ4, nQ5, nQ6, reduceCtorEq]
  refine vloadn p.ed.cells rfl (fun j u hj => hle12 _ _ (hR j u hj)) ?_
  simp only [go_sem, ↓reduceIte, nQ1, nQ2, nQ3, nQ4, nQ5, nQ6, reduceCtorEq, Ed.cells, Pl.ed, De.ed, e10, e3', e6', e8', e1', e2', e7']
  have hon : onE x ⟨rl, sm, sl, sz⟩ (o.take (i + 1)) = stepOn x (onE x ⟨rl, sm, sl, sz⟩ (o.take i)) p.1 := by rw [htk, onE_snoc]
  have hms : mvRef ms (o.take (i + 1)) x = mvStep x mv2 p.1 := by rw [htk, hmv2]; unfold mvRef; rw [List.foldl_append]; rfl
  have hga : (o.take (i + 1)).any (goneOn x) = goneOn x p.1 := by rw [htk, List.any_append, hgone]; simp
  have hkd := hk _ (List.getElem_mem hlt')
  rw [← hp1] at hkd
  clear htk hgone
  refine ⟨fun hd => ?_, fun hd => ⟨fun k1 => ⟨fun hx => ?_, fun hx => ?_⟩, fun k1 => ⟨fun k2 => ?_, fun k2 => ⟨fun k3 => ?_, fun k3 => ⟨fun k4 => ?_, fun k4 => ?_⟩⟩⟩⟩⟩
  ·rw [show stepOn x (onE x ⟨rl, sm, sl, sz⟩ (o.take i)) p.1 = onE x ⟨rl, sm, sl, sz⟩ (o.take i) by simp [stepOn, hd]] at hon
   rw [show mvStep x mv2 p.1 = mv2 by simp [mvStep, hd]] at hms
   rw [show goneOn x p.1 = false by simp [goneOn]; omega] at hga
   refine ⟨_, W.in64 (by omega), (i + 1, rv, mv2), [], ?_⟩
   try simp only [go_sem, ↓reduceIte, nQ1, nQ2, nQ3, nQ4, nQ5, nQ6, reduceCtorEq, hon, hms, hga]
   exact ⟨by omega, ⟨rfl, fun h0 => gb_ne h0⟩, by decide, by omega, hrv, hmvl⟩
  ·rw [show stepOn x (onE x ⟨rl, sm, sl, sz⟩ (o.take i)) p.1 = onE x ⟨rl, sm, sl, sz⟩ (o.take i) by simp [stepOn, k1]] at hon
   rw [show mvStep x mv2 p.1 = [p.1.mv] by simp [mvStep, k1, hx]] at hms
   rw [show goneOn x p.1 = false by simp [goneOn, k1]] at hga
   refine ⟨_, W.in64 (by omega), (i + 1, rv, [p.1.mv]), [0, 1, 2, 5], ?_⟩
   try simp only [go_sem, ↓reduceIte, nQ1, nQ2, nQ3, nQ4, nQ5, nQ6, reduceCtorEq, hon, hms, hga]
   exact ⟨by omega, ⟨rfl, fun _ => rfl⟩, by decide, by omega, hrv⟩
  ·rw [show stepOn x (onE x ⟨rl, sm, sl, sz⟩ (o.take i)) p.1 = onE x ⟨rl, sm, sl, sz⟩ (o.take i) by simp [stepOn, k1]] at hon
   rw [show mvStep x mv2 p.1 = mv2 by simp [mvStep, k1, hx]] at hms
   rw [show goneOn x p.1 = false by simp [goneOn, k1]] at hga
   refine ⟨_, W.in64 (by omega), (i + 1, rv, mv2), [], ?_⟩
   try simp only [go_sem, ↓reduceIte, nQ1, nQ2, nQ3, nQ4, nQ5, nQ6, reduceCtorEq, hon, hms, hga]
   exact ⟨by omega, ⟨rfl, fun h0 => gb_ne h0⟩, by decide, by omega, hrv, hmvl⟩
  ·rw [show stepOn x (onE x ⟨rl, sm, sl, sz⟩ (o.take i)) p.1 = ⟨(onE x ⟨rl, sm, sl, sz⟩ (o.take i)).rule, p.1.minute, p.1.length, (onE x ⟨rl, sm, sl, sz⟩ (o.take i)).zone⟩ by simp [stepOn, hd, k2]] at hon
   rw [show mvStep x mv2 p.1 = mv2 by simp [mvStep, k2]] at hms
   rw [show goneOn x p.1 = false by simp [goneOn, k2]] at hga
   refine ⟨_, W.in64 (by omega), (i + 1, rv, mv2), [], ?_⟩
   try simp only [go_sem, ↓reduceIte, nQ1, nQ2, nQ3, nQ4, nQ5, nQ6, reduceCtorEq, hon, hms, hga]
   exact ⟨by omega, ⟨rfl, fun h0 => gb_ne h0⟩, by decide, by omega, hrv, hmvl⟩
  ·rw [show stepOn x (onE x ⟨rl, sm, sl, sz⟩ (o.take i)) p.1 = ⟨p.1.rule, (onE x ⟨rl, sm, sl, sz⟩ (o.take i)).minute, (onE x ⟨rl, sm, sl, sz⟩ (o.take i)).length, (onE x ⟨rl, sm, sl, sz⟩ (o.take i)).zone⟩ by simp [stepOn, hd, k3]] at hon
   rw [show mvStep x mv2 p.1 = [] by simp [mvStep, k3, hd]] at hms
   rw [show goneOn x p.1 = false by simp [goneOn, k3]] at hga
   refine ⟨_, W.in64 (by omega), (i + 1, .slice p.2.1 p.2.2.1 p.2.2.2, []), [], ?_⟩
   try simp only [go_sem, ↓reduceIte, nQ1, nQ2, nQ3, nQ4, nQ5, nQ6, reduceCtorEq, hon, hms, hga]
   exact ⟨by omega, ⟨rfl, fun h0 => absurd rfl h0⟩, by decide, by omega, hpok.mono hle12⟩
  ·rw [show stepOn x (onE x ⟨rl, sm, sl, sz⟩ (o.take i)) p.1 = ⟨(onE x ⟨rl, sm, sl, sz⟩ (o.take i)).rule, (onE x ⟨rl, sm, sl, sz⟩ (o.take i)).minute, (onE x ⟨rl, sm, sl, sz⟩ (o.take i)).length, p.1.zone⟩ by simp [stepOn, hd, k4]] at hon
   rw [show mvStep x mv2 p.1 = mv2 by simp [mvStep, k4]] at hms
   rw [show goneOn x p.1 = false by simp [goneOn, k4]] at hga
   refine ⟨_, W.in64 (by omega), (i + 1, rv, mv2), [], ?_⟩
   try simp only [go_sem, ↓reduceIte, nQ1, nQ2, nQ3, nQ4, nQ5, nQ6, reduceCtorEq, hon, hms, hga]
   exact ⟨by omega, ⟨rfl, fun h0 => gb_ne h0⟩, by decide, by omega, hrv, hmvl⟩
  ·have k5 : p.1.kind = 5 := by omega
   rw [OnV, if_pos]
   ·rfl
   ·refine List.any_eq_true.2 ⟨p.1, by rw [hp1]; exact List.getElem_mem hlt', ?_⟩
    simp [goneOn, k5]; omega
 ·obtain rfl : i = o.length := by omega
  rw [List.take_length] at hrv hmv2 hgone
  have hfin : ∀ R' mvv, RO.le R2 R' → EncV Mv.cells 5 R' mvv mv2 → OnV R' (.tuple #[.agg #[rv, .int .i64 (onE x ⟨rl, sm, sl, sz⟩ o).minute, .int .i64 (onE x ⟨rl, sm, sl, sz⟩ o).length, .string (onE x ⟨rl, sm, sl, sz⟩ o).zone, .int .i64 sg, .int .i64 sf, mvv], .bool true]) ⟨.slice ra0 rn0 rc0, sm, sl, sz, sg, sf, .slice ma ms.length mcap⟩ rl ms o x := fun R' mvv hle hE => by
   rw [OnV, if_neg (by rw [hgone]; simp)]
   exact ⟨rv, mvv, rfl, hrv.mono hle, by rw [← hmv2]; exact hE⟩
  by_cases h1 : mv2.length = 0
  ·rw [h1]
   try simp only [go_sem, ↓reduceIte, nQ1, nQ2, nQ3, nQ4, nQ5, nQ6, reduceCtorEq, e3', e6', e8', e1', e2', e7', List.take_length]
   rw [List.eq_nil_of_length_eq_zero h1] at hfin
   exact ⟨hrv.one, hfin _ _ (RO.le_refl _) (EncV.nil _ _ _)⟩
  ·rw [gs_pos h1, gb_ne (fun e => h1 (by have := rowM_len mv2; rw [e] at this; simp at this; omega))]
   try simp only [go_sem, ↓reduceIte, nQ1, nQ2, nQ3, nQ4, nQ5, nQ6, reduceCtorEq, e3', e6', e8', e1', e2', e7', List.take_length]
   intro b cap' R' hle hrow hcap' hfr
   exact ⟨hrv.one, hfin _ _ hle (RowIn.enc (fun _ => rfl) (by omega) hrow hcap' hmvl)⟩
end Go.Proofs.YtojckjngjfgfdaaGreat
namespace Go.Proofs.YtojckjngjfgfdaaGreat
set_option linter.unusedSimpArgs false
set_option linter.unusedVariables false
open Go.Proofs.YtojckjngjfgfdaaGreat.Vc
/-! ### The reference's insert, At -/
def insK (l : List Int) (x : Int) : Nat := (l.takeWhile fun y => decide (y < x)).length
theorem insK_le (l : List Int) (x : Int) : insK l x ≤ l.length := (List.takeWhile_prefix _).length_le
theorem insK_less {l : List Int} {x : Int} {i : Nat} (h : i < insK l x) (hi : i < l.length) : l[i] < x := by
 have h0 : l.take (insK l x) = l.takeWhile fun y => decide (y < x) := (List.prefix_iff_eq_take.1 (List.takeWhile_prefix _)).symm
 have h1 : l[i] ∈ l.takeWhile fun y => decide (y < x) := by
  rw [← h0, List.mem_take_iff_getElem]
  exact ⟨i, by omega, rfl⟩
 simpa using mem_tw h1
theorem insK_not {l : List Int} {x : Int} (h : insK l x < l.length) : ¬ l[insK l x] < x := by
 have h2 : l.drop (insK l x) = l.dropWhile fun y => decide (y < x) := drop_tw _ l
 have h3 : (l.dropWhile fun y => decide (y < x)) ≠ [] := by
  intro e
  have := congrArg List.length (h2.trans e)
  simp at this; omega
 have h4 := List.head_dropWhile_not (fun y => decide (y < x)) h3
 have h5 : (l.dropWhile fun y => decide (y < x)).head h3 = l[insK l x] := by
  simp only [← h2]
  rw [List.head_drop]
 rw [h5] at h4
 simpa using h4
theorem insI_eq (l : List Int) (x : Int) : insI l x = if l[insK l x]? = some x then l else l.take (insK l x) ++ x :: l.drop (insK l x) := by
 have h0 : l.take (insK l x) = l.takeWhile fun y => decide (y < x) := (List.prefix_iff_eq_take.1 (List.takeWhile_prefix _)).symm
 have h2 : l.drop (insK l x) = l.dropWhile fun y => decide (y < x) := drop_tw _ l
 have h3 : l[insK l x]? = (l.dropWhile fun y => decide (y < x)).head? := by rw [← h2, List.head?_drop]
 unfold insI
 rw [h3, h0, h2]
 dsimp only
 split
 ·exact List.takeWhile_append_dropWhile
 ·rfl
set_option maxHeartbeats 1000000 in
theorem rInsert (l : List Int) (x : Int) (hl : l.length ≤ 100000000) (R : RO) : CallsS Tryz.prog 71 [.sl 0 l.length, .val (.int .i64 x)] [.row 3 1 (l.map (.int .i64))] R fun R' bs r =>
  (insI l x = l ∧ bs = [.row 3 1 (l.map (.int .i64))] ∧ r = .sl 0 l.length) ∨ (∃ a b, bs = [.dead, .dead, a, b, .dead, .row 3 1 ((insI l x).map (.int .i64))] ∧ r = .sl 5 (insI l x).length) := by
 have hale := insK_le l x
 refine callsTS mix Tryz.func71 comp71 (by simp [Tryz.ntmps71]) rfl rfl ?_; simp only [go_sem, ↓reduceIte, nQ1, nQ2, nQ3, nQ4, nQ5, nQ6, reduceCtorEq, vc71, rs71]
 refine cutL (fun s' => ∃ env R1, s' = ⟨env, [.row 3 1 (l.map (.int .i64))], R1⟩ ∧ env 5 = .val (.int .i64 (insK l x)) ∧ env 0 = .sl 0 l.length ∧ env 1 = .val (.int .i64 x)) ?_ ?_
 ·refine vcLoop Nat (fun k => [(5, .val (.int .i64 k)), (0, .sl 0 l.length), (1, .val (.int .i64 x))]) (fun _ => [.row 3 1 (l.map (.int .i64))]) (fun k _ => k ≤ insK l x) (fun k => l.length - k) 0 ?_ ?_ ?_ ?_
  ·(try simp only [go_sem, ↓reduceIte, nQ1, nQ2, nQ3, nQ4, nQ5, nQ6, reduceCtorEq]) <;> (repeat' (first | rfl | trivial | constructor | (intro h; exact absurd rfl h)))
  ·rfl
  ·exact Nat.zero_le _
  rintro k env R1 hle1 hE hk
  (simp only [go_sem] at hE; obtain ⟨e5, e0, e1⟩ := hE; simp only [go_sem, ↓reduceIte, nQ1, nQ2, nQ3, nQ4, nQ5, nQ6, reduceCtorEq, e5, e0, e1]; dsimp only at *)
  refine ⟨fun hkl => ?_, fun hkg => ?_⟩
  ·have hkn : k < l.length := by omega
   refine ⟨hkl, .int .i64 l[k], by rw [List.getElem?_map, List.getElem?_eq_getElem hkn]; rfl, ?_⟩
   simp only [go_sem, ↓reduceIte, nQ1, nQ2, nQ3, nQ4, nQ5, nQ6, reduceCtorEq, e5, e0, e1]
   refine ⟨fun h1 => ?_, fun h1 => ?_⟩
   ·refine ⟨_, W.in64 (by omega), k + 1, by omega, by constructor, rfl, ?_⟩
    rcases Nat.lt_or_ge k (insK l x) with h2 | h2
    ·exact h2
    ·obtain rfl : k = insK l x := by omega
     exact absurd h1 (insK_not hkn)
   ·have : k = insK l x := by
     rcases Nat.lt_or_ge k (insK l x) with h2 | h2
     ·exact absurd (insK_less h2 hkn) h1
     ·omega
    rw [← this]
    exact ⟨_, _, rfl, e5, e0, e1⟩
  ·have : k = insK l x := by omega
   rw [← this]
   exact ⟨_, _, rfl, e5, e0, e1⟩
 rintro s' ⟨env, R1, rfl, e5, e0, e1⟩
 have hI := insI_eq l x
 obtain ⟨k, hk⟩ : ∃ k, k = insK l x := ⟨_, rfl⟩
 rw [← hk] at e5 hale hI
 rw [tCode_seq]
 refine cutT (fun s' => ∃ env R2, s' = ⟨env, [.row 3 1 (l.map (.int .i64))], R2⟩ ∧ l[k]? ≠ some x ∧ env 5 = .val (.int .i64 k) ∧ env 0 = .sl 0 l.length ∧ env 1 = .val (.int .i64 x)) ?_ ?_
 ·try simp only [go_sem, ↓reduceIte, nQ1, nQ2, nQ3, nQ4, nQ5, nQ6, reduceCtorEq, e5, e0, e1]
  refine ⟨fun hkl => ?_, fun hkg => ?_⟩
  ·have hkn : k < l.length := by omega
   refine ⟨hkl, .int .i64 l[k], by rw [List.getElem?_map, List.getElem?_eq_getElem hkn]; rfl, ?_⟩
   simp only [go_sem, ↓reduceIte, nQ1, nQ2, nQ3, nQ4, nQ5, nQ6, reduceCtorEq, e5, e0, e1]
   refine ⟨fun h1 => ?_, fun h1 => ?_⟩
   ·rw [if_pos (by rw [List.getElem?_eq_getElem hkn, h1])] at hI
    exact .inl ⟨hI, rfl⟩
   ·exact ⟨_, _, rfl, by rw [List.getElem?_eq_getElem hkn]; simpa using h1, e5, e0, e1⟩
  ·exact ⟨_, _, rfl, by rw [List.getElem?_eq_none (by omega)]; simp, e5, e0, e1⟩
 rintro s' ⟨env, R2, rfl, hnk, e5, e0, e1⟩
 rw [if_neg hnk] at hI
 have hone : ∀ (ys : List Int), ∀ u ∈ ys.map (Value.int .i64), u.oneCell' = true := fun ys u hu => by obtain ⟨_, _, rfl⟩ := List.mem_map.1 hu; rfl
 rw [tCode_seq]
 refine cutT (fun s' => ∃ env, s' = ⟨env, [.row 3 1 (l.map (.int .i64)), .dead, .row 3 1 ((l.drop k).map (.int .i64))], R2⟩ ∧ env 6 = .sl 2 (l.length - k) ∧ env 5 = .val (.int .i64 k) ∧ env 0 = .sl 0 l.length ∧ env 1 = .val (.int .i64 x)) ?_ ?_
 ·try simp only [go_sem, ↓reduceIte, nQ1, nQ2, nQ3, nQ4, nQ5, nQ6, reduceCtorEq, e5, e0, e1]
  refine ⟨k, l.length, rfl, rfl, by omega, ⟨_, _, ⟨rfl, rfl⟩, by simp⟩, ?_⟩
  by_cases hk0 : k = 0
  ·rw [if_pos hk0]
   subst hk0
   try simp only [go_sem, ↓reduceIte, nQ1, nQ2, nQ3, nQ4, nQ5, nQ6, reduceCtorEq, e5, e0, e1]
   refine ⟨by simp, fun u hu => hone _ u hu, ?_⟩
   refine vappO [] rfl rfl (by omega) ?_
   try simp only [go_sem, ↓reduceIte, nQ1, nQ2, nQ3, nQ4, nQ5, nQ6, reduceCtorEq, e5, e0, e1]
   rw [List.take_of_length_le (by simp)]
   exact ⟨_, rfl, rfl, e5, e0, e1⟩
  ·rw [if_neg hk0]
   try simp only [go_sem, ↓reduceIte, nQ1, nQ2, nQ3, nQ4, nQ5, nQ6, reduceCtorEq, e5, e0, e1]
   refine ⟨by simp; omega, fun u hu => hone _ u hu, ?_⟩
   refine vappO [] rfl rfl (by omega) ?_
   try simp only [go_sem, ↓reduceIte, nQ1, nQ2, nQ3, nQ4, nQ5, nQ6, reduceCtorEq, e5, e0, e1]
   rw [← List.map_drop, List.take_of_length_le (by simp)]
   exact ⟨_, rfl, rfl, e5, e0, e1⟩
 rintro s' ⟨env, rfl, e6, e5, e0, e1⟩
 try simp only [go_sem, ↓reduceIte, nQ1, nQ2, nQ3, nQ4, nQ5, nQ6, reduceCtorEq, e6, e5, e0, e1]
 refine ⟨0, k, rfl, rfl, by omega, ⟨_, _, ⟨rfl, rfl⟩, by simp; omega⟩, ?_⟩
 try simp only [go_sem, ↓reduceIte, nQ1, nQ2, nQ3, nQ4, nQ5, nQ6, reduceCtorEq, e6, e5, e0, e1]
 refine vappP ((l.take k).map (.int .i64)) (l.map (.int .i64)) rfl (by rw [List.map_take]; exact List.take_prefix _ _) (by simp; omega) (by omega) ?_
 try simp only [go_sem, ↓reduceIte, nQ1, nQ2, nQ3, nQ4, nQ5, nQ6, reduceCtorEq, e6, e5, e0, e1]
 refine ⟨by simp, fun u hu => hone _ u hu, ?_⟩
 refine vappO _ rfl (by simp; omega) (by omega) ?_
 try simp only [go_sem, ↓reduceIte, nQ1, nQ2, nQ3, nQ4, nQ5, nQ6, reduceCtorEq, e6, e5, e0, e1]
 rw [hI]
 refine .inr ⟨_, _, ⟨rfl, rfl, rfl, rfl, rfl, ?_⟩, ?_⟩
 ·have ht : ((l.drop k).map (Value.int .i64)).take (l.length - k) = (l.drop k).map (Value.int .i64) := List.take_of_length_le (by simp)
  rw [ht]
  simp only [List.map_append, List.map_cons, List.append_assoc, List.cons_append, List.nil_append]
  rfl
 ·congr 1
  simp; omega
end Go.Proofs.YtojckjngjfgfdaaGreat
namespace Go.Proofs.YtojckjngjfgfdaaGreat
set_option linter.unusedSimpArgs false
set_option linter.unusedVariables false
open Go.Proofs.YtojckjngjfgfdaaGreat.Vc
/-! ### The reference's Merge -/
/-- The series of a day. -/
def tiR (s : Se) (rl : List Nd) (o : List De) (d : Int) : Ti := ⟨(onE d (s.on rl) o).rule, (onE d (s.on rl) o).minute, (onE d (s.on rl) o).length, (onE d (s.on rl) o).zone, s.gap, s.fold⟩
def refR (s : Se) (rl : List Nd) (ms : List Mv) (o : List De) : List Int → List Pa → List Pa
 | [], out => out
 | d :: r, out => if o.any (goneOn d) = true then addLast (newPart out d Ti.zero) [] else refR s rl ms o r (addLast (newPart out d (tiR s rl o d)) (mvRef ms o d))
def daysR (ms : List Mv) (o : List De) : List Int := (ms.map (·.day)).foldl insI ((o.map (·.day)).foldl insI [0])
theorem insI_len (l : List Int) (x : Int) : (insI l x).length ≤ l.length + 1 := by
 have h := congrArg List.length (List.takeWhile_append_dropWhile (p := fun y => decide (y < x)) (l := l))
 rw [List.length_append] at h
 unfold insI
 dsimp only
 rw [List.length_append]
 split
 ·omega
 ·rw [List.length_cons]; omega
theorem foldI_len : ∀ (xs l : List Int), (xs.foldl insI l).length ≤ l.length + xs.length
 | [], l => by simp
 | x :: xs, l => by
  have h1 := foldI_len xs (insI l x)
  have h2 := insI_len l x
  rw [List.foldl_cons, List.length_cons]; omega
theorem mvRef_len {ms : List Mv} (hp : ms.Pairwise fun a b => a.day ≠ b.day) (x : Int) (o : List De) : (mvRef ms o x).length ≤ 1 := by
 have h0 : ∀ (ms : List Mv), ms.Pairwise (fun a b => a.day ≠ b.day) → (ms.filter fun m => decide (m.day = x)).length ≤ 1 := by
  intro ms hp
  induction ms with
  | nil => simp
  | cons m r ih =>
   have h1 := List.pairwise_cons.1 hp
   rw [List.filter_cons]
   split
   ·rename_i hm
    have : r.filter (fun m => decide (m.day = x)) = [] := List.filter_eq_nil_iff.2 fun y hy => by
     have := h1.1 y hy
     simp only [decide_eq_true_eq] at hm ⊢
     omega
    rw [this]; simp
   ·exact ih h1.2
 unfold mvRef
 have hl := h0 ms hp
 generalize ms.filter (fun m => decide (m.day = x)) = l at hl ⊢
 induction o generalizing l with
 | nil => exact hl
 | cons d o ih =>
  rw [List.foldl_cons]
  refine ih _ ?_
  unfold mvStep
  (repeat' split) <;> simp [hl]
theorem mvSrc {R : RO} {a : Option Addr} {n c : Nat} {xs : List Mv} (h : EncV Mv.cells 5 R (.slice a n c) xs) {kk : List Value → Prop} {t : Tok kk} (hk : kk (rowM xs)) : SrcP R 5 a n kk t := by
 obtain ⟨a', cap, e, hc, hf⟩ := h.form
 simp only [Value.slice.injEq] at e
 obtain ⟨rfl, rfl, rfl⟩ := e
 refine vsrc (rowM xs) (by rw [rowM_len]) (fun u hu => ?_) (fun hne => ?_) hk
 ·obtain ⟨c, hc', hu'⟩ := List.mem_flatten.1 hu
  obtain ⟨m, _, rfl⟩ := List.mem_map.1 hc'
  simp only [Mv.cells, List.mem_cons, List.not_mem_nil, or_false] at hu'
  rcases hu' with rfl | rfl | rfl | rfl | rfl <;> rfl
 ·cases ha : a with
  | none =>
   exfalso
   cases xs with
   | nil => exact hne rfl
   | cons x r => obtain ⟨ad, e, _⟩ := hf 0 (by simp); rw [ha] at e; cases e
  | some ad =>
   refine ⟨ad, rfl, fun i u hi => ?_⟩
   obtain ⟨us, hus, hu⟩ := flat_get (k := 5) (fun us hus => by obtain ⟨m, _, rfl⟩ := List.mem_map.1 hus; rfl) (by omega) hi
   rw [List.getElem?_map] at hus
   obtain ⟨m, hm, rfl⟩ := Option.map_eq_some_iff.1 hus
   obtain ⟨hlt, rfl⟩ := List.getElem?_eq_some_iff.1 hm
   obtain ⟨ad', e, hR⟩ := hf _ hlt
   rw [ha] at e
   simp only [Option.some.injEq] at e
   subst e
   have := hR _ _ hu
   rw [add_add, Nat.mul_comm, Nat.div_add_mod] at this
   exact this
theorem onV_cases {R : RO} {r : Value} {s : Se} {rl : List Nd} {ms : List Mv} {o : List De} {x : Int} (h : OnV R r s rl ms o x) :
  ∃ (ok : Bool) (ti : Ti) (rv mvv : Value) (mvs : List Mv), r = .tuple #[.agg (Se.cells ⟨rv, ti.minute, ti.length, ti.zone, ti.gap, ti.fold, mvv⟩).toArray, .bool ok] ∧ RuleV R rv ti.rule ∧ EncV Mv.cells 5 R mvv mvs ∧ (mvs = [] ∨ mvs = mvRef ms o x) ∧
   ∀ l out, refR s rl ms o (x :: l) out = if ok = true then refR s rl ms o l (addLast (newPart out x ti) mvs) else addLast (newPart out x ti) mvs := by
 unfold OnV at h
 split at h
 ·rename_i hg
  refine ⟨false, Ti.zero, .slice none 0 0, .slice none 0 0, [], h, RuleV.nil _, EncV.nil _ _ _, .inl rfl, fun l out => ?_⟩
  rw [refR, if_pos hg, if_neg (by simp)]
 ·rename_i hg
  obtain ⟨rv, mv, rfl, hrv, hmv⟩ := h
  refine ⟨true, tiR s rl o x, rv, mv, _, rfl, hrv, hmv, .inr rfl, fun l out => ?_⟩
  rw [refR, if_neg hg, if_pos rfl]
theorem rowPq_app (ps qs : List Pq) : rowPq (ps ++ qs) = rowPq ps ++ rowPq qs := by simp [rowPq]
theorem rowPq_last (qs : List Pq) (y : Pq) (j : Nat) : (rowPq (qs ++ [y]))[qs.length * 8 + j]? = (y.cells)[j]? := by
 rw [rowPq_app, List.getElem?_append_right (by rw [rowPq_len]; omega), rowPq_len, show qs.length * 8 + j - qs.length * 8 = j by omega]
 simp [rowPq]
theorem rowPq_setLast (qs : List Pq) (y : Pq) (m : List Mv) (v : Value) : (rowPq (qs ++ [y])).set (qs.length * 8 + 1 + 6) v = rowPq (qs ++ [(⟨y.1.day, y.1.ti, m⟩, y.2.1, v)]) := by
 rw [show qs.length * 8 + 1 + 6 = qs.length * 8 + 7 by omega, rowPq_set _ _ (by simp) m v]
 congr 1
 simp
set_option maxHeartbeats 4000000 in
theorem rMerge (s : Se) (rl : List Nd) (ms : List Mv) (ds o : List De) (v : Value) (R : RO) (hr : RuleV R s.rule rl) (hm : EncV Mv.cells 5 R s.moves ms) (h : EdsV R v ds) (hc : Cons ds) (ho : allD ds = .ok o)
  (hsl : 1 ≤ s.length) (hmo : movesOK none ms = true) (hsz : ms.length + ds.length ≤ 60) : CallsR Tryz.prog 31 [.agg s.cells.toArray, v] R fun R' r => ∃ u, r = .tuple #[u, .int .i64 0] ∧ PartsV R' u (refR s rl ms o (daysR ms o) []) := by
 have hS := rAll ds o v
 have hRb := rRebase ds o v R h hc (by omega) ho
 have h0 := h
 obtain ⟨a0, cap0, rfl, _⟩ := h.form
 have hsr := hr.one
 have hval := allD_valid ho
 have hk : ∀ d ∈ o, 1 ≤ d.kind ∧ d.kind ≤ 5 := fun d hd => by have := valid_kind (hval d hd); omega
 have hpair := (movesOK_pair hmo).1
 have hpne : ms.Pairwise fun a b => a.day ≠ b.day := hpair.imp fun h => by omega
 have hO := rOn s rl ms o
 have hm0 := hm
 have hr0 := hr
 obtain ⟨sr, sm, sl, sz, sg, sf, smv⟩ := s
 dsimp only at hr hm hsr hO hsl hm0 hr0
 obtain ⟨ra0, rn0, rc0, rfl⟩ := hr.form
 obtain ⟨ma, mcap, rfl, hmc, hmf⟩ := hm.form
 simp only [Se.cells] at hO ⊢
 refine callsT mix Tryz.func31 comp31 (by simp [Tryz.ntmps31]) ?_; simp only [go_sem, ↓reduceIte, nQ1, nQ2, nQ3, nQ4, nQ5, nQ6, reduceCtorEq, vc31, rs31]
 refine vcall hRb ?_
 rintro R1 r hle1 ⟨u, w, rfl, hu, hw⟩
 obtain ⟨ua, ucap, rfl, _⟩ := hu.form
 obtain ⟨wa, wcap, rfl, _⟩ := hw.form
 try simp only [go_sem, ↓reduceIte, nQ1, nQ2, nQ3, nQ4, nQ5, nQ6, reduceCtorEq]
 refine ⟨fun hl => by omega, fun _ => ?_⟩
 obtain ⟨bs, hbs⟩ : ∃ bs : List Value, bs = [.slice ra0 rn0 rc0, .int .i64 sm, .int .i64 sl, .string sz, .int .i64 sg, .int .i64 sf, .slice ma ms.length mcap] := ⟨_, rfl⟩
 refine vcLoop Nat (fun i => [(7, .val (.int .i64 i)), (2, .loc 0 0), (1, .val (.slice a0 ds.length cap0))])
  (fun _ => [.box [.val (.slice ra0 rn0 rc0), .val (.int .i64 sm), .val (.int .i64 sl), .val (.string sz), .val (.int .i64 sg), .val (.int .i64 sf), .val (.slice ma ms.length mcap)]])
  (fun i _ => i ≤ ms.length) (fun i => ms.length - i) 0 ?_ ?_ ?_ ?_
 ·(try simp only [go_sem, ↓reduceIte, nQ1, nQ2, nQ3, nQ4, nQ5, nQ6, reduceCtorEq]) <;> (repeat' (first | rfl | trivial | constructor | (intro h; exact absurd rfl h)))
 ·try simp only [go_sem, ↓reduceIte, nQ1, nQ2, nQ3, nQ4, nQ5, nQ6, reduceCtorEq]
 ·exact Nat.zero_le _
 rintro i env R2 hle2 hE hi
 (simp only [go_sem] at hE; obtain ⟨e7, e2, e1⟩ := hE; simp only [go_sem, ↓reduceIte, nQ1, nQ2, nQ3, nQ4, nQ5, nQ6, reduceCtorEq, e7, e2, e1]; dsimp only at *)
 refine ⟨fun hlt => ?_, fun hge => ?_⟩
 ·have hlt' : i < ms.length := by omega
  obtain ⟨ad, had, hR⟩ := hmf i hlt'
  have hcl : ∀ j u, ((ms[i]).cells)[j]? = some u → R2 ((ad.add (i * 5)).add j) u := fun j u hj => hle2 _ _ (hle1 _ _ (hR j u hj))
  refine ⟨hlt, vat ad had ?_⟩
  try simp only [go_sem, ↓reduceIte, nQ1, nQ2, nQ3, nQ4, nQ5, nQ6, reduceCtorEq]
  refine vloadn (ms[i]).cells rfl hcl ?_
  simp only [go_sem, ↓reduceIte, nQ1, nQ2, nQ3, nQ4, nQ5, nQ6, reduceCtorEq, Mv.cells, e7, e2, e1]
  refine vcall (rValidMove ms[i] R2) ?_
  rintro R3 v hle3 rfl
  rw [movesOK_all hmo _ (List.getElem_mem hlt')]
  simp only [go_sem, ↓reduceIte, nQ1, nQ2, nQ3, nQ4, nQ5, nQ6, reduceCtorEq, e7, e2, e1]
  refine ⟨fun hpos => ?_, fun hz => ?_⟩
  ·obtain ⟨ad', had', hR'⟩ := hmf (i - 1) (by omega)
   have hti : ((i : Int) - 1).toNat = i - 1 := by omega
   refine ⟨_, W.in64 (by omega), by omega, by omega, ?_⟩
   rw [hti]
   refine vat ad' had' ?_
   try simp only [go_sem, ↓reduceIte, nQ1, nQ2, nQ3, nQ4, nQ5, nQ6, reduceCtorEq]
   refine vload _ (hle3 _ _ (hle2 _ _ (hle1 _ _ (hR' 0 _ rfl)))) ?_
   simp only [go_sem, ↓reduceIte, nQ1, nQ2, nQ3, nQ4, nQ5, nQ6, reduceCtorEq, e7, e2, e1]
   refine ⟨hlt, vat ad had ?_⟩
   try simp only [go_sem, ↓reduceIte, nQ1, nQ2, nQ3, nQ4, nQ5, nQ6, reduceCtorEq]
   refine vload _ (hle3 _ _ (hcl 0 _ rfl)) ?_
   simp only [go_sem, ↓reduceIte, nQ1, nQ2, nQ3, nQ4, nQ5, nQ6, reduceCtorEq, e7, e2, e1]
   have hlt2 := List.pairwise_iff_getElem.1 hpair (i - 1) i (by omega) hlt' (by omega)
   refine ⟨fun hge => by omega, fun _ => ?_⟩
   refine ⟨_, W.in64 (by omega), i + 1, by omega, by constructor, by omega⟩
  ·obtain rfl : i = 0 := by omega
   exact ⟨_, W.in64 (by omega), 1, by omega, by constructor, by omega⟩
 obtain rfl : i = ms.length := by omega
 refine vcall (hS R2 (h0.mono (RO.le_trans hle1 hle2)) hc (by omega) ho) ?_
 rintro R3 r hle3 ⟨u, rfl, hu⟩
 have hol := allD_len ho
 have hu0 := hu
 obtain ⟨a, cap, rfl, hcap, hf⟩ := PlOK.of hu
 have hle123 := RO.le_trans hle1 (RO.le_trans hle2 hle3)
 simp only [go_sem, ↓reduceIte, nQ1, nQ2, nQ3, nQ4, nQ5, nQ6, reduceCtorEq, e7, e2, e1]
 obtain ⟨D, hD⟩ : ∃ D : Nat → List Int, D = fun i => ((o.take i).map (·.day)).foldl insI [0] := ⟨_, rfl⟩
 have hD0 : D 0 = [0] := by rw [hD]; rfl
 have hDs : ∀ (i : Nat) (hi : i < o.length), D (i + 1) = insI (D i) (o[i]).day := fun i hi => by
  rw [hD]
  simp only [List.take_succ_eq_append_getElem hi, List.map_append, List.foldl_append]
  rfl
 have hDl : ∀ i, i ≤ o.length → (D i).length ≤ 100 := fun i hi => by
  have := foldI_len ((o.take i).map (·.day)) [0]
  rw [hD]
  simp only [List.length_map, List.length_take, List.length_cons, List.length_nil] at this ⊢
  omega
 refine vcLoopR Nat (fun i => [(12, .val (.int .i64 i)), (11, .sl 1 (D i).length), (9, .val (.slice a o.length cap)), (2, .loc 0 0)])
  (fun i => [.box [.val (.slice ra0 rn0 rc0), .val (.int .i64 sm), .val (.int .i64 sl), .val (.string sz), .val (.int .i64 sg), .val (.int .i64 sf), .val (.slice ma ms.length mcap)], .row 3 1 ((D i).map (.int .i64))])
  (fun i _ => i ≤ o.length) (fun i => o.length - i) 0 [] ?_ ?_ ?_ ?_
 ·rw [hD0]
  (try simp only [go_sem, ↓reduceIte, nQ1, nQ2, nQ3, nQ4, nQ5, nQ6, reduceCtorEq]) <;> (repeat' (first | rfl | trivial | constructor | (intro h; exact absurd rfl h)))
 ·try simp only [go_sem, ↓reduceIte, nQ1, nQ2, nQ3, nQ4, nQ5, nQ6, reduceCtorEq]
 ·exact Nat.zero_le _
 rintro i env R4 hle4 hE hi
 (simp only [go_sem] at hE; obtain ⟨e12, e11, e9, e2'⟩ := hE; simp only [go_sem, ↓reduceIte, nQ1, nQ2, nQ3, nQ4, nQ5, nQ6, reduceCtorEq, e12, e11, e9, e2']; dsimp only at *)
 refine ⟨fun hlt => ⟨hlt, ?_⟩, fun hge => ?_⟩
 ·have hlt' : i < o.length := by omega
  obtain ⟨ad, p, had, hp1, hR, hpok⟩ := hf i hlt'
  have hDn := hDs i hlt'
  rw [← hp1] at hDn
  refine vat ad had ?_
  try simp only [go_sem, ↓reduceIte, nQ1, nQ2, nQ3, nQ4, nQ5, nQ6, reduceCtorEq]
  refine vload _ (hle4 _ _ (hR 1 _ rfl)) ?_
  simp only [go_sem, ↓reduceIte, nQ1, nQ2, nQ3, nQ4, nQ5, nQ6, reduceCtorEq, e12, e11, e9, e2']
  refine vhand [1] [.sl 0 (D i).length, .val (.int .i64 p.1.day)] [.row 3 1 ((D i).map (.int .i64))] (rInsert (D i) p.1.day (by have := hDl i hi; omega) R4) rfl rfl rfl ?_ (by simp) rfl rfl ?_
  ·try simp only [go_sem, ↓reduceIte, nQ1, nQ2, nQ3, nQ4, nQ5, nQ6, reduceCtorEq]
  rintro R5 bs r hle5 hpost _
  rcases hpost with ⟨hs, rfl, rfl⟩ | ⟨b1, b2, rfl, rfl⟩
  ·simp only [go_sem, ↓reduceIte, nQ1, nQ2, nQ3, nQ4, nQ5, nQ6, reduceCtorEq, setG, rn, e12, e11, e9, e2']
   refine ⟨_, W.in64 (by omega), i + 1, [], ?_⟩
   rw [hDn, hs]
   try simp only [go_sem, ↓reduceIte, nQ1, nQ2, nQ3, nQ4, nQ5, nQ6, reduceCtorEq]
   exact ⟨by omega, ⟨rfl, rfl⟩, by decide, by omega⟩
  ·simp only [go_sem, ↓reduceIte, nQ1, nQ2, nQ3, nQ4, nQ5, nQ6, reduceCtorEq, setG, rn, e12, e11, e9, e2']
   refine ⟨_, W.in64 (by omega), i + 1, [0, 6], ?_⟩
   rw [hDn]
   try simp only [go_sem, ↓reduceIte, nQ1, nQ2, nQ3, nQ4, nQ5, nQ6, reduceCtorEq]
   exact ⟨by omega, ⟨⟨rfl, rfl⟩, rfl⟩, by decide, by omega⟩
 obtain rfl : i = o.length := by omega
 obtain ⟨D2, hD2⟩ : ∃ D2 : Nat → List Int, D2 = fun i => ((ms.take i).map (·.day)).foldl insI (D o.length) := ⟨_, rfl⟩
 have hD20 : D2 0 = D o.length := by rw [hD2]; rfl
 have hD2s : ∀ (i : Nat) (hi : i < ms.length), D2 (i + 1) = insI (D2 i) (ms[i]).day := fun i hi => by
  rw [hD2]
  simp only [List.take_succ_eq_append_getElem hi, List.map_append, List.foldl_append]
  rfl
 have hDn : (D o.length).length ≤ 1 + o.length := by
  have := foldI_len ((o.take o.length).map (·.day)) [0]
  rw [hD]
  simp only [List.length_map, List.length_take, List.length_cons, List.length_nil] at this ⊢
  omega
 have hD2l : ∀ i, i ≤ ms.length → (D2 i).length ≤ 1 + o.length + i := fun i hi => by
  have := foldI_len ((ms.take i).map (·.day)) (D o.length)
  rw [hD2]
  simp only [List.length_map, List.length_take] at this ⊢
  omega
 refine vcLoopR Nat (fun i => [(13, .val (.int .i64 i)), (11, .sl 1 (D2 i).length), (9, .val (.slice a o.length cap)), (2, .loc 0 0)])
  (fun i => [.box [.val (.slice ra0 rn0 rc0), .val (.int .i64 sm), .val (.int .i64 sl), .val (.string sz), .val (.int .i64 sg), .val (.int .i64 sf), .val (.slice ma ms.length mcap)], .row 3 1 ((D2 i).map (.int .i64))])
  (fun i _ => i ≤ ms.length) (fun i => ms.length - i) 0 [] ?_ ?_ ?_ ?_
 ·rw [hD20]
  (try simp only [go_sem, ↓reduceIte, nQ1, nQ2, nQ3, nQ4, nQ5, nQ6, reduceCtorEq]) <;> (repeat' (first | rfl | trivial | constructor | (intro h; exact absurd rfl h)))
 ·try simp only [go_sem, ↓reduceIte, nQ1, nQ2, nQ3, nQ4, nQ5, nQ6, reduceCtorEq]
 ·exact Nat.zero_le _
 rintro i env R5 hle5 hE hi
 (simp only [go_sem] at hE; obtain ⟨e13, e11', e9', e2''⟩ := hE; simp only [go_sem, ↓reduceIte, nQ1, nQ2, nQ3, nQ4, nQ5, nQ6, reduceCtorEq, e13, e11', e9', e2'']; dsimp only at *)
 refine ⟨fun hlt => ?_, fun hge => ?_⟩
 ·have hlt' : i < ms.length := by omega
  obtain ⟨ad, had, hR⟩ := hmf i hlt'
  have hcl : ∀ j u, ((ms[i]).cells)[j]? = some u → R5 ((ad.add (i * 5)).add j) u := fun j u hj => hle5 _ _ (hle4 _ _ (hle123 _ _ (hR j u hj)))
  have hDn2 := hD2s i hlt'
  refine ⟨hlt, vat ad had ?_⟩
  try simp only [go_sem, ↓reduceIte, nQ1, nQ2, nQ3, nQ4, nQ5, nQ6, reduceCtorEq]
  refine vload _ (hcl 0 _ rfl) ?_
  simp only [go_sem, ↓reduceIte, nQ1, nQ2, nQ3, nQ4, nQ5, nQ6, reduceCtorEq, e13, e11', e9', e2'']
  refine vhand [1] [.sl 0 (D2 i).length, .val (.int .i64 (ms[i]).day)] [.row 3 1 ((D2 i).map (.int .i64))] (rInsert (D2 i) (ms[i]).day (by have := hD2l i hi; omega) R5) rfl rfl rfl ?_ (by simp) rfl rfl ?_
  ·try simp only [go_sem, ↓reduceIte, nQ1, nQ2, nQ3, nQ4, nQ5, nQ6, reduceCtorEq]
  rintro R6 bs r hle6 hpost _
  rcases hpost with ⟨hs, rfl, rfl⟩ | ⟨b1, b2, rfl, rfl⟩
  ·simp only [go_sem, ↓reduceIte, nQ1, nQ2, nQ3, nQ4, nQ5, nQ6, reduceCtorEq, setG, rn, e13, e11', e9', e2'']
   refine ⟨_, W.in64 (by omega), i + 1, [], ?_⟩
   rw [hDn2, hs]
   try simp only [go_sem, ↓reduceIte, nQ1, nQ2, nQ3, nQ4, nQ5, nQ6, reduceCtorEq]
   exact ⟨by omega, ⟨rfl, rfl⟩, by decide, by omega⟩
  ·simp only [go_sem, ↓reduceIte, nQ1, nQ2, nQ3, nQ4, nQ5, nQ6, reduceCtorEq, setG, rn, e13, e11', e9', e2'']
   refine ⟨_, W.in64 (by omega), i + 1, [0, 6], ?_⟩
   rw [hDn2]
   try simp only [go_sem, ↓reduceIte, nQ1, nQ2, nQ3, nQ4, nQ5, nQ6, reduceCtorEq]
   exact ⟨by omega, ⟨⟨rfl, rfl⟩, rfl⟩, by decide, by omega⟩
 obtain rfl : i = ms.length := by omega
 have hdl := hD2l ms.length (Nat.le_refl _)
 obtain ⟨days, hdays⟩ : ∃ days, days = D2 ms.length := ⟨_, rfl⟩
 have hdr : days = daysR ms o := by
  rw [hdays, hD2, hD]
  simp only [List.take_length]
  rfl
 rw [← hdays] at e11' hdl
 rw [← hdr]
 clear hD2l hDn hD2s hD20 hD2 hD hD0 hDs hDl e11 e9 e2'
 have hle5' := RO.le_trans hle123 (RO.le_trans hle4 hle5)
 have hu5 := hu0.mono (RO.le_trans hle4 hle5)
 refine cutL (fun s' => ∃ env R6 blk j pqs, s' = ⟨env, blk, R6⟩ ∧ env 14 = .sl j pqs.length ∧ blk[j]? = some (.row 87 8 (rowPq pqs)) ∧ (∀ p ∈ pqs, Pq.OK R6 p ∧ p.1.moves.length ≤ 64) ∧ pqs.length ≤ 64 ∧ pqs.map (·.1) = refR ⟨.slice ra0 rn0 rc0, sm, sl, sz, sg, sf, .slice ma ms.length mcap⟩ rl ms o days []) ?_ ?_
 ·obtain ⟨F, hF⟩ : ∃ F, F = refR ⟨.slice ra0 rn0 rc0, sm, sl, sz, sg, sf, .slice ma ms.length mcap⟩ rl ms o := ⟨_, rfl⟩
  rw [← hF]
  refine vcLoopR (Nat × List Pq) (fun y => [(15, .val (.int .i64 y.1)), (11, .sl 1 days.length), (9, .val (.slice a o.length cap)), (2, .loc 0 0), (14, .sl 2 y.2.length)])
   (fun y => [.box [.val (.slice ra0 rn0 rc0), .val (.int .i64 sm), .val (.int .i64 sl), .val (.string sz), .val (.int .i64 sg), .val (.int .i64 sf), .val (.slice ma ms.length mcap)], .row 3 1 (days.map (.int .i64)), .row 87 8 (rowPq y.2)])
   (fun y R => y.1 ≤ days.length ∧ y.2.length ≤ y.1 ∧ (∀ p ∈ y.2, Pq.OK R p ∧ p.1.moves.length ≤ y.1) ∧ F (days.drop y.1) (y.2.map (·.1)) = F days []) (fun y => days.length - y.1) (0, []) [] ?_ ?_ ?_ ?_
  ·(try simp only [go_sem, ↓reduceIte, nQ1, nQ2, nQ3, nQ4, nQ5, nQ6, reduceCtorEq]) <;> (repeat' (first | rfl | trivial | constructor | (intro h; exact absurd rfl h)))
   rw [hdays]
  ·try simp only [go_sem, ↓reduceIte, nQ1, nQ2, nQ3, nQ4, nQ5, nQ6, reduceCtorEq]
  ·exact ⟨Nat.zero_le _, Nat.le_refl _, by simp, rfl⟩
  rintro ⟨i, pqs⟩ env R6 hle6 hE ⟨hi, hpl, hpo, hgo⟩
  (simp only [go_sem] at hE; obtain ⟨e15, e11, e9, e2, e14⟩ := hE; simp only [go_sem, ↓reduceIte, nQ1, nQ2, nQ3, nQ4, nQ5, nQ6, reduceCtorEq, e15, e11, e9, e2, e14]; dsimp only at *)
  refine ⟨fun hlt => ?_, fun hge => ?_⟩
  ·have hlt' : i < days.length := by omega
   have hdrop := List.drop_eq_getElem_cons hlt'
   rw [hdrop] at hgo
   have hle6' := RO.le_trans hle5' hle6
   refine ⟨hlt, .int .i64 days[i], by rw [List.getElem?_map, List.getElem?_eq_getElem hlt']; rfl, ?_⟩
   try simp only [go_sem, ↓reduceIte, nQ1, nQ2, nQ3, nQ4, nQ5, nQ6, reduceCtorEq, e15, e11, e9, e2, e14]
   refine vcall (hO _ days[i] R6 (hr0.mono hle6') (hm0.mono hle6') hpne (hu5.mono hle6) hk) ?_
   intro R7 r hle7 hr7
   obtain ⟨ok, ti, rv, mvv, mvs, rfl, hrv, hmv, hmvs, hgo2⟩ := onV_cases hr7
   rw [← hF] at hgo2
   rw [hgo2] at hgo
   have hml1 : mvs.length ≤ 1 := by
    rcases hmvs with rfl | rfl
    ·simp
    ·exact mvRef_len hpne _ _
   have hrv1 := hrv.one
   obtain ⟨rva, rvn, rvc, rfl⟩ := hrv.form
   obtain ⟨mva, mvcap, rfl, _⟩ := hmv.form
   simp only [Se.cells]
   (refine cutS (fun s' => s' = ?_) ?_ ?_; rotate_left; (try simp only [go_sem, ↓reduceIte, nQ1, nQ2, nQ3, nQ4, nQ5, nQ6, reduceCtorEq, e15, e11, e9, e2, e14]; rfl); rintro _ rfl)
   (refine cutR ?_ ?_ ?_; rotate_left; (try simp only [go_sem, ↓reduceIte, nQ1, nQ2, nQ3, nQ4, nQ5, nQ6, reduceCtorEq, e15, e11, e9, e2, e14]; rfl))
   (refine cutR ?_ ?_ ?_; rotate_left; (try simp only [go_sem, ↓reduceIte, nQ1, nQ2, nQ3, nQ4, nQ5, nQ6, reduceCtorEq, e15, e11, e9, e2, e14]; rfl))
   (refine cutR ?_ ?_ ?_; rotate_left; (try simp only [go_sem, ↓reduceIte, nQ1, nQ2, nQ3, nQ4, nQ5, nQ6, reduceCtorEq, e15, e11, e9, e2, e14]; rfl))
   rw [tCode_seq]
   refine cutT (fun s' => ∃ env R8 qs y, RO.le R7 R8 ∧ env 15 = .val (.int .i64 i) ∧ env 11 = .sl 1 days.length ∧ env 9 = .val (.slice a o.length cap) ∧ env 2 = .loc 0 0 ∧ env 17 = .val (.bool ok) ∧ env 18 = .val (.slice mva mvs.length mvcap) ∧
    (qs ++ [y]).map (·.1) = newPart (pqs.map (·.1)) days[i] ti ∧ qs.length ≤ i ∧ (∀ p ∈ qs ++ [y], Pq.OK R8 p ∧ p.1.moves.length ≤ i) ∧
    ((∃ b1 b2, s' = ⟨env, [.box [.val (.slice ra0 rn0 rc0), .val (.int .i64 sm), .val (.int .i64 sl), .val (.string sz), .val (.int .i64 sg), .val (.int .i64 sf), .val (.slice ma ms.length mcap)], .row 3 1 (days.map (.int .i64)), .dead, b1, b2, .row 87 8 (rowPq (qs ++ [y]))], R8⟩ ∧ env 14 = .sl 5 (qs.length + 1)) ∨ (∃ b1, s' = ⟨env, [.box [.val (.slice ra0 rn0 rc0), .val (.int .i64 sm), .val (.int .i64 sl), .val (.string sz), .val (.int .i64 sg), .val (.int .i64 sf), .val (.slice ma ms.length mcap)], .row 3 1 (days.map (.int .i64)), .row 87 8 (rowPq (qs ++ [y])), b1], R8⟩ ∧ env 14 = .sl 2 (qs.length + 1)))) ?_ ?_
   ·have hnew : ∀ R8, RO.le R7 R8 → ∀ p ∈ pqs ++ [((⟨days[i], ti, []⟩ : Pa), Value.slice rva rvn rvc, Value.slice none 0 0)], Pq.OK R8 p ∧ p.1.moves.length ≤ i := fun R8 hle8 p hp => by
     rcases List.mem_append.1 hp with hp | hp
     ·exact ⟨⟨(hpo p hp).1.1.mono (RO.le_trans hle7 hle8), (hpo p hp).1.2.mono (RO.le_trans hle7 hle8)⟩, (hpo p hp).2⟩
     ·simp only [List.mem_cons, List.not_mem_nil, or_false] at hp
      subst hp
      exact ⟨⟨hrv.mono hle8, EncV.nil _ _ _⟩, Nat.zero_le _⟩
    have hday : (days.map (Value.int .i64))[i]? = some (.int .i64 days[i]) := by rw [List.getElem?_map, List.getElem?_eq_getElem hlt']; rfl
    obtain ⟨nw, hnw⟩ : ∃ nw : Pq, nw = (⟨days[i], ti, []⟩, .slice rva rvn rvc, .slice none 0 0) := ⟨_, rfl⟩
    rw [← hnw] at hnew
    have hnr : rowPq pqs ++ [.int .i64 days[i], .slice rva rvn rvc, .int .i64 ti.minute, .int .i64 ti.length, .string ti.zone, .int .i64 ti.gap, .int .i64 ti.fold, .slice none 0 0] = rowPq (pqs ++ [nw]) := by rw [rowPq_app, hnw]; rfl
    have hnm : (pqs ++ [nw]).map (·.1) = pqs.map (·.1) ++ [⟨days[i], ti, []⟩] := by rw [List.map_append, hnw]; rfl
    try simp only [go_sem, ↓reduceIte, nQ1, nQ2, nQ3, nQ4, nQ5, nQ6, reduceCtorEq, e15, e11, e9, e2, e14]
    refine ⟨fun hz => ?_, fun hnz => ?_⟩
    ·refine ⟨hlt, _, hday, ?_⟩
     try simp only [go_sem, ↓reduceIte, nQ1, nQ2, nQ3, nQ4, nQ5, nQ6, reduceCtorEq, e15, e11, e9, e2, e14]
     refine vappO (rowPq pqs) rfl (by rw [rowPq_len]) (by omega) ?_
     try simp only [go_sem, ↓reduceIte, nQ1, nQ2, nQ3, nQ4, nQ5, nQ6, reduceCtorEq, e15, e11, e9, e2, e14]
     rw [hnr]
     refine ⟨_, R7, pqs, nw, RO.le_refl _, ?_, ?_, ?_, ?_, ?_, ?_, ?_, by omega, hnew R7 (RO.le_refl _), .inl ⟨_, _, rfl, ?_⟩⟩
     ·try simp only [go_sem, ↓reduceIte, nQ1, nQ2, nQ3, nQ4, nQ5, nQ6, reduceCtorEq, e15, e11, e9, e2, e14]
     ·try simp only [go_sem, ↓reduceIte, nQ1, nQ2, nQ3, nQ4, nQ5, nQ6, reduceCtorEq, e15, e11, e9, e2, e14]
     ·try simp only [go_sem, ↓reduceIte, nQ1, nQ2, nQ3, nQ4, nQ5, nQ6, reduceCtorEq, e15, e11, e9, e2, e14]
     ·try simp only [go_sem, ↓reduceIte, nQ1, nQ2, nQ3, nQ4, nQ5, nQ6, reduceCtorEq, e15, e11, e9, e2, e14]
     ·try simp only [go_sem, ↓reduceIte, nQ1, nQ2, nQ3, nQ4, nQ5, nQ6, reduceCtorEq, e15, e11, e9, e2, e14]
     ·try simp only [go_sem, ↓reduceIte, nQ1, nQ2, nQ3, nQ4, nQ5, nQ6, reduceCtorEq, e15, e11, e9, e2, e14]
     ·have : pqs = [] := List.eq_nil_of_length_eq_zero (by omega)
      rw [hnm, this]
      rfl
     ·try simp only [go_sem, ↓reduceIte, nQ1, nQ2, nQ3, nQ4, nQ5, nQ6, reduceCtorEq, e15, e11, e9, e2, e14]
    ·obtain ⟨qs, y, hps⟩ : ∃ qs y, pqs = qs ++ [y] := by
      rcases List.eq_nil_or_concat pqs with h | ⟨qs, y, h⟩
      ·exact absurd (by rw [h]; rfl) hnz
      ·exact ⟨qs, y, by rw [h, List.concat_eq_append]⟩
     have hpl2 : pqs.length = qs.length + 1 := by rw [hps]; simp
     have hidx : ((pqs.length : Int) - 1).toNat = qs.length := by omega
     have hcell : ∀ j, (rowPq pqs)[qs.length * 8 + j]? = (y.cells)[j]? := fun j => by rw [hps]; exact rowPq_last qs y j
     obtain ⟨hyq, hyl⟩ := hpo y (by rw [hps]; simp)
     obtain ⟨yp, yr, ym⟩ := y
     obtain ⟨yd, yt, yms⟩ := yp
     have hyr := (hyq.1).mono hle7
     obtain ⟨yra, yrn, yrc, rfl⟩ := hyq.1.form
     have hlast : (pqs.map (·.1)).getLast? = some (⟨yd, yt, yms⟩ : Pa) := by rw [hps, List.map_append]; simp
     refine ⟨_, W.in64 (by omega), ?_⟩
     rw [hidx]
     refine ⟨by omega, by omega, _, (hcell 1).trans rfl, _, (hcell 2).trans rfl, _, (hcell 3).trans rfl, _, (hcell 4).trans rfl, _, (hcell 5).trans rfl, _, (hcell 6).trans rfl, _, (hcell 7).trans rfl, ?_⟩
     refine vcall (eSameTimes ⟨.slice yra yrn yrc, yt.minute, yt.length, yt.zone, yt.gap, yt.fold, ym⟩ ⟨.slice rva rvn rvc, ti.minute, ti.length, ti.zone, ti.gap, ti.fold, .slice none 0 0⟩ yt.rule ti.rule R7 hyr hrv) ?_
     intro R8 v hle8 hv8
     obtain rfl : v = .bool (decide (yt = ti)) := hv8
     try simp only [go_sem, ↓reduceIte, nQ1, nQ2, nQ3, nQ4, nQ5, nQ6, reduceCtorEq, e15, e11, e9, e2, e14]
     refine ⟨fun hne => ?_, fun heq => ?_⟩
     ·refine ⟨hlt, _, hday, ?_⟩
      try simp only [go_sem, ↓reduceIte, nQ1, nQ2, nQ3, nQ4, nQ5, nQ6, reduceCtorEq, e15, e11, e9, e2, e14]
      refine vappO (rowPq pqs) rfl (by rw [rowPq_len]) (by omega) ?_
      try simp only [go_sem, ↓reduceIte, nQ1, nQ2, nQ3, nQ4, nQ5, nQ6, reduceCtorEq, e15, e11, e9, e2, e14]
      rw [hnr]
      refine ⟨_, R8, pqs, nw, hle8, ?_, ?_, ?_, ?_, ?_, ?_, ?_, by omega, hnew R8 hle8, .inl ⟨_, _, rfl, ?_⟩⟩
      ·try simp only [go_sem, ↓reduceIte, nQ1, nQ2, nQ3, nQ4, nQ5, nQ6, reduceCtorEq, e15, e11, e9, e2, e14]
      ·try simp only [go_sem, ↓reduceIte, nQ1, nQ2, nQ3, nQ4, nQ5, nQ6, reduceCtorEq, e15, e11, e9, e2, e14]
      ·try simp only [go_sem, ↓reduceIte, nQ1, nQ2, nQ3, nQ4, nQ5, nQ6, reduceCtorEq, e15, e11, e9, e2, e14]
      ·try simp only [go_sem, ↓reduceIte, nQ1, nQ2, nQ3, nQ4, nQ5, nQ6, reduceCtorEq, e15, e11, e9, e2, e14]
      ·try simp only [go_sem, ↓reduceIte, nQ1, nQ2, nQ3, nQ4, nQ5, nQ6, reduceCtorEq, e15, e11, e9, e2, e14]
      ·try simp only [go_sem, ↓reduceIte, nQ1, nQ2, nQ3, nQ4, nQ5, nQ6, reduceCtorEq, e15, e11, e9, e2, e14]
      ·rw [hnm]
       unfold newPart
       rw [hlast]
       dsimp only
       rw [if_neg hne]
      ·try simp only [go_sem, ↓reduceIte, nQ1, nQ2, nQ3, nQ4, nQ5, nQ6, reduceCtorEq, e15, e11, e9, e2, e14]
     ·refine ⟨_, R8, qs, (⟨yd, yt, yms⟩, .slice yra yrn yrc, ym), hle8, ?_, ?_, ?_, ?_, ?_, ?_, ?_, by omega, fun p hp => ?_, .inr ⟨_, by rw [← hps], ?_⟩⟩
      ·try simp only [go_sem, ↓reduceIte, nQ1, nQ2, nQ3, nQ4, nQ5, nQ6, reduceCtorEq, e15, e11, e9, e2, e14]
      ·try simp only [go_sem, ↓reduceIte, nQ1, nQ2, nQ3, nQ4, nQ5, nQ6, reduceCtorEq, e15, e11, e9, e2, e14]
      ·try simp only [go_sem, ↓reduceIte, nQ1, nQ2, nQ3, nQ4, nQ5, nQ6, reduceCtorEq, e15, e11, e9, e2, e14]
      ·try simp only [go_sem, ↓reduceIte, nQ1, nQ2, nQ3, nQ4, nQ5, nQ6, reduceCtorEq, e15, e11, e9, e2, e14]
      ·try simp only [go_sem, ↓reduceIte, nQ1, nQ2, nQ3, nQ4, nQ5, nQ6, reduceCtorEq, e15, e11, e9, e2, e14]
      ·try simp only [go_sem, ↓reduceIte, nQ1, nQ2, nQ3, nQ4, nQ5, nQ6, reduceCtorEq, e15, e11, e9, e2, e14]
      ·rw [← hps]
       unfold newPart
       rw [hlast]
       dsimp only
       rw [if_pos heq]
      ·rw [← hps] at hp
       exact ⟨⟨(hpo p hp).1.1.mono (RO.le_trans hle7 hle8), (hpo p hp).1.2.mono (RO.le_trans hle7 hle8)⟩, (hpo p hp).2⟩
      ·try simp only [go_sem, ↓reduceIte, nQ1, nQ2, nQ3, nQ4, nQ5, nQ6, reduceCtorEq, e15, e11, e9, e2, e14]
       rw [hpl2]
   rintro s' ⟨env, R8, qs, y, hle8, f15, f11, f9, f2, f17, f18, hnp, hql, hqo, hst⟩
   rcases hst with ⟨b1, b2, rfl, f14⟩ | ⟨b1, rfl, f14⟩
   ·have hcell : (rowPq (qs ++ [y]))[qs.length * 8 + 7]? = some y.2.2 := rowPq_last qs y 7
    have hidx : (((qs.length + 1 : Nat) : Int) - 1).toNat = qs.length := by omega
    obtain ⟨hyq, hyl⟩ := hqo y (by simp)
    obtain ⟨ya, ycap, hye, _⟩ := hyq.2.form
    rw [hye] at hcell
    have hyv := hyq.2
    rw [hye] at hyv
    try simp only [go_sem, ↓reduceIte, nQ1, nQ2, nQ3, nQ4, nQ5, nQ6, reduceCtorEq, f15, f11, f9, f2, f17, f18, f14]
    refine ⟨_, W.in64 (by omega), ?_⟩
    rw [hidx]
    refine ⟨by omega, by omega, _, hcell, ?_⟩
    try simp only [go_sem, ↓reduceIte, nQ1, nQ2, nQ3, nQ4, nQ5, nQ6, reduceCtorEq, f15, f11, f9, f2, f17, f18, f14]
    refine mvSrc hyv ?_
    try simp only [go_sem, ↓reduceIte, nQ1, nQ2, nQ3, nQ4, nQ5, nQ6, reduceCtorEq, f15, f11, f9, f2, f17, f18, f14]
    refine vappO [] rfl rfl (by omega) ?_
    try simp only [go_sem, ↓reduceIte, nQ1, nQ2, nQ3, nQ4, nQ5, nQ6, reduceCtorEq, f15, f11, f9, f2, f17, f18, f14]
    refine ⟨_, W.in64 (by omega), ?_⟩
    refine mvSrc (hmv.mono hle8) ?_
    try simp only [go_sem, ↓reduceIte, nQ1, nQ2, nQ3, nQ4, nQ5, nQ6, reduceCtorEq, f15, f11, f9, f2, f17, f18, f14]
    refine vappO _ rfl (by rw [rowM_len]) (by omega) ?_
    try simp only [go_sem, ↓reduceIte, nQ1, nQ2, nQ3, nQ4, nQ5, nQ6, reduceCtorEq, f15, f11, f9, f2, f17, f18, f14]
    rw [hidx]
    refine ⟨by omega, by omega, ?_⟩
    intro b cap' R9 hle9 hrow hcap' hfr
    have hE : EncV Mv.cells 5 R9 (.slice (some ⟨b, 0, none⟩) (y.1.moves.length + mvs.length) cap') (y.1.moves ++ mvs) := by
     have h1 := RowIn.enc (enc := Mv.cells) (k := 5) (xs := y.1.moves ++ mvs) (R := R9) (b := b) (cap := cap') (fun _ => rfl) (by omega) (by rw [List.map_append, List.flatten_append]; exact hrow) (by rw [List.map_append, List.flatten_append, List.length_append]; exact hcap') (by rw [List.length_append]; omega)
     rw [List.length_append] at h1
     exact h1
    have hset := rowPq_setLast qs y (y.1.moves ++ mvs) (.slice (some ⟨b, 0, none⟩) (y.1.moves.length + mvs.length) cap')
    obtain ⟨y3, hy3⟩ : ∃ y3 : Pq, y3 = (⟨y.1.day, y.1.ti, y.1.moves ++ mvs⟩, y.2.1, .slice (some ⟨b, 0, none⟩) (y.1.moves.length + mvs.length) cap') := ⟨_, rfl⟩
    rw [← hy3] at hset
    rw [hset]
    have hadd : addLast (newPart (pqs.map (·.1)) days[i] ti) mvs = (qs ++ [y3]).map (·.1) := by
     rw [← hnp, List.map_append, List.map_append, List.map_cons, List.map_nil, addLast_snoc, hy3]
     rfl
    have hok3 : ∀ p ∈ qs ++ [y3], Pq.OK R9 p ∧ p.1.moves.length ≤ i + 1 := fun p hp => by
     rcases List.mem_append.1 hp with hp | hp
     ·have h1 := hqo p (by simp [hp])
      exact ⟨⟨h1.1.1.mono hle9, h1.1.2.mono hle9⟩, by omega⟩
     ·simp only [List.mem_cons, List.not_mem_nil, or_false] at hp
      subst hp
      rw [hy3]
      exact ⟨⟨hyq.1.mono hle9, hE⟩, by simp; omega⟩
    have hl3 : (qs ++ [y3]).length = qs.length + 1 := by simp
    rw [hadd] at hgo
    refine ⟨by rw [rowPq_len, List.length_append]; simp; omega, fun hok => ?_, fun hok => ?_⟩
    ·rw [hok, if_neg (by simp)] at hgo
     refine ⟨_, R9, _, 5, qs ++ [y3], rfl, ?_, rfl, fun p hp => ⟨(hok3 p hp).1, by have := (hok3 p hp).2; omega⟩, by omega, hgo⟩
     try simp only [go_sem, ↓reduceIte, nQ1, nQ2, nQ3, nQ4, nQ5, nQ6, reduceCtorEq, f15, f11, f9, f2, f17, f18, f14, hl3]
    ·rw [hok, if_pos rfl] at hgo
     refine ⟨_, W.in64 (by omega), (i + 1, qs ++ [y3]), [0, 1, 5], ?_⟩
     try simp only [go_sem, ↓reduceIte, nQ1, nQ2, nQ3, nQ4, nQ5, nQ6, reduceCtorEq, f15, f11, f9, f2, f17, f18, f14]
     exact ⟨by omega, rfl, by decide, by omega, by omega, hok3, hgo⟩
   ·have hcell : (rowPq (qs ++ [y]))[qs.length * 8 + 7]? = some y.2.2 := rowPq_last qs y 7
    have hidx : (((qs.length + 1 : Nat) : Int) - 1).toNat = qs.length := by omega
    obtain ⟨hyq, hyl⟩ := hqo y (by simp)
    obtain ⟨ya, ycap, hye, _⟩ := hyq.2.form
    rw [hye] at hcell
    have hyv := hyq.2
    rw [hye] at hyv
    try simp only [go_sem, ↓reduceIte, nQ1, nQ2, nQ3, nQ4, nQ5, nQ6, reduceCtorEq, f15, f11, f9, f2, f17, f18, f14]
    refine ⟨_, W.in64 (by omega), ?_⟩
    rw [hidx]
    refine ⟨by omega, by omega, _, hcell, ?_⟩
    try simp only [go_sem, ↓reduceIte, nQ1, nQ2, nQ3, nQ4, nQ5, nQ6, reduceCtorEq, f15, f11, f9, f2, f17, f18, f14]
    refine mvSrc hyv ?_
    try simp only [go_sem, ↓reduceIte, nQ1, nQ2, nQ3, nQ4, nQ5, nQ6, reduceCtorEq, f15, f11, f9, f2, f17, f18, f14]
    refine vappO [] rfl rfl (by omega) ?_
    try simp only [go_sem, ↓reduceIte, nQ1, nQ2, nQ3, nQ4, nQ5, nQ6, reduceCtorEq, f15, f11, f9, f2, f17, f18, f14]
    refine ⟨_, W.in64 (by omega), ?_⟩
    refine mvSrc (hmv.mono hle8) ?_
    try simp only [go_sem, ↓reduceIte, nQ1, nQ2, nQ3, nQ4, nQ5, nQ6, reduceCtorEq, f15, f11, f9, f2, f17, f18, f14]
    refine vappO _ rfl (by rw [rowM_len]) (by omega) ?_
    try simp only [go_sem, ↓reduceIte, nQ1, nQ2, nQ3, nQ4, nQ5, nQ6, reduceCtorEq, f15, f11, f9, f2, f17, f18, f14]
    rw [hidx]
    refine ⟨by omega, by omega, ?_⟩
    intro b cap' R9 hle9 hrow hcap' hfr
    have hE : EncV Mv.cells 5 R9 (.slice (some ⟨b, 0, none⟩) (y.1.moves.length + mvs.length) cap') (y.1.moves ++ mvs) := by
     have h1 := RowIn.enc (enc := Mv.cells) (k := 5) (xs := y.1.moves ++ mvs) (R := R9) (b := b) (cap := cap') (fun _ => rfl) (by omega) (by rw [List.map_append, List.flatten_append]; exact hrow) (by rw [List.map_append, List.flatten_append, List.length_append]; exact hcap') (by rw [List.length_append]; omega)
     rw [List.length_append] at h1
     exact h1
    have hset := rowPq_setLast qs y (y.1.moves ++ mvs) (.slice (some ⟨b, 0, none⟩) (y.1.moves.length + mvs.length) cap')
    obtain ⟨y3, hy3⟩ : ∃ y3 : Pq, y3 = (⟨y.1.day, y.1.ti, y.1.moves ++ mvs⟩, y.2.1, .slice (some ⟨b, 0, none⟩) (y.1.moves.length + mvs.length) cap') := ⟨_, rfl⟩
    rw [← hy3] at hset
    rw [hset]
    have hadd : addLast (newPart (pqs.map (·.1)) days[i] ti) mvs = (qs ++ [y3]).map (·.1) := by
     rw [← hnp, List.map_append, List.map_append, List.map_cons, List.map_nil, addLast_snoc, hy3]
     rfl
    have hok3 : ∀ p ∈ qs ++ [y3], Pq.OK R9 p ∧ p.1.moves.length ≤ i + 1 := fun p hp => by
     rcases List.mem_append.1 hp with hp | hp
     ·have h1 := hqo p (by simp [hp])
      exact ⟨⟨h1.1.1.mono hle9, h1.1.2.mono hle9⟩, by omega⟩
     ·simp only [List.mem_cons, List.not_mem_nil, or_false] at hp
      subst hp
      rw [hy3]
      exact ⟨⟨hyq.1.mono hle9, hE⟩, by simp; omega⟩
    have hl3 : (qs ++ [y3]).length = qs.length + 1 := by simp
    rw [hadd] at hgo
    refine ⟨by rw [rowPq_len, List.length_append]; simp; omega, fun hok => ?_, fun hok => ?_⟩
    ·rw [hok, if_neg (by simp)] at hgo
     refine ⟨_, R9, _, 2, qs ++ [y3], rfl, ?_, rfl, fun p hp => ⟨(hok3 p hp).1, by have := (hok3 p hp).2; omega⟩, by omega, hgo⟩
     try simp only [go_sem, ↓reduceIte, nQ1, nQ2, nQ3, nQ4, nQ5, nQ6, reduceCtorEq, f15, f11, f9, f2, f17, f18, f14, hl3]
    ·rw [hok, if_pos rfl] at hgo
     refine ⟨_, W.in64 (by omega), (i + 1, qs ++ [y3]), [0, 1, 2], ?_⟩
     try simp only [go_sem, ↓reduceIte, nQ1, nQ2, nQ3, nQ4, nQ5, nQ6, reduceCtorEq, f15, f11, f9, f2, f17, f18, f14]
     exact ⟨by omega, rfl, by decide, by omega, by omega, hok3, hgo⟩
  ·obtain rfl : i = days.length := by omega
   refine ⟨_, _, _, 2, pqs, rfl, by try simp only [go_sem, ↓reduceIte, nQ1, nQ2, nQ3, nQ4, nQ5, nQ6, reduceCtorEq, e14], rfl, fun p hp => ⟨(hpo p hp).1, by have := (hpo p hp).2; omega⟩, by omega, ?_⟩
   rw [← hgo, List.drop_length, hF]
   rfl
 rintro s' ⟨env, R6, blk, j, pqs, rfl, e14, hbj, hpo, hpl, hgo⟩
 try simp only [go_sem, ↓reduceIte, nQ1, nQ2, nQ3, nQ4, nQ5, nQ6, reduceCtorEq, e14]
 refine ⟨fun h => by omega, fun _ => ?_⟩
 refine vcLoopR Nat (fun i => [(21, .val (.int .i64 i)), (14, .sl 0 pqs.length)]) (fun _ => [.row 87 8 (rowPq pqs)]) (fun i _ => i ≤ pqs.length) (fun i => pqs.length - i) 0 [j] ?_ ?_ ?_ ?_
 ·(try simp only [go_sem, ↓reduceIte, nQ1, nQ2, nQ3, nQ4, nQ5, nQ6, reduceCtorEq]) <;> (repeat' (first | rfl | trivial | constructor | (intro h; exact absurd rfl h)))
  all_goals first | exact e14 | exact hbj
 ·rfl
 ·exact Nat.zero_le _
 rintro i env R7 hle7 hE hi
 (simp only [go_sem] at hE; obtain ⟨e21, e14⟩ := hE; simp only [go_sem, ↓reduceIte, nQ1, nQ2, nQ3, nQ4, nQ5, nQ6, reduceCtorEq, e21, e14]; dsimp only at *)
 refine ⟨fun hlt => ?_, fun hge => ?_⟩
 ·have hlt' : i < pqs.length := by omega
  have hcell : (rowPq pqs)[i * 8 + 7]? = some (pqs[i]).2.2 := rowPq_get pqs i 7 hlt' (by omega)
  obtain ⟨hq, hql⟩ := hpo _ (List.getElem_mem hlt')
  obtain ⟨ya, ycap, hye, _⟩ := hq.2.form
  rw [hye] at hcell
  refine ⟨hlt, _, hcell, ?_⟩
  simp only [go_sem, ↓reduceIte, nQ1, nQ2, nQ3, nQ4, nQ5, nQ6, reduceCtorEq, e21, e14]
  refine ⟨fun h => by omega, fun _ => ?_⟩
  refine ⟨_, W.in64 (by omega), i + 1, [], ?_⟩
  try simp only [go_sem, ↓reduceIte, nQ1, nQ2, nQ3, nQ4, nQ5, nQ6, reduceCtorEq]
  exact ⟨by omega, rfl, rfl, by omega⟩
 intro b cap1 R8 hle8 hrow hcap1 hfr
 have hsl := RowIn.slK hrow (rowPq_cl pqs) (by omega) hcap1
 rw [List.length_map] at hsl
 refine ⟨_, rfl, _, hsl, by rw [List.length_map, ← hgo, List.length_map], fun i c p hc hp => ?_, by rw [← hgo, List.length_map]; omega⟩
 rw [List.getElem?_map] at hc
 obtain ⟨q, hq, rfl⟩ := Option.map_eq_some_iff.1 hc
 rw [← hgo, List.getElem?_map, hq] at hp
 simp only [Option.map_some, Option.some.injEq] at hp
 subst hp
 have h1 := (hpo q (List.mem_of_getElem? hq)).1
 exact ⟨q.2.1, q.2.2, rfl, h1.1.mono (RO.le_trans hle7 hle8), h1.2.mono (RO.le_trans hle7 hle8)⟩
end Go.Proofs.YtojckjngjfgfdaaGreat
namespace Go.Proofs.YtojckjngjfgfdaaGreat
set_option linter.unusedSimpArgs false
set_option linter.unusedVariables false
open Go.Proofs.YtojckjngjfgfdaaGreat.Vc
/-! ### The reference's parts are ours: plain -/
theorem gone_iff {o : List De} (hs : SortedD o) {d : Int} (hd : d ≤ 1099511627776) : o.any (goneOn d) = true ↔ endE (forceD o) ≤ d := by
 rw [List.any_eq_true]
 constructor
 ·rintro ⟨w, hw, hg⟩
  simp only [goneOn, Bool.and_eq_true, decide_eq_true_eq] at hg
  have := endE_le hs hw hg.1
  omega
 ·intro h
  rcases end_cases (o := o) with h1 | ⟨w, hw, hk, hwd⟩
  ·omega
  ·exact ⟨w, (mem_forceD.1 hw).1, by simp [goneOn, hk]; omega⟩
theorem refR_go (s : Se) (rl : List Nd) (ms : List Mv) {o : List De} (hs : SortedD o) (hv : ∀ d ∈ o, validD d = true) (hm : movesOK none ms = true) : ∀ (l : List Int) (out : List Pa), (∀ d ∈ l, d ≤ 1099511627776) →
  refR s rl ms o l out = refGo (endE (forceD o)) (tiOn s rl (forceD o)) (fun d => (movesD ms (forceD o) (endE (forceD o))).filter fun m => decide (m.day = d)) l out
 | [], _, _ => rfl
 | d :: l, out, h => by
  have hd := h d (by simp)
  have ih := fun out => refR_go s rl ms hs hv hm l out fun x hx => h x (by simp [hx])
  by_cases hg : endE (forceD o) ≤ d
  ·rw [refR, if_pos ((gone_iff hs hd).2 hg), refGo, if_pos hg]
  ·rw [refR, if_neg (fun e => hg ((gone_iff hs hd).1 e)), refGo, if_neg hg, ih, mvRef_day hs hv hm (by omega)]
   have : tiR s rl o d = tiOn s rl (forceD o) d := by
    unfold tiR tiOn
    rw [onE_force hs hv d _ (by omega)]
   rw [this]
theorem refR_merge (s : Se) (rl : List Nd) (ms : List Mv) {o : List De} (hs : SortedD o) (hv : ∀ d ∈ o, validD d = true) (hm : movesOK none ms = true) (hl : 1 ≤ s.length) : refR s rl ms o (daysR ms o) [] = mergeP s rl ms o := by
 have hinc0 : Inc [(0 : Int)] := List.pairwise_singleton _ _
 obtain ⟨h1, h2⟩ := insDays (o.map (·.day)) [0] hinc0
 obtain ⟨h3, h4⟩ := insDays (ms.map (·.day)) _ h1
 have hmem : ∀ x, x ∈ daysR ms o ↔ x = 0 ∨ (∃ d ∈ o, d.day = x) ∨ ∃ m ∈ ms, m.day = x := fun x => by
  unfold daysR
  rw [h4, h2]
  simp [or_assoc]
 have hmv := movesOK_all hm
 have hb : ∀ d ∈ daysR ms o, 0 ≤ d ∧ d ≤ 1099511627776 := fun d hd => by
  rcases (hmem d).1 hd with rfl | ⟨x, hx, rfl⟩ | ⟨m, hm', rfl⟩
  ·omega
  ·exact valid_day (hv x hx)
  ·have := hmv m hm'
   unfold moveOK betw at this
   simp only [Bool.and_eq_true, decide_eq_true_eq] at this
   exact this.1
 have h0 : ∃ r, daysR ms o = 0 :: r := by
  have h5 : (0 : Int) ∈ daysR ms o := (hmem 0).2 (.inl rfl)
  cases hd : daysR ms o with
  | nil => rw [hd] at h5; simp at h5
  | cons x r =>
   have hx := hb x (by rw [hd]; simp)
   rw [hd] at h5
   have h6 : Inc (x :: r) := by rw [← hd]; exact h3
   rcases List.mem_cons.1 h5 with rfl | h5
   ·exact ⟨r, rfl⟩
   ·have := (List.pairwise_cons.1 h6).1 0 h5; omega
 rw [refR_go s rl ms hs hv hm _ _ fun d hd => (hb d hd).2]
 exact ref_merge hs hv hm hl h3 h0 hb (fun q hq => (hmem _).2 (.inr (.inl ⟨q, hq, rfl⟩))) (fun m hm' => (hmem _).2 (.inr (.inr ⟨m, hm', rfl⟩)))
end Go.Proofs.YtojckjngjfgfdaaGreat
namespace Go.Proofs.YtojckjngjfgfdaaGreat
set_option linter.unusedSimpArgs false
set_option linter.unusedVariables false
open Go.Proofs.YtojckjngjfgfdaaGreat.Vc
/-! ### The law DevicePlaysMatchReference -/
set_option maxHeartbeats 16000000 in
theorem lPlays (R : RO) (os : List Opn) (v : Value) (h : OpC R v os) (minute : Int) (es : List Ed) (mv : Value) (hmv : EdC R mv es) (hl : es.length ≤ 1099511627776) : CallsR Tryz.prog 4 [v, .int .i64 minute, mv] R fun _ v => v = .bool true := by
 have hP := fun R' hle => ePlayed os v R' (OpC.mono (R' := R') h hle)
 have hQ := fun R' hle => rMade os v R' (OpC.mono (R' := R') h hle)
 have hMs := fun R' hle => eMadeSeries minute es mv R' (EdC.mono (R' := R') hmv hle) hl
 obtain ⟨a, cap, rfl, hc, _⟩ := h.form
 obtain ⟨b, bcap, rfl, hbc, _⟩ := hmv.form
 refine callsT mix Tryz.func4 comp4 (by simp [Tryz.ntmps4]) ?_; simp only [go_sem, ↓reduceIte, nQ1, nQ2, nQ3, nQ4, nQ5, nQ6, reduceCtorEq, vc4, rs4]
 refine vcall (dSanity R) ?_
 rintro R1 v hle1 rfl
 try simp only [go_sem, ↓reduceIte, nQ1, nQ2, nQ3, nQ4, nQ5, nQ6, reduceCtorEq]
 obtain ⟨n, M, hn, hI⟩ := inv_play os
 obtain ⟨w, hw'⟩ : ∃ w, w = playW os := ⟨_, rfl⟩
 rw [← hw'] at hP hQ hI
 refine vcall (hP R1 hle1) ?_
 rintro R2 u hle2 ⟨x0, x1, x2, y0, y1, y2, rfl, h0, h1, h2, h3, h4, h5⟩
 obtain ⟨a0, c0, rfl, _⟩ := h0.form
 obtain ⟨a1, c1, rfl, _⟩ := h1.form
 obtain ⟨a2, c2, rfl, _⟩ := h2.form
 obtain ⟨a3, c3, rfl, _⟩ := h3.form
 obtain ⟨a4, c4, rfl, _⟩ := h4.form
 obtain ⟨a5, c5, rfl, _⟩ := h5.form
 simp only [wdCells]
 try simp only [go_sem, ↓reduceIte, nQ1, nQ2, nQ3, nQ4, nQ5, nQ6, reduceCtorEq]
 refine vcall (hQ R2 (RO.le_trans hle1 hle2)) ?_
 rintro R3 u hle3 ⟨x0, x1, x2, y0, y1, y2, rfl, g0, g1, g2, g3, g4, g5⟩
 obtain ⟨b0, f0, rfl, _⟩ := g0.form
 obtain ⟨b1, f1, rfl, _⟩ := g1.form
 obtain ⟨b2, f2, rfl, _⟩ := g2.form
 obtain ⟨b3, f3, rfl, _⟩ := g3.form
 obtain ⟨b4, f4, rfl, _⟩ := g4.form
 obtain ⟨b5, f5, rfl, _⟩ := g5.form
 have hms := movesOf_ok es
 have hml := movesOf_len es
 obtain ⟨ms, hmse⟩ : ∃ ms, ms = movesOf es := ⟨_, rfl⟩
 rw [← hmse] at hMs hms hml
 simp only [wdCells]
 try simp only [go_sem, ↓reduceIte, nQ1, nQ2, nQ3, nQ4, nQ5, nQ6, reduceCtorEq]
 refine vcall (hMs R3 (RO.le_trans hle1 (RO.le_trans hle2 hle3))) ?_
 rintro R4 u hle4 ⟨rv, mv', rfl, hrv, hmv'⟩
 obtain ⟨ra, rn, rc, rfl⟩ := hrv.form
 obtain ⟨ma, mcap, rfl, _⟩ := hmv'.form
 obtain ⟨S, hS⟩ : ∃ S : Se, S = ⟨.slice ra rn rc, minute % 3, 1, zA, 0, 0, .slice ma ms.length mcap⟩ := ⟨_, rfl⟩
 have hSc : S.cells = [.slice ra rn rc, .int .i64 (minute % 3), .int .i64 1, .string zA, .int .i64 0, .int .i64 0, .slice ma ms.length mcap] := by rw [hS]; rfl
 have hSr : S.rule = .slice ra rn rc := by rw [hS]
 have hSm : S.moves = .slice ma ms.length mcap := by rw [hS]
 have hSl : S.length = 1 := by rw [hS]
 simp only [Se.cells]
 try simp only [go_sem, ↓reduceIte, nQ1, nQ2, nQ3, nQ4, nQ5, nQ6, reduceCtorEq, iQ1, iQ2, iQ3, iQ4, iQ5, iQ6]
 refine vcLoop Nat (fun i => [(11, .val (.int .i64 i)), (8, .loc 0 0), (9, .loc 1 0), (10, .loc 2 0), (7, .val (.bool true))]) (fun _ => [.box (boxc (wdCells w (.slice a0 w.n0.edits.length c0) (.slice a1 w.n1.edits.length c1) (.slice a2 w.n2.edits.length c2) (.slice a3 w.c0.edits.length c3) (.slice a4 w.c1.edits.length c4) (.slice a5 w.c2.edits.length c5))), .box (boxc (wdCells w (.slice b0 w.n0.edits.length f0) (.slice b1 w.n1.edits.length f1) (.slice b2 w.n2.edits.length f2) (.slice b3 w.c0.edits.length f3) (.slice b4 w.c1.edits.length f4) (.slice b5 w.c2.edits.length f5))), .box [.val (.slice ra rn rc), .val (.int .i64 (minute % 3)), .val (.int .i64 1), .val (.string zA), .val (.int .i64 0), .val (.int .i64 0), .val (.slice ma ms.length mcap)]]) (fun i _ => i ≤ 3) (fun i => 3 - i) 0 ?_ ?_ ?_ ?_
 ·(try simp only [go_sem, ↓reduceIte, nQ1, nQ2, nQ3, nQ4, nQ5, nQ6, reduceCtorEq]) <;> (repeat' (first | rfl | trivial | constructor | (intro h; exact absurd rfl h)))
 ·try simp only [go_sem, ↓reduceIte, nQ1, nQ2, nQ3, nQ4, nQ5, nQ6, reduceCtorEq]
  exact ⟨boxc_ok _ _, boxc_ok _ _⟩
 ·exact Nat.zero_le _
 rintro i env R5 hle5 hE hi
 have hci : i = 0 ∨ i = 1 ∨ i = 2 ∨ i = 3 := by omega
 simp only [boxc, wdCells, List.map_cons, List.map_nil] at hE ⊢
 have hle25 : RO.le R2 R5 := RO.le_trans hle3 (RO.le_trans hle4 hle5)
 have hle35 : RO.le R3 R5 := RO.le_trans hle4 hle5
 rcases hci with rfl | rfl | rfl | rfl
 ·simp only [go_sem] at hE
  obtain ⟨e11, e8, e9, e10, e7⟩ := hE
  rw [show ((0 : Nat) : Int) = 0 from rfl] at e11
  have hval : validV w.n0 = true := (hI.val 0 (by omega)).1
  have hdl : w.n0.edits.length ≤ n := hI.shape (i := 0) (by omega)
  have hcd := validV_cons' hval
  obtain ⟨o, ho1, ho2, ho3⟩ := allD_cons hcd (by omega)
  have hvo := allD_valid ho1
  try simp only [go_sem, ↓reduceIte, nQ1, nQ2, nQ3, nQ4, nQ5, nQ6, reduceCtorEq, iQ1, iQ2, iQ3, iQ4, iQ5, iQ6, e11, e8, e9, e10, e7]
  have hS1 := rSameDv w.n0 w.n0 _ _ R5 (h0.mono hle25) (g0.mono hle35)
  simp only [dvCells] at hS1
  refine vcall hS1 ?_
  rintro R6 v hle6 rfl
  try rw [decide_eq_true (Eq.refl _)]
  try simp only [go_sem, ↓reduceIte, nQ1, nQ2, nQ3, nQ4, nQ5, nQ6, reduceCtorEq, iQ1, iQ2, iQ3, iQ4, iQ5, iQ6, e11, e8, e9, e10, e7]
  have hS2 := rSameDv w.c0 w.c0 _ _ R6 (h3.mono (RO.le_trans hle25 hle6)) (g3.mono (RO.le_trans hle35 hle6))
  simp only [dvCells] at hS2
  refine vcall hS2 ?_
  rintro R7 v hle7 rfl
  try rw [decide_eq_true (Eq.refl _)]
  try simp only [go_sem, ↓reduceIte, nQ1, nQ2, nQ3, nQ4, nQ5, nQ6, reduceCtorEq, iQ1, iQ2, iQ3, iQ4, iQ5, iQ6, e11, e8, e9, e10, e7]
  have hle57 := RO.le_trans hle6 hle7
  have hle47 := RO.le_trans hle5 hle57
  have hSe := dSeries S (ruleN minute) ms w.n0 _ R7 (by rw [hSr]; exact hrv.mono hle47) (by rw [hSm]; exact hmv'.mono hle47) (h0.mono (RO.le_trans hle25 hle57)) (by omega)
  rw [hSc] at hSe
  simp only [dvCells] at hSe
  refine vcall hSe ?_
  intro R8 r hle8 hr
  unfold SerV MergeV at hr
  rw [if_pos hval, ho1] at hr
  dsimp only at hr
  rw [if_neg (by simp [hms, hSl])] at hr
  obtain ⟨p1, q1, rfl, hp1, hq1⟩ := hr
  try simp only [go_sem, ↓reduceIte, nQ1, nQ2, nQ3, nQ4, nQ5, nQ6, reduceCtorEq, iQ1, iQ2, iQ3, iQ4, iQ5, iQ6, e11, e8, e9, e10, e7]
  have hle48 := RO.le_trans hle47 hle8
  have hle38 : RO.le R3 R8 := RO.le_trans hle35 (RO.le_trans hle57 hle8)
  have hMe := rMerge S (ruleN minute) ms w.n0.edits o _ R8 (by rw [hSr]; exact hrv.mono hle48) (by rw [hSm]; exact hmv'.mono hle48) (g0.mono hle38) hcd ho1 (by omega) hms (by omega)
  rw [hSc, refR_merge S (ruleN minute) ms ho2 hvo hms (by omega)] at hMe
  refine vcall hMe ?_
  rintro R9 r hle9 ⟨p2, rfl, hp2⟩
  try simp only [go_sem, ↓reduceIte, nQ1, nQ2, nQ3, nQ4, nQ5, nQ6, reduceCtorEq, iQ1, iQ2, iQ3, iQ4, iQ5, iQ6, e11, e8, e9, e10, e7]
  have hRb := rRebase w.n0.edits o _ R9 (g0.mono (RO.le_trans hle38 hle9)) hcd (by omega) ho1
  refine vcall hRb ?_
  rintro R10 r hle10 ⟨u1, w1, rfl, hu1, hw1⟩
  obtain ⟨u1a, u1c, rfl, _⟩ := hu1.form
  obtain ⟨w1a, w1c, rfl, _⟩ := hw1.form
  try simp only [go_sem, ↓reduceIte, nQ1, nQ2, nQ3, nQ4, nQ5, nQ6, reduceCtorEq, iQ1, iQ2, iQ3, iQ4, iQ5, iQ6, e11, e8, e9, e10, e7]
  refine vcall (eSameParts _ _ _ _ R10 (hp1.mono (RO.le_trans hle9 hle10)) (hp2.mono hle10)) ?_
  rintro R11 v hle11 rfl
  try rw [decide_eq_true (Eq.refl _)]
  try simp only [go_sem, ↓reduceIte, nQ1, nQ2, nQ3, nQ4, nQ5, nQ6, reduceCtorEq, iQ1, iQ2, iQ3, iQ4, iQ5, iQ6, e11, e8, e9, e10, e7]
  refine vcall (eSameRecords _ _ _ _ R11 (hq1.mono (RO.le_trans hle9 (RO.le_trans hle10 hle11))) (hw1.mono hle11)) ?_
  rintro R12 v hle12 rfl
  try rw [decide_eq_true (Eq.refl _)]
  try simp only [go_sem, ↓reduceIte, nQ1, nQ2, nQ3, nQ4, nQ5, nQ6, reduceCtorEq, iQ1, iQ2, iQ3, iQ4, iQ5, iQ6, e11, e8, e9, e10, e7]
  exact ⟨_, W.in64 (by decide), 0 + 1, by decide, rfl, by decide⟩
 ·simp only [go_sem] at hE
  obtain ⟨e11, e8, e9, e10, e7⟩ := hE
  rw [show ((1 : Nat) : Int) = 1 from rfl] at e11
  have hval : validV w.n1 = true := (hI.val 1 (by omega)).1
  have hdl : w.n1.edits.length ≤ n := hI.shape (i := 1) (by omega)
  have hcd := validV_cons' hval
  obtain ⟨o, ho1, ho2, ho3⟩ := allD_cons hcd (by omega)
  have hvo := allD_valid ho1
  try simp only [go_sem, ↓reduceIte, nQ1, nQ2, nQ3, nQ4, nQ5, nQ6, reduceCtorEq, iQ1, iQ2, iQ3, iQ4, iQ5, iQ6, e11, e8, e9, e10, e7]
  have hS1 := rSameDv w.n1 w.n1 _ _ R5 (h1.mono hle25) (g1.mono hle35)
  simp only [dvCells] at hS1
  refine vcall hS1 ?_
  rintro R6 v hle6 rfl
  try rw [decide_eq_true (Eq.refl _)]
  try simp only [go_sem, ↓reduceIte, nQ1, nQ2, nQ3, nQ4, nQ5, nQ6, reduceCtorEq, iQ1, iQ2, iQ3, iQ4, iQ5, iQ6, e11, e8, e9, e10, e7]
  have hS2 := rSameDv w.c1 w.c1 _ _ R6 (h4.mono (RO.le_trans hle25 hle6)) (g4.mono (RO.le_trans hle35 hle6))
  simp only [dvCells] at hS2
  refine vcall hS2 ?_
  rintro R7 v hle7 rfl
  try rw [decide_eq_true (Eq.refl _)]
  try simp only [go_sem, ↓reduceIte, nQ1, nQ2, nQ3, nQ4, nQ5, nQ6, reduceCtorEq, iQ1, iQ2, iQ3, iQ4, iQ5, iQ6, e11, e8, e9, e10, e7]
  have hle57 := RO.le_trans hle6 hle7
  have hle47 := RO.le_trans hle5 hle57
  have hSe := dSeries S (ruleN minute) ms w.n1 _ R7 (by rw [hSr]; exact hrv.mono hle47) (by rw [hSm]; exact hmv'.mono hle47) (h1.mono (RO.le_trans hle25 hle57)) (by omega)
  rw [hSc] at hSe
  simp only [dvCells] at hSe
  refine vcall hSe ?_
  intro R8 r hle8 hr
  unfold SerV MergeV at hr
  rw [if_pos hval, ho1] at hr
  dsimp only at hr
  rw [if_neg (by simp [hms, hSl])] at hr
  obtain ⟨p1, q1, rfl, hp1, hq1⟩ := hr
  try simp only [go_sem, ↓reduceIte, nQ1, nQ2, nQ3, nQ4, nQ5, nQ6, reduceCtorEq, iQ1, iQ2, iQ3, iQ4, iQ5, iQ6, e11, e8, e9, e10, e7]
  have hle48 := RO.le_trans hle47 hle8
  have hle38 : RO.le R3 R8 := RO.le_trans hle35 (RO.le_trans hle57 hle8)
  have hMe := rMerge S (ruleN minute) ms w.n1.edits o _ R8 (by rw [hSr]; exact hrv.mono hle48) (by rw [hSm]; exact hmv'.mono hle48) (g1.mono hle38) hcd ho1 (by omega) hms (by omega)
  rw [hSc, refR_merge S (ruleN minute) ms ho2 hvo hms (by omega)] at hMe
  refine vcall hMe ?_
  rintro R9 r hle9 ⟨p2, rfl, hp2⟩
  try simp only [go_sem, ↓reduceIte, nQ1, nQ2, nQ3, nQ4, nQ5, nQ6, reduceCtorEq, iQ1, iQ2, iQ3, iQ4, iQ5, iQ6, e11, e8, e9, e10, e7]
  have hRb := rRebase w.n1.edits o _ R9 (g1.mono (RO.le_trans hle38 hle9)) hcd (by omega) ho1
  refine vcall hRb ?_
  rintro R10 r hle10 ⟨u1, w1, rfl, hu1, hw1⟩
  obtain ⟨u1a, u1c, rfl, _⟩ := hu1.form
  obtain ⟨w1a, w1c, rfl, _⟩ := hw1.form
  try simp only [go_sem, ↓reduceIte, nQ1, nQ2, nQ3, nQ4, nQ5, nQ6, reduceCtorEq, iQ1, iQ2, iQ3, iQ4, iQ5, iQ6, e11, e8, e9, e10, e7]
  refine vcall (eSameParts _ _ _ _ R10 (hp1.mono (RO.le_trans hle9 hle10)) (hp2.mono hle10)) ?_
  rintro R11 v hle11 rfl
  try rw [decide_eq_true (Eq.refl _)]
  try simp only [go_sem, ↓reduceIte, nQ1, nQ2, nQ3, nQ4, nQ5, nQ6, reduceCtorEq, iQ1, iQ2, iQ3, iQ4, iQ5, iQ6, e11, e8, e9, e10, e7]
  refine vcall (eSameRecords _ _ _ _ R11 (hq1.mono (RO.le_trans hle9 (RO.le_trans hle10 hle11))) (hw1.mono hle11)) ?_
  rintro R12 v hle12 rfl
  try rw [decide_eq_true (Eq.refl _)]
  try simp only [go_sem, ↓reduceIte, nQ1, nQ2, nQ3, nQ4, nQ5, nQ6, reduceCtorEq, iQ1, iQ2, iQ3, iQ4, iQ5, iQ6, e11, e8, e9, e10, e7]
  exact ⟨_, W.in64 (by decide), 1 + 1, by decide, rfl, by decide⟩
 ·simp only [go_sem] at hE
  obtain ⟨e11, e8, e9, e10, e7⟩ := hE
  rw [show ((2 : Nat) : Int) = 2 from rfl] at e11
  have hval : validV w.n2 = true := (hI.val 2 (by omega)).1
  have hdl : w.n2.edits.length ≤ n := hI.shape (i := 2) (by omega)
  have hcd := validV_cons' hval
  obtain ⟨o, ho1, ho2, ho3⟩ := allD_cons hcd (by omega)
  have hvo := allD_valid ho1
  try simp only [go_sem, ↓reduceIte, nQ1, nQ2, nQ3, nQ4, nQ5, nQ6, reduceCtorEq, iQ1, iQ2, iQ3, iQ4, iQ5, iQ6, e11, e8, e9, e10, e7]
  have hS1 := rSameDv w.n2 w.n2 _ _ R5 (h2.mono hle25) (g2.mono hle35)
  simp only [dvCells] at hS1
  refine vcall hS1 ?_
  rintro R6 v hle6 rfl
  try rw [decide_eq_true (Eq.refl _)]
  try simp only [go_sem, ↓reduceIte, nQ1, nQ2, nQ3, nQ4, nQ5, nQ6, reduceCtorEq, iQ1, iQ2, iQ3, iQ4, iQ5, iQ6, e11, e8, e9, e10, e7]
  have hS2 := rSameDv w.c2 w.c2 _ _ R6 (h5.mono (RO.le_trans hle25 hle6)) (g5.mono (RO.le_trans hle35 hle6))
  simp only [dvCells] at hS2
  refine vcall hS2 ?_
  rintro R7 v hle7 rfl
  try rw [decide_eq_true (Eq.refl _)]
  try simp only [go_sem, ↓reduceIte, nQ1, nQ2, nQ3, nQ4, nQ5, nQ6, reduceCtorEq, iQ1, iQ2, iQ3, iQ4, iQ5, iQ6, e11, e8, e9, e10, e7]
  have hle57 := RO.le_trans hle6 hle7
  have hle47 := RO.le_trans hle5 hle57
  have hSe := dSeries S (ruleN minute) ms w.n2 _ R7 (by rw [hSr]; exact hrv.mono hle47) (by rw [hSm]; exact hmv'.mono hle47) (h2.mono (RO.le_trans hle25 hle57)) (by omega)
  rw [hSc] at hSe
  simp only [dvCells] at hSe
  refine vcall hSe ?_
  intro R8 r hle8 hr
  unfold SerV MergeV at hr
  rw [if_pos hval, ho1] at hr
  dsimp only at hr
  rw [if_neg (by simp [hms, hSl])] at hr
  obtain ⟨p1, q1, rfl, hp1, hq1⟩ := hr
  try simp only [go_sem, ↓reduceIte, nQ1, nQ2, nQ3, nQ4, nQ5, nQ6, reduceCtorEq, iQ1, iQ2, iQ3, iQ4, iQ5, iQ6, e11, e8, e9, e10, e7]
  have hle48 := RO.le_trans hle47 hle8
  have hle38 : RO.le R3 R8 := RO.le_trans hle35 (RO.le_trans hle57 hle8)
  have hMe := rMerge S (ruleN minute) ms w.n2.edits o _ R8 (by rw [hSr]; exact hrv.mono hle48) (by rw [hSm]; exact hmv'.mono hle48) (g2.mono hle38) hcd ho1 (by omega) hms (by omega)
  rw [hSc, refR_merge S (ruleN minute) ms ho2 hvo hms (by omega)] at hMe
  refine vcall hMe ?_
  rintro R9 r hle9 ⟨p2, rfl, hp2⟩
  try simp only [go_sem, ↓reduceIte, nQ1, nQ2, nQ3, nQ4, nQ5, nQ6, reduceCtorEq, iQ1, iQ2, iQ3, iQ4, iQ5, iQ6, e11, e8, e9, e10, e7]
  have hRb := rRebase w.n2.edits o _ R9 (g2.mono (RO.le_trans hle38 hle9)) hcd (by omega) ho1
  refine vcall hRb ?_
  rintro R10 r hle10 ⟨u1, w1, rfl, hu1, hw1⟩
  obtain ⟨u1a, u1c, rfl, _⟩ := hu1.form
  obtain ⟨w1a, w1c, rfl, _⟩ := hw1.form
  try simp only [go_sem, ↓reduceIte, nQ1, nQ2, nQ3, nQ4, nQ5, nQ6, reduceCtorEq, iQ1, iQ2, iQ3, iQ4, iQ5, iQ6, e11, e8, e9, e10, e7]
  refine vcall (eSameParts _ _ _ _ R10 (hp1.mono (RO.le_trans hle9 hle10)) (hp2.mono hle10)) ?_
  rintro R11 v hle11 rfl
  try rw [decide_eq_true (Eq.refl _)]
  try simp only [go_sem, ↓reduceIte, nQ1, nQ2, nQ3, nQ4, nQ5, nQ6, reduceCtorEq, iQ1, iQ2, iQ3, iQ4, iQ5, iQ6, e11, e8, e9, e10, e7]
  refine vcall (eSameRecords _ _ _ _ R11 (hq1.mono (RO.le_trans hle9 (RO.le_trans hle10 hle11))) (hw1.mono hle11)) ?_
  rintro R12 v hle12 rfl
  try rw [decide_eq_true (Eq.refl _)]
  try simp only [go_sem, ↓reduceIte, nQ1, nQ2, nQ3, nQ4, nQ5, nQ6, reduceCtorEq, iQ1, iQ2, iQ3, iQ4, iQ5, iQ6, e11, e8, e9, e10, e7]
  exact ⟨_, W.in64 (by decide), 2 + 1, by decide, rfl, by decide⟩
 ·simp only [go_sem] at hE
  obtain ⟨e11, e8, e9, e10, e7⟩ := hE
  rw [show ((3 : Nat) : Int) = 3 from rfl] at e11
  try simp only [go_sem, ↓reduceIte, nQ1, nQ2, nQ3, nQ4, nQ5, nQ6, reduceCtorEq, iQ1, iQ2, iQ3, iQ4, iQ5, iQ6, e11, e8, e9, e10, e7]
end Go.Proofs.YtojckjngjfgfdaaGreat
namespace Go.Proofs.YtojckjngjfgfdaaGreat
set_option linter.unusedSimpArgs false
set_option linter.unusedVariables false
open Go.ChangeShapes Go.WideShapes Go.ChangeAt Go.RowKit Go.Joins Go.Proofs.YtojckjngjfgfdaaGreat.Vc
theorem Tryz.own : ownKnob Tryz.prog.godebug = none := by kernel_rfl
theorem Tryz.laidOut : laidOutB Tryz.prog = true := by kernel_rfl
section
variable {H : Type} {enc : TypeId × Value → H} {P : Program}
theorem trodAll_stay (hl : laidOutB P = true) {W W' : World} {sp : Nat → Bool} (hb : Ext W W') : ∀ {ts : List TypeId} {vs : List Value} {ds : List (DataW H)} {ps : List MemPlace},
  (∀ t ∈ ts, P.readableRec t = true ∧ t < P.types.size) → DataW.TrodAll enc P W 0 (fun _ => true) true ts vs ds ps → (∀ x ∈ ps, x.block < W.heap.size) → (∀ x ∈ ps, sp x.block = true) → DataW.TrodAll enc P W' 0 sp true ts vs ds ps
 | [], [], [], ps, _, h, _, _ => h
 | t :: ts, v :: vs, d :: ds, ps, ht, ⟨p, q, h1, h2, he⟩, hlt, hsp => by
  subst he
  refine ⟨p, q, WideElems.Trod_stays hl (ht t (by simp)).1 (ht t (by simp)).2 h1 (fun x hx => hb.below.same (hlt x (by simp [hx]))) (fun x hx => hsp x (by simp [hx])), ?_, rfl⟩
  exact trodAll_stay hl hb (fun t h => ht t (by simp [h])) h2 (fun x hx => hlt x (by simp [hx])) (fun x hx => hsp x (by simp [hx]))
theorem trodAll_len {w : World} {base : Nat} {sp : Nat → Bool} {held : Bool} : ∀ {ts : List TypeId} {vs : List Value} {ds : List (DataW H)} {ps : List MemPlace}, DataW.TrodAll enc P w base sp held ts vs ds ps → ds.length = ts.length
 | [], [], [], ps, _ => rfl
 | t :: ts, v :: vs, d :: ds, ps, ⟨p, q, _, h2, _⟩ => by simp [trodAll_len h2]
theorem law_post {f : Func} {s : ChangeSpec} {W W' : World} {args : Array Value} {ds : List (DataW H)} {ps : List MemPlace} {tb : TypeId} (hl : laidOutB P = true) (hvars : s.vars = []) (hfres : f.resultTypes = #[tb]) (hb : P.underlying tb = some .bool)
  (hread : ∀ t ∈ f.params.toList, P.readableRec t = true ∧ t < P.types.size) (hs : s.fn H ds = { results := [.lit (.bool true)], args := ds })
  (hW : DataW.Whole enc P f.params.toList s.vars false W args.toList ds [] ps) (hA : DataW.TrodAll enc P W 0 (fun _ => true) true f.params.toList args.toList ds ps) (hext : Ext W W') : s.post enc P f false true false false W args (.bool true) W' := by
 have hlt : ∀ x ∈ ps, x.block < W.heap.size := fun x hx => hW.lt x hx
 have hds : s.fn H (ds ++ []) = { results := [.lit (.bool true)], args := ds } := by rw [List.append_nil]; exact hs
 have hbool : ∀ (b : Nat) (sp : Nat → Bool) (hd : Bool), DataW.TrodAll enc P W' b sp hd f.resultTypes.toList ((Value.bool true).resultList f.resultTypes.size) [.lit (.bool true)] [] := fun b sp hd => by
  rw [hfres]
  exact trodAll_mk1 ⟨1, by simp [DataW.trod, Value.cells, hb]⟩
 have hargs := fun (sp : Nat → Bool) (hsp : ∀ x ∈ ps, sp x.block = true) => trodAll_stay (enc := enc) hl hext hread hA hlt hsp
 have hnoV : ∀ sp : Nat → Bool, DataW.TrodVars enc P W' sp s.vars ([] : List (DataW H)) [] := fun sp => by rw [hvars]; rfl
 have hfrozen : W'.noneFrozen ps := by
  obtain ⟨_, _, _, _, _, hz, _⟩ := hW
  intro b off hp
  rw [hext.below.frozen (hlt _ hp)]
  exact hz b off hp
 refine ⟨ds, [], ps, [], ps, [], hW, by rw [hds]; exact hbool _ _ _, by rw [hds]; exact hargs (fun b => decide (b < W.heap.size)) (fun x hx => by simpa using hlt x hx), by rw [hds]; exact hnoV _, World.keptBut_mono (fun x hx => ⟨hx, .inr (by simpa using hx)⟩) (hext.below.frame (· ∈ ps)), fun _ => ⟨fun j t r hj hr => ?_, [.lit (.bool true)] ++ ds, [], ps, ⟨ps, [], ?_, hnoV _, by simp, hfrozen, fun e => by cases e⟩, fun p hp _ => by simpa using hp⟩⟩
 ·rw [hfres] at hj hr
  match j with
  | 0 =>
   simp only [List.getElem?_toArray, List.getElem?_cons_zero, Option.some.injEq] at hj
   subst hj
   have : r = .bool true := by simpa [Value.resultList] using hr.symm
   subst this
   simp [Value.okWide, hb, Cell.okWide, Cell.ok]
  | j + 1 => simp at hj
 ·have := trodAll_append (hargs (fun _ => true) (fun _ _ => rfl)) (hbool 0 (fun _ => true) true)
  simpa using this
end
def factsOf (W : World) : RO := fun a v => W.cell? a = some v
set_option maxRecDepth 100000 in
/-- A law's row, from a contract of its function. -/
theorem lawLifted {os : Os} (started : os.Started) {H : Type} {enc : TypeId × Value → H} {n : Nat} {fn : Func} {s : ChangeSpec} {tb : TypeId} (noInit : Tryz.checked.prog.inits.idxOf? n = none) (hfn : Tryz.checked.prog.funcs[n]? = some fn)
  (hvars : s.vars = []) (hres : fn.resultTypes = #[tb]) (hbool : Tryz.checked.prog.underlying tb = some .bool) (hread : ∀ t ∈ fn.params.toList, Tryz.prog.readableRec t = true ∧ t < Tryz.prog.types.size)
  (hs : ∀ ds : List (DataW H), ds.length = fn.params.toList.length → s.fn H ds = { results := [.lit (.bool true)], args := ds })
  (witness : ∃ (w : World) (tape : Tape) (i : Input), w.os = os ∧ (w.forCall tape i).Shaped Tryz.checked.prog ∧ i.vars = [] ∧ Input.okWide Tryz.checked.prog (w.forCall tape i) .any w.heap.size n i ∧
   s.pre6 enc Tryz.checked.prog fn [] false (w.forCall tape i).memory i.args ∧ Assume.holds {} Tryz.checked.prog (lone (Frame.enter Tryz.checked.prog n i.args .normal) [] (w.forCall tape i)))
  (hlaw : ∀ (W : World) (base : Nat) (args : Array Value) (ds : List (DataW H)) (ps : List MemPlace), (∀ (j : Nat) t v, fn.params[j]? = some t → args[j]? = some v → Value.okWide Tryz.prog W .any base t v) →
   DataW.TrodAll enc Tryz.prog W 0 (fun _ => true) true fn.params.toList args.toList ds ps → (DataW.weightsEach Tryz.prog fn.params.toList ds).all (· ≤ reachBytes) = true →
   CallsR Tryz.prog n args.toList (factsOf W) fun _ v => v = .bool true) :
  ReturnsInHanded {} Tryz.checked os n .any (s.pre6 enc Tryz.prog fn [] false) (s.post enc Tryz.prog fn false true false false) := by
 refine returnsInHanded_of_change_sized (C := Tryz.checked) Tryz.own started noInit hfn witness ?_
 intro W base args ds gs before hval hW hcnd hwt _
 have hW0 := hW
 obtain ⟨p, q, hA, hV, rfl, hfz, hnd⟩ := hW0
 rw [hvars] at hV
 obtain ⟨rfl, rfl⟩ := trodVars_none hV
 have hvt : s.plain.varTypes Tryz.checked.prog = [] := by simp [ChangeSpec.plain, DataSpec.varTypes, hvars]
 rw [hvt, List.append_nil, List.append_nil] at hwt
 have hlt : ∀ x ∈ p ++ [], x.block < W.heap.size := fun x hx => hW.lt x hx
 rw [List.append_nil] at hlt
 refine (hlaw W base args ds p hval hA hwt W (fun a v h => h)).mono ?_
 rintro e W' ⟨v, R', rfl, -, -, hext, rfl⟩
 rw [List.append_nil] at hW
 exact ⟨_, rfl, law_post Tryz.laidOut hvars hres hbool hread (hs ds (trodAll_len hA)) hW hA hext⟩
section
variable {H : Type} {enc : TypeId × Value → H} {W : World} {base fuel : Nat} {spare : Nat → Bool} {held : Bool}
end
end Go.Proofs.YtojckjngjfgfdaaGreat
namespace Go.Proofs.YtojckjngjfgfdaaGreat
set_option linter.unusedSimpArgs false
set_option linter.unusedVariables false
open Go.ChangeShapes Go.WideShapes Go.ChangeAt Go.RowKit Go.Joins Go.Proofs.YtojckjngjfgfdaaGreat.Vc
set_option maxRecDepth 100000
section
variable {P : Program} {t : TypeId} {W : World} {r : Reach} {b0 : Nat} {v : Value}
theorem ok_int (ht : P.underlying t = some (.int .i64)) (h : Cell.okWide P W r b0 t v) : ∃ n, v = .int .i64 n := by
 unfold Cell.okWide Cell.ok at h
 rw [ht] at h
 cases v <;> simp_all
theorem ok_slice {e : TypeId} (ht : P.underlying t = some (.slice e)) (h : Cell.okWide P W r b0 t v) : ∃ a n c, v = .slice a n c := by
 unfold Cell.okWide Cell.ok at h
 rw [ht] at h
 cases v <;> simp_all
theorem okw_cell {k : IntKind} (ht : P.underlying t = some (.int k)) (h : Value.okWide P W r b0 t v) : Cell.okWide P W r b0 t v := by
 unfold Value.okWide at h
 rw [ht] at h
 exact h
theorem okw_slice {e : TypeId} (ht : P.underlying t = some (.slice e)) (h : Value.okWide P W r b0 t v) : Cell.okWide P W r b0 t v := by
 unfold Value.okWide at h
 rw [ht] at h
 exact h
theorem trod_boolP {H : Type} {enc : TypeId × Value → H} {base fuel : Nat} {spare : Nat → Bool} {held : Bool} {cs : List Value} {x : DataW H × List MemPlace} (ht : P.underlying t = some .bool) (h : DataW.trod enc P W base spare held fuel t cs = some x) : ∃ b, cs = [.bool b] := by
 cases fuel with
 | zero => simp [DataW.trod] at h
 | succ n =>
  unfold DataW.trod at h
  rw [ht] at h
  split at h <;> simp_all
theorem int_in {v : Value} (hv : Value.okWide Tryz.prog W r b0 3 v) : ∃ n, v = .int .i64 n := ok_int Tryz.underlying3 (okw_cell Tryz.underlying3 hv)
end
section
variable {H : Type} {enc : TypeId × Value → H} {W : World} {base fuel : Nat} {spare : Nat → Bool} {held : Bool}
theorem trod_edit {cs : List Value} {x : DataW H × List MemPlace} (h : DataW.trod enc Tryz.prog W base spare held fuel 31 cs = some x) : ∃ e : Ed, cs = e.cells := by
 obtain ⟨xs, n, _, _, hl, hlen, hf⟩ := DataW.trod_struct Tryz.underlying31 h
 have hC : Tryz.prog.cellsOf 31 = 13 := by kernel_rfl
 have hC3 : Tryz.prog.cellsOf 3 = 1 := by kernel_rfl
 have hC4 : Tryz.prog.cellsOf 4 = 1 := by kernel_rfl
 have hC9 : Tryz.prog.cellsOf 9 = 1 := by kernel_rfl
 have hCr : Tryz.prog.cellsOf 29 = 1 := by kernel_rfl
 have hCm : Tryz.prog.cellsOf 27 = 5 := by kernel_rfl
 rw [hC] at hl
 match xs, hlen, cs, hl with
 | [y0, y1, y2, y3, y4, y5, y6, y7, y8], _, [c0, c1, c2, c3, c4, c5, c6, c7, c8, c9, c10, c11, c12], _ =>
  have h0 : DataW.trod enc Tryz.prog W base spare held n 3 (([c0, c1, c2, c3, c4, c5, c6, c7, c8, c9, c10, c11, c12].drop 0).take (Tryz.prog.cellsOf 3)) = [y0, y1, y2, y3, y4, y5, y6, y7, y8][0]? := hf 0 _ rfl
  have h1 : DataW.trod enc Tryz.prog W base spare held n 3 (([c0, c1, c2, c3, c4, c5, c6, c7, c8, c9, c10, c11, c12].drop 1).take (Tryz.prog.cellsOf 3)) = [y0, y1, y2, y3, y4, y5, y6, y7, y8][1]? := hf 1 _ rfl
  have h2 : DataW.trod enc Tryz.prog W base spare held n 3 (([c0, c1, c2, c3, c4, c5, c6, c7, c8, c9, c10, c11, c12].drop 2).take (Tryz.prog.cellsOf 3)) = [y0, y1, y2, y3, y4, y5, y6, y7, y8][2]? := hf 2 _ rfl
  have h3 : DataW.trod enc Tryz.prog W base spare held n 3 (([c0, c1, c2, c3, c4, c5, c6, c7, c8, c9, c10, c11, c12].drop 3).take (Tryz.prog.cellsOf 3)) = [y0, y1, y2, y3, y4, y5, y6, y7, y8][3]? := hf 3 _ rfl
  have h4 : DataW.trod enc Tryz.prog W base spare held n 27 (([c0, c1, c2, c3, c4, c5, c6, c7, c8, c9, c10, c11, c12].drop 4).take (Tryz.prog.cellsOf 27)) = [y0, y1, y2, y3, y4, y5, y6, y7, y8][4]? := hf 4 _ rfl
  have h5 : DataW.trod enc Tryz.prog W base spare held n 3 (([c0, c1, c2, c3, c4, c5, c6, c7, c8, c9, c10, c11, c12].drop 9).take (Tryz.prog.cellsOf 3)) = [y0, y1, y2, y3, y4, y5, y6, y7, y8][5]? := hf 5 _ rfl
  have h6 : DataW.trod enc Tryz.prog W base spare held n 3 (([c0, c1, c2, c3, c4, c5, c6, c7, c8, c9, c10, c11, c12].drop 10).take (Tryz.prog.cellsOf 3)) = [y0, y1, y2, y3, y4, y5, y6, y7, y8][6]? := hf 6 _ rfl
  have h7 : DataW.trod enc Tryz.prog W base spare held n 29 (([c0, c1, c2, c3, c4, c5, c6, c7, c8, c9, c10, c11, c12].drop 11).take (Tryz.prog.cellsOf 29)) = [y0, y1, y2, y3, y4, y5, y6, y7, y8][7]? := hf 7 _ rfl
  have h8 : DataW.trod enc Tryz.prog W base spare held n 9 (([c0, c1, c2, c3, c4, c5, c6, c7, c8, c9, c10, c11, c12].drop 12).take (Tryz.prog.cellsOf 9)) = [y0, y1, y2, y3, y4, y5, y6, y7, y8][8]? := hf 8 _ rfl
  simp only [hC3, hC9, hCr, hCm, List.drop_zero, List.drop_succ_cons, List.take_succ_cons, List.take_zero, List.getElem?_cons_zero, List.getElem?_cons_succ] at h0 h1 h2 h3 h4 h5 h6 h7 h8
  obtain ⟨z0, e0, -, -⟩ := DataW.trod_int Tryz.underlying3 h0
  obtain ⟨z1, e1, -, -⟩ := DataW.trod_int Tryz.underlying3 h1
  obtain ⟨z2, e2, -, -⟩ := DataW.trod_int Tryz.underlying3 h2
  obtain ⟨z3, e3, -, -⟩ := DataW.trod_int Tryz.underlying3 h3
  obtain ⟨z5, e5, -, -⟩ := DataW.trod_int Tryz.underlying3 h5
  obtain ⟨z6, e6, -, -⟩ := DataW.trod_int Tryz.underlying3 h6
  obtain ⟨z8, e8, -, -⟩ := DataW.trod_string Tryz.underlying9 h8
  obtain ⟨ms, n', _, _, _, hlen', hf'⟩ := DataW.trod_struct Tryz.underlying27 h4
  obtain ⟨a, l, c, e7⟩ : ∃ a l c, [c11] = [Value.slice a l c] := by
   rcases DataW.trod_slice Tryz.underlying29 h7 with ⟨e, _⟩ | ⟨a, l, c, _, _, _, _, e, _⟩
   ·exact ⟨_, _, _, e⟩
   ·exact ⟨_, _, _, e⟩
  match ms, hlen' with
  | [y0', y1', y2', y3', y4'], _ =>
   have k0 : DataW.trod enc Tryz.prog W base spare held n' 3 (([c4, c5, c6, c7, c8].drop 0).take (Tryz.prog.cellsOf 3)) = [y0', y1', y2', y3', y4'][0]? := hf' 0 _ rfl
   have k1 : DataW.trod enc Tryz.prog W base spare held n' 4 (([c4, c5, c6, c7, c8].drop 1).take (Tryz.prog.cellsOf 4)) = [y0', y1', y2', y3', y4'][1]? := hf' 1 _ rfl
   have k2 : DataW.trod enc Tryz.prog W base spare held n' 3 (([c4, c5, c6, c7, c8].drop 2).take (Tryz.prog.cellsOf 3)) = [y0', y1', y2', y3', y4'][2]? := hf' 2 _ rfl
   have k3 : DataW.trod enc Tryz.prog W base spare held n' 3 (([c4, c5, c6, c7, c8].drop 3).take (Tryz.prog.cellsOf 3)) = [y0', y1', y2', y3', y4'][3]? := hf' 3 _ rfl
   have k4 : DataW.trod enc Tryz.prog W base spare held n' 3 (([c4, c5, c6, c7, c8].drop 4).take (Tryz.prog.cellsOf 3)) = [y0', y1', y2', y3', y4'][4]? := hf' 4 _ rfl
   simp only [hC3, hC4, List.drop_zero, List.drop_succ_cons, List.take_succ_cons, List.take_zero, List.getElem?_cons_zero, List.getElem?_cons_succ] at k0 k1 k2 k3 k4
   obtain ⟨w0, g0, -, -⟩ := DataW.trod_int Tryz.underlying3 k0
   obtain ⟨w2, g2, -, -⟩ := DataW.trod_int Tryz.underlying3 k2
   obtain ⟨w3, g3, -, -⟩ := DataW.trod_int Tryz.underlying3 k3
   obtain ⟨w4, g4, -, -⟩ := DataW.trod_int Tryz.underlying3 k4
   obtain ⟨w1, g1⟩ := trod_boolP Tryz.underlying4 k1
   simp only [List.cons.injEq, and_true] at e0 e1 e2 e3 e5 e6 e7 e8 g0 g1 g2 g3 g4
   subst e0 e1 e2 e3 e5 e6 e7 e8 g0 g1 g2 g3 g4
   exact ⟨⟨z0, z1, z2, z3, ⟨w0, w1, w2, w3, w4⟩, z5, z6, a, l, c, z8⟩, rfl⟩
theorem eds_in {v : Value} {d : DataW H} {p : List MemPlace} {r : Reach} {b0 : Nat} (hv : Value.okWide Tryz.prog W r b0 22 v) (h : DataW.Trod enc Tryz.prog W base spare held 22 v d p) (hw : ∀ n ∈ d.weights Tryz.prog 22, n ≤ reachBytes) :
  ∃ es, EdC (factsOf W) v es ∧ es.length ≤ 1099511627776 := by
 obtain ⟨fuel, hf⟩ := h
 have hC : Tryz.prog.cellsOf 31 = 13 := by kernel_rfl
 have hB : Tryz.prog.bytesOf 31 = 128 := by kernel_rfl
 obtain ⟨a0, l0, c0, rfl⟩ := ok_slice Tryz.underlying22 (okw_slice Tryz.underlying22 hv)
 rcases Go.Deep.open_slice Tryz.underlying22 hf with ⟨e, _⟩ | ⟨a, len, cap, m, n, D, Pl, e, -, hl, hm, hmm, hx, hi⟩
 ·simp only [Value.cells, List.cons.injEq, and_true, List.toList_toArray] at e
  rw [e]
  exact ⟨[], ⟨none, 0, rfl, Nat.le_refl _, by simp⟩, by simp⟩
 ·simp only [Value.cells, List.cons.injEq, and_true, List.toList_toArray] at e
  rw [e]
  obtain ⟨rfl, _⟩ := Prod.mk.inj hx
  have hlm : len ≤ m := by rw [hmm]; split <;> omega
  rw [hC] at hi
  have each : ∀ i, i < m → ∃ e : Ed, ∀ j v, (e.cells)[j]? = some v → W.cell? ((a.add (i * 13)).add j) = some v := by
   intro i him
   obtain ⟨cs', hc, ht⟩ := hi i him
   obtain ⟨_, hcl, hat⟩ := World.cells?_some hc
   obtain ⟨e, rfl⟩ := trod_edit ht
   refine ⟨e, fun j v hj => ?_⟩
   have hj13 : j < 13 := (List.getElem?_eq_some_iff.1 hj).1
   rw [hat j hj13]
   exact hj
  have hlen : len * 128 ≤ reachBytes := by
   have := hw ((((List.range len).map D).length + ((List.range (m - len)).map fun j => D (len + j)).length) * 128) (by
    simp only [DataW.weights, Tryz.underlying22, hB]
    exact List.mem_cons_self)
   simp only [List.length_map, List.length_range] at this
   omega
  unfold reachBytes at hlen
  let f : Nat → Ed := fun i => if h : i < m then (each i h).choose else ⟨0, 0, 0, 0, ⟨0, false, 0, 0, 0⟩, 0, 0, none, 0, 0, ⟨#[]⟩⟩
  have hf : ∀ i, i < len → ∀ j v, ((f i).cells)[j]? = some v → W.cell? ((a.add (i * 13)).add j) = some v := by
   intro i hi'
   have him : i < m := by omega
   simp only [f, him, dif_pos]
   exact (each i him).choose_spec
  refine ⟨(List.range len).map f, ⟨some a, cap, by simp, by simpa using hl, fun i us hi' => ?_⟩, by simp; omega⟩
  rw [List.getElem?_map, List.getElem?_map] at hi'
  obtain ⟨r, hr, rfl⟩ := Option.map_eq_some_iff.1 hi'
  obtain ⟨i', hi'', rfl⟩ := Option.map_eq_some_iff.1 hr
  have hii := List.getElem?_eq_some_iff.1 hi''
  simp only [List.length_range, List.getElem_range] at hii
  obtain ⟨hlt, rfl⟩ := hii
  exact ⟨rfl, a, rfl, fun j u hj => hf i hlt j u hj⟩
theorem each_weight {ts : List TypeId} {ds : List (DataW H)} (h : (DataW.weightsEach Tryz.prog ts ds).all (· ≤ reachBytes) = true) {j : Nat} {t : TypeId} {d : DataW H} (ht : ts[j]? = some t) (hd : ds[j]? = some d) : ∀ n ∈ d.weights Tryz.prog t, n ≤ reachBytes := fun n hn => by
 have := List.all_eq_true.1 h n (DataW.weights_mem_each ht hd n hn)
 simpa using this
end
end Go.Proofs.YtojckjngjfgfdaaGreat
