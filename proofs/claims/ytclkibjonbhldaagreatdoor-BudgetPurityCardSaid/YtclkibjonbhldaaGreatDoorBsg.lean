/- Lemmas of our own, no statement of the seat; the last one of the claim's texts proves the law. -/
import Derived.ProofKit
import Derived.SizedLaws
import Derived.Deep.Slices
import Derived.Deep.Fields
import Derived.Lib.SmallJoins
import Derived.OpenShut
import Derived.Deep.DeepHandedRow
import Derived.Lib.LaidTab
import Derived.Test.YtclkibjonbhldaaGreatDoorBsf
import Derived.Test.YtclkibjonbhldaaGreatDoorRows
import Derived.Test.YtclkibjonbhldaaGreatDoorVcI
import Derived.Test.YtclkibjonbhldaaGreatDoorCards
import Derived.Test.YtclkibjonbhldaaGreatDoorTie
open Nat renaming reduceEqDiff → nQ1, reduceAdd → nQ2, reduceMul → nQ3, reduceLeDiff → nQ4, reduceLT → nQ5, reduceBNe → nQ6
open Int renaming reduceLE → iQ1, reduceLT → iQ2, reduceToNat → iQ3, cast_ofNat_Int → iQ4, reduceEq → iQ5, reduceNe → iQ6
namespace Go.Proofs.YtclkibjonbhldaaGreatDoor
set_option linter.unusedSimpArgs false
set_option linter.unusedVariables false
open Go.Proofs.YtclkibjonbhldaaGreatDoor.Vc
def setE {α : Type} (hs : List α) (keep gone : Int) (z : α) (i : Nat) : List α :=
 let l := (if keep < 0 then hs else hs.set keep.toNat z).take i
 if 0 ≤ gone then l.eraseIdx gone.toNat else l
theorem setE_zero {α : Type} (hs : List α) (keep gone : Int) (z : α) : setE hs keep gone z 0 = [] := by
 unfold setE
 simp
theorem setE_succ {α : Type} (hs : List α) {keep gone : Int} (z : α) {i : Nat} (hi : i < hs.length) (ho : (0 ≤ keep ∧ (gone < 0 ∨ keep < gone)) ∨ (keep < 0 ∧ gone < 0)) :
  ((i : Int) = gone → setE hs keep gone z (i + 1) = setE hs keep gone z i) ∧ ((i : Int) = keep → setE hs keep gone z (i + 1) = setE hs keep gone z i ++ [z]) ∧ ((i : Int) ≠ keep → (i : Int) ≠ gone → setE hs keep gone z (i + 1) = setE hs keep gone z i ++ [hs[i]]) := by
 unfold setE
 obtain ⟨l, hl⟩ : ∃ l, l = if keep < 0 then hs else hs.set keep.toNat z := ⟨_, rfl⟩
 have hln : l.length = hs.length := by rw [hl]; split <;> simp
 have hg : l[i]? = some (if (i : Int) = keep then z else hs[i]) := by
  rw [hl]
  by_cases hk : keep < 0
  ·have hne : ¬ (i : Int) = keep := by omega
   rw [if_pos hk, if_neg hne, List.getElem?_eq_getElem hi]
  ·rw [if_neg hk, List.getElem?_eq_getElem (by simpa using hi), List.getElem_set]
   by_cases e : (i : Int) = keep
   ·rw [if_pos (by omega), if_pos e]
   ·rw [if_neg (by omega), if_neg e]
 rw [← hl]
 dsimp only
 have ht : l.take (i + 1) = l.take i ++ [if (i : Int) = keep then z else hs[i]] := by rw [List.take_add_one, hg]; rfl
 have hti : (l.take i).length = i := by simp; omega
 rw [ht]
 by_cases h0 : 0 ≤ gone
 ·simp only [h0, if_true]
  refine ⟨fun e => ?_, fun e => ?_, fun e1 e2 => ?_⟩
  ·rw [List.eraseIdx_append_of_length_le (by omega), List.eraseIdx_of_length_le (l := l.take i) (by omega), hti, show gone.toNat - i = 0 by omega]
   simp
  ·rw [if_pos e, List.eraseIdx_of_length_le (by simp; omega), List.eraseIdx_of_length_le (by omega)]
  ·rw [if_neg e1]
   by_cases hlt : gone < i
   ·rw [List.eraseIdx_append_of_lt_length (by omega)]
   ·rw [List.eraseIdx_of_length_le (by simp; omega), List.eraseIdx_of_length_le (by omega)]
 ·simp only [h0, if_false]
  refine ⟨fun e => by omega, fun e => by rw [if_pos e], fun e1 e2 => by rw [if_neg e1]⟩
theorem setE_all {α : Type} (hs : List α) (keep gone : Int) (z : α) : setE hs keep gone z hs.length = if 0 ≤ gone then (if keep < 0 then hs else hs.set keep.toNat z).eraseIdx gone.toNat else if keep < 0 then hs else hs.set keep.toNat z := by
 unfold setE
 dsimp only
 rw [List.take_of_length_le (by split <;> simp)]
theorem setE_len {α : Type} (hs : List α) (keep gone : Int) (z : α) (i : Nat) : (setE hs keep gone z i).length ≤ i := by
 unfold setE
 dsimp only
 have : ((if keep < 0 then hs else hs.set keep.toNat z).take i).length ≤ i := by simp; omega
 split
 ·exact Nat.le_trans (List.length_eraseIdx_le _ _) this
 ·exact this
theorem joinG_setE {gs : List (List Int)} {keep gone : Int} (ho : (0 ≤ keep ∧ (gone < 0 ∨ keep < gone)) ∨ (keep < 0 ∧ gone < 0)) : joinG gs keep gone = setE gs keep gone (allG gs keep gone) gs.length ++ (if keep < 0 then [allG gs keep gone] else []) := by
 rw [setE_all, joinG_eq]
 unfold gs2D allG
 by_cases hk : keep < 0
 ·simp only [hk, if_true]
  rw [if_neg (by omega), if_neg (by omega)]
 ·simp only [hk, if_false, List.append_nil]
structure Iv where
 l : List Int
 a : Option Addr
 c : Nat
abbrev Iv.val (x : Iv) : Value := .slice x.a x.l.length x.c
def memJ (gs : List (List Int)) (p q : Int) (i j : Nat) (z : Int) : Prop := z = p ∨ z = q ∨ (∃ i' : Nat, ∃ h : i' < gs.length, i' < i ∧ ((i' : Int) = grpOf gs p ∨ (i' : Int) = grpOf gs q) ∧ z ∈ gs[i']) ∨ (∃ h : i < gs.length, z ∈ gs[i].take j)
structure JoinI (gs : List (List Int)) (p q : Int) (i j : Nat) (R : RO) (x : Iv) : Prop where
 inc : Inc x.l
 mem : ∀ z, z ∈ x.l ↔ memJ gs p q i j z
 val : IntV R x.val x.l
theorem memJ_zero {gs : List (List Int)} {p q : Int} {i : Nat} {z : Int} : memJ gs p q i 0 z ↔ z = p ∨ z = q ∨ (∃ i' : Nat, ∃ h : i' < gs.length, i' < i ∧ ((i' : Int) = grpOf gs p ∨ (i' : Int) = grpOf gs q) ∧ z ∈ gs[i']) := by
 unfold memJ
 simp
theorem memJ_len {gs : List (List Int)} (hV : ValidG gs) {p q : Int} (hp : personB p = true) (hq : personB q = true) {i j : Nat} {R : RO} {x : Iv} (h : JoinI gs p q i j R x) : x.l.length ≤ 512 := by
 refine inc_len h.inc fun z hz => ?_
 rcases (h.mem z).1 hz with rfl | rfl | ⟨i', h1, _, _, h2⟩ | ⟨h1, h2⟩
 ·exact hp
 ·exact hq
 ·exact ((hV.all i' h1).mem z h2).1
 ·exact ((hV.all i h1).mem z (List.mem_of_mem_take h2)).1
theorem memJ_succ {gs : List (List Int)} {p q : Int} {i j : Nat} (hi : i < gs.length) (hj : j < gs[i].length) (z : Int) : memJ gs p q i (j + 1) z ↔ z = gs[i][j] ∨ memJ gs p q i j z := by
 unfold memJ
 have : (∃ h : i < gs.length, z ∈ gs[i].take (j + 1)) ↔ z = gs[i][j] ∨ (∃ h : i < gs.length, z ∈ gs[i].take j) := by
  simp only [List.take_succ_eq_append_getElem hj, List.mem_append, List.mem_singleton]
  constructor
  ·rintro ⟨h, h1 | h1⟩
   ·exact .inr ⟨h, h1⟩
   ·exact .inl h1
  ·rintro (h1 | ⟨h, h1⟩)
   ·exact ⟨hi, .inr h1⟩
   ·exact ⟨h, .inl h1⟩
 rw [this]
 constructor
 ·rintro (h | h | h | h | h)
  ·exact .inr (.inl h)
  ·exact .inr (.inr (.inl h))
  ·exact .inr (.inr (.inr (.inl h)))
  ·exact .inl h
  ·exact .inr (.inr (.inr (.inr h)))
 ·rintro (h | h | h | h | h)
  ·exact .inr (.inr (.inr (.inl h)))
  ·exact .inl h
  ·exact .inr (.inl h)
  ·exact .inr (.inr (.inl h))
  ·exact .inr (.inr (.inr (.inr h)))
theorem memJ_next {gs : List (List Int)} {p q : Int} {i : Nat} (hi : i < gs.length) (hin : (i : Int) = grpOf gs p ∨ (i : Int) = grpOf gs q) (z : Int) : memJ gs p q i gs[i].length z ↔ memJ gs p q (i + 1) 0 z := by
 rw [memJ_zero]
 unfold memJ
 simp only [List.take_length]
 constructor
 ·rintro (h | h | ⟨i', h1, h2, h3, h4⟩ | ⟨h1, h2⟩)
  ·exact .inl h
  ·exact .inr (.inl h)
  ·exact .inr (.inr ⟨i', h1, by omega, h3, h4⟩)
  ·exact .inr (.inr ⟨i, hi, by omega, hin, h2⟩)
 ·rintro (h | h | ⟨i', h1, h2, h3, h4⟩)
  ·exact .inl h
  ·exact .inr (.inl h)
  ·by_cases e : i' = i
   ·subst e; exact .inr (.inr (.inr ⟨hi, h4⟩))
   ·exact .inr (.inr (.inl ⟨i', h1, by omega, h3, h4⟩))
theorem memJ_skip {gs : List (List Int)} {p q : Int} {i : Nat} (hin : ¬ ((i : Int) = grpOf gs p ∨ (i : Int) = grpOf gs q)) (z : Int) : memJ gs p q (i + 1) 0 z ↔ memJ gs p q i 0 z := by
 rw [memJ_zero, memJ_zero]
 constructor
 ·rintro (h | h | ⟨i', h1, h2, h3, h4⟩)
  ·exact .inl h
  ·exact .inr (.inl h)
  ·by_cases e : i' = i
   ·subst e; exact absurd h3 hin
   ·exact .inr (.inr ⟨i', h1, by omega, h3, h4⟩)
 ·rintro (h | h | ⟨i', h1, h2, h3, h4⟩)
  ·exact .inl h
  ·exact .inr (.inl h)
  ·exact .inr (.inr ⟨i', h1, by omega, h3, h4⟩)
theorem JoinI.all {gs : List (List Int)} (hV : ValidG gs) {p q : Int} (hp : personB p = true) (hq : personB q = true) (hne : grpOf gs p ≠ grpOf gs q) {R : RO} {x : Iv} (h : JoinI gs p q gs.length 0 R x) : x.l = allG gs (keepG gs p q) (goneG gs p q) := by
 obtain ⟨k1, k2⟩ := kg_gone (gs := gs) hp hq
 have hK := kg_of hp hq hne
 refine Inc.ext h.inc (allG_inc hV k1 k2 hK.ne) fun z => ?_
 rw [h.mem, allG_iff hV k1 k2, memJ_zero]
 have hsw : (grpOf gs z = keepG gs p q ∨ grpOf gs z = goneG gs p q) ↔ (grpOf gs z = grpOf gs p ∨ grpOf gs z = grpOf gs q) := by
  unfold keepG goneG
  split
  ·exact Or.comm
  ·exact Iff.rfl
 rw [hsw]
 constructor
 ·rintro (rfl | rfl | ⟨i', h1, _, h3, h4⟩)
  ·exact ⟨hp, .inl rfl⟩
  ·exact ⟨hq, .inr rfl⟩
  ·have := (hV.all i' h1).mem z h4
   refine ⟨this.1, ?_⟩
   rw [this.2]
   exact h3
 ·rintro ⟨hz, h1⟩
  have hb := grpOf_bd (gs := gs) hz
  by_cases hn : 0 ≤ grpOf gs z
  ·obtain ⟨h2, h3⟩ := grpOf_mem hn hz
   refine .inr (.inr ⟨_, h2, h2, ?_, h3⟩)
   rw [show ((grpOf gs z).toNat : Int) = grpOf gs z by omega]
   exact h1
  ·have h4 := hb.2.2 (by omega)
   rcases h1 with h1 | h1
   ·have := (grpOf_bd (gs := gs) hp).2.2 (by omega)
    exact .inl (by omega)
   ·have := (grpOf_bd (gs := gs) hq).2.2 (by omega)
    exact .inr (.inl (by omega))
theorem HsV.take {R : RO} {hs : List Value} {gs : List (List Int)} (h : HsV R hs gs) (n : Nat) : HsV R (hs.take n) (gs.take n) := by
 refine ⟨by rw [List.length_take, List.length_take, h.len], fun i h1 h2 => ?_⟩
 rw [List.getElem_take, List.getElem_take]
 exact h.val i _ _
theorem HsV.setG {R : RO} {hs : List Value} {gs : List (List Int)} (h : HsV R hs gs) (keep gone : Int) {v : Value} {x : List Int} (hv : IntV R v x) (n : Nat) : HsV R (setE hs keep gone v n) (setE gs keep gone x n) := by
 have h1 : HsV R (if keep < 0 then hs else hs.set keep.toNat v) (if keep < 0 then gs else gs.set keep.toNat x) := by
  split
  ·exact h
  ·exact h.set _ hv
 unfold setE
 dsimp only
 split
 ·exact (h1.take n).erase _
 ·exact h1.take n
set_option maxHeartbeats 4000000 in
theorem rJoined (gs : List (List Int)) (hV : ValidG gs) (p q : Int) (hp : personB p = true) (hq : personB q = true) (hne : grpOf gs p ≠ grpOf gs q) (v : Value) (R : RO) (h : GV R v gs) : CallsR Tryz.prog 52 [v, .int .i64 p, .int .i64 q] R fun R' r => GV R' r (joinG gs (keepG gs p q) (goneG gs p q)) := by
 have h0 := h
 obtain ⟨hgl, a, cap, rfl, hc, hf⟩ := h.form
 have hK := kg_of hp hq hne
 have hgl2 := hV.len
 refine callsT mix Tryz.func52 comp52 (by simp [Tryz.ntmps52]) ?_; simp only [go_sem, ↓reduceIte, nQ1, nQ2, nQ3, nQ4, nQ5, nQ6, reduceCtorEq, vc52, rs52]
 refine vcall (rGroupOf gs p (personB_bd hp) _ R h0) ?_
 rintro R1 r hle1 rfl
 try simp only [go_sem, ↓reduceIte, nQ1, nQ2, nQ3, nQ4, nQ5, nQ6, reduceCtorEq]
 refine vcall (rGroupOf gs q (personB_bd hq) _ R1 (h0.mono hle1)) ?_
 rintro R2 r hle2 rfl
 try simp only [go_sem, ↓reduceIte, nQ1, nQ2, nQ3, nQ4, nQ5, nQ6, reduceCtorEq]
 refine vfreeze ?_
 try simp only [go_sem, ↓reduceIte, nQ1, nQ2, nQ3, nQ4, nQ5, nQ6, reduceCtorEq]
 intro b3 cap3 R3 hle3 hrow3 hcap3 hfr3
 have h1v : IntV R3 (.slice (some ⟨b3, 0, none⟩) 1 cap3) [p] := RowIn.enc (enc := fun x : Int => [Value.int .i64 x]) (k := 1) (xs := [p]) (fun _ => rfl) (by omega) hrow3 (show 1 ≤ cap3 * 1 by omega) (by simp)
 refine vcall (rIns [p] q (by simp) _ R3 h1v) ?_
 intro R4 r hle4 hv4
 obtain ⟨la, lc, rfl, -, -⟩ := EncV.form hv4
 try simp only [go_sem, ↓reduceIte, nQ1, nQ2, nQ3, nQ4, nQ5, nQ6, reduceCtorEq]
 have hle14 := RO.le_trans hle1 (RO.le_trans hle2 (RO.le_trans hle3 hle4))
 have hJ0 : JoinI gs p q 0 0 R4 ⟨insI [p] q, la, lc⟩ := ⟨insI_inc (List.pairwise_singleton _ _), fun z => by rw [insI_mem, memJ_zero]; simp [Or.comm], hv4⟩
 refine vcLoop (Nat × Iv) (fun x => [(10, .val (.int .i64 x.1)), (9, .val x.2.val), (7, .val (.int .i64 (grpOf gs p))), (8, .val (.int .i64 (grpOf gs q))), (0, .val (.slice a gs.length cap))]) (fun _ => [.dead]) (fun x R => x.1 ≤ gs.length ∧ JoinI gs p q x.1 0 R x.2) (fun x => gs.length - x.1) (0, ⟨insI [p] q, la, lc⟩) ?_ ?_ ?_ ?_
 ·(try simp only [go_sem, ↓reduceIte, nQ1, nQ2, nQ3, nQ4, nQ5, nQ6, reduceCtorEq]) <;> (repeat' (first | rfl | trivial | constructor | (intro h; exact absurd rfl h)))
 ·try simp only [go_sem, ↓reduceIte, nQ1, nQ2, nQ3, nQ4, nQ5, nQ6, reduceCtorEq]
 ·exact ⟨Nat.zero_le _, hJ0⟩
 rintro ⟨i, ⟨L, ya, yc⟩⟩ env R5 hle5 hE ⟨hi, hJ⟩
 simp only at hE hi hJ ⊢
 (simp only [go_sem] at hE; obtain ⟨e10, e9, e7, e8, e0⟩ := hE; simp only [go_sem, ↓reduceIte, nQ1, nQ2, nQ3, nQ4, nQ5, nQ6, reduceCtorEq, e10, e9, e7, e8, e0]; dsimp only at *)
 refine ⟨fun hlt => ⟨fun hp1 => ⟨fun hq1 => ?_, fun hq1 => ?_⟩, fun hp1 => ?_⟩, fun hge => ?_⟩
 ·have hi' : i < gs.length := by omega
  have hle15 := RO.le_trans hle14 hle5
  obtain ⟨ad, u, had, hR, hu⟩ := hf i hi'
  obtain ⟨-, ua, ucap, rfl, -, huf⟩ := IntV.form hu
  have hgl5 : gs[i].length ≤ 512 := inc_len (hV.all i hi').inc fun p hp' => ((hV.all i hi').mem p hp').1
  refine vcLoop (Nat × Iv) (fun x => [(11, .val (.int .i64 x.1)), (9, .val x.2.val), (10, .val (.int .i64 i)), (7, .val (.int .i64 (grpOf gs p))), (8, .val (.int .i64 (grpOf gs q))), (0, .val (.slice a gs.length cap))]) (fun _ => [.dead]) (fun x R => x.1 ≤ gs[i].length ∧ JoinI gs p q i x.1 R x.2) (fun x => gs[i].length - x.1) (0, ⟨L, ya, yc⟩) ?_ ?_ ?_ ?_
  ·(try simp only [go_sem, ↓reduceIte, nQ1, nQ2, nQ3, nQ4, nQ5, nQ6, reduceCtorEq]) <;> (repeat' (first | rfl | trivial | constructor | (intro h; exact absurd rfl h)))
  ·try simp only [go_sem, ↓reduceIte, nQ1, nQ2, nQ3, nQ4, nQ5, nQ6, reduceCtorEq]
  ·exact ⟨Nat.zero_le _, hJ⟩
  rintro ⟨j, ⟨M, za, zc⟩⟩ env R6 hle6 hE ⟨hj, hM⟩
  simp only at hE hj hM ⊢
  (simp only [go_sem] at hE; obtain ⟨f11, f9, f10, f7, f8, f0⟩ := hE; simp only [go_sem, ↓reduceIte, nQ1, nQ2, nQ3, nQ4, nQ5, nQ6, reduceCtorEq, f11, f9, f10, f7, f8, f0]; dsimp only at *)
  have hle16 := RO.le_trans hle15 hle6
  refine ⟨by omega, vat ad had ?_⟩
  try simp only [go_sem, ↓reduceIte, nQ1, nQ2, nQ3, nQ4, nQ5, nQ6, reduceCtorEq]
  refine vload _ (hle16 _ _ hR) ?_
  simp only [go_sem, ↓reduceIte, nQ1, nQ2, nQ3, nQ4, nQ5, nQ6, reduceCtorEq, f11, f9, f10, f7, f8, f0]
  refine ⟨fun hlt2 => ⟨by omega, vat ad had ?_⟩, fun hge2 => ?_⟩
  ·have hj' : j < gs[i].length := by omega
   obtain ⟨ad2, had2, hR2⟩ := huf j hj'
   try simp only [go_sem, ↓reduceIte, nQ1, nQ2, nQ3, nQ4, nQ5, nQ6, reduceCtorEq]
   refine vload _ (hle16 _ _ hR) ?_
   simp only [go_sem, ↓reduceIte, nQ1, nQ2, nQ3, nQ4, nQ5, nQ6, reduceCtorEq, f11, f9, f10, f7, f8, f0]
   refine ⟨by omega, vat ad2 had2 ?_⟩
   try simp only [go_sem, ↓reduceIte, nQ1, nQ2, nQ3, nQ4, nQ5, nQ6, reduceCtorEq]
   refine vload _ (hle16 _ _ hR2) ?_
   simp only [go_sem, ↓reduceIte, nQ1, nQ2, nQ3, nQ4, nQ5, nQ6, reduceCtorEq, f11, f9, f10, f7, f8, f0]
   have hM5 := memJ_len hV hp hq hM
   simp only at hM5
   refine vcall (rIns M gs[i][j] (by omega) _ R6 hM.val) ?_
   intro R7 r hle7 hv7
   obtain ⟨ma, mc, rfl, -, -⟩ := EncV.form hv7
   simp only [go_sem, ↓reduceIte, nQ1, nQ2, nQ3, nQ4, nQ5, nQ6, reduceCtorEq, f11, f9, f10, f7, f8, f0]
   refine ⟨_, W.in64 (by omega), (j + 1, ⟨insI M gs[i][j], ma, mc⟩), by omega, ?_, hj', insI_inc hM.inc, fun z => by rw [insI_mem, memJ_succ hi' hj', hM.mem], hv7⟩
   exact ⟨rfl, rfl⟩
  ·obtain rfl : j = gs[i].length := by omega
   refine ⟨_, W.in64 (by omega), (i + 1, ⟨M, za, zc⟩), by omega, ?_, hi', hM.inc, fun z => by rw [hM.mem, memJ_next hi' (.inr hq1)], hM.val⟩
   exact ⟨rfl, rfl⟩
 ·have hi' : i < gs.length := by omega
  refine ⟨_, W.in64 (by omega), (i + 1, ⟨L, ya, yc⟩), by omega, ?_, hi', hJ.inc, fun z => by rw [hJ.mem, memJ_skip (fun e => e.elim hp1 hq1)], hJ.val⟩
  exact ⟨rfl, rfl⟩
 ·have hi' : i < gs.length := by omega
  have hle15 := RO.le_trans hle14 hle5
  obtain ⟨ad, u, had, hR, hu⟩ := hf i hi'
  obtain ⟨-, ua, ucap, rfl, -, huf⟩ := IntV.form hu
  have hgl5 : gs[i].length ≤ 512 := inc_len (hV.all i hi').inc fun p hp' => ((hV.all i hi').mem p hp').1
  refine vcLoop (Nat × Iv) (fun x => [(11, .val (.int .i64 x.1)), (9, .val x.2.val), (10, .val (.int .i64 i)), (7, .val (.int .i64 (grpOf gs p))), (8, .val (.int .i64 (grpOf gs q))), (0, .val (.slice a gs.length cap))]) (fun _ => [.dead]) (fun x R => x.1 ≤ gs[i].length ∧ JoinI gs p q i x.1 R x.2) (fun x => gs[i].length - x.1) (0, ⟨L, ya, yc⟩) ?_ ?_ ?_ ?_
  ·(try simp only [go_sem, ↓reduceIte, nQ1, nQ2, nQ3, nQ4, nQ5, nQ6, reduceCtorEq]) <;> (repeat' (first | rfl | trivial | constructor | (intro h; exact absurd rfl h)))
  ·try simp only [go_sem, ↓reduceIte, nQ1, nQ2, nQ3, nQ4, nQ5, nQ6, reduceCtorEq]
  ·exact ⟨Nat.zero_le _, hJ⟩
  rintro ⟨j, ⟨M, za, zc⟩⟩ env R6 hle6 hE ⟨hj, hM⟩
  simp only at hE hj hM ⊢
  (simp only [go_sem] at hE; obtain ⟨f11, f9, f10, f7, f8, f0⟩ := hE; simp only [go_sem, ↓reduceIte, nQ1, nQ2, nQ3, nQ4, nQ5, nQ6, reduceCtorEq, f11, f9, f10, f7, f8, f0]; dsimp only at *)
  have hle16 := RO.le_trans hle15 hle6
  refine ⟨by omega, vat ad had ?_⟩
  try simp only [go_sem, ↓reduceIte, nQ1, nQ2, nQ3, nQ4, nQ5, nQ6, reduceCtorEq]
  refine vload _ (hle16 _ _ hR) ?_
  simp only [go_sem, ↓reduceIte, nQ1, nQ2, nQ3, nQ4, nQ5, nQ6, reduceCtorEq, f11, f9, f10, f7, f8, f0]
  refine ⟨fun hlt2 => ⟨by omega, vat ad had ?_⟩, fun hge2 => ?_⟩
  ·have hj' : j < gs[i].length := by omega
   obtain ⟨ad2, had2, hR2⟩ := huf j hj'
   try simp only [go_sem, ↓reduceIte, nQ1, nQ2, nQ3, nQ4, nQ5, nQ6, reduceCtorEq]
   refine vload _ (hle16 _ _ hR) ?_
   simp only [go_sem, ↓reduceIte, nQ1, nQ2, nQ3, nQ4, nQ5, nQ6, reduceCtorEq, f11, f9, f10, f7, f8, f0]
   refine ⟨by omega, vat ad2 had2 ?_⟩
   try simp only [go_sem, ↓reduceIte, nQ1, nQ2, nQ3, nQ4, nQ5, nQ6, reduceCtorEq]
   refine vload _ (hle16 _ _ hR2) ?_
   simp only [go_sem, ↓reduceIte, nQ1, nQ2, nQ3, nQ4, nQ5, nQ6, reduceCtorEq, f11, f9, f10, f7, f8, f0]
   have hM5 := memJ_len hV hp hq hM
   simp only at hM5
   refine vcall (rIns M gs[i][j] (by omega) _ R6 hM.val) ?_
   intro R7 r hle7 hv7
   obtain ⟨ma, mc, rfl, -, -⟩ := EncV.form hv7
   simp only [go_sem, ↓reduceIte, nQ1, nQ2, nQ3, nQ4, nQ5, nQ6, reduceCtorEq, f11, f9, f10, f7, f8, f0]
   refine ⟨_, W.in64 (by omega), (j + 1, ⟨insI M gs[i][j], ma, mc⟩), by omega, ?_, hj', insI_inc hM.inc, fun z => by rw [insI_mem, memJ_succ hi' hj', hM.mem], hv7⟩
   exact ⟨rfl, rfl⟩
  ·obtain rfl : j = gs[i].length := by omega
   refine ⟨_, W.in64 (by omega), (i + 1, ⟨M, za, zc⟩), by omega, ?_, hi', hM.inc, fun z => by rw [hM.mem, memJ_next hi' (.inl hp1)], hM.val⟩
   exact ⟨rfl, rfl⟩
 obtain rfl : i = gs.length := by omega
 have hall := hJ.all hV hp hq hne
 simp only at hall
 have hle15 := RO.le_trans hle14 hle5
 obtain ⟨hs, hE0, hhl, hhv⟩ := h0
 have hH : HsV R hs gs := ⟨hhl, hhv⟩
 obtain ⟨a', cap', e', -, hsf⟩ := hE0.form
 simp only [Value.slice.injEq] at e'
 obtain ⟨rfl, -, rfl⟩ := e'
 obtain ⟨keep, hkeep⟩ : ∃ keep, keep = keepG gs p q := ⟨_, rfl⟩
 obtain ⟨gone, hgone⟩ : ∃ gone, gone = goneG gs p q := ⟨_, rfl⟩
 rw [← hkeep, ← hgone] at hK ⊢
 rw [← hkeep, ← hgone] at hall
 have ho := hK.ord
 have hhi := hK.hi
 have hsw : ∀ i : Nat, ((i : Int) = grpOf gs p ∨ (i : Int) = grpOf gs q) ↔ ((i : Int) = keep ∨ (i : Int) = gone) := fun i => by
  rw [hkeep, hgone]
  unfold keepG goneG
  split
  ·exact Or.comm
  ·exact Iff.rfl
 obtain ⟨z, hz⟩ : ∃ z, z = Value.slice ya L.length yc := ⟨_, rfl⟩
 have hzv : IntV R5 z L := by rw [hz]; exact hJ.val
 have hz1 : z.oneCell' = true := by rw [hz]; rfl
 refine vcLoopR Nat (fun i => [(14, .val (.int .i64 i)), (12, .sl 1 (setE hs keep gone z i).length), (13, .val (.bool (decide (0 ≤ keep ∧ keep < i)))), (9, .val (.slice ya L.length yc)), (7, .val (.int .i64 (grpOf gs p))), (8, .val (.int .i64 (grpOf gs q))), (0, .val (.slice a gs.length cap))]) (fun i => [.dead, .row 64 1 (setE hs keep gone z i)]) (fun i _ => i ≤ gs.length) (fun i => gs.length - i) 0 [] ?_ ?_ ?_ ?_
 ·rw [setE_zero, show decide (0 ≤ keep ∧ keep < ((0 : Nat) : Int)) = false from decide_eq_false (by omega)]
  (try simp only [go_sem, ↓reduceIte, nQ1, nQ2, nQ3, nQ4, nQ5, nQ6, reduceCtorEq]) <;> (repeat' (first | rfl | trivial | constructor | (intro h; exact absurd rfl h)))
 ·try simp only [go_sem, ↓reduceIte, nQ1, nQ2, nQ3, nQ4, nQ5, nQ6, reduceCtorEq]
 ·exact Nat.zero_le _
 rintro i env R6 hle6 hE hi
 (simp only [go_sem] at hE; obtain ⟨e14, e12, e13, e9, e7, e8, e0⟩ := hE; simp only [go_sem, ↓reduceIte, nQ1, nQ2, nQ3, nQ4, nQ5, nQ6, reduceCtorEq, e14, e12, e13, e9, e7, e8, e0]; dsimp only at *)
 have hle16 := RO.le_trans hle15 hle6
 have hsl := setE_len hs keep gone z i
 have hsl1 := setE_len hs keep gone z (i + 1)
 refine ⟨fun hlt => ⟨fun hp1 => ⟨fun hq1 => ?_, fun hq1 => ?_⟩, fun hp1 => ?_⟩, fun hge => ?_⟩
 ·have hi' : i < hs.length := by omega
  obtain ⟨s1, s2, s3⟩ := setE_succ hs z hi' ho
  have hni : ¬ ((i : Int) = keep ∨ (i : Int) = gone) := fun e => ((hsw i).2 e).elim hp1 hq1
  have s3 := s3 (fun e => hni (.inl e)) (fun e => hni (.inr e))
  have hsl2 := congrArg List.length s3
  rw [List.length_append, List.length_singleton] at hsl2
  obtain ⟨ad, had, hR⟩ := hsf i hi'
  have hR0 := hR 0 _ rfl
  rw [add_add, Nat.mul_one, Nat.add_zero] at hR0
  obtain ⟨xa, xc, hxe, -, -⟩ := EncV.form (hH.val i hi' (by omega))
  rw [hxe] at hR0 s3
  refine ⟨by omega, vat ad had ?_⟩
  try simp only [go_sem, ↓reduceIte, nQ1, nQ2, nQ3, nQ4, nQ5, nQ6, reduceCtorEq]
  refine vload _ (hle16 _ _ hR0) ?_
  simp only [go_sem, ↓reduceIte, nQ1, nQ2, nQ3, nQ4, nQ5, nQ6, reduceCtorEq, e14, e12, e13, e9, e7, e8, e0]
  refine vappO (setE hs keep gone z i) rfl (by simp) (by omega) ?_
  simp only [go_sem, ↓reduceIte, nQ1, nQ2, nQ3, nQ4, nQ5, nQ6, reduceCtorEq, e14, e12, e13, e9, e7, e8, e0]
  refine ⟨_, W.in64 (by omega), i + 1, [0, 3], by omega, ?_, by decide, by omega⟩
  rw [s3, List.length_append, show decide (0 ≤ keep ∧ keep < ((i + 1 : Nat) : Int)) = decide (0 ≤ keep ∧ keep < (i : Int)) from decide_eq_decide.2 (by omega)]
  exact ⟨⟨rfl, rfl, rfl⟩, rfl⟩
 ·have hi' : i < hs.length := by omega
  obtain ⟨s1, s2, s3⟩ := setE_succ hs z hi' ho
  refine ⟨fun hd => ?_, fun hd => ?_⟩
  ·have hik : (i : Int) = keep := by
    rcases (hsw i).1 (.inr hq1) with h1 | h1
    ·exact h1
    ·exact absurd (by omega) hd
   have s2 := s2 hik
   have hsl2 := congrArg List.length s2
   rw [List.length_append, List.length_singleton] at hsl2
   refine vappO (setE hs keep gone z i) rfl (by simp) (by omega) ?_
   simp only [go_sem, ↓reduceIte, nQ1, nQ2, nQ3, nQ4, nQ5, nQ6, reduceCtorEq, e14, e12, e13, e9, e7, e8, e0]
   refine ⟨_, W.in64 (by omega), i + 1, [0, 3], by omega, ?_, by decide, by omega⟩
   rw [s2, hz, List.length_append, show decide (0 ≤ keep ∧ keep < ((i + 1 : Nat) : Int)) = true from decide_eq_true (by omega)]
   exact ⟨⟨rfl, rfl, rfl⟩, rfl⟩
  ·have hig : (i : Int) = gone := by
    rcases (hsw i).1 (.inr hq1) with h1 | h1
    ·exact absurd hd (by omega)
    ·exact h1
   refine ⟨_, W.in64 (by omega), i + 1, [], by omega, ?_, by decide, by omega⟩
   rw [s1 hig, show decide (0 ≤ keep ∧ keep < ((i + 1 : Nat) : Int)) = true from decide_eq_true (by omega)]
   rw [show decide (0 ≤ keep ∧ keep < (i : Int)) = true from decide_eq_true hd]
   exact ⟨⟨rfl, rfl, rfl⟩, rfl⟩
 ·have hi' : i < hs.length := by omega
  obtain ⟨s1, s2, s3⟩ := setE_succ hs z hi' ho
  refine ⟨fun hd => ?_, fun hd => ?_⟩
  ·have hik : (i : Int) = keep := by
    rcases (hsw i).1 (.inl hp1) with h1 | h1
    ·exact h1
    ·exact absurd (by omega) hd
   have s2 := s2 hik
   have hsl2 := congrArg List.length s2
   rw [List.length_append, List.length_singleton] at hsl2
   refine vappO (setE hs keep gone z i) rfl (by simp) (by omega) ?_
   simp only [go_sem, ↓reduceIte, nQ1, nQ2, nQ3, nQ4, nQ5, nQ6, reduceCtorEq, e14, e12, e13, e9, e7, e8, e0]
   refine ⟨_, W.in64 (by omega), i + 1, [0, 3], by omega, ?_, by decide, by omega⟩
   rw [s2, hz, List.length_append, show decide (0 ≤ keep ∧ keep < ((i + 1 : Nat) : Int)) = true from decide_eq_true (by omega)]
   exact ⟨⟨rfl, rfl, rfl⟩, rfl⟩
  ·have hig : (i : Int) = gone := by
    rcases (hsw i).1 (.inl hp1) with h1 | h1
    ·exact absurd hd (by omega)
    ·exact h1
   refine ⟨_, W.in64 (by omega), i + 1, [], by omega, ?_, by decide, by omega⟩
   rw [s1 hig, show decide (0 ≤ keep ∧ keep < ((i + 1 : Nat) : Int)) = true from decide_eq_true (by omega)]
   rw [show decide (0 ≤ keep ∧ keep < (i : Int)) = true from decide_eq_true hd]
   exact ⟨⟨rfl, rfl, rfl⟩, rfl⟩
 obtain rfl : i = gs.length := by omega
 have hset := (hH.mono hle15).setG keep gone hzv gs.length
 have hsl := setE_len hs keep gone z gs.length
 refine ⟨fun hd => ?_, fun hd => ?_⟩
 ·have hk : keep < 0 := by omega
  refine vappO (setE hs keep gone z gs.length) rfl (by simp) (by omega) ?_
  try simp only [go_sem, ↓reduceIte, nQ1, nQ2, nQ3, nQ4, nQ5, nQ6, reduceCtorEq, e14, e12, e13, e9, e7, e8, e0]
  intro b7 cap7 R7 hle7 hrow hcap hfr
  rw [joinG_setE ho, if_pos hk, ← hall]
  have hlen : (setE hs keep gone z gs.length).length + 1 = (setE hs keep gone z gs.length ++ [z]).length := by simp
  have hpush := (hset.push hzv).mono (RO.le_trans hle6 hle7)
  rw [hlen]
  exact hpush.gv (rowV (by rw [hz] at hrow ⊢; exact hrow) (by rw [← hlen]; rw [hz] at hcap ⊢; omega) (by rw [← hlen]; omega))
 ·have hk : ¬ keep < 0 := by omega
  intro b7 cap7 R7 hle7 hrow hcap hfr
  rw [joinG_setE ho, if_neg hk, ← hall, List.append_nil]
  exact (hset.mono (RO.le_trans hle6 hle7)).gv (rowV hrow (by omega) (by omega))
end Go.Proofs.YtclkibjonbhldaaGreatDoor
namespace Go.Proofs.YtclkibjonbhldaaGreatDoor
set_option linter.unusedSimpArgs false
set_option linter.unusedVariables false
open Go.Proofs.YtclkibjonbhldaaGreatDoor.Vc
def mapS (gs : List (List Int)) (keep gone : Int) (s : Se) : Se := ⟨mapG gs keep gone s.group, s.grain, s.cells⟩
def accA (gs : List (List Int)) (keep gone : Int) (l : List Se) (i : Nat) : List Se := ((l.map (mapS gs keep gone)).take i).foldl (fun acc s => addS acc s.group s.grain s.cells) []
theorem accA_succ {gs : List (List Int)} {keep gone : Int} {l : List Se} {i : Nat} (hi : i < l.length) : accA gs keep gone l (i + 1) = addS (accA gs keep gone l i) (mapG gs keep gone l[i].group) l[i].grain l[i].cells := by
 unfold accA
 rw [List.take_succ_eq_append_getElem (by simpa using hi), List.foldl_append, List.getElem_map]
 rfl
theorem accA_facts (gs : List (List Int)) (keep gone : Int) (l : List Se) (i : Nat) : (accA gs keep gone l i).Pairwise keyLt ∧ Full (accA gs keep gone l i) := by
 have := foldS_facts ((l.map (mapS gs keep gone)).take i) [] List.Pairwise.nil (by simp [Full])
 exact ⟨this.1, this.2.1⟩
theorem lens_le {l : List Se} {n : Nat} (h : ∀ s ∈ l, s.cells.length ≤ n) : lens l ≤ n * l.length := by
 induction l with
 | nil => simp [lens]
 | cons s l ih =>
  have h1 := ih fun x hx => h x (by simp [hx])
  have h2 := h s (by simp)
  rw [lens_cons, List.length_cons, Nat.mul_add]
  omega
theorem accA_bd {gs : List (List Int)} {keep gone : Int} {l : List Se} {i : Nat} (hl : l.length ≤ 1000) (hc : ∀ s ∈ l, s.cells.length ≤ 1000) : (accA gs keep gone l i).length ≤ 1000 ∧ ∀ s ∈ accA gs keep gone l i, s.cells.length ≤ 1000000 := by
 obtain ⟨h1, h2⟩ := fold_bd ((l.map (mapS gs keep gone)).take i) [] List.Pairwise.nil
 have h3 : lens ((l.map (mapS gs keep gone)).take i) ≤ 1000 * ((l.map (mapS gs keep gone)).take i).length := lens_le fun s hs => by
  obtain ⟨x, hx, rfl⟩ := List.mem_map.1 (List.mem_of_mem_take hs)
  exact hc x hx
 have h4 : ((l.map (mapS gs keep gone)).take i).length ≤ 1000 := by simp; omega
 have h5 : lens ([] : List Se) = 0 := rfl
 refine ⟨Nat.le_trans h2 (by simp only [List.length_nil]; omega), fun s hs => Nat.le_trans (lens_mem hs) (Nat.le_trans h1 ?_)⟩
 have : 1000 * ((l.map (mapS gs keep gone)).take i).length ≤ 1000 * 1000 := Nat.mul_le_mul_left _ h4
 omega
set_option maxHeartbeats 4000000 in
theorem rAlias (b : Bu) (hr : RawB b) (p q : Int) (v : Value) (R : RO) (h : BuV R v b) : CallsR Tryz.prog 19 [v, .int .i64 p, .int .i64 q] R fun R' r => AliasV R' r b p q (okB b) := by
 have hV := fun R' hle => rValid b hr v R' (BuV.mono (R' := R') h hle)
 have hb0 := h
 obtain ⟨gv, sv, rfl, hg, hs⟩ := h
 obtain ⟨-, ga, gc, rfl, -, hgf⟩ := hg.form
 obtain ⟨hsl, sa, sc, rfl, -, hsf⟩ := hs.form
 have hbad : ¬ (okB b = true ∧ personB p = true ∧ personB q = true) → ∀ R', AliasV R' (.tuple #[.agg #[.int .i64 0, .slice none 0 0, .slice none 0 0], .int .i64 1]) b p q (okB b) := fun hn R' => by unfold AliasV; rw [if_neg hn]; rfl
 refine callsT mix Tryz.func19 comp19 (by simp [Tryz.ntmps19]) ?_; simp only [go_sem, ↓reduceIte, nQ1, nQ2, nQ3, nQ4, nQ5, nQ6, reduceCtorEq, vc19, rs19]
 refine vcall (hV R (RO.le_refl _)) ?_
 rintro R1 r hle1 rfl
 try simp only [go_sem, ↓reduceIte, nQ1, nQ2, nQ3, nQ4, nQ5, nQ6, reduceCtorEq]
 refine ⟨fun h1 => ?_, fun h1 => hbad (fun hO => by rw [hO.1] at h1; cases h1) _⟩
 refine vcall (rPerson p R1) ?_
 rintro R2 r hle2 rfl
 try simp only [go_sem, ↓reduceIte, nQ1, nQ2, nQ3, nQ4, nQ5, nQ6, reduceCtorEq]
 refine ⟨fun h2 => ?_, fun h2 => hbad (fun hO => by rw [hO.2.1] at h2; cases h2) _⟩
 refine vcall (rPerson q R2) ?_
 rintro R3 r hle3 rfl
 try simp only [go_sem, ↓reduceIte, nQ1, nQ2, nQ3, nQ4, nQ5, nQ6, reduceCtorEq]
 refine ⟨fun h3 => hbad (fun hO => by rw [hO.2.2] at h3; cases h3) _, fun h3 => ?_⟩
 have hle13 := RO.le_trans hle1 (RO.le_trans hle2 hle3)
 refine vcall (rGroupOf b.groups p (personB_bd h2) _ R3 (hg.mono hle13)) ?_
 rintro R4 r hle4 rfl
 try simp only [go_sem, ↓reduceIte, nQ1, nQ2, nQ3, nQ4, nQ5, nQ6, reduceCtorEq]
 refine vcall (rGroupOf b.groups q (personB_bd h3) _ R4 (hg.mono (RO.le_trans hle13 hle4))) ?_
 rintro R5 r hle5 rfl
 try simp only [go_sem, ↓reduceIte, nQ1, nQ2, nQ3, nQ4, nQ5, nQ6, reduceCtorEq]
 have hle15 := RO.le_trans hle13 (RO.le_trans hle4 hle5)
 have hB := okB_iff.1 h1
 have hyes : ∀ (R' : RO) bv, BuV R' bv (aliasB b p q) → AliasV R' (.tuple #[bv, .int .i64 0]) b p q (okB b) := fun R' bv hb => by unfold AliasV; rw [if_pos ⟨h1, h2, h3⟩]; exact ⟨bv, rfl, hb⟩
 refine ⟨fun he => ?_, fun he => ?_⟩
 ·refine hyes _ _ ?_
  rw [aliasB_same he]
  exact hb0.mono hle15
 refine vcall (rJoined b.groups hB.groups p q h2 h3 he _ R5 (hg.mono hle15)) ?_
 intro R6 r hle6 hgj
 have hgjf := hgj.form
 obtain ⟨-, ja, jc, rfl, -, -⟩ := hgjf
 try simp only [go_sem, ↓reduceIte, nQ1, nQ2, nQ3, nQ4, nQ5, nQ6, reduceCtorEq]
 have hK := kg_of h2 h3 he
 obtain ⟨k1, k2⟩ := kg_gone (gs := b.groups) h2 h3
 have hal := aliasB_diff (b := b) he
 obtain ⟨keep, hkeep⟩ : ∃ keep, keep = keepG b.groups p q := ⟨_, rfl⟩
 obtain ⟨gone, hgone⟩ : ∃ gone, gone = goneG b.groups p q := ⟨_, rfl⟩
 rw [← hkeep, ← hgone] at hK hal hgj ⊢
 rw [← hkeep] at k1
 rw [← hgone] at k2
 have hcan : canon (b.spent.map fun s => ⟨mapG b.groups keep gone s.group, s.grain, s.cells⟩) = accA b.groups keep gone b.spent b.spent.length := by
  unfold accA canon
  rw [List.take_of_length_le (by simp)]
  rfl
 refine vcLoop (Nat × Option Addr × Nat) (fun x => [(10, .val (.int .i64 x.1)), (3, .loc 0 0), (9, .loc 2 0), (6, .loc 1 0)]) (fun x => [.box [.val (.int .i64 b.limit), .val (.slice ga b.groups.length gc), .val (.slice sa b.spent.length sc)], .box [.val (.int .i64 0), .val (.slice none 0 0), .val (.slice none 0 0)], .box [.val (.int .i64 b.limit), .val (.slice ja (joinG b.groups keep gone).length jc), .val (.slice x.2.1 (accA b.groups keep gone b.spent x.1).length x.2.2)]]) (fun x R => x.1 ≤ b.spent.length ∧ SpentV R (.slice x.2.1 (accA b.groups keep gone b.spent x.1).length x.2.2) (accA b.groups keep gone b.spent x.1)) (fun x => b.spent.length - x.1) (0, none, 0) ?_ ?_ ?_ ?_
 ·(try simp only [go_sem, ↓reduceIte, nQ1, nQ2, nQ3, nQ4, nQ5, nQ6, reduceCtorEq]) <;> (repeat' (first | rfl | trivial | constructor | (intro h; exact absurd rfl h)))
 ·try simp only [go_sem, ↓reduceIte, nQ1, nQ2, nQ3, nQ4, nQ5, nQ6, reduceCtorEq]
 ·exact ⟨Nat.zero_le _, SpentV.nil _⟩
 rintro ⟨i, xa, xc⟩ env R7 hle7 hE ⟨hi, hsp⟩
 simp only at hE hi hsp ⊢
 (simp only [go_sem] at hE; obtain ⟨e10, e3, e9, e6⟩ := hE; simp only [go_sem, ↓reduceIte, nQ1, nQ2, nQ3, nQ4, nQ5, nQ6, reduceCtorEq, e10, e3, e9, e6]; dsimp only at *)
 have hle17 := RO.le_trans hle15 (RO.le_trans hle6 hle7)
 refine ⟨fun hlt => ?_, fun hge => ?_⟩
 ·have hi' : i < b.spent.length := by omega
  obtain ⟨ad, u, had, hR, hu⟩ := hsf i hi'
  have huf := hu.form
  obtain ⟨ua, ucap, rfl, -, -⟩ := huf
  refine ⟨by omega, vat ad had ?_⟩
  try simp only [go_sem, ↓reduceIte, nQ1, nQ2, nQ3, nQ4, nQ5, nQ6, reduceCtorEq]
  refine vloadn (seCells (b.spent[i], _)) rfl (fun j w hj => hle17 _ _ (hR j w hj)) ?_
  simp only [go_sem, ↓reduceIte, nQ1, nQ2, nQ3, nQ4, nQ5, nQ6, reduceCtorEq, seCells, e10, e3, e9, e6]
  have hmem := List.getElem_mem hi'
  have hea := hB.each _ hmem
  have hgh := hea.group
  have hbd := accA_bd (gs := b.groups) (keep := keep) (gone := gone) (i := i) hr.len fun s hs => (hr.spent s hs).len
  have hfa := accA_facts b.groups keep gone b.spent i
  have hrl := hr.len
  obtain ⟨z0, hz0, hzg0⟩ := hB.grp hmem
  have hb0 := grpOf_bd (gs := b.groups) hz0
  have hgl2 := hB.groups.len
  refine ⟨_, W.in64 (by omega), fun h5 => ⟨h5, hgh, ?_⟩, fun h5 => ?_⟩
  ·have hgn : b.spent[i].group.toNat < b.groups.length := by omega
   obtain ⟨ad2, u2, had2, hR2, hu2⟩ := hgf _ hgn
   obtain ⟨-, wa, wc, rfl, -, hwf⟩ := IntV.form hu2
   have hO := hB.groups.all _ hgn
   have hpos : 0 < (b.groups[b.spent[i].group.toNat]).length := List.length_pos_iff.2 hO.ne
   obtain ⟨ad3, had3, hR3⟩ := hwf 0 hpos
   have hzm := hO.mem _ (List.getElem_mem hpos)
   have hzg : grpOf b.groups (b.groups[b.spent[i].group.toNat])[0] = b.spent[i].group := by rw [hzm.2]; omega
   refine vat ad2 had2 ?_
   try simp only [go_sem, ↓reduceIte, nQ1, nQ2, nQ3, nQ4, nQ5, nQ6, reduceCtorEq]
   refine vload _ (hle17 _ _ hR2) ?_
   simp only [go_sem, ↓reduceIte, nQ1, nQ2, nQ3, nQ4, nQ5, nQ6, reduceCtorEq, seCells, e10, e3, e9, e6]
   refine ⟨by omega, by omega, vat ad3 had3 ?_⟩
   try simp only [go_sem, ↓reduceIte, nQ1, nQ2, nQ3, nQ4, nQ5, nQ6, reduceCtorEq]
   refine vload _ (hle17 _ _ hR3) ?_
   simp only [go_sem, ↓reduceIte, nQ1, nQ2, nQ3, nQ4, nQ5, nQ6, reduceCtorEq, seCells, e10, e3, e9, e6]
   refine vcall (rGroupOf (joinG b.groups keep gone) ((b.groups[b.spent[i].group.toNat])[0]) (personB_bd hzm.1) _ R7 (hgj.mono hle7)) ?_
   rintro R8 r hle8 rfl
   rw [grpOf_join hB.groups hK k1 k2 hzm.1, hzg]
   simp only [go_sem, ↓reduceIte, nQ1, nQ2, nQ3, nQ4, nQ5, nQ6, reduceCtorEq, seCells, e10, e3, e9, e6]
   refine vcall (rAdd (accA b.groups keep gone b.spent i) (mapG b.groups keep gone b.spent[i].group) b.spent[i].grain b.spent[i].cells hfa.1 hfa.2 (by omega) hbd.2 (Nat.le_trans (hr.spent _ hmem).len (by omega)) (fun hne => union_ne ?_) _ _ R8 (hsp.mono hle8) (hu.mono (RO.le_trans hle17 hle8))) ?_
   ·cases hm : b.spent[i].cells with
    | nil => exact absurd hm hne
    | cons c l => exact ⟨c, by simp, (validS_iff.1 hea.nor).1.pos c (by rw [hm]; simp)⟩
   intro R9 r hle9 hsv
   have hsvf := hsv.form
   obtain ⟨-, na, nc, rfl, -, -⟩ := hsvf
   simp only [go_sem, ↓reduceIte, nQ1, nQ2, nQ3, nQ4, nQ5, nQ6, reduceCtorEq, e10, e3, e9, e6]
   refine ⟨_, W.in64 (by omega), (i + 1, na, nc), by omega, ?_, hi', ?_⟩
   ·simp only [accA_succ hi']
    exact ⟨rfl, trivial⟩
   ·simp only [accA_succ hi']
    exact hsv
  ·have hal2 := hea.alone (by omega)
   refine vcall (rGroupOf (joinG b.groups keep gone) (-1 - b.spent[i].group) (personB_bd hal2.1) _ R7 (hgj.mono hle7)) ?_
   rintro R8 r hle8 rfl
   rw [grpOf_join hB.groups hK k1 k2 hal2.1, hal2.2]
   simp only [go_sem, ↓reduceIte, nQ1, nQ2, nQ3, nQ4, nQ5, nQ6, reduceCtorEq, seCells, e10, e3, e9, e6]
   refine vcall (rAdd (accA b.groups keep gone b.spent i) (mapG b.groups keep gone b.spent[i].group) b.spent[i].grain b.spent[i].cells hfa.1 hfa.2 (by omega) hbd.2 (Nat.le_trans (hr.spent _ hmem).len (by omega)) (fun hne => union_ne ?_) _ _ R8 (hsp.mono hle8) (hu.mono (RO.le_trans hle17 hle8))) ?_
   ·cases hm : b.spent[i].cells with
    | nil => exact absurd hm hne
    | cons c l => exact ⟨c, by simp, (validS_iff.1 hea.nor).1.pos c (by rw [hm]; simp)⟩
   intro R9 r hle9 hsv
   have hsvf := hsv.form
   obtain ⟨-, na, nc, rfl, -, -⟩ := hsvf
   simp only [go_sem, ↓reduceIte, nQ1, nQ2, nQ3, nQ4, nQ5, nQ6, reduceCtorEq, e10, e3, e9, e6]
   refine ⟨_, W.in64 (by omega), (i + 1, na, nc), by omega, ?_, hi', ?_⟩
   ·simp only [accA_succ hi']
    exact ⟨rfl, trivial⟩
   ·simp only [accA_succ hi']
    exact hsv
 ·obtain rfl : i = b.spent.length := by omega
  refine hyes _ _ ?_
  rw [hal, hcan]
  exact ⟨_, _, rfl, hgj.mono hle7, hsp⟩
end Go.Proofs.YtclkibjonbhldaaGreatDoor
namespace Go.Proofs.YtclkibjonbhldaaGreatDoor
set_option linter.unusedSimpArgs false
set_option linter.unusedVariables false
open Go.Proofs.YtclkibjonbhldaaGreatDoor.Vc
structure MadI (n : Nat) (b : Bu) : Prop where
 ok : OkB b
 sz : SzB b n (40 * n)
theorem MadI.raw {n : Nat} {b : Bu} (h : MadI n b) (hn : n ≤ 20) : RawB b := h.ok.raw (h.sz.mono (by omega) (by omega))
theorem MadI.next {n : Nat} {b : Bu} (h : MadI n b) : MadI (n + 1) b := ⟨h.ok, h.sz.mono (by omega) (by omega)⟩
theorem MadI.ask {n : Nat} {b : Bu} (h : MadI n b) {p k : Int} {w : Sp} (hp : personB p = true) (hk : 1 ≤ k ∧ k ≤ 4) (hw : OkW k w) (hc : (w.t - w.f) / sizeI k ≤ 40) : MadI (n + 1) (askB b p k w) :=
 ⟨h.ok.ask hp hk hw, (askB_bd h.ok hw h.sz (c := 40) (by omega)).mono (Nat.le_refl _) (by omega)⟩
theorem MadI.alias {n : Nat} {b : Bu} (h : MadI n b) {p q : Int} (hp : personB p = true) (hq : personB q = true) : MadI (n + 1) (aliasB b p q) :=
 ⟨h.ok.alias hp hq, (aliasB_bd h.sz).mono (by omega) (by omega)⟩
end Go.Proofs.YtclkibjonbhldaaGreatDoor
namespace Go.Proofs.YtclkibjonbhldaaGreatDoor
set_option linter.unusedSimpArgs false
set_option linter.unusedVariables false
open Go.Proofs.YtclkibjonbhldaaGreatDoor.Vc
noncomputable def deedB (b : Bu) (d : Dd) : Bu := if d.alias = true then aliasB b (d.person % 6) (d.other % 6) else if b.limit < totalD (grpOf b.groups (madeQ d).person) b.spent + costQ b (madeQ d).person (madeQ d).grain (madeQ d).w then b else askB b (madeQ d).person (madeQ d).grain (madeQ d).w
noncomputable def madeB (seed : Int) (ds : List Dd) (n : Nat) : Bu := (ds.take n).foldl deedB ⟨seed % 200, [], []⟩
theorem madeB_succ {seed : Int} {ds : List Dd} {i : Nat} (hi : i < ds.length) : madeB seed ds (i + 1) = deedB (madeB seed ds i) ds[i] := by
 unfold madeB
 rw [List.take_succ_eq_append_getElem hi, List.foldl_append]
 rfl
theorem madeB_end {seed : Int} {ds : List Dd} {i : Nat} (h : i = 10 ∨ (i = ds.length ∧ i ≤ 10)) : madeB seed ds i = madeB seed ds 10 := by
 rcases h with rfl | ⟨rfl, h⟩
 ·rfl
 ·unfold madeB
  rw [List.take_of_length_le (Nat.le_refl _), List.take_of_length_le h]
set_option maxHeartbeats 4000000 in
theorem rMadeD (seed : Int) (ds : List Dd) (v : Value) (R : RO) (h : DdV R v ds) : CallsR Tryz.prog 24 [.int .i64 seed, v] R fun R' r => ∃ x : Bx, r = .agg x.cells.toArray ∧ BxV R' x ∧ MadI 10 x.b ∧ x.b = madeB seed ds 10 := by
 have hdl := h.2
 obtain ⟨a, cap, rfl, hc, hf⟩ := h.form
 refine callsT mix Tryz.func24 comp24 (by simp [Tryz.ntmps24]) ?_; simp only [go_sem, ↓reduceIte, nQ1, nQ2, nQ3, nQ4, nQ5, nQ6, reduceCtorEq, vc24, rs24]
 refine vcall (rIndex seed 200 (by omega) R) ?_
 rintro R1 r hle1 rfl
 try simp only [go_sem, ↓reduceIte, nQ1, nQ2, nQ3, nQ4, nQ5, nQ6, reduceCtorEq, iQ1, iQ2, iQ3, iQ4, iQ5, iQ6]
 refine vcLoop (Nat × Bx) (fun x => [(6, .val (.int .i64 x.1)), (5, .loc 1 0), (4, .loc 0 0), (1, .val (.slice a ds.length cap))]) (fun x => [.box [.val (.int .i64 0), .val (.slice none 0 0), .val (.slice none 0 0)], .box (x.2.cells.map SV.val)]) (fun x R => x.1 ≤ 10 ∧ x.1 ≤ ds.length ∧ BxV R x.2 ∧ MadI x.1 x.2.b ∧ x.2.b = madeB seed ds x.1) (fun x => 10 - x.1) (0, ⟨⟨seed % 200, [], []⟩, none, 0, none, 0⟩) ?_ ?_ ?_ ?_
 ·(try simp only [go_sem, ↓reduceIte, nQ1, nQ2, nQ3, nQ4, nQ5, nQ6, reduceCtorEq]) <;> (repeat' (first | rfl | trivial | constructor | (intro h; exact absurd rfl h)))
 ·try simp only [go_sem, ↓reduceIte, nQ1, nQ2, nQ3, nQ4, nQ5, nQ6, reduceCtorEq]
 ·exact ⟨by omega, by omega, ⟨_, _, rfl, GV.nil _, SpentV.nil _⟩, ⟨okB_empty (by omega) (by omega), Nat.le_refl _, Nat.le_refl _⟩, rfl⟩
 rintro ⟨i, ⟨b, ga, gc, sa, sc⟩⟩ env R2 hle2 hE ⟨hi, hil, ⟨hV⟩, hI, hm⟩
 simp only [Bx.cells, List.map_cons, List.map_nil] at hE hV hi hil hI hm ⊢
 have hle12 := RO.le_trans hle1 hle2
 have hB := hI.ok
 have hraw := hI.raw (by omega)
 (simp only [go_sem] at hE; obtain ⟨e6, e5, e4, e1⟩ := hE; simp only [go_sem, ↓reduceIte, nQ1, nQ2, nQ3, nQ4, nQ5, nQ6, reduceCtorEq, e6, e5, e4, e1]; dsimp only at *)
 have hdone : ∃ x : Bx, Value.agg #[.int .i64 b.limit, .slice ga b.groups.length gc, .slice sa b.spent.length sc] = .agg x.cells.toArray ∧ BxV R2 x ∧ MadI 10 x.b ∧ (i = 10 ∨ (i = ds.length ∧ i ≤ 10) → x.b = madeB seed ds 10) := ⟨⟨b, ga, gc, sa, sc⟩, rfl, ⟨hV⟩, ⟨hB, hI.sz.mono (by omega) (by omega)⟩, fun e => hm.trans (madeB_end e)⟩
 have hend : (i = 10 ∨ (i = ds.length ∧ i ≤ 10)) → ∃ x : Bx, Value.agg #[.int .i64 b.limit, .slice ga b.groups.length gc, .slice sa b.spent.length sc] = .agg x.cells.toArray ∧ BxV R2 x ∧ MadI 10 x.b ∧ x.b = madeB seed ds 10 := fun e => by
  obtain ⟨x, e1, e2, e3, e4⟩ := hdone
  exact ⟨x, e1, e2, e3, e4 e⟩
 refine ⟨fun h1 => ⟨fun h2 => ⟨h1, ?_⟩, fun h2 => hend (by omega)⟩, fun h1 => hend (by omega)⟩
 have hlt' : i < ds.length := by omega
 obtain ⟨ad, had, hR⟩ := hf i hlt'
 have hR' := fun j u hj => hle12 _ _ (hR j u hj)
 refine vat ad had ?_
 try simp only [go_sem, ↓reduceIte, nQ1, nQ2, nQ3, nQ4, nQ5, nQ6, reduceCtorEq]
 refine vload (.bool ds[i].alias) (hR' 0 _ rfl) ?_
 simp only [go_sem, ↓reduceIte, nQ1, nQ2, nQ3, nQ4, nQ5, nQ6, reduceCtorEq, e6, e5, e4, e1]
 refine ⟨fun ha => ⟨by omega, vat ad had ?_⟩, fun ha => ⟨by omega, vat ad had ?_⟩⟩
 ·try simp only [go_sem, ↓reduceIte, nQ1, nQ2, nQ3, nQ4, nQ5, nQ6, reduceCtorEq]
  refine vload (.int .i64 ds[i].person) (hR' 1 _ rfl) ?_
  simp only [go_sem, ↓reduceIte, nQ1, nQ2, nQ3, nQ4, nQ5, nQ6, reduceCtorEq, e6, e5, e4, e1]
  refine ⟨by omega, vat ad had ?_⟩
  try simp only [go_sem, ↓reduceIte, nQ1, nQ2, nQ3, nQ4, nQ5, nQ6, reduceCtorEq]
  refine vload (.int .i64 ds[i].other) (hR' 2 _ rfl) ?_
  simp only [go_sem, ↓reduceIte, nQ1, nQ2, nQ3, nQ4, nQ5, nQ6, reduceCtorEq, e6, e5, e4, e1]
  refine vcall (rIndex ds[i].person 6 (by omega) R2) ?_
  rintro R3 r hle3 rfl
  try simp only [go_sem, ↓reduceIte, nQ1, nQ2, nQ3, nQ4, nQ5, nQ6, reduceCtorEq, e6, e5, e4, e1]
  refine vcall (rIndex ds[i].other 6 (by omega) R3) ?_
  rintro R4 r hle4 rfl
  try simp only [go_sem, ↓reduceIte, nQ1, nQ2, nQ3, nQ4, nQ5, nQ6, reduceCtorEq, e6, e5, e4, e1]
  have hp1 := person6 (p := ds[i].person % 6) (by omega) (by omega)
  have hp2 := person6 (p := ds[i].other % 6) (by omega) (by omega)
  refine vcall (rAlias b hraw (ds[i].person % 6) (ds[i].other % 6) _ R4 (hV.mono (RO.le_trans hle3 hle4))) ?_
  intro R5 r hle5 hv
  obtain ⟨ga', gc', sa', sc', rfl, hB'⟩ := alias_yes hv hB hp1 hp2
  try simp only [go_sem, ↓reduceIte, nQ1, nQ2, nQ3, nQ4, nQ5, nQ6, reduceCtorEq, e6, e5, e4, e1]
  refine ⟨_, W.in64 (by omega), (i + 1, ⟨aliasB b (ds[i].person % 6) (ds[i].other % 6), ga', gc', sa', sc'⟩), by omega, ?_, by omega, by omega, BxV.of hB', hI.alias hp1 hp2, by rw [madeB_succ hlt', ← hm]; unfold deedB; rw [if_pos ha]⟩
  simp only [aliasB_limit]
  exact ⟨rfl, trivial, trivial, trivial⟩
 ·try simp only [go_sem, ↓reduceIte, nQ1, nQ2, nQ3, nQ4, nQ5, nQ6, reduceCtorEq]
  refine vloadn (ds[i]).cells rfl hR' ?_
  try simp only [go_sem, ↓reduceIte, nQ1, nQ2, nQ3, nQ4, nQ5, nQ6, reduceCtorEq, e6, e5, e4, e1]
  obtain ⟨⟨q1, q2⟩, q3, q4, q5, -, -⟩ := madeQ_ok ds[i]
  have hpq := person6 q1 q2
  refine vcall (rMadeQ ds[i] R2) ?_
  rintro R3 r hle3 rfl
  try simp only [go_sem, ↓reduceIte, nQ1, nQ2, nQ3, nQ4, nQ5, nQ6, reduceCtorEq, e6, e5, e4, e1]
  refine vcall (rAsk b hraw (madeQ ds[i]) _ R3 (hV.mono hle3)) ?_
  intro R4 r hle4 hv
  rcases hv with ⟨h, _⟩ | ⟨_, h, rfl⟩ | ⟨_, hl, bv, rfl, gv', sv', rfl, hg', hs'⟩
  ·exact absurd (check_of hB hpq q3 q4 (by omega)) h
  ·simp only [zeroBu]
   try simp only [go_sem, ↓reduceIte, nQ1, nQ2, nQ3, nQ4, nQ5, nQ6, reduceCtorEq, e6, e5, e4, e1]
   refine ⟨fun e => absurd e (by decide), fun _ => ⟨_, W.in64 (by omega), (i + 1, ⟨b, ga, gc, sa, sc⟩), by omega, ?_, by omega, by omega, ⟨hV.mono (RO.le_trans hle3 hle4)⟩, hI.next, by rw [madeB_succ hlt', ← hm]; unfold deedB; rw [if_neg (by rw [ha]; decide), if_pos h]⟩⟩
   exact ⟨rfl, rfl, rfl, rfl⟩
  ·have hg' : GV R4 gv' b.groups := hg'
   obtain ⟨-, ga', gc', rfl, -, -⟩ := hg'.form
   obtain ⟨-, sa', sc', rfl, -, -⟩ := hs'.form
   have hql : (askB b (madeQ ds[i]).person (madeQ ds[i]).grain (madeQ ds[i]).w).limit = b.limit := rfl
   simp only [hql]
   try simp only [go_sem, ↓reduceIte, nQ1, nQ2, nQ3, nQ4, nQ5, nQ6, reduceCtorEq, e6, e5, e4, e1]
   refine ⟨_, W.in64 (by omega), (i + 1, ⟨askB b (madeQ ds[i]).person (madeQ ds[i]).grain (madeQ ds[i]).w, ga', gc', sa', sc'⟩), by omega, ?_, by omega, by omega, ⟨⟨_, _, rfl, hg', hs'⟩⟩, hI.ask hpq q3 q4 q5, by rw [madeB_succ hlt', ← hm]; unfold deedB; rw [if_neg (by rw [ha]; decide), if_neg hl]⟩
   exact ⟨rfl, rfl, rfl, rfl⟩
end Go.Proofs.YtclkibjonbhldaaGreatDoor
namespace Go.Proofs.YtclkibjonbhldaaGreatDoor
set_option linter.unusedSimpArgs false
set_option linter.unusedVariables false
open Go.Proofs.YtclkibjonbhldaaGreatDoor.Vc
noncomputable def sameB (x y : Bu) : Bool := @decide (x = y) (Classical.propDecidable _)
theorem sameB_iff {x y : Bu} : sameB x y = true ↔ x = y := @decide_eq_true_iff _ (Classical.propDecidable _)
theorem sameB_no {x y : Bu} (h : x ≠ y) : sameB x y = false := @decide_eq_false _ (Classical.propDecidable _) h
theorem take_eq_succ {α : Type} {a b : List α} {i : Nat} (ha : i < a.length) (hb : i < b.length) (h : a.take i = b.take i) (e : a[i] = b[i]) : a.take (i + 1) = b.take (i + 1) := by
 rw [List.take_succ_eq_append_getElem ha, List.take_succ_eq_append_getElem hb, h, e]
theorem take_eq_all {α : Type} {a b : List α} (hl : a.length = b.length) (h : a.take a.length = b.take a.length) : a = b := by
 rwa [List.take_length, hl, List.take_length] at h
theorem Bu.ext' {x y : Bu} (h1 : x.limit = y.limit) (h2 : x.groups = y.groups) (h3 : x.spent = y.spent) : x = y := by
 cases x; cases y
 simp only at h1 h2 h3
 rw [h1, h2, h3]
theorem Se.ext' {x y : Se} (h1 : x.group = y.group) (h2 : x.grain = y.grain) (h3 : x.cells = y.cells) : x = y := by
 cases x; cases y
 simp only at h1 h2 h3
 rw [h1, h2, h3]
set_option maxHeartbeats 4000000 in
theorem rSameBu (x y : Bu) (v u : Value) (R : RO) (h : BuV R v x) (h' : BuV R u y) : CallsR Tryz.prog 20 [v, u] R fun _ r => r = .bool (sameB x y) := by
 obtain ⟨gv, sv, rfl, hg, hs⟩ := h
 obtain ⟨gv', sv', rfl, hg', hs'⟩ := h'
 obtain ⟨hgl, ga, gc, rfl, -, gf⟩ := hg.form
 obtain ⟨hsl, sa, sc, rfl, -, sf⟩ := hs.form
 obtain ⟨-, ga', gc', rfl, -, gf'⟩ := hg'.form
 obtain ⟨-, sa', sc', rfl, -, sf'⟩ := hs'.form
 have hbad : x ≠ y → Value.bool false = Value.bool (sameB x y) := fun hn => by rw [sameB_no hn]
 refine callsT mix Tryz.func20 comp20 (by simp [Tryz.ntmps20]) ?_; simp only [go_sem, ↓reduceIte, nQ1, nQ2, nQ3, nQ4, nQ5, nQ6, reduceCtorEq, vc20, rs20]
 refine ⟨fun h1 => ⟨fun h2 => ⟨fun h3 => hbad fun e => h3 (by rw [e]), fun h3 => ?_⟩, fun h2 => hbad fun e => h2 (by rw [e])⟩, fun h1 => hbad fun e => h1 (by rw [e])⟩
 have hg2 : x.groups.length = y.groups.length := by omega
 have hs2 : x.spent.length = y.spent.length := by omega
 refine vcLoop Nat (fun i => [(5, .val (.int .i64 i)), (2, .loc 0 0), (3, .loc 1 0)]) (fun _ => [.box [.val (.int .i64 x.limit), .val (.slice ga x.groups.length gc), .val (.slice sa x.spent.length sc)], .box [.val (.int .i64 y.limit), .val (.slice ga' y.groups.length gc'), .val (.slice sa' y.spent.length sc')]]) (fun i _ => i ≤ x.groups.length ∧ x.groups.take i = y.groups.take i) (fun i => x.groups.length - i) 0 ?_ ?_ ?_ ?_
 ·(try simp only [go_sem, ↓reduceIte, nQ1, nQ2, nQ3, nQ4, nQ5, nQ6, reduceCtorEq]) <;> (repeat' (first | rfl | trivial | constructor | (intro h; exact absurd rfl h)))
 ·try simp only [go_sem, ↓reduceIte, nQ1, nQ2, nQ3, nQ4, nQ5, nQ6, reduceCtorEq]
 ·exact ⟨Nat.zero_le _, rfl⟩
 rintro i env R1 hle1 hE ⟨hi, ht⟩
 (simp only [go_sem] at hE; obtain ⟨e5, e2, e3⟩ := hE; simp only [go_sem, ↓reduceIte, nQ1, nQ2, nQ3, nQ4, nQ5, nQ6, reduceCtorEq, e5, e2, e3]; dsimp only at *)
 refine ⟨fun hlt => ?_, fun hge => ?_⟩
 ·have hi' : i < x.groups.length := by omega
  have hi2 : i < y.groups.length := by omega
  obtain ⟨ad, w, had, hR, hw⟩ := gf i hi'
  obtain ⟨ad', w', had', hR', hw'⟩ := gf' i hi2
  obtain ⟨hwl, wa, wc, rfl, -, wf⟩ := IntV.form hw
  obtain ⟨-, wa', wc', rfl, -, wf'⟩ := IntV.form hw'
  refine ⟨by omega, vat ad had ?_⟩
  try simp only [go_sem, ↓reduceIte, nQ1, nQ2, nQ3, nQ4, nQ5, nQ6, reduceCtorEq]
  refine vload _ (hle1 _ _ hR) ?_
  simp only [go_sem, ↓reduceIte, nQ1, nQ2, nQ3, nQ4, nQ5, nQ6, reduceCtorEq, e5, e2, e3]
  refine ⟨by omega, vat ad' had' ?_⟩
  try simp only [go_sem, ↓reduceIte, nQ1, nQ2, nQ3, nQ4, nQ5, nQ6, reduceCtorEq]
  refine vload _ (hle1 _ _ hR') ?_
  simp only [go_sem, ↓reduceIte, nQ1, nQ2, nQ3, nQ4, nQ5, nQ6, reduceCtorEq, e5, e2, e3]
  have hgne : x.groups[i] ≠ y.groups[i] → x ≠ y := fun hn e => hn (by subst e; rfl)
  refine ⟨fun hl => hbad (hgne fun e => hl (by rw [e])), fun hl => ?_⟩
  have hl2 : x.groups[i].length = y.groups[i].length := by omega
  refine vcLoop Nat (fun j => [(6, .val (.int .i64 j)), (5, .val (.int .i64 i)), (2, .loc 0 0), (3, .loc 1 0)]) (fun _ => [.box [.val (.int .i64 x.limit), .val (.slice ga x.groups.length gc), .val (.slice sa x.spent.length sc)], .box [.val (.int .i64 y.limit), .val (.slice ga' y.groups.length gc'), .val (.slice sa' y.spent.length sc')]]) (fun j _ => j ≤ x.groups[i].length ∧ x.groups[i].take j = y.groups[i].take j) (fun j => x.groups[i].length - j) 0 ?_ ?_ ?_ ?_
  ·(try simp only [go_sem, ↓reduceIte, nQ1, nQ2, nQ3, nQ4, nQ5, nQ6, reduceCtorEq]) <;> (repeat' (first | rfl | trivial | constructor | (intro h; exact absurd rfl h)))
  ·try simp only [go_sem, ↓reduceIte, nQ1, nQ2, nQ3, nQ4, nQ5, nQ6, reduceCtorEq]
  ·exact ⟨Nat.zero_le _, rfl⟩
  rintro j env R2 hle2 hE ⟨hj, htj⟩
  (simp only [go_sem] at hE; obtain ⟨f6, f5, f2, f3⟩ := hE; simp only [go_sem, ↓reduceIte, nQ1, nQ2, nQ3, nQ4, nQ5, nQ6, reduceCtorEq, f6, f5, f2, f3]; dsimp only at *)
  have hle12 := RO.le_trans hle1 hle2
  refine ⟨by omega, vat ad had ?_⟩
  try simp only [go_sem, ↓reduceIte, nQ1, nQ2, nQ3, nQ4, nQ5, nQ6, reduceCtorEq]
  refine vload _ (hle12 _ _ hR) ?_
  simp only [go_sem, ↓reduceIte, nQ1, nQ2, nQ3, nQ4, nQ5, nQ6, reduceCtorEq, f6, f5, f2, f3]
  refine ⟨fun hjl => ⟨by omega, vat ad had ?_⟩, fun hjg => ?_⟩
  ·have hj' : j < x.groups[i].length := by omega
   have hj2 : j < y.groups[i].length := by omega
   obtain ⟨bd, hbd, hRb⟩ := wf j hj'
   obtain ⟨bd', hbd', hRb'⟩ := wf' j hj2
   try simp only [go_sem, ↓reduceIte, nQ1, nQ2, nQ3, nQ4, nQ5, nQ6, reduceCtorEq]
   refine vload _ (hle12 _ _ hR) ?_
   simp only [go_sem, ↓reduceIte, nQ1, nQ2, nQ3, nQ4, nQ5, nQ6, reduceCtorEq, f6, f5, f2, f3]
   refine ⟨by omega, vat bd hbd ?_⟩
   try simp only [go_sem, ↓reduceIte, nQ1, nQ2, nQ3, nQ4, nQ5, nQ6, reduceCtorEq]
   refine vload _ (hle12 _ _ hRb) ?_
   simp only [go_sem, ↓reduceIte, nQ1, nQ2, nQ3, nQ4, nQ5, nQ6, reduceCtorEq, f6, f5, f2, f3]
   refine ⟨by omega, vat ad' had' ?_⟩
   try simp only [go_sem, ↓reduceIte, nQ1, nQ2, nQ3, nQ4, nQ5, nQ6, reduceCtorEq]
   refine vload _ (hle12 _ _ hR') ?_
   simp only [go_sem, ↓reduceIte, nQ1, nQ2, nQ3, nQ4, nQ5, nQ6, reduceCtorEq, f6, f5, f2, f3]
   refine ⟨by omega, vat bd' hbd' ?_⟩
   try simp only [go_sem, ↓reduceIte, nQ1, nQ2, nQ3, nQ4, nQ5, nQ6, reduceCtorEq]
   refine vload _ (hle12 _ _ hRb') ?_
   simp only [go_sem, ↓reduceIte, nQ1, nQ2, nQ3, nQ4, nQ5, nQ6, reduceCtorEq, f6, f5, f2, f3]
   refine ⟨fun hne => hbad (hgne fun e => hne (by simp only [e])), fun heq => ⟨_, W.in64 (by omega), j + 1, by omega, rfl, by omega, take_eq_succ hj' hj2 htj heq⟩⟩
  ·obtain rfl : j = x.groups[i].length := by omega
   exact ⟨_, W.in64 (by omega), i + 1, by omega, rfl, by omega, take_eq_succ hi' hi2 ht (take_eq_all hl2 htj)⟩
 ·obtain rfl : i = x.groups.length := by omega
  have hgs := take_eq_all hg2 ht
  refine vcLoop Nat (fun i => [(7, .val (.int .i64 i)), (2, .loc 0 0), (3, .loc 1 0)]) (fun _ => [.box [.val (.int .i64 x.limit), .val (.slice ga x.groups.length gc), .val (.slice sa x.spent.length sc)], .box [.val (.int .i64 y.limit), .val (.slice ga' y.groups.length gc'), .val (.slice sa' y.spent.length sc')]]) (fun i _ => i ≤ x.spent.length ∧ x.spent.take i = y.spent.take i) (fun i => x.spent.length - i) 0 ?_ ?_ ?_ ?_
  ·(try simp only [go_sem, ↓reduceIte, nQ1, nQ2, nQ3, nQ4, nQ5, nQ6, reduceCtorEq]) <;> (repeat' (first | rfl | trivial | constructor | (intro h; exact absurd rfl h)))
  ·try simp only [go_sem, ↓reduceIte, nQ1, nQ2, nQ3, nQ4, nQ5, nQ6, reduceCtorEq]
  ·exact ⟨Nat.zero_le _, rfl⟩
  rintro i env R2 hle2 hE ⟨hi, ht2⟩
  (simp only [go_sem] at hE; obtain ⟨f7, f2, f3⟩ := hE; simp only [go_sem, ↓reduceIte, nQ1, nQ2, nQ3, nQ4, nQ5, nQ6, reduceCtorEq, f7, f2, f3]; dsimp only at *)
  have hle12 := RO.le_trans hle1 hle2
  refine ⟨fun hlt2 => ?_, fun hge2 => ?_⟩
  ·have hi' : i < x.spent.length := by omega
   have hi2 : i < y.spent.length := by omega
   obtain ⟨ad, w, had, hR, hw⟩ := sf i hi'
   obtain ⟨ad', w', had', hR', hw'⟩ := sf' i hi2
   have hwf := hw.form
   have hwf' := hw'.form
   obtain ⟨wa, wc, rfl, -, -⟩ := hwf
   obtain ⟨wa', wc', rfl, -, -⟩ := hwf'
   have hsne : x.spent[i] ≠ y.spent[i] → x ≠ y := fun hn e => hn (by subst e; rfl)
   refine ⟨by omega, vat ad had ?_⟩
   try simp only [go_sem, ↓reduceIte, nQ1, nQ2, nQ3, nQ4, nQ5, nQ6, reduceCtorEq]
   refine vload _ (hle12 _ _ (hR 2 _ rfl)) ?_
   simp only [go_sem, ↓reduceIte, nQ1, nQ2, nQ3, nQ4, nQ5, nQ6, reduceCtorEq, f7, f2, f3]
   refine ⟨by omega, vat ad' had' ?_⟩
   try simp only [go_sem, ↓reduceIte, nQ1, nQ2, nQ3, nQ4, nQ5, nQ6, reduceCtorEq]
   refine vload _ (hle12 _ _ (hR' 2 _ rfl)) ?_
   simp only [go_sem, ↓reduceIte, nQ1, nQ2, nQ3, nQ4, nQ5, nQ6, reduceCtorEq, f7, f2, f3]
   refine vcall (rSameS x.spent[i].cells y.spent[i].cells _ _ R2 (hw.mono hle12) (hw'.mono hle12)) ?_
   rintro R3 r hle3 rfl
   simp only [go_sem, ↓reduceIte, nQ1, nQ2, nQ3, nQ4, nQ5, nQ6, reduceCtorEq, f7, f2, f3]
   have hle13 := RO.le_trans hle12 hle3
   refine ⟨fun hce => ⟨by omega, vat ad had ?_⟩, fun hce => hbad (hsne fun e => hce (by rw [e]))⟩
   try simp only [go_sem, ↓reduceIte, nQ1, nQ2, nQ3, nQ4, nQ5, nQ6, reduceCtorEq]
   refine vload (.int .i64 x.spent[i].group) (hle13 _ _ (hR 0 _ rfl)) ?_
   simp only [go_sem, ↓reduceIte, nQ1, nQ2, nQ3, nQ4, nQ5, nQ6, reduceCtorEq, f7, f2, f3]
   refine ⟨by omega, vat ad' had' ?_⟩
   try simp only [go_sem, ↓reduceIte, nQ1, nQ2, nQ3, nQ4, nQ5, nQ6, reduceCtorEq]
   refine vload (.int .i64 y.spent[i].group) (hle13 _ _ (hR' 0 _ rfl)) ?_
   simp only [go_sem, ↓reduceIte, nQ1, nQ2, nQ3, nQ4, nQ5, nQ6, reduceCtorEq, f7, f2, f3]
   refine ⟨fun hge1 => ⟨by omega, vat ad had ?_⟩, fun hge1 => hbad (hsne fun e => hge1 (by rw [e]))⟩
   try simp only [go_sem, ↓reduceIte, nQ1, nQ2, nQ3, nQ4, nQ5, nQ6, reduceCtorEq]
   refine vload (.int .i64 x.spent[i].grain) (hle13 _ _ (hR 1 _ rfl)) ?_
   simp only [go_sem, ↓reduceIte, nQ1, nQ2, nQ3, nQ4, nQ5, nQ6, reduceCtorEq, f7, f2, f3]
   refine ⟨by omega, vat ad' had' ?_⟩
   try simp only [go_sem, ↓reduceIte, nQ1, nQ2, nQ3, nQ4, nQ5, nQ6, reduceCtorEq]
   refine vload (.int .i64 y.spent[i].grain) (hle13 _ _ (hR' 1 _ rfl)) ?_
   simp only [go_sem, ↓reduceIte, nQ1, nQ2, nQ3, nQ4, nQ5, nQ6, reduceCtorEq, f7, f2, f3]
   refine ⟨fun hgr => hbad (hsne fun e => hgr (by rw [e])), fun hgr => ⟨_, W.in64 (by omega), i + 1, by omega, rfl, by omega, take_eq_succ hi' hi2 ht2 (Se.ext' hge1 hgr hce)⟩⟩
  ·obtain rfl : i = x.spent.length := by omega
   rw [sameB_iff.2 (Bu.ext' h1 hgs (take_eq_all hs2 ht2))]
end Go.Proofs.YtclkibjonbhldaaGreatDoor
namespace Go.Proofs.YtclkibjonbhldaaGreatDoor
set_option linter.unusedSimpArgs false
set_option linter.unusedVariables false
open Go.Proofs.YtclkibjonbhldaaGreatDoor.Vc
theorem OkS.whole {gs : List (List Int)} {s : Se} (h : OkS gs s) : Whole s.grain s.cells := by
 obtain ⟨h1, h2⟩ := validS_iff.1 h.nor
 exact ⟨h1, h2, h.ali⟩
end Go.Proofs.YtclkibjonbhldaaGreatDoor
namespace Go.Proofs.YtclkibjonbhldaaGreatDoor
set_option linter.unusedSimpArgs false
set_option linter.unusedVariables false
open Go.Proofs.YtclkibjonbhldaaGreatDoor.Vc
noncomputable def eQ (b : Bu) (p k : Int) (w : Sp) : Int := if b.limit < totalD (grpOf b.groups p) b.spent + costQ b p k w then 13 else 0
noncomputable def nQ (b : Bu) (p k : Int) (w : Sp) : Bu := if b.limit < totalD (grpOf b.groups p) b.spent + costQ b p k w then ⟨0, [], []⟩ else askB b p k w
theorem ask_bx {R : RO} {r : Value} {b : Bu} {p k : Int} {w : Sp} (h : AskV R r b p k w) (h1 : checkI b p k w = 0) : ∃ x : Bx, r = .tuple #[.agg x.cells.toArray, .int .i64 (eQ b p k w)] ∧ BxV R x ∧ x.b = nQ b p k w := by
 rcases h with ⟨h, _⟩ | ⟨_, hl, rfl⟩ | ⟨_, hl, bv, rfl, gv, sv, rfl, hg, hs⟩
 ·exact absurd h1 h
 ·refine ⟨⟨⟨0, [], []⟩, none, 0, none, 0⟩, ?_, ⟨_, _, rfl, GV.nil _, SpentV.nil _⟩, ?_⟩
  ·unfold eQ; rw [if_pos hl]; rfl
  ·unfold nQ; rw [if_pos hl]
 ·have hg : GV R gv b.groups := hg
  obtain ⟨-, ga, gc, rfl, -, -⟩ := hg.form
  obtain ⟨-, sa, sc, rfl, -, -⟩ := hs.form
  refine ⟨⟨askB b p k w, ga, gc, sa, sc⟩, ?_, ⟨_, _, rfl, hg, hs⟩, ?_⟩
  ·unfold eQ; rw [if_neg hl]; rfl
  ·unfold nQ; rw [if_neg hl]
end Go.Proofs.YtclkibjonbhldaaGreatDoor
namespace Go.Proofs.YtclkibjonbhldaaGreatDoor
set_option linter.unusedSimpArgs false
set_option linter.unusedVariables false
open Go.Proofs.YtclkibjonbhldaaGreatDoor.Vc
theorem alias_bx {R : RO} {r : Value} {b : Bu} {p q : Int} (h : AliasV R r b p q (okB b)) (hB : OkB b) (hp : personB p = true) (hq : personB q = true) : ∃ x : Bx, r = .tuple #[.agg x.cells.toArray, .int .i64 0] ∧ BxV R x ∧ x.b = aliasB b p q := by
 obtain ⟨ga, gc, sa, sc, rfl, hv⟩ := alias_yes h hB hp hq
 refine ⟨⟨aliasB b p q, ga, gc, sa, sc⟩, ?_, ⟨?_⟩, rfl⟩
 ·simp only [Bx.cells, aliasB_limit]
 ·simp only [Bx.cells, aliasB_limit]
  exact hv
end Go.Proofs.YtclkibjonbhldaaGreatDoor
namespace Go.Proofs.YtclkibjonbhldaaGreatDoor
set_option linter.unusedSimpArgs false
set_option linter.unusedVariables false
open Go.Proofs.YtclkibjonbhldaaGreatDoor.Vc
def OneVal (R : RO) : Prop := ∀ x u y v, R x u → R y v → x.block = y.block → x.off = y.off → x = y ∧ u = v
theorem OneVal.sub {R R' : RO} (h : OneVal R') (hle : RO.le R R') : OneVal R := fun x u y v h1 h2 => h x u y v (hle _ _ h1) (hle _ _ h2)
theorem cell_spot {w : World} {a : Addr} {v : Value} (h : w.cell? a = some v) : a.spot = none := by
 unfold World.cell? at h
 split at h
 ·split at h
  ·exact absurd h (by simp)
  ·rename_i h'
   cases hs : a.spot with
   | none => rfl
   | some x => rw [hs] at h'; exact absurd rfl h'
 ·exact absurd h (by simp)
theorem callsR_func {P : Program} {f : FuncId} {args : List Value} {R : RO} {Post : RO → Value → Prop} (h : CallsR P f args R Post) : CallsR P f args R fun R' v => Post R' v ∧ OneVal R' := by
 intro w hR
 refine (h w hR).mono ?_
 rintro e w' ⟨v, R', h1, h2, h3, h4, h5⟩
 refine ⟨v, R', h1, h2, h3, h4, h5, fun x u y u' hx hy hb ho => ?_⟩
 have e1 := (h3 x u hx).1
 have e2 := (h3 y u' hy).1
 have s1 := cell_spot e1
 have s2 := cell_spot e2
 have hxy : x = y := by
  obtain ⟨b, o, s⟩ := x
  obtain ⟨b', o', s'⟩ := y
  simp only at hb ho s1 s2
  subst hb ho s1 s2
  rfl
 refine ⟨hxy, ?_⟩
 rw [hxy, e2] at e1
 exact (Option.some.inj e1).symm
structure Keep (P F : RO) : Prop where
 fn : OneVal P
 hard : ∀ x u, P x u → (∀ z, u ≠ .int .i64 z) → F x u
 soft : ∀ x z, P x (.int .i64 z) → ∃ z', F x (.int .i64 z')
theorem Keep.of {P F : RO} (h : OneVal P) (hle : RO.le P F) : Keep P F := ⟨h, fun x u hx _ => hle x u hx, fun x z hx => ⟨z, hle x _ hx⟩⟩
theorem Keep.put {P F : RO} (h : Keep P F) {a : Addr} {zs : List Int} (ha : ∀ i, i < zs.length → ∃ z, P (a.add i) (.int .i64 z)) : Keep P (putF F a (zs.map (.int .i64))) := by
 have hit : ∀ x u, P x u → (x.block = a.block ∧ a.off ≤ x.off ∧ x.off < a.off + (zs.map (Value.int .i64)).length) → ∃ i z, i < zs.length ∧ x = a.add i ∧ u = .int .i64 z := fun x u hx ⟨h1, h2, h3⟩ => by
  rw [List.length_map] at h3
  obtain ⟨z, hz⟩ := ha (x.off - a.off) (by omega)
  obtain ⟨e1, e2⟩ := h.fn x u _ _ hx hz (by rw [add_blk]; exact h1) (by rw [add_off]; omega)
  exact ⟨x.off - a.off, z, by omega, e1, e2⟩
 refine ⟨h.fn, fun x u hx hu => ?_, fun x z hx => ?_⟩
 ·refine putF_ne (h.hard x u hx hu) fun q => ?_
  obtain ⟨i, z, _, _, e⟩ := hit x u hx q
  exact hu z e
 ·by_cases q : x.block = a.block ∧ a.off ≤ x.off ∧ x.off < a.off + (zs.map (Value.int .i64)).length
  ·obtain ⟨i, _, hi, e, _⟩ := hit x _ hx q
   rw [e]
   exact ⟨zs[i], putF_at (by rw [List.getElem?_map, List.getElem?_eq_getElem hi]; rfl)⟩
  ·obtain ⟨z', hz'⟩ := h.soft x z hx
   exact ⟨z', putF_ne hz' q⟩
theorem vputs {e : Nat → SV} {b : List Blk} {R P : RO} {n : Nat} {a : Addr} {k : SV → St → Prop} {t : Vc.Tok k} (zs : List Int) (j : Nat) (F : RO) (hj : b[j]? = some (.own F)) (hK : Keep P F) (hn : zs.length = n) (h0 : 0 < n) (hz : ∀ i, i < n → ∃ z, P (a.add i) (.int .i64 z))
  (hk : ∀ F', Keep P F' → k (.val undef) ⟨e, b.set j (.own F'), R⟩) : StoreOT n a (.val (.agg (zs.map (.int .i64)).toArray)) ⟨e, b, R⟩ k t := by
 subst hn
 refine vstoreO j F hj (by simp [Value.cells]) h0 (fun i hi => ?_) (by simp [Value.cells, Value.oneCell']) (hk _ ?_)
 ·obtain ⟨z, hz⟩ := hz i hi
  obtain ⟨z', h⟩ := hK.soft _ _ hz
  exact ⟨_, h⟩
 ·exact Keep.put (zs := zs) hK hz
theorem vput {e : Nat → SV} {b : List Blk} {R P : RO} {a : Addr} {x z : Int} {k : SV → St → Prop} {t : Vc.Tok k} (j : Nat) (F : RO) (hj : b[j]? = some (.own F)) (hK : Keep P F) (hz : P a (.int .i64 z))
  (hk : ∀ F', Keep P F' → k (.val undef) ⟨e, b.set j (.own F'), R⟩) : StoreOT 1 a (.val (.int .i64 x)) ⟨e, b, R⟩ k t := by
 have ha : ∀ i, i < 1 → ∃ z, P (a.add i) (.int .i64 z) := fun i hi => by
  obtain rfl : i = 0 := by omega
  exact ⟨z, by rw [Addr.add_zero']; exact hz⟩
 refine vstoreO j F hj rfl (by omega) (fun i hi => ?_) (by simp [Value.cells, Value.oneCell']) (hk _ ?_)
 ·obtain ⟨z, hz⟩ := ha i hi
  obtain ⟨z', h⟩ := hK.soft _ _ hz
  exact ⟨_, h⟩
 ·exact Keep.put (zs := [x]) hK (by simpa using ha)
structure WB (P : RO) (ga : Option Addr) (gn : Nat) (sa : Option Addr) (sn : Nat) : Prop where
 gb : gn ≤ 1000000000
 sb : sn ≤ 1000000000
 grp : ∀ i, i < gn → ∃ ad ia n c, ga = some ad ∧ P (ad.add i) (.slice ia n c) ∧ n ≤ 1000000000 ∧ ∀ j, j < n → ∃ iad z, ia = some iad ∧ P (iad.add j) (.int .i64 z)
 spent : ∀ i, i < sn → ∃ ad ca n c, sa = some ad ∧ P ((ad.add (i * 3)).add 2) (.slice ca n c) ∧ n ≤ 1000000000 ∧ ∀ j, j < n → ∃ cad, ca = some cad ∧ ∀ m, m < 2 → ∃ z, P ((cad.add (j * 2)).add m) (.int .i64 z)
theorem SpV.put {P : RO} {a : Option Addr} {n c : Nat} {xs : List Sp} (h : SpV P (.slice a n c) xs) : n ≤ 1000000000 ∧ ∀ j, j < n → ∃ cad, a = some cad ∧ ∀ m, m < 2 → ∃ z, P ((cad.add (j * 2)).add m) (.int .i64 z) := by
 obtain ⟨a', cap, e, _, hf⟩ := EncV.form h
 simp only [Value.slice.injEq] at e
 obtain ⟨rfl, rfl, rfl⟩ := e
 refine ⟨h.2, fun j hj => ?_⟩
 obtain ⟨ad, rfl, hR⟩ := hf j hj
 refine ⟨ad, rfl, fun m hm => ?_⟩
 have h2 : m = 0 ∨ m = 1 := by omega
 rcases h2 with rfl | rfl
 ·exact ⟨_, hR 0 _ rfl⟩
 ·exact ⟨_, hR 1 _ rfl⟩
theorem BxV.wb {P : RO} {b : Bu} {ga sa : Option Addr} {gc sc : Nat} (h : BxV P ⟨b, ga, gc, sa, sc⟩) : WB P ga b.groups.length sa b.spent.length := by
 obtain ⟨gv, sv, e, hg, hs⟩ := h.val
 obtain ⟨hgl, ga', gc', rfl, _, hgf⟩ := hg.form
 obtain ⟨hsl, sa', sc', rfl, _, hsf⟩ := hs.form
 have e' : ([.int .i64 b.limit, .slice ga b.groups.length gc, .slice sa b.spent.length sc] : List Value) = [.int .i64 b.limit, .slice ga' b.groups.length gc', .slice sa' b.spent.length sc'] := by
  have := congrArg (fun v : Value => match v with | .agg x => x.toList | _ => []) e
  exact this
 simp only [List.cons.injEq, Value.slice.injEq, true_and, and_true] at e'
 obtain ⟨⟨rfl, _⟩, rfl, _⟩ := e'
 refine ⟨hgl, hsl, fun i hi => ?_, fun i hi => ?_⟩
 ·obtain ⟨ad, u, had, hu, hI⟩ := hgf i hi
  obtain ⟨hil, ia, ic, rfl, _, hif⟩ := IntV.form hI
  exact ⟨ad, ia, _, ic, had, hu, hil, fun j hj => by obtain ⟨iad, h1, h2⟩ := hif j hj; exact ⟨iad, _, h1, h2⟩⟩
 ·obtain ⟨ad, u, had, hu, hS⟩ := hsf i hi
  obtain ⟨ca, cc, rfl, _, _⟩ := EncV.form hS
  have h2 := hu 2 _ rfl
  obtain ⟨h3, h4⟩ := SpV.put hS
  exact ⟨ad, ca, _, cc, had, h2, h3, h4⟩
set_option maxHeartbeats 16000000 in
theorem lPurity (seed : Int) (ds : List Dd) (v : Value) (d : Dd) (R : RO) (hz : SzR R) (h : DdV R v ds) :
  CallsR Tryz.prog 11 [.int .i64 seed, v, .agg d.cells.toArray] R fun _ r => r = .bool true := by
 have hQ := fun R' => rMadeQ d R'
 simp only [Dd.cells] at hQ ⊢
 obtain ⟨q, hq⟩ : ∃ q, q = madeQ d := ⟨_, rfl⟩
 obtain ⟨⟨q1, q2⟩, q3, q4, q5, q6, q7⟩ := madeQ_ok d
 rw [← hq] at hQ q1 q2 q3 q4 q5 q6 q7
 obtain ⟨p, k, ⟨f, t⟩⟩ := q
 simp only [Qn.val] at hQ q1 q2 q3 q4 q5 q6 q7
 have hpq := person6 q1 q2
 have hc6 : (t - f) / sizeI k ≤ 65536 := by omega
 have hgk : grainB k = true := by unfold grainB; simp; omega
 refine callsT mix Tryz.func11 comp11 (by simp [Tryz.ntmps11]) ?_; simp only [go_sem, ↓reduceIte, nQ1, nQ2, nQ3, nQ4, nQ5, nQ6, reduceCtorEq, vc11, rs11]
 refine vcall (lSanity R hz) ?_
 rintro R1 r hle1 rfl
 try simp only [go_sem, ↓reduceIte, nQ1, nQ2, nQ3, nQ4, nQ5, nQ6, reduceCtorEq]
 refine vcall (rMadeD seed ds v R1 ?_) ?_
 ·exact ⟨h.1.mono hle1, h.2⟩
 rintro R2 r hle2 ⟨⟨b, ga, gc, sa, sc⟩, rfl, ⟨hV⟩, hI, hbm⟩
 simp only [Bx.cells] at hV hI hbm ⊢
 try simp only [go_sem, ↓reduceIte, nQ1, nQ2, nQ3, nQ4, nQ5, nQ6, reduceCtorEq]
 refine vcall (hQ R2) ?_
 rintro R3 r hle3 rfl
 try simp only [go_sem, ↓reduceIte, nQ1, nQ2, nQ3, nQ4, nQ5, nQ6, reduceCtorEq]
 have hB := hI.ok
 have hraw := hI.raw (by omega)
 have hz3 := hz.mono (RO.le_trans hle1 (RO.le_trans hle2 hle3))
 have hV3 := hV.mono hle3
 refine vadoptV rfl (fun R' hle' _ => callsR_func (rAsked b hraw ⟨p, k, ⟨f, t⟩⟩ _ R' (hz3.mono hle') (hV3.mono hle'))) ?_
 intro Rc1 Rc2 r Fc _ _ hv hFc
 obtain ⟨hv, hfc⟩ := hv
 obtain ⟨⟨nb, nga, ngc, nsa, nsc⟩, rfl, ⟨hN⟩, -⟩ := ask_bx hv (check_of hB hpq q3 q4 hc6)
 have hKc : Keep (newR Rc1 Rc2) Fc := Keep.of (hfc.sub newR_le) hFc
 simp only [Bx.cells] at hN ⊢
 try simp only [go_sem, ↓reduceIte, nQ1, nQ2, nQ3, nQ4, nQ5, nQ6, reduceCtorEq]
 have hp2 := person6 (p := d.other % 6) (by omega) (by omega)
 refine vcall (rIndex d.other 6 (by omega) R3) ?_
 rintro R4 r hle4 rfl
 try simp only [go_sem, ↓reduceIte, nQ1, nQ2, nQ3, nQ4, nQ5, nQ6, reduceCtorEq]
 have hz4 := hz3.mono hle4
 have hV4 := hV3.mono hle4
 refine vadoptV rfl (fun R' hle' _ => callsR_func (bAlias b hraw p (d.other % 6) _ R' (hz4.mono hle') (hV4.mono hle'))) ?_
 intro Ra1 Ra2 r Fa _ _ hv hFa
 obtain ⟨hv, hfa⟩ := hv
 obtain ⟨⟨ab, aga, agc, asa, asc⟩, rfl, ⟨hA⟩, -⟩ := alias_bx hv hB hpq hp2
 have hKa : Keep (newR Ra1 Ra2) Fa := Keep.of (hfa.sub newR_le) hFa
 simp only [Bx.cells] at hA ⊢
 try simp only [go_sem, ↓reduceIte, nQ1, nQ2, nQ3, nQ4, nQ5, nQ6, reduceCtorEq]
 refine vadoptV rfl (fun R' hle' _ => callsR_func (bKnownP b hraw p k _ R' (hz4.mono hle') (hV4.mono hle'))) ?_
 intro Rk1 Rk2 r Fk _ _ hv hFk
 obtain ⟨hv, hfk⟩ := hv
 unfold KnownV at hv
 rw [if_pos ⟨okB_iff.2 hB, hpq, hgk⟩] at hv
 obtain ⟨kv, rfl, hkv⟩ := hv
 have hKk : Keep (newR Rk1 Rk2) Fk := Keep.of (hfk.sub newR_le) hFk
 obtain ⟨ka, kc, rfl, -, hkf⟩ := hkv.form
 have hkl := hkv.2
 try simp only [go_sem, ↓reduceIte, nQ1, nQ2, nQ3, nQ4, nQ5, nQ6, reduceCtorEq]
 obtain ⟨kn, hkn⟩ : ∃ kn, kn = knownD b.spent (grpOf b.groups p) k := ⟨_, rfl⟩
 rw [← hkn] at hkf hkl hkv ⊢
 obtain ⟨hknl, hkput⟩ := SpV.put hkv
 have hwa := BxV.wb ⟨hA⟩
 have hwc := BxV.wb ⟨hN⟩
 refine vcLoop (Nat × RO) (fun x => [(16, .val (.int .i64 x.1)), (14, .val (.slice ka kn.length kc)), (12, .loc 6 0), (10, .loc 4 0), (8, .loc 1 0), (7, .val (.bool true)), (0, .val (.int .i64 seed)), (1, .val v)]) (fun x => [.box [.val (.bool d.alias), .val (.int .i64 d.person), .val (.int .i64 d.other), .val (.int .i64 d.grain), .val (.int .i64 d.day), .val (.int .i64 d.half), .val (.int .i64 d.length)], .box [.val (.int .i64 b.limit), .val (.slice ga b.groups.length gc), .val (.slice sa b.spent.length sc)], .box [.val (.int .i64 p), .val (.int .i64 k), .val (.int .i64 f), .val (.int .i64 t)], .own Fc, .box [.val (.int .i64 nb.limit), .val (.slice nga nb.groups.length ngc), .val (.slice nsa nb.spent.length nsc)], .own Fa, .box [.val (.int .i64 ab.limit), .val (.slice aga ab.groups.length agc), .val (.slice asa ab.spent.length asc)], .own x.2]) (fun x _ => x.1 ≤ kn.length ∧ Keep (newR Rk1 Rk2) x.2) (fun x => kn.length - x.1) (0, Fk) ?_ ?_ ?_ ?_
 ·(try simp only [go_sem, ↓reduceIte, nQ1, nQ2, nQ3, nQ4, nQ5, nQ6, reduceCtorEq]) <;> (repeat' (first | rfl | trivial | constructor | (intro h; exact absurd rfl h))) <;> exact RO.le_refl _
 ·try simp only [go_sem, ↓reduceIte, nQ1, nQ2, nQ3, nQ4, nQ5, nQ6, reduceCtorEq]
 ·exact ⟨Nat.zero_le _, hKk⟩
 rintro ⟨i, Fk'⟩ env R5 hle5 hE ⟨hi, hK⟩
 simp only at hE hi hK
 (simp only [go_sem] at hE; obtain ⟨e16, e14, e12, e10, e8, e7, e0, e1⟩ := hE; simp only [go_sem, ↓reduceIte, nQ1, nQ2, nQ3, nQ4, nQ5, nQ6, reduceCtorEq, e16, e14, e12, e10, e8, e7, e0, e1]; dsimp only at *)
 refine ⟨fun hlt => ?_, fun hlt => ?_⟩
 ·have hlt' : i < kn.length := by omega
  obtain ⟨ad, had, hz⟩ := hkput i hlt'
  refine ⟨by omega, vat ad had ?_⟩
  try simp only [go_sem, ↓reduceIte, nQ1, nQ2, nQ3, nQ4, nQ5, nQ6, reduceCtorEq, e16, e14, e12, e10, e8, e7, e0, e1]
  refine vputs [1, 2] 7 Fk' rfl hK rfl (by omega) hz fun F' hK' => ?_
  try simp only [go_sem, ↓reduceIte, nQ1, nQ2, nQ3, nQ4, nQ5, nQ6, reduceCtorEq, e16, e14, e12, e10, e8, e7, e0, e1]
  refine ⟨_, W.in64 (by omega), (i + 1, F'), by dsimp only; omega, ⟨by norm_cast, RO.le_refl _, RO.le_refl _, RO.le_refl _⟩, by omega, hK'⟩
 clear hKk hkf hkl hkput hK hi hlt
 refine vcLoop (Nat × RO × RO) (fun x => [(18, .val (.int .i64 x.1)), (17, .sl 8 2), (8, .loc 1 0), (7, .val (.bool true)), (0, .val (.int .i64 seed)), (1, .val v)]) (fun x => [.dead, .box [.val (.int .i64 b.limit), .val (.slice ga b.groups.length gc), .val (.slice sa b.spent.length sc)], .dead, .own x.2.1, .dead, .own x.2.2, .dead, .dead, .row 28 3 [.int .i64 ab.limit, .slice aga ab.groups.length agc, .slice asa ab.spent.length asc, .int .i64 nb.limit, .slice nga nb.groups.length ngc, .slice nsa nb.spent.length nsc]]) (fun x _ => x.1 ≤ 2 ∧ Keep (newR Rc1 Rc2) x.2.1 ∧ Keep (newR Ra1 Ra2) x.2.2) (fun x => 2 - x.1) (0, Fc, Fa) ?_ ?_ ?_ ?_
 ·(try simp only [go_sem, ↓reduceIte, nQ1, nQ2, nQ3, nQ4, nQ5, nQ6, reduceCtorEq]) <;> (repeat' (first | rfl | trivial | constructor | (intro h; exact absurd rfl h))) <;> exact RO.le_refl _
 ·try simp only [go_sem, ↓reduceIte, nQ1, nQ2, nQ3, nQ4, nQ5, nQ6, reduceCtorEq]
 ·exact ⟨Nat.zero_le _, hKc, hKa⟩
 rintro ⟨n, Gc, Ga⟩ env R6 hle6 hE ⟨hn, hGc, hGa⟩
 simp only at hE hn hGc hGa
 (simp only [go_sem] at hE; obtain ⟨e18, e17, e8, e7, e0, e1⟩ := hE; simp only [go_sem, ↓reduceIte, nQ1, nQ2, nQ3, nQ4, nQ5, nQ6, reduceCtorEq, e18, e17, e8, e7, e0, e1]; dsimp only at *)
 refine ⟨fun hlt => ?_, fun hlt => ?_⟩
 ·have hn2 : n = 0 ∨ n = 1 := by omega
  rcases hn2 with rfl | rfl
  ·try simp only [go_sem, ↓reduceIte, nQ1, nQ2, nQ3, nQ4, nQ5, nQ6, reduceCtorEq, e18, e17, e8, e7, e0, e1]
   refine ⟨by omega, ?_⟩
   refine vcLoop (Nat × RO) (fun x => [(20, .val (.int .i64 x.1)), (19, .loc 9 0), (18, .val (.int .i64 ((0 : Nat) : Int))), (17, .sl 8 2), (8, .loc 1 0), (7, .val (.bool true)), (0, .val (.int .i64 seed)), (1, .val v)]) (fun x => [.dead, .box [.val (.int .i64 b.limit), .val (.slice ga b.groups.length gc), .val (.slice sa b.spent.length sc)], .dead, .own Gc, .dead, .own x.2, .dead, .dead, .row 28 3 [.int .i64 ab.limit, .slice aga ab.groups.length agc, .slice asa ab.spent.length asc, .int .i64 nb.limit, .slice nga nb.groups.length ngc, .slice nsa nb.spent.length nsc], .box [.val (.int .i64 ab.limit), .val (.slice aga ab.groups.length agc), .val (.slice asa ab.spent.length asc)]]) (fun x _ => x.1 ≤ ab.groups.length ∧ Keep (newR Ra1 Ra2) x.2) (fun x => ab.groups.length - x.1) (0, Ga) ?_ ?_ ?_ ?_
   ·(try simp only [go_sem, ↓reduceIte, nQ1, nQ2, nQ3, nQ4, nQ5, nQ6, reduceCtorEq]) <;> (repeat' (first | rfl | trivial | constructor | (intro h; exact absurd rfl h))) <;> exact RO.le_refl _
   ·try simp only [go_sem, ↓reduceIte, nQ1, nQ2, nQ3, nQ4, nQ5, nQ6, reduceCtorEq]
   ·exact ⟨Nat.zero_le _, hGa⟩
   rintro ⟨i, Fi⟩ env R7 hle7 hE ⟨hi, hK⟩
   simp only at hE hi hK
   (simp only [go_sem] at hE; obtain ⟨e20, e19', e18', e17', e8', e7', e0', e1'⟩ := hE; simp only [go_sem, ↓reduceIte, nQ1, nQ2, nQ3, nQ4, nQ5, nQ6, reduceCtorEq, e20, e19', e18', e17', e8', e7', e0', e1']; dsimp only at *)
   refine ⟨fun hlt1 => ?_, fun hlt1 => ?_⟩
   ·obtain ⟨ad, ia, il, ic, had, hc1, hil, hnode⟩ := hwa.grp i (by omega)
    refine vcLoop (Nat × RO) (fun x => [(21, .val (.int .i64 x.1)), (20, .val (.int .i64 i)), (19, .loc 9 0), (18, .val (.int .i64 ((0 : Nat) : Int))), (17, .sl 8 2), (8, .loc 1 0), (7, .val (.bool true)), (0, .val (.int .i64 seed)), (1, .val v)]) (fun x => [.dead, .box [.val (.int .i64 b.limit), .val (.slice ga b.groups.length gc), .val (.slice sa b.spent.length sc)], .dead, .own Gc, .dead, .own x.2, .dead, .dead, .row 28 3 [.int .i64 ab.limit, .slice aga ab.groups.length agc, .slice asa ab.spent.length asc, .int .i64 nb.limit, .slice nga nb.groups.length ngc, .slice nsa nb.spent.length nsc], .box [.val (.int .i64 ab.limit), .val (.slice aga ab.groups.length agc), .val (.slice asa ab.spent.length asc)]]) (fun x _ => x.1 ≤ il ∧ Keep (newR Ra1 Ra2) x.2) (fun x => il - x.1) (0, Fi) ?_ ?_ ?_ ?_
    ·(try simp only [go_sem, ↓reduceIte, nQ1, nQ2, nQ3, nQ4, nQ5, nQ6, reduceCtorEq]) <;> (repeat' (first | rfl | trivial | constructor | (intro h; exact absurd rfl h))) <;> exact RO.le_refl _
    ·try simp only [go_sem, ↓reduceIte, nQ1, nQ2, nQ3, nQ4, nQ5, nQ6, reduceCtorEq]
    ·exact ⟨Nat.zero_le _, hK⟩
    rintro ⟨j, Fj⟩ env R8 hle8 hE ⟨hj, hK8⟩
    simp only at hE hj hK8
    (simp only [go_sem] at hE; obtain ⟨e21, e20, e19'', e18'', e17'', e8'', e7'', e0'', e1''⟩ := hE; simp only [go_sem, ↓reduceIte, nQ1, nQ2, nQ3, nQ4, nQ5, nQ6, reduceCtorEq, e21, e20, e19'', e18'', e17'', e8'', e7'', e0'', e1'']; dsimp only at *)
    refine ⟨by omega, vat ad had ?_⟩
    try simp only [go_sem, ↓reduceIte, nQ1, nQ2, nQ3, nQ4, nQ5, nQ6, reduceCtorEq]
    refine vloadO 5 Fj rfl _ (hK8.hard _ _ hc1 (fun z => by simp)) ?_
    try simp only [go_sem, ↓reduceIte, nQ1, nQ2, nQ3, nQ4, nQ5, nQ6, reduceCtorEq, e21, e20, e19'', e18'', e17'', e8'', e7'', e0'', e1'']
    refine ⟨fun hjl => ?_, fun hjl => ?_⟩
    ·obtain ⟨iad, z, hiad, hz⟩ := hnode j (by omega)
     refine ⟨by omega, vat ad had ?_⟩
     try simp only [go_sem, ↓reduceIte, nQ1, nQ2, nQ3, nQ4, nQ5, nQ6, reduceCtorEq]
     refine vloadO 5 Fj rfl _ (hK8.hard _ _ hc1 (fun z => by simp)) ?_
     try simp only [go_sem, ↓reduceIte, nQ1, nQ2, nQ3, nQ4, nQ5, nQ6, reduceCtorEq, e21, e20, e19'', e18'', e17'', e8'', e7'', e0'', e1'']
     refine ⟨by omega, vat iad hiad ?_⟩
     try simp only [go_sem, ↓reduceIte, nQ1, nQ2, nQ3, nQ4, nQ5, nQ6, reduceCtorEq]
     refine vput 5 Fj rfl hK8 hz fun F' hK' => ?_
     try simp only [go_sem, ↓reduceIte, nQ1, nQ2, nQ3, nQ4, nQ5, nQ6, reduceCtorEq, e21, e20, e19'', e18'', e17'', e8'', e7'', e0'', e1'']
     refine ⟨_, W.in64 (by omega), (j + 1, F'), by dsimp only; omega, ⟨by norm_cast, RO.le_refl _, RO.le_refl _⟩, by omega, hK'⟩
    ·refine ⟨_, W.in64 (by have := hwa.gb; omega), (i + 1, Fj), by dsimp only; omega, ⟨by norm_cast, RO.le_refl _, RO.le_refl _⟩, by omega, hK8⟩
   refine vcLoop (Nat × RO) (fun x => [(22, .val (.int .i64 x.1)), (19, .loc 9 0), (18, .val (.int .i64 ((0 : Nat) : Int))), (17, .sl 8 2), (8, .loc 1 0), (7, .val (.bool true)), (0, .val (.int .i64 seed)), (1, .val v)]) (fun x => [.dead, .box [.val (.int .i64 b.limit), .val (.slice ga b.groups.length gc), .val (.slice sa b.spent.length sc)], .dead, .own Gc, .dead, .own x.2, .dead, .dead, .row 28 3 [.int .i64 ab.limit, .slice aga ab.groups.length agc, .slice asa ab.spent.length asc, .int .i64 nb.limit, .slice nga nb.groups.length ngc, .slice nsa nb.spent.length nsc], .box [.val (.int .i64 ab.limit), .val (.slice aga ab.groups.length agc), .val (.slice asa ab.spent.length asc)]]) (fun x _ => x.1 ≤ ab.spent.length ∧ Keep (newR Ra1 Ra2) x.2) (fun x => ab.spent.length - x.1) (0, Fi) ?_ ?_ ?_ ?_
   ·(try simp only [go_sem, ↓reduceIte, nQ1, nQ2, nQ3, nQ4, nQ5, nQ6, reduceCtorEq]) <;> (repeat' (first | rfl | trivial | constructor | (intro h; exact absurd rfl h))) <;> exact RO.le_refl _
   ·try simp only [go_sem, ↓reduceIte, nQ1, nQ2, nQ3, nQ4, nQ5, nQ6, reduceCtorEq]
   ·exact ⟨Nat.zero_le _, hK⟩
   rintro ⟨i', Fi'⟩ env R9 hle9 hE ⟨hi', hK9⟩
   simp only at hE hi' hK9
   (simp only [go_sem] at hE; obtain ⟨e22, e19''', e18''', e17''', e8''', e7''', e0''', e1'''⟩ := hE; simp only [go_sem, ↓reduceIte, nQ1, nQ2, nQ3, nQ4, nQ5, nQ6, reduceCtorEq, e22, e19''', e18''', e17''', e8''', e7''', e0''', e1''']; dsimp only at *)
   refine ⟨fun hlt2 => ?_, fun hlt2 => ?_⟩
   ·obtain ⟨ad, ca, cl, cc, had, hc1, hcl, hnode⟩ := hwa.spent i' (by omega)
    refine vcLoop (Nat × RO) (fun x => [(23, .val (.int .i64 x.1)), (22, .val (.int .i64 i')), (19, .loc 9 0), (18, .val (.int .i64 ((0 : Nat) : Int))), (17, .sl 8 2), (8, .loc 1 0), (7, .val (.bool true)), (0, .val (.int .i64 seed)), (1, .val v)]) (fun x => [.dead, .box [.val (.int .i64 b.limit), .val (.slice ga b.groups.length gc), .val (.slice sa b.spent.length sc)], .dead, .own Gc, .dead, .own x.2, .dead, .dead, .row 28 3 [.int .i64 ab.limit, .slice aga ab.groups.length agc, .slice asa ab.spent.length asc, .int .i64 nb.limit, .slice nga nb.groups.length ngc, .slice nsa nb.spent.length nsc], .box [.val (.int .i64 ab.limit), .val (.slice aga ab.groups.length agc), .val (.slice asa ab.spent.length asc)]]) (fun x _ => x.1 ≤ cl ∧ Keep (newR Ra1 Ra2) x.2) (fun x => cl - x.1) (0, Fi') ?_ ?_ ?_ ?_
    ·(try simp only [go_sem, ↓reduceIte, nQ1, nQ2, nQ3, nQ4, nQ5, nQ6, reduceCtorEq]) <;> (repeat' (first | rfl | trivial | constructor | (intro h; exact absurd rfl h))) <;> exact RO.le_refl _
    ·try simp only [go_sem, ↓reduceIte, nQ1, nQ2, nQ3, nQ4, nQ5, nQ6, reduceCtorEq]
    ·exact ⟨Nat.zero_le _, hK9⟩
    rintro ⟨j, Fj⟩ env R10 hle10 hE ⟨hj, hK10⟩
    simp only at hE hj hK10
    (simp only [go_sem] at hE; obtain ⟨e23, e22, e19'''', e18'''', e17'''', e8'''', e7'''', e0'''', e1''''⟩ := hE; simp only [go_sem, ↓reduceIte, nQ1, nQ2, nQ3, nQ4, nQ5, nQ6, reduceCtorEq, e23, e22, e19'''', e18'''', e17'''', e8'''', e7'''', e0'''', e1'''']; dsimp only at *)
    refine ⟨by omega, vat ad had ?_⟩
    try simp only [go_sem, ↓reduceIte, nQ1, nQ2, nQ3, nQ4, nQ5, nQ6, reduceCtorEq]
    refine vloadO 5 Fj rfl _ (hK10.hard _ _ hc1 (fun z => by simp)) ?_
    try simp only [go_sem, ↓reduceIte, nQ1, nQ2, nQ3, nQ4, nQ5, nQ6, reduceCtorEq, e23, e22, e19'''', e18'''', e17'''', e8'''', e7'''', e0'''', e1'''']
    refine ⟨fun hjl => ?_, fun hjl => ?_⟩
    ·obtain ⟨cad, hcad, hz⟩ := hnode j (by omega)
     refine ⟨by omega, vat ad had ?_⟩
     try simp only [go_sem, ↓reduceIte, nQ1, nQ2, nQ3, nQ4, nQ5, nQ6, reduceCtorEq]
     refine vloadO 5 Fj rfl _ (hK10.hard _ _ hc1 (fun z => by simp)) ?_
     try simp only [go_sem, ↓reduceIte, nQ1, nQ2, nQ3, nQ4, nQ5, nQ6, reduceCtorEq, e23, e22, e19'''', e18'''', e17'''', e8'''', e7'''', e0'''', e1'''']
     refine ⟨by omega, vat cad hcad ?_⟩
     try simp only [go_sem, ↓reduceIte, nQ1, nQ2, nQ3, nQ4, nQ5, nQ6, reduceCtorEq]
     refine vputs [3, 4] 5 Fj rfl hK10 rfl (by omega) hz fun F' hK' => ?_
     try simp only [go_sem, ↓reduceIte, nQ1, nQ2, nQ3, nQ4, nQ5, nQ6, reduceCtorEq, e23, e22, e19'''', e18'''', e17'''', e8'''', e7'''', e0'''', e1'''']
     refine ⟨_, W.in64 (by omega), (j + 1, F'), by dsimp only; omega, ⟨by norm_cast, RO.le_refl _, RO.le_refl _⟩, by omega, hK'⟩
    ·refine ⟨_, W.in64 (by have := hwa.sb; omega), (i' + 1, Fj), by dsimp only; omega, ⟨by norm_cast, RO.le_refl _, RO.le_refl _⟩, by omega, hK10⟩
   ·refine ⟨_, W.in64 (by omega), (1, Gc, Fi'), by dsimp only; omega, ⟨by norm_cast, RO.le_refl _, RO.le_refl _⟩, by omega, hGc, hK9⟩
  ·try simp only [go_sem, ↓reduceIte, nQ1, nQ2, nQ3, nQ4, nQ5, nQ6, reduceCtorEq, e18, e17, e8, e7, e0, e1]
   refine ⟨by omega, ?_⟩
   refine vcLoop (Nat × RO) (fun x => [(20, .val (.int .i64 x.1)), (19, .loc 9 0), (18, .val (.int .i64 ((1 : Nat) : Int))), (17, .sl 8 2), (8, .loc 1 0), (7, .val (.bool true)), (0, .val (.int .i64 seed)), (1, .val v)]) (fun x => [.dead, .box [.val (.int .i64 b.limit), .val (.slice ga b.groups.length gc), .val (.slice sa b.spent.length sc)], .dead, .own x.2, .dead, .own Ga, .dead, .dead, .row 28 3 [.int .i64 ab.limit, .slice aga ab.groups.length agc, .slice asa ab.spent.length asc, .int .i64 nb.limit, .slice nga nb.groups.length ngc, .slice nsa nb.spent.length nsc], .box [.val (.int .i64 nb.limit), .val (.slice nga nb.groups.length ngc), .val (.slice nsa nb.spent.length nsc)]]) (fun x _ => x.1 ≤ nb.groups.length ∧ Keep (newR Rc1 Rc2) x.2) (fun x => nb.groups.length - x.1) (0, Gc) ?_ ?_ ?_ ?_
   ·(try simp only [go_sem, ↓reduceIte, nQ1, nQ2, nQ3, nQ4, nQ5, nQ6, reduceCtorEq]) <;> (repeat' (first | rfl | trivial | constructor | (intro h; exact absurd rfl h))) <;> exact RO.le_refl _
   ·try simp only [go_sem, ↓reduceIte, nQ1, nQ2, nQ3, nQ4, nQ5, nQ6, reduceCtorEq]
   ·exact ⟨Nat.zero_le _, hGc⟩
   rintro ⟨i, Fi⟩ env R7 hle7 hE ⟨hi, hK⟩
   simp only at hE hi hK
   (simp only [go_sem] at hE; obtain ⟨e20, e19', e18', e17', e8', e7', e0', e1'⟩ := hE; simp only [go_sem, ↓reduceIte, nQ1, nQ2, nQ3, nQ4, nQ5, nQ6, reduceCtorEq, e20, e19', e18', e17', e8', e7', e0', e1']; dsimp only at *)
   refine ⟨fun hlt1 => ?_, fun hlt1 => ?_⟩
   ·obtain ⟨ad, ia, il, ic, had, hc1, hil, hnode⟩ := hwc.grp i (by omega)
    refine vcLoop (Nat × RO) (fun x => [(21, .val (.int .i64 x.1)), (20, .val (.int .i64 i)), (19, .loc 9 0), (18, .val (.int .i64 ((1 : Nat) : Int))), (17, .sl 8 2), (8, .loc 1 0), (7, .val (.bool true)), (0, .val (.int .i64 seed)), (1, .val v)]) (fun x => [.dead, .box [.val (.int .i64 b.limit), .val (.slice ga b.groups.length gc), .val (.slice sa b.spent.length sc)], .dead, .own x.2, .dead, .own Ga, .dead, .dead, .row 28 3 [.int .i64 ab.limit, .slice aga ab.groups.length agc, .slice asa ab.spent.length asc, .int .i64 nb.limit, .slice nga nb.groups.length ngc, .slice nsa nb.spent.length nsc], .box [.val (.int .i64 nb.limit), .val (.slice nga nb.groups.length ngc), .val (.slice nsa nb.spent.length nsc)]]) (fun x _ => x.1 ≤ il ∧ Keep (newR Rc1 Rc2) x.2) (fun x => il - x.1) (0, Fi) ?_ ?_ ?_ ?_
    ·(try simp only [go_sem, ↓reduceIte, nQ1, nQ2, nQ3, nQ4, nQ5, nQ6, reduceCtorEq]) <;> (repeat' (first | rfl | trivial | constructor | (intro h; exact absurd rfl h))) <;> exact RO.le_refl _
    ·try simp only [go_sem, ↓reduceIte, nQ1, nQ2, nQ3, nQ4, nQ5, nQ6, reduceCtorEq]
    ·exact ⟨Nat.zero_le _, hK⟩
    rintro ⟨j, Fj⟩ env R8 hle8 hE ⟨hj, hK8⟩
    simp only at hE hj hK8
    (simp only [go_sem] at hE; obtain ⟨e21, e20, e19'', e18'', e17'', e8'', e7'', e0'', e1''⟩ := hE; simp only [go_sem, ↓reduceIte, nQ1, nQ2, nQ3, nQ4, nQ5, nQ6, reduceCtorEq, e21, e20, e19'', e18'', e17'', e8'', e7'', e0'', e1'']; dsimp only at *)
    refine ⟨by omega, vat ad had ?_⟩
    try simp only [go_sem, ↓reduceIte, nQ1, nQ2, nQ3, nQ4, nQ5, nQ6, reduceCtorEq]
    refine vloadO 3 Fj rfl _ (hK8.hard _ _ hc1 (fun z => by simp)) ?_
    try simp only [go_sem, ↓reduceIte, nQ1, nQ2, nQ3, nQ4, nQ5, nQ6, reduceCtorEq, e21, e20, e19'', e18'', e17'', e8'', e7'', e0'', e1'']
    refine ⟨fun hjl => ?_, fun hjl => ?_⟩
    ·obtain ⟨iad, z, hiad, hz⟩ := hnode j (by omega)
     refine ⟨by omega, vat ad had ?_⟩
     try simp only [go_sem, ↓reduceIte, nQ1, nQ2, nQ3, nQ4, nQ5, nQ6, reduceCtorEq]
     refine vloadO 3 Fj rfl _ (hK8.hard _ _ hc1 (fun z => by simp)) ?_
     try simp only [go_sem, ↓reduceIte, nQ1, nQ2, nQ3, nQ4, nQ5, nQ6, reduceCtorEq, e21, e20, e19'', e18'', e17'', e8'', e7'', e0'', e1'']
     refine ⟨by omega, vat iad hiad ?_⟩
     try simp only [go_sem, ↓reduceIte, nQ1, nQ2, nQ3, nQ4, nQ5, nQ6, reduceCtorEq]
     refine vput 3 Fj rfl hK8 hz fun F' hK' => ?_
     try simp only [go_sem, ↓reduceIte, nQ1, nQ2, nQ3, nQ4, nQ5, nQ6, reduceCtorEq, e21, e20, e19'', e18'', e17'', e8'', e7'', e0'', e1'']
     refine ⟨_, W.in64 (by omega), (j + 1, F'), by dsimp only; omega, ⟨by norm_cast, RO.le_refl _, RO.le_refl _⟩, by omega, hK'⟩
    ·refine ⟨_, W.in64 (by have := hwc.gb; omega), (i + 1, Fj), by dsimp only; omega, ⟨by norm_cast, RO.le_refl _, RO.le_refl _⟩, by omega, hK8⟩
   refine vcLoop (Nat × RO) (fun x => [(22, .val (.int .i64 x.1)), (19, .loc 9 0), (18, .val (.int .i64 ((1 : Nat) : Int))), (17, .sl 8 2), (8, .loc 1 0), (7, .val (.bool true)), (0, .val (.int .i64 seed)), (1, .val v)]) (fun x => [.dead, .box [.val (.int .i64 b.limit), .val (.slice ga b.groups.length gc), .val (.slice sa b.spent.length sc)], .dead, .own x.2, .dead, .own Ga, .dead, .dead, .row 28 3 [.int .i64 ab.limit, .slice aga ab.groups.length agc, .slice asa ab.spent.length asc, .int .i64 nb.limit, .slice nga nb.groups.length ngc, .slice nsa nb.spent.length nsc], .box [.val (.int .i64 nb.limit), .val (.slice nga nb.groups.length ngc), .val (.slice nsa nb.spent.length nsc)]]) (fun x _ => x.1 ≤ nb.spent.length ∧ Keep (newR Rc1 Rc2) x.2) (fun x => nb.spent.length - x.1) (0, Fi) ?_ ?_ ?_ ?_
   ·(try simp only [go_sem, ↓reduceIte, nQ1, nQ2, nQ3, nQ4, nQ5, nQ6, reduceCtorEq]) <;> (repeat' (first | rfl | trivial | constructor | (intro h; exact absurd rfl h))) <;> exact RO.le_refl _
   ·try simp only [go_sem, ↓reduceIte, nQ1, nQ2, nQ3, nQ4, nQ5, nQ6, reduceCtorEq]
   ·exact ⟨Nat.zero_le _, hK⟩
   rintro ⟨i', Fi'⟩ env R9 hle9 hE ⟨hi', hK9⟩
   simp only at hE hi' hK9
   (simp only [go_sem] at hE; obtain ⟨e22, e19''', e18''', e17''', e8''', e7''', e0''', e1'''⟩ := hE; simp only [go_sem, ↓reduceIte, nQ1, nQ2, nQ3, nQ4, nQ5, nQ6, reduceCtorEq, e22, e19''', e18''', e17''', e8''', e7''', e0''', e1''']; dsimp only at *)
   refine ⟨fun hlt2 => ?_, fun hlt2 => ?_⟩
   ·obtain ⟨ad, ca, cl, cc, had, hc1, hcl, hnode⟩ := hwc.spent i' (by omega)
    refine vcLoop (Nat × RO) (fun x => [(23, .val (.int .i64 x.1)), (22, .val (.int .i64 i')), (19, .loc 9 0), (18, .val (.int .i64 ((1 : Nat) : Int))), (17, .sl 8 2), (8, .loc 1 0), (7, .val (.bool true)), (0, .val (.int .i64 seed)), (1, .val v)]) (fun x => [.dead, .box [.val (.int .i64 b.limit), .val (.slice ga b.groups.length gc), .val (.slice sa b.spent.length sc)], .dead, .own x.2, .dead, .own Ga, .dead, .dead, .row 28 3 [.int .i64 ab.limit, .slice aga ab.groups.length agc, .slice asa ab.spent.length asc, .int .i64 nb.limit, .slice nga nb.groups.length ngc, .slice nsa nb.spent.length nsc], .box [.val (.int .i64 nb.limit), .val (.slice nga nb.groups.length ngc), .val (.slice nsa nb.spent.length nsc)]]) (fun x _ => x.1 ≤ cl ∧ Keep (newR Rc1 Rc2) x.2) (fun x => cl - x.1) (0, Fi') ?_ ?_ ?_ ?_
    ·(try simp only [go_sem, ↓reduceIte, nQ1, nQ2, nQ3, nQ4, nQ5, nQ6, reduceCtorEq]) <;> (repeat' (first | rfl | trivial | constructor | (intro h; exact absurd rfl h))) <;> exact RO.le_refl _
    ·try simp only [go_sem, ↓reduceIte, nQ1, nQ2, nQ3, nQ4, nQ5, nQ6, reduceCtorEq]
    ·exact ⟨Nat.zero_le _, hK9⟩
    rintro ⟨j, Fj⟩ env R10 hle10 hE ⟨hj, hK10⟩
    simp only at hE hj hK10
    (simp only [go_sem] at hE; obtain ⟨e23, e22, e19'''', e18'''', e17'''', e8'''', e7'''', e0'''', e1''''⟩ := hE; simp only [go_sem, ↓reduceIte, nQ1, nQ2, nQ3, nQ4, nQ5, nQ6, reduceCtorEq, e23, e22, e19'''', e18'''', e17'''', e8'''', e7'''', e0'''', e1'''']; dsimp only at *)
    refine ⟨by omega, vat ad had ?_⟩
    try simp only [go_sem, ↓reduceIte, nQ1, nQ2, nQ3, nQ4, nQ5, nQ6, reduceCtorEq]
    refine vloadO 3 Fj rfl _ (hK10.hard _ _ hc1 (fun z => by simp)) ?_
    try simp only [go_sem, ↓reduceIte, nQ1, nQ2, nQ3, nQ4, nQ5, nQ6, reduceCtorEq, e23, e22, e19'''', e18'''', e17'''', e8'''', e7'''', e0'''', e1'''']
    refine ⟨fun hjl => ?_, fun hjl => ?_⟩
    ·obtain ⟨cad, hcad, hz⟩ := hnode j (by omega)
     refine ⟨by omega, vat ad had ?_⟩
     try simp only [go_sem, ↓reduceIte, nQ1, nQ2, nQ3, nQ4, nQ5, nQ6, reduceCtorEq]
     refine vloadO 3 Fj rfl _ (hK10.hard _ _ hc1 (fun z => by simp)) ?_
     try simp only [go_sem, ↓reduceIte, nQ1, nQ2, nQ3, nQ4, nQ5, nQ6, reduceCtorEq, e23, e22, e19'''', e18'''', e17'''', e8'''', e7'''', e0'''', e1'''']
     refine ⟨by omega, vat cad hcad ?_⟩
     try simp only [go_sem, ↓reduceIte, nQ1, nQ2, nQ3, nQ4, nQ5, nQ6, reduceCtorEq]
     refine vputs [3, 4] 3 Fj rfl hK10 rfl (by omega) hz fun F' hK' => ?_
     try simp only [go_sem, ↓reduceIte, nQ1, nQ2, nQ3, nQ4, nQ5, nQ6, reduceCtorEq, e23, e22, e19'''', e18'''', e17'''', e8'''', e7'''', e0'''', e1'''']
     refine ⟨_, W.in64 (by omega), (j + 1, F'), by dsimp only; omega, ⟨by norm_cast, RO.le_refl _, RO.le_refl _⟩, by omega, hK'⟩
    ·refine ⟨_, W.in64 (by have := hwc.sb; omega), (i' + 1, Fj), by dsimp only; omega, ⟨by norm_cast, RO.le_refl _, RO.le_refl _⟩, by omega, hK10⟩
   ·refine ⟨_, W.in64 (by omega), (2, Fi', Ga), by dsimp only; omega, ⟨by norm_cast, RO.le_refl _, RO.le_refl _⟩, by omega, hK9, hGa⟩
 ·have hle36 := RO.le_trans hle4 (RO.le_trans hle5 hle6)
  refine vcall (rMadeD seed ds v R6 ?_) ?_
  ·exact ⟨h.1.mono (RO.le_trans hle1 (RO.le_trans hle2 (RO.le_trans hle3 hle36))), h.2⟩
  rintro R7 r hle7 ⟨⟨b', ga', gc', sa', sc'⟩, rfl, ⟨hV7⟩, hI7, hbm7⟩
  simp only [Bx.cells] at hV7 hI7 hbm7 ⊢
  obtain rfl : b = b' := hbm.trans hbm7.symm
  try simp only [go_sem, ↓reduceIte, nQ1, nQ2, nQ3, nQ4, nQ5, nQ6, reduceCtorEq, e18, e17, e8, e7, e0, e1]
  refine vcall (rSameBu b b _ _ R7 (hV3.mono (RO.le_trans hle36 hle7)) hV7) ?_
  rintro R8 r hle8 rfl
  rw [sameB_iff.2 rfl]
  try simp only [go_sem, ↓reduceIte, nQ1, nQ2, nQ3, nQ4, nQ5, nQ6, reduceCtorEq, e18, e17, e8, e7, e0, e1]
end Go.Proofs.YtclkibjonbhldaaGreatDoor
namespace Go.Proofs.YtclkibjonbhldaaGreatDoor
set_option linter.unusedSimpArgs false
set_option linter.unusedVariables false
open Go.ChangeShapes Go.WideShapes Go.ChangeAt Go.RowKit Go.Joins Go.Proofs.YtclkibjonbhldaaGreatDoor.Vc
theorem Tryz.own : ownKnob Tryz.prog.godebug = none := by kernel_rfl
theorem Tryz.laidOut : laidOutB Tryz.prog = true := by kernel_rfl
section
variable {H : Type} {enc : TypeId × Value → H} {P : Program}
theorem trodAll_stay (hl : laidOutB P = true) {W W' : World} {sp : Nat → Bool} (hb : Ext W W') : ∀ {ts : List TypeId} {vs : List Value} {ds : List (DataW H)} {ps : List MemPlace},
  (∀ t ∈ ts, P.readableRec t = true ∧ t < P.types.size) → DataW.TrodAll enc P W 0 (fun _ => true) true ts vs ds ps → (∀ x ∈ ps, x.block < W.heap.size) → (∀ x ∈ ps, sp x.block = true) → DataW.TrodAll enc P W' 0 sp true ts vs ds ps
 | [], [], [], ps, _, h, _, _ => h
 | t :: ts, v :: vs, d :: ds, ps, ht, ⟨p, q, h1, h2, he⟩, hlt, hsp => by
  subst he
  refine ⟨p, q, WideElems.Trod_stays hl (ht t (by simp)).1 (ht t (by simp)).2 h1 (fun x hx => hb.below.same (hlt x (by simp [hx]))) (fun x hx => hsp x (by simp [hx])), ?_, rfl⟩
  exact trodAll_stay hl hb (fun t h => ht t (by simp [h])) h2 (fun x hx => hlt x (by simp [hx])) (fun x hx => hsp x (by simp [hx]))
theorem trodAll_len {w : World} {base : Nat} {sp : Nat → Bool} {held : Bool} : ∀ {ts : List TypeId} {vs : List Value} {ds : List (DataW H)} {ps : List MemPlace}, DataW.TrodAll enc P w base sp held ts vs ds ps → ds.length = ts.length
 | [], [], [], ps, _ => rfl
 | t :: ts, v :: vs, d :: ds, ps, ⟨p, q, _, h2, _⟩ => by simp [trodAll_len h2]
theorem law_post {f : Func} {s : ChangeSpec} {W W' : World} {args : Array Value} {ds : List (DataW H)} {ps : List MemPlace} {tb : TypeId} (hl : laidOutB P = true) (hvars : s.vars = []) (hfres : f.resultTypes = #[tb]) (hb : P.underlying tb = some .bool)
  (hread : ∀ t ∈ f.params.toList, P.readableRec t = true ∧ t < P.types.size) (hs : s.fn H ds = { results := [.lit (.bool true)], args := ds })
  (hW : DataW.Whole enc P f.params.toList s.vars false W args.toList ds [] ps) (hA : DataW.TrodAll enc P W 0 (fun _ => true) true f.params.toList args.toList ds ps) (hext : Ext W W') : s.post enc P f false true false false W args (.bool true) W' := by
 have hlt : ∀ x ∈ ps, x.block < W.heap.size := fun x hx => hW.lt x hx
 have hds : s.fn H (ds ++ []) = { results := [.lit (.bool true)], args := ds } := by rw [List.append_nil]; exact hs
 have hbool : ∀ (b : Nat) (sp : Nat → Bool) (hd : Bool), DataW.TrodAll enc P W' b sp hd f.resultTypes.toList ((Value.bool true).resultList f.resultTypes.size) [.lit (.bool true)] [] := fun b sp hd => by
  rw [hfres]
  exact trodAll_mk1 ⟨1, by simp [DataW.trod, Value.cells, hb]⟩
 have hargs := fun (sp : Nat → Bool) (hsp : ∀ x ∈ ps, sp x.block = true) => trodAll_stay (enc := enc) hl hext hread hA hlt hsp
 have hnoV : ∀ sp : Nat → Bool, DataW.TrodVars enc P W' sp s.vars ([] : List (DataW H)) [] := fun sp => by rw [hvars]; rfl
 have hfrozen : W'.noneFrozen ps := by
  obtain ⟨_, _, _, _, _, hz, _⟩ := hW
  intro b off hp
  rw [hext.below.frozen (hlt _ hp)]
  exact hz b off hp
 refine ⟨ds, [], ps, [], ps, [], hW, by rw [hds]; exact hbool _ _ _, by rw [hds]; exact hargs (fun b => decide (b < W.heap.size)) (fun x hx => by simpa using hlt x hx), by rw [hds]; exact hnoV _, World.keptBut_mono (fun x hx => ⟨hx, .inr (by simpa using hx)⟩) (hext.below.frame (· ∈ ps)), fun _ => ⟨fun j t r hj hr => ?_, [.lit (.bool true)] ++ ds, [], ps, ⟨ps, [], ?_, hnoV _, by simp, hfrozen, fun e => by cases e⟩, fun p hp _ => by simpa using hp⟩⟩
 ·rw [hfres] at hj hr
  match j with
  | 0 =>
   simp only [List.getElem?_toArray, List.getElem?_cons_zero, Option.some.injEq] at hj
   subst hj
   have : r = .bool true := by simpa [Value.resultList] using hr.symm
   subst this
   simp [Value.okWide, hb, Cell.okWide, Cell.ok]
  | j + 1 => simp at hj
 ·have := trodAll_append (hargs (fun _ => true) (fun _ _ => rfl)) (hbool 0 (fun _ => true) true)
  simpa using this
end
def factsOf (W : World) : RO := fun a v => W.cell? a = some v
section
variable {H : Type} {enc : TypeId × Value → H} {W : World} {base fuel : Nat} {spare : Nat → Bool} {held : Bool}
end
end Go.Proofs.YtclkibjonbhldaaGreatDoor
/- Plain lemmas of our own, no statement of the seat: how a law's row follows from a contract where its row lists the table of sizes; deeds as arguments. -/
namespace Go.Proofs.YtclkibjonbhldaaGreatDoor
set_option linter.unusedSimpArgs false
set_option linter.unusedVariables false
open Go.ChangeShapes Go.WideShapes Go.ChangeAt Go.RowKit Go.Joins Go.Proofs.YtclkibjonbhldaaGreatDoor.Vc
set_option maxRecDepth 100000
/-! ### The table -/
abbrev laidL : List (String × DataW Unit) := [("kalends/budget.sizes", Rows.laid_kalends_budget_sizes)]
theorem gSizes : Tryz.prog.globalNamed "kalends/budget.sizes" = some 0 := by kernel_rfl
theorem gSizesType : (Tryz.prog.globals[0]?).map (·.type) = some 90 := by kernel_rfl
theorem cellsSizes : Tryz.prog.cellsOf 90 = 5 := by kernel_rfl
theorem cellsInt : Tryz.prog.cellsOf 3 = 1 := by kernel_rfl
theorem szR_of {W : World} (h : laidMetH Tryz.prog laidL W) : SzR (factsOf W) := fun i hi => by
 have ht : Lib.TabIs Tryz.prog W "kalends/budget.sizes" .i64 [0, 1440, 30, 30, 1] := Lib.tabIs_of_head (rest := []) gSizes gSizesType Tryz.underlying90 Tryz.underlying3 cellsInt cellsSizes h
 exact ht.cell gSizes i hi
/-! ### The row -/
theorem lawLiftedL {os : Os} (started : os.Started) {H : Type} {enc : TypeId × Value → H} {n : Nat} {fn : Func} {s : ChangeSpec} {tb : TypeId} {F : Stop.Interp} (noInit : Tryz.checked.prog.inits.idxOf? n = none) (hfn : Tryz.checked.prog.funcs[n]? = some fn)
  (hvars : s.vars = []) (hres : fn.resultTypes = #[tb]) (hbool : Tryz.checked.prog.underlying tb = some .bool) (hread : ∀ t ∈ fn.params.toList, Tryz.prog.readableRec t = true ∧ t < Tryz.prog.types.size)
  (hs : ∀ ds : List (DataW H), ds.length = fn.params.toList.length → s.fn H ds = { results := [.lit (.bool true)], args := ds })
  (witness : ∃ (w : World) (tape : Tape) (i : Input), w.os = os ∧ (w.forCall tape i).Shaped Tryz.checked.prog ∧ i.vars = [] ∧ Input.okWide Tryz.checked.prog (w.forCall tape i) .any w.heap.size n i ∧
   (OpenSpec.ofChange s).preRow enc Tryz.checked.prog fn [] false laidL (w.forCall tape i).memory i.args ∧ Assume.holds {} Tryz.checked.prog (lone (Frame.enter Tryz.checked.prog n i.args .normal) [] (w.forCall tape i)))
  (hlaw : ∀ (W : World) (base : Nat) (args : Array Value) (ds : List (DataW H)) (ps : List MemPlace), (∀ (j : Nat) t v, fn.params[j]? = some t → args[j]? = some v → Value.okWide Tryz.prog W .any base t v) →
   DataW.TrodAll enc Tryz.prog W 0 (fun _ => true) true fn.params.toList args.toList ds ps → (DataW.weightsEach Tryz.prog fn.params.toList ds).all (· ≤ reachBytes) = true → SzR (factsOf W) →
   CallsR Tryz.prog n args.toList (factsOf W) fun _ v => v = .bool true) :
  ReturnsInHanded {} Tryz.checked os n .any ((OpenSpec.ofChange s).preRow enc Tryz.prog fn [] false laidL) (((OpenSpec.ofChange s).at F).post enc Tryz.prog fn false true false false) := by
 refine returnsInHanded_of_row (C := Tryz.checked) (s := OpenSpec.ofChange s) Tryz.own started noInit hfn witness ?_
 intro W base args ds gs before hval hW hcnd _ hwt hL _ _
 have hW : DataW.Whole enc Tryz.prog fn.params.toList s.vars false W args.toList ds gs before := hW
 have hW0 := hW
 obtain ⟨p, q, hA, hV, rfl, hfz, hnd⟩ := hW0
 rw [hvars] at hV
 obtain ⟨rfl, rfl⟩ := trodVars_none hV
 have hvt : (OpenSpec.ofChange s).bare.plain.varTypes Tryz.checked.prog = [] := by
  show s.plain.varTypes Tryz.checked.prog = []
  simp [ChangeSpec.plain, DataSpec.varTypes, hvars]
 rw [hvt, List.append_nil, List.append_nil] at hwt
 have hlt : ∀ x ∈ p ++ [], x.block < W.heap.size := fun x hx => hW.lt x hx
 rw [List.append_nil] at hlt
 refine (hlaw W base args ds p hval hA hwt (szR_of hL) W (fun a v h => h)).mono ?_
 rintro e W' ⟨v, R', rfl, -, -, hext, rfl⟩
 rw [List.append_nil] at hW
 exact ⟨_, rfl, law_post Tryz.laidOut hvars hres hbool hread (hs ds (trodAll_len hA)) hW hA hext⟩
noncomputable def laidWorld (os : Os) : World :=
 {World.holding Tryz.prog os ⟨#[], #[], []⟩ with heap := (World.holding Tryz.prog os ⟨#[], #[], []⟩).heap.modify 0 fun
   | .cells _ t frozen => .cells #[.int .i64 0, .int .i64 1440, .int .i64 30, .int .i64 30, .int .i64 1] t frozen
   | o => o }
end Go.Proofs.YtclkibjonbhldaaGreatDoor
/- Plain lemmas of our own, no statement of the seat: numbers, arrays, deeds as a law's arguments. -/
namespace Go.Proofs.YtclkibjonbhldaaGreatDoor
set_option linter.unusedSimpArgs false
set_option linter.unusedVariables false
open Go.ChangeShapes Go.WideShapes Go.ChangeAt Go.RowKit Go.Joins Go.Proofs.YtclkibjonbhldaaGreatDoor.Vc
set_option maxRecDepth 100000
section
variable {P : Program} {t : TypeId} {W : World} {r : Reach} {b0 : Nat} {v : Value}
theorem ok_int (ht : P.underlying t = some (.int .i64)) (h : Cell.okWide P W r b0 t v) : ∃ n, v = .int .i64 n := by
 unfold Cell.okWide Cell.ok at h
 rw [ht] at h
 cases v <;> simp_all
theorem ok_bool (ht : P.underlying t = some .bool) (h : Cell.okWide P W r b0 t v) : ∃ n, v = .bool n := by
 unfold Cell.okWide Cell.ok at h
 rw [ht] at h
 cases v <;> simp_all
theorem ok_slice {e : TypeId} (ht : P.underlying t = some (.slice e)) (h : Cell.okWide P W r b0 t v) : ∃ a n c, v = .slice a n c := by
 unfold Cell.okWide Cell.ok at h
 rw [ht] at h
 cases v <;> simp_all
theorem okw_cell {k : IntKind} (ht : P.underlying t = some (.int k)) (h : Value.okWide P W r b0 t v) : Cell.okWide P W r b0 t v := by
 unfold Value.okWide at h
 rw [ht] at h
 exact h
theorem okw_struct {fs : Array Field} {n : Nat} {ts : List TypeId} (ht : P.underlying t = some (.struct fs)) (hC : P.cellsOf t = n) (hT : P.cellTypes P.depth t = some ts) (h : Value.okWide P W r b0 t v) : ∃ cs : List Value, v = .agg cs.toArray ∧ cs.length = n ∧ ∀ i u, cs[i]? = some u → ∃ t, ts[i % ts.length]? = some t ∧ Cell.okWide P W r b0 t u := by
 unfold Value.okWide at h
 rw [ht] at h
 obtain ⟨cs, rfl, hsz, ts', hts, _, hc⟩ := h
 rw [hT] at hts
 cases hts
 rw [hC] at hsz
 exact ⟨cs.toList, rfl, hsz, fun i u hi => hc i u (by simpa using hi)⟩
theorem okw_slice {e : TypeId} (ht : P.underlying t = some (.slice e)) (h : Value.okWide P W r b0 t v) : Cell.okWide P W r b0 t v := by
 unfold Value.okWide at h
 rw [ht] at h
 exact h
theorem trod_boolP {H : Type} {enc : TypeId × Value → H} {base fuel : Nat} {spare : Nat → Bool} {held : Bool} {cs : List Value} {x : DataW H × List MemPlace} (ht : P.underlying t = some .bool) (h : DataW.trod enc P W base spare held fuel t cs = some x) : ∃ b, cs = [.bool b] := by
 cases fuel with
 | zero => simp [DataW.trod] at h
 | succ n =>
  unfold DataW.trod at h
  rw [ht] at h
  split at h <;> simp_all
theorem int_in {v : Value} (hv : Value.okWide Tryz.prog W r b0 3 v) : ∃ n, v = .int .i64 n := ok_int Tryz.underlying3 (okw_cell Tryz.underlying3 hv)
end
section
variable {H : Type} {enc : TypeId × Value → H} {W : World} {base fuel : Nat} {spare : Nat → Bool} {held : Bool}
theorem trod_deed {cs : List Value} {x : DataW H × List MemPlace} (h : DataW.trod enc Tryz.prog W base spare held fuel 30 cs = some x) : ∃ e : Dd, cs = e.cells := by
 obtain ⟨xs, n, _, _, hl, hlen, hf⟩ := DataW.trod_struct Tryz.underlying30 h
 have hC : Tryz.prog.cellsOf 30 = 7 := by kernel_rfl
 have hC3 : Tryz.prog.cellsOf 3 = 1 := by kernel_rfl
 have hC4 : Tryz.prog.cellsOf 4 = 1 := by kernel_rfl
 rw [hC] at hl
 match xs, hlen, cs, hl with
 | [y0, y1, y2, y3, y4, y5, y6], _, [c0, c1, c2, c3, c4, c5, c6], _ =>
  have h0 : DataW.trod enc Tryz.prog W base spare held n 4 (([c0, c1, c2, c3, c4, c5, c6].drop 0).take (Tryz.prog.cellsOf 4)) = [y0, y1, y2, y3, y4, y5, y6][0]? := hf 0 _ rfl
  have h1 : DataW.trod enc Tryz.prog W base spare held n 3 (([c0, c1, c2, c3, c4, c5, c6].drop 1).take (Tryz.prog.cellsOf 3)) = [y0, y1, y2, y3, y4, y5, y6][1]? := hf 1 _ rfl
  have h2 : DataW.trod enc Tryz.prog W base spare held n 3 (([c0, c1, c2, c3, c4, c5, c6].drop 2).take (Tryz.prog.cellsOf 3)) = [y0, y1, y2, y3, y4, y5, y6][2]? := hf 2 _ rfl
  have h3 : DataW.trod enc Tryz.prog W base spare held n 3 (([c0, c1, c2, c3, c4, c5, c6].drop 3).take (Tryz.prog.cellsOf 3)) = [y0, y1, y2, y3, y4, y5, y6][3]? := hf 3 _ rfl
  have h4 : DataW.trod enc Tryz.prog W base spare held n 3 (([c0, c1, c2, c3, c4, c5, c6].drop 4).take (Tryz.prog.cellsOf 3)) = [y0, y1, y2, y3, y4, y5, y6][4]? := hf 4 _ rfl
  have h5 : DataW.trod enc Tryz.prog W base spare held n 3 (([c0, c1, c2, c3, c4, c5, c6].drop 5).take (Tryz.prog.cellsOf 3)) = [y0, y1, y2, y3, y4, y5, y6][5]? := hf 5 _ rfl
  have h6 : DataW.trod enc Tryz.prog W base spare held n 3 (([c0, c1, c2, c3, c4, c5, c6].drop 6).take (Tryz.prog.cellsOf 3)) = [y0, y1, y2, y3, y4, y5, y6][6]? := hf 6 _ rfl
  simp only [hC3, hC4, List.drop_zero, List.drop_succ_cons, List.take_succ_cons, List.take_zero, List.getElem?_cons_zero, List.getElem?_cons_succ] at h0 h1 h2 h3 h4 h5 h6
  obtain ⟨z0, e0⟩ := trod_boolP Tryz.underlying4 h0
  obtain ⟨z1, e1, -, -⟩ := DataW.trod_int Tryz.underlying3 h1
  obtain ⟨z2, e2, -, -⟩ := DataW.trod_int Tryz.underlying3 h2
  obtain ⟨z3, e3, -, -⟩ := DataW.trod_int Tryz.underlying3 h3
  obtain ⟨z4, e4, -, -⟩ := DataW.trod_int Tryz.underlying3 h4
  obtain ⟨z5, e5, -, -⟩ := DataW.trod_int Tryz.underlying3 h5
  obtain ⟨z6, e6, -, -⟩ := DataW.trod_int Tryz.underlying3 h6
  simp only [List.cons.injEq, and_true] at e0 e1 e2 e3 e4 e5 e6
  subst e0 e1 e2 e3 e4 e5 e6
  exact ⟨⟨z0, z1, z2, z3, z4, z5, z6⟩, rfl⟩
theorem deeds_in {v : Value} {d : DataW H} {p : List MemPlace} {r : Reach} {b0 : Nat} (hv : Value.okWide Tryz.prog W r b0 22 v) (h : DataW.Trod enc Tryz.prog W base spare held 22 v d p) (hw : ∀ n ∈ d.weights Tryz.prog 22, n ≤ reachBytes) :
  ∃ es, DdV (factsOf W) v es := by
 obtain ⟨fuel, hf⟩ := h
 have hC : Tryz.prog.cellsOf 30 = 7 := by kernel_rfl
 have hB : Tryz.prog.bytesOf 30 = 56 := by kernel_rfl
 obtain ⟨a0, l0, c0, rfl⟩ := ok_slice Tryz.underlying22 (okw_slice Tryz.underlying22 hv)
 rcases Go.Deep.open_slice Tryz.underlying22 hf with ⟨e, _⟩ | ⟨a, len, cap, m, n, D, Pl, e, -, hl, hm, hmm, hx, hi⟩
 ·simp only [Value.cells, List.cons.injEq, and_true, List.toList_toArray] at e
  rw [e]
  exact ⟨[], ⟨none, 0, rfl, Nat.le_refl _, by simp⟩, by simp⟩
 ·simp only [Value.cells, List.cons.injEq, and_true, List.toList_toArray] at e
  rw [e]
  obtain ⟨rfl, _⟩ := Prod.mk.inj hx
  have hlm : len ≤ m := by rw [hmm]; split <;> omega
  rw [hC] at hi
  have each : ∀ i, i < m → ∃ e : Dd, ∀ j v, (e.cells)[j]? = some v → W.cell? ((a.add (i * 7)).add j) = some v := by
   intro i him
   obtain ⟨cs', hc, ht⟩ := hi i him
   obtain ⟨_, hcl, hat⟩ := World.cells?_some hc
   obtain ⟨e, rfl⟩ := trod_deed ht
   refine ⟨e, fun j v hj => ?_⟩
   have hj7 : j < 7 := (List.getElem?_eq_some_iff.1 hj).1
   rw [hat j hj7]
   exact hj
  have hlen : len * 56 ≤ reachBytes := by
   have := hw ((((List.range len).map D).length + ((List.range (m - len)).map fun j => D (len + j)).length) * 56) (by
    simp only [DataW.weights, Tryz.underlying22, hB]
    exact List.mem_cons_self)
   simp only [List.length_map, List.length_range] at this
   omega
  unfold reachBytes at hlen
  let f : Nat → Dd := fun i => if h : i < m then (each i h).choose else ⟨false, 0, 0, 0, 0, 0, 0⟩
  have hf : ∀ i, i < len → ∀ j v, ((f i).cells)[j]? = some v → W.cell? ((a.add (i * 7)).add j) = some v := by
   intro i hi'
   have him : i < m := by omega
   simp only [f, him, dif_pos]
   exact (each i him).choose_spec
  refine ⟨(List.range len).map f, ⟨some a, cap, by simp, by simpa using hl, fun i us hi' => ?_⟩, by simp; omega⟩
  rw [List.getElem?_map, List.getElem?_map] at hi'
  obtain ⟨r, hr, rfl⟩ := Option.map_eq_some_iff.1 hi'
  obtain ⟨i', hi'', rfl⟩ := Option.map_eq_some_iff.1 hr
  have hii := List.getElem?_eq_some_iff.1 hi''
  simp only [List.length_range, List.getElem_range] at hii
  obtain ⟨hlt, rfl⟩ := hii
  exact ⟨rfl, a, rfl, fun j u hj => hf i hlt j u hj⟩
theorem each_weight {ts : List TypeId} {ds : List (DataW H)} (h : (DataW.weightsEach Tryz.prog ts ds).all (· ≤ reachBytes) = true) {j : Nat} {t : TypeId} {d : DataW H} (ht : ts[j]? = some t) (hd : ds[j]? = some d) : ∀ n ∈ d.weights Tryz.prog t, n ≤ reachBytes := fun n hn => by
 have := List.all_eq_true.1 h n (DataW.weights_mem_each ht hd n hn)
 simpa using this
end
end Go.Proofs.YtclkibjonbhldaaGreatDoor
namespace Go.Proofs.YtclkibjonbhldaaGreatDoor
set_option linter.unusedSimpArgs false
set_option linter.unusedVariables false
open Go.ChangeShapes Go.WideShapes Go.ChangeAt Go.RowKit Go.Joins Go.Proofs.YtclkibjonbhldaaGreatDoor.Vc
set_option maxRecDepth 100000
theorem deed_in {W : World} {r : Reach} {b0 : Nat} {v : Value} (hv : Value.okWide Tryz.prog W r b0 30 v) : ∃ d : Dd, v = .agg d.cells.toArray := by
 obtain ⟨cs, rfl, hsz, hc⟩ := okw_struct Tryz.underlying30 (n := 7) (ts := [4, 3, 3, 3, 3, 3, 3]) (by kernel_rfl) (by kernel_rfl) hv
 match cs, hsz with
 | [c0, c1, c2, c3, c4, c5, c6], _ =>
  obtain ⟨u, hu, k0⟩ := hc 0 c0 rfl
  cases hu
  obtain ⟨u, hu, k1⟩ := hc 1 c1 rfl
  cases hu
  obtain ⟨u, hu, k2⟩ := hc 2 c2 rfl
  cases hu
  obtain ⟨u, hu, k3⟩ := hc 3 c3 rfl
  cases hu
  obtain ⟨u, hu, k4⟩ := hc 4 c4 rfl
  cases hu
  obtain ⟨u, hu, k5⟩ := hc 5 c5 rfl
  cases hu
  obtain ⟨u, hu, k6⟩ := hc 6 c6 rfl
  cases hu
  obtain ⟨n0, rfl⟩ := ok_bool Tryz.underlying4 k0
  obtain ⟨n1, rfl⟩ := ok_int Tryz.underlying3 k1
  obtain ⟨n2, rfl⟩ := ok_int Tryz.underlying3 k2
  obtain ⟨n3, rfl⟩ := ok_int Tryz.underlying3 k3
  obtain ⟨n4, rfl⟩ := ok_int Tryz.underlying3 k4
  obtain ⟨n5, rfl⟩ := ok_int Tryz.underlying3 k5
  obtain ⟨n6, rfl⟩ := ok_int Tryz.underlying3 k6
  exact ⟨⟨n0, n1, n2, n3, n4, n5, n6⟩, rfl⟩
end Go.Proofs.YtclkibjonbhldaaGreatDoor
