/- Lemmas of our own, no statement of the seat; the last one of the claim's texts proves the law. -/
import Derived.ProofKit
import Derived.SizedLaws
import Derived.Deep.Slices
import Derived.Deep.Fields
import Derived.Lib.SmallJoins
import Derived.OpenShut
import Derived.Deep.DeepHandedRow
import Derived.Lib.LaidTab
import Derived.Test.YtclkibjonbhldaaGreatDoorBtf
import Derived.Test.YtclkibjonbhldaaGreatDoorRows
import Derived.Test.YtclkibjonbhldaaGreatDoorVcI
import Derived.Test.YtclkibjonbhldaaGreatDoorCards
import Derived.Test.YtclkibjonbhldaaGreatDoorTie
open Nat renaming reduceEqDiff → nQ1, reduceAdd → nQ2, reduceMul → nQ3, reduceLeDiff → nQ4, reduceLT → nQ5, reduceBNe → nQ6
open Int renaming reduceLE → iQ1, reduceLT → iQ2, reduceToNat → iQ3, cast_ofNat_Int → iQ4, reduceEq → iQ5, reduceNe → iQ6
namespace Go.Proofs.YtclkibjonbhldaaGreatDoor
set_option linter.unusedSimpArgs false
set_option linter.unusedVariables false
open Go.Proofs.YtclkibjonbhldaaGreatDoor.Vc
def setE {α : Type} (hs : List α) (keep gone : Int) (z : α) (i : Nat) : List α :=
 let l := (if keep < 0 then hs else hs.set keep.toNat z).take i
 if 0 ≤ gone then l.eraseIdx gone.toNat else l
theorem setE_zero {α : Type} (hs : List α) (keep gone : Int) (z : α) : setE hs keep gone z 0 = [] := by
 unfold setE
 simp
theorem setE_succ {α : Type} (hs : List α) {keep gone : Int} (z : α) {i : Nat} (hi : i < hs.length) (ho : (0 ≤ keep ∧ (gone < 0 ∨ keep < gone)) ∨ (keep < 0 ∧ gone < 0)) :
  ((i : Int) = gone → setE hs keep gone z (i + 1) = setE hs keep gone z i) ∧ ((i : Int) = keep → setE hs keep gone z (i + 1) = setE hs keep gone z i ++ [z]) ∧ ((i : Int) ≠ keep → (i : Int) ≠ gone → setE hs keep gone z (i + 1) = setE hs keep gone z i ++ [hs[i]]) := by
 unfold setE
 obtain ⟨l, hl⟩ : ∃ l, l = if keep < 0 then hs else hs.set keep.toNat z := ⟨_, rfl⟩
 have hln : l.length = hs.length := by rw [hl]; split <;> simp
 have hg : l[i]? = some (if (i : Int) = keep then z else hs[i]) := by
  rw [hl]
  by_cases hk : keep < 0
  ·have hne : ¬ (i : Int) = keep := by omega
   rw [if_pos hk, if_neg hne, List.getElem?_eq_getElem hi]
  ·rw [if_neg hk, List.getElem?_eq_getElem (by simpa using hi), List.getElem_set]
   by_cases e : (i : Int) = keep
   ·rw [if_pos (by omega), if_pos e]
   ·rw [if_neg (by omega), if_neg e]
 rw [← hl]
 dsimp only
 have ht : l.take (i + 1) = l.take i ++ [if (i : Int) = keep then z else hs[i]] := by rw [List.take_add_one, hg]; rfl
 have hti : (l.take i).length = i := by simp; omega
 rw [ht]
 by_cases h0 : 0 ≤ gone
 ·simp only [h0, if_true]
  refine ⟨fun e => ?_, fun e => ?_, fun e1 e2 => ?_⟩
  ·rw [List.eraseIdx_append_of_length_le (by omega), List.eraseIdx_of_length_le (l := l.take i) (by omega), hti, show gone.toNat - i = 0 by omega]
   simp
  ·rw [if_pos e, List.eraseIdx_of_length_le (by simp; omega), List.eraseIdx_of_length_le (by omega)]
  ·rw [if_neg e1]
   by_cases hlt : gone < i
   ·rw [List.eraseIdx_append_of_lt_length (by omega)]
   ·rw [List.eraseIdx_of_length_le (by simp; omega), List.eraseIdx_of_length_le (by omega)]
 ·simp only [h0, if_false]
  refine ⟨fun e => by omega, fun e => by rw [if_pos e], fun e1 e2 => by rw [if_neg e1]⟩
theorem setE_all {α : Type} (hs : List α) (keep gone : Int) (z : α) : setE hs keep gone z hs.length = if 0 ≤ gone then (if keep < 0 then hs else hs.set keep.toNat z).eraseIdx gone.toNat else if keep < 0 then hs else hs.set keep.toNat z := by
 unfold setE
 dsimp only
 rw [List.take_of_length_le (by split <;> simp)]
theorem setE_len {α : Type} (hs : List α) (keep gone : Int) (z : α) (i : Nat) : (setE hs keep gone z i).length ≤ i := by
 unfold setE
 dsimp only
 have : ((if keep < 0 then hs else hs.set keep.toNat z).take i).length ≤ i := by simp; omega
 split
 ·exact Nat.le_trans (List.length_eraseIdx_le _ _) this
 ·exact this
theorem joinG_setE {gs : List (List Int)} {keep gone : Int} (ho : (0 ≤ keep ∧ (gone < 0 ∨ keep < gone)) ∨ (keep < 0 ∧ gone < 0)) : joinG gs keep gone = setE gs keep gone (allG gs keep gone) gs.length ++ (if keep < 0 then [allG gs keep gone] else []) := by
 rw [setE_all, joinG_eq]
 unfold gs2D allG
 by_cases hk : keep < 0
 ·simp only [hk, if_true]
  rw [if_neg (by omega), if_neg (by omega)]
 ·simp only [hk, if_false, List.append_nil]
structure Iv where
 l : List Int
 a : Option Addr
 c : Nat
abbrev Iv.val (x : Iv) : Value := .slice x.a x.l.length x.c
def memJ (gs : List (List Int)) (p q : Int) (i j : Nat) (z : Int) : Prop := z = p ∨ z = q ∨ (∃ i' : Nat, ∃ h : i' < gs.length, i' < i ∧ ((i' : Int) = grpOf gs p ∨ (i' : Int) = grpOf gs q) ∧ z ∈ gs[i']) ∨ (∃ h : i < gs.length, z ∈ gs[i].take j)
structure JoinI (gs : List (List Int)) (p q : Int) (i j : Nat) (R : RO) (x : Iv) : Prop where
 inc : Inc x.l
 mem : ∀ z, z ∈ x.l ↔ memJ gs p q i j z
 val : IntV R x.val x.l
theorem memJ_zero {gs : List (List Int)} {p q : Int} {i : Nat} {z : Int} : memJ gs p q i 0 z ↔ z = p ∨ z = q ∨ (∃ i' : Nat, ∃ h : i' < gs.length, i' < i ∧ ((i' : Int) = grpOf gs p ∨ (i' : Int) = grpOf gs q) ∧ z ∈ gs[i']) := by
 unfold memJ
 simp
theorem memJ_len {gs : List (List Int)} (hV : ValidG gs) {p q : Int} (hp : personB p = true) (hq : personB q = true) {i j : Nat} {R : RO} {x : Iv} (h : JoinI gs p q i j R x) : x.l.length ≤ 512 := by
 refine inc_len h.inc fun z hz => ?_
 rcases (h.mem z).1 hz with rfl | rfl | ⟨i', h1, _, _, h2⟩ | ⟨h1, h2⟩
 ·exact hp
 ·exact hq
 ·exact ((hV.all i' h1).mem z h2).1
 ·exact ((hV.all i h1).mem z (List.mem_of_mem_take h2)).1
theorem memJ_succ {gs : List (List Int)} {p q : Int} {i j : Nat} (hi : i < gs.length) (hj : j < gs[i].length) (z : Int) : memJ gs p q i (j + 1) z ↔ z = gs[i][j] ∨ memJ gs p q i j z := by
 unfold memJ
 have : (∃ h : i < gs.length, z ∈ gs[i].take (j + 1)) ↔ z = gs[i][j] ∨ (∃ h : i < gs.length, z ∈ gs[i].take j) := by
  simp only [List.take_succ_eq_append_getElem hj, List.mem_append, List.mem_singleton]
  constructor
  ·rintro ⟨h, h1 | h1⟩
   ·exact .inr ⟨h, h1⟩
   ·exact .inl h1
  ·rintro (h1 | ⟨h, h1⟩)
   ·exact ⟨hi, .inr h1⟩
   ·exact ⟨h, .inl h1⟩
 rw [this]
 constructor
 ·rintro (h | h | h | h | h)
  ·exact .inr (.inl h)
  ·exact .inr (.inr (.inl h))
  ·exact .inr (.inr (.inr (.inl h)))
  ·exact .inl h
  ·exact .inr (.inr (.inr (.inr h)))
 ·rintro (h | h | h | h | h)
  ·exact .inr (.inr (.inr (.inl h)))
  ·exact .inl h
  ·exact .inr (.inl h)
  ·exact .inr (.inr (.inl h))
  ·exact .inr (.inr (.inr (.inr h)))
theorem memJ_next {gs : List (List Int)} {p q : Int} {i : Nat} (hi : i < gs.length) (hin : (i : Int) = grpOf gs p ∨ (i : Int) = grpOf gs q) (z : Int) : memJ gs p q i gs[i].length z ↔ memJ gs p q (i + 1) 0 z := by
 rw [memJ_zero]
 unfold memJ
 simp only [List.take_length]
 constructor
 ·rintro (h | h | ⟨i', h1, h2, h3, h4⟩ | ⟨h1, h2⟩)
  ·exact .inl h
  ·exact .inr (.inl h)
  ·exact .inr (.inr ⟨i', h1, by omega, h3, h4⟩)
  ·exact .inr (.inr ⟨i, hi, by omega, hin, h2⟩)
 ·rintro (h | h | ⟨i', h1, h2, h3, h4⟩)
  ·exact .inl h
  ·exact .inr (.inl h)
  ·by_cases e : i' = i
   ·subst e; exact .inr (.inr (.inr ⟨hi, h4⟩))
   ·exact .inr (.inr (.inl ⟨i', h1, by omega, h3, h4⟩))
theorem memJ_skip {gs : List (List Int)} {p q : Int} {i : Nat} (hin : ¬ ((i : Int) = grpOf gs p ∨ (i : Int) = grpOf gs q)) (z : Int) : memJ gs p q (i + 1) 0 z ↔ memJ gs p q i 0 z := by
 rw [memJ_zero, memJ_zero]
 constructor
 ·rintro (h | h | ⟨i', h1, h2, h3, h4⟩)
  ·exact .inl h
  ·exact .inr (.inl h)
  ·by_cases e : i' = i
   ·subst e; exact absurd h3 hin
   ·exact .inr (.inr ⟨i', h1, by omega, h3, h4⟩)
 ·rintro (h | h | ⟨i', h1, h2, h3, h4⟩)
  ·exact .inl h
  ·exact .inr (.inl h)
  ·exact .inr (.inr ⟨i', h1, by omega, h3, h4⟩)
theorem JoinI.all {gs : List (List Int)} (hV : ValidG gs) {p q : Int} (hp : personB p = true) (hq : personB q = true) (hne : grpOf gs p ≠ grpOf gs q) {R : RO} {x : Iv} (h : JoinI gs p q gs.length 0 R x) : x.l = allG gs (keepG gs p q) (goneG gs p q) := by
 obtain ⟨k1, k2⟩ := kg_gone (gs := gs) hp hq
 have hK := kg_of hp hq hne
 refine Inc.ext h.inc (allG_inc hV k1 k2 hK.ne) fun z => ?_
 rw [h.mem, allG_iff hV k1 k2, memJ_zero]
 have hsw : (grpOf gs z = keepG gs p q ∨ grpOf gs z = goneG gs p q) ↔ (grpOf gs z = grpOf gs p ∨ grpOf gs z = grpOf gs q) := by
  unfold keepG goneG
  split
  ·exact Or.comm
  ·exact Iff.rfl
 rw [hsw]
 constructor
 ·rintro (rfl | rfl | ⟨i', h1, _, h3, h4⟩)
  ·exact ⟨hp, .inl rfl⟩
  ·exact ⟨hq, .inr rfl⟩
  ·have := (hV.all i' h1).mem z h4
   refine ⟨this.1, ?_⟩
   rw [this.2]
   exact h3
 ·rintro ⟨hz, h1⟩
  have hb := grpOf_bd (gs := gs) hz
  by_cases hn : 0 ≤ grpOf gs z
  ·obtain ⟨h2, h3⟩ := grpOf_mem hn hz
   refine .inr (.inr ⟨_, h2, h2, ?_, h3⟩)
   rw [show ((grpOf gs z).toNat : Int) = grpOf gs z by omega]
   exact h1
  ·have h4 := hb.2.2 (by omega)
   rcases h1 with h1 | h1
   ·have := (grpOf_bd (gs := gs) hp).2.2 (by omega)
    exact .inl (by omega)
   ·have := (grpOf_bd (gs := gs) hq).2.2 (by omega)
    exact .inr (.inl (by omega))
theorem HsV.take {R : RO} {hs : List Value} {gs : List (List Int)} (h : HsV R hs gs) (n : Nat) : HsV R (hs.take n) (gs.take n) := by
 refine ⟨by rw [List.length_take, List.length_take, h.len], fun i h1 h2 => ?_⟩
 rw [List.getElem_take, List.getElem_take]
 exact h.val i _ _
theorem HsV.setG {R : RO} {hs : List Value} {gs : List (List Int)} (h : HsV R hs gs) (keep gone : Int) {v : Value} {x : List Int} (hv : IntV R v x) (n : Nat) : HsV R (setE hs keep gone v n) (setE gs keep gone x n) := by
 have h1 : HsV R (if keep < 0 then hs else hs.set keep.toNat v) (if keep < 0 then gs else gs.set keep.toNat x) := by
  split
  ·exact h
  ·exact h.set _ hv
 unfold setE
 dsimp only
 split
 ·exact (h1.take n).erase _
 ·exact h1.take n
set_option maxHeartbeats 4000000 in
theorem rJoined (gs : List (List Int)) (hV : ValidG gs) (p q : Int) (hp : personB p = true) (hq : personB q = true) (hne : grpOf gs p ≠ grpOf gs q) (v : Value) (R : RO) (h : GV R v gs) : CallsR Tryz.prog 52 [v, .int .i64 p, .int .i64 q] R fun R' r => GV R' r (joinG gs (keepG gs p q) (goneG gs p q)) := by
 have h0 := h
 obtain ⟨hgl, a, cap, rfl, hc, hf⟩ := h.form
 have hK := kg_of hp hq hne
 have hgl2 := hV.len
 refine callsT mix Tryz.func52 comp52 (by simp [Tryz.ntmps52]) ?_; simp only [go_sem, ↓reduceIte, nQ1, nQ2, nQ3, nQ4, nQ5, nQ6, reduceCtorEq, vc52, rs52]
 refine vcall (rGroupOf gs p (personB_bd hp) _ R h0) ?_
 rintro R1 r hle1 rfl
 try simp only [go_sem, ↓reduceIte, nQ1, nQ2, nQ3, nQ4, nQ5, nQ6, reduceCtorEq]
 refine vcall (rGroupOf gs q (personB_bd hq) _ R1 (h0.mono hle1)) ?_
 rintro R2 r hle2 rfl
 try simp only [go_sem, ↓reduceIte, nQ1, nQ2, nQ3, nQ4, nQ5, nQ6, reduceCtorEq]
 refine vfreeze ?_
 try simp only [go_sem, ↓reduceIte, nQ1, nQ2, nQ3, nQ4, nQ5, nQ6, reduceCtorEq]
 intro b3 cap3 R3 hle3 hrow3 hcap3 hfr3
 have h1v : IntV R3 (.slice (some ⟨b3, 0, none⟩) 1 cap3) [p] := RowIn.enc (enc := fun x : Int => [Value.int .i64 x]) (k := 1) (xs := [p]) (fun _ => rfl) (by omega) hrow3 (show 1 ≤ cap3 * 1 by omega) (by simp)
 refine vcall (rIns [p] q (by simp) _ R3 h1v) ?_
 intro R4 r hle4 hv4
 obtain ⟨la, lc, rfl, -, -⟩ := EncV.form hv4
 try simp only [go_sem, ↓reduceIte, nQ1, nQ2, nQ3, nQ4, nQ5, nQ6, reduceCtorEq]
 have hle14 := RO.le_trans hle1 (RO.le_trans hle2 (RO.le_trans hle3 hle4))
 have hJ0 : JoinI gs p q 0 0 R4 ⟨insI [p] q, la, lc⟩ := ⟨insI_inc (List.pairwise_singleton _ _), fun z => by rw [insI_mem, memJ_zero]; simp [Or.comm], hv4⟩
 refine vcLoop (Nat × Iv) (fun x => [(10, .val (.int .i64 x.1)), (9, .val x.2.val), (7, .val (.int .i64 (grpOf gs p))), (8, .val (.int .i64 (grpOf gs q))), (0, .val (.slice a gs.length cap))]) (fun _ => [.dead]) (fun x R => x.1 ≤ gs.length ∧ JoinI gs p q x.1 0 R x.2) (fun x => gs.length - x.1) (0, ⟨insI [p] q, la, lc⟩) ?_ ?_ ?_ ?_
 ·(try simp only [go_sem, ↓reduceIte, nQ1, nQ2, nQ3, nQ4, nQ5, nQ6, reduceCtorEq]) <;> (repeat' (first | rfl | trivial | constructor | (intro h; exact absurd rfl h)))
 ·try simp only [go_sem, ↓reduceIte, nQ1, nQ2, nQ3, nQ4, nQ5, nQ6, reduceCtorEq]
 ·exact ⟨Nat.zero_le _, hJ0⟩
 rintro ⟨i, ⟨L, ya, yc⟩⟩ env R5 hle5 hE ⟨hi, hJ⟩
 simp only at hE hi hJ ⊢
 (simp only [go_sem] at hE; obtain ⟨e10, e9, e7, e8, e0⟩ := hE; simp only [go_sem, ↓reduceIte, nQ1, nQ2, nQ3, nQ4, nQ5, nQ6, reduceCtorEq, e10, e9, e7, e8, e0]; dsimp only at *)
 refine ⟨fun hlt => ⟨fun hp1 => ⟨fun hq1 => ?_, fun hq1 => ?_⟩, fun hp1 => ?_⟩, fun hge => ?_⟩
 ·have hi' : i < gs.length := by omega
  have hle15 := RO.le_trans hle14 hle5
  obtain ⟨ad, u, had, hR, hu⟩ := hf i hi'
  obtain ⟨-, ua, ucap, rfl, -, huf⟩ := IntV.form hu
  have hgl5 : gs[i].length ≤ 512 := inc_len (hV.all i hi').inc fun p hp' => ((hV.all i hi').mem p hp').1
  refine vcLoop (Nat × Iv) (fun x => [(11, .val (.int .i64 x.1)), (9, .val x.2.val), (10, .val (.int .i64 i)), (7, .val (.int .i64 (grpOf gs p))), (8, .val (.int .i64 (grpOf gs q))), (0, .val (.slice a gs.length cap))]) (fun _ => [.dead]) (fun x R => x.1 ≤ gs[i].length ∧ JoinI gs p q i x.1 R x.2) (fun x => gs[i].length - x.1) (0, ⟨L, ya, yc⟩) ?_ ?_ ?_ ?_
  ·(try simp only [go_sem, ↓reduceIte, nQ1, nQ2, nQ3, nQ4, nQ5, nQ6, reduceCtorEq]) <;> (repeat' (first | rfl | trivial | constructor | (intro h; exact absurd rfl h)))
  ·try simp only [go_sem, ↓reduceIte, nQ1, nQ2, nQ3, nQ4, nQ5, nQ6, reduceCtorEq]
  ·exact ⟨Nat.zero_le _, hJ⟩
  rintro ⟨j, ⟨M, za, zc⟩⟩ env R6 hle6 hE ⟨hj, hM⟩
  simp only at hE hj hM ⊢
  (simp only [go_sem] at hE; obtain ⟨f11, f9, f10, f7, f8, f0⟩ := hE; simp only [go_sem, ↓reduceIte, nQ1, nQ2, nQ3, nQ4, nQ5, nQ6, reduceCtorEq, f11, f9, f10, f7, f8, f0]; dsimp only at *)
  have hle16 := RO.le_trans hle15 hle6
  refine ⟨by omega, vat ad had ?_⟩
  try simp only [go_sem, ↓reduceIte, nQ1, nQ2, nQ3, nQ4, nQ5, nQ6, reduceCtorEq]
  refine vload _ (hle16 _ _ hR) ?_
  simp only [go_sem, ↓reduceIte, nQ1, nQ2, nQ3, nQ4, nQ5, nQ6, reduceCtorEq, f11, f9, f10, f7, f8, f0]
  refine ⟨fun hlt2 => ⟨by omega, vat ad had ?_⟩, fun hge2 => ?_⟩
  ·have hj' : j < gs[i].length := by omega
   obtain ⟨ad2, had2, hR2⟩ := huf j hj'
   try simp only [go_sem, ↓reduceIte, nQ1, nQ2, nQ3, nQ4, nQ5, nQ6, reduceCtorEq]
   refine vload _ (hle16 _ _ hR) ?_
   simp only [go_sem, ↓reduceIte, nQ1, nQ2, nQ3, nQ4, nQ5, nQ6, reduceCtorEq, f11, f9, f10, f7, f8, f0]
   refine ⟨by omega, vat ad2 had2 ?_⟩
   try simp only [go_sem, ↓reduceIte, nQ1, nQ2, nQ3, nQ4, nQ5, nQ6, reduceCtorEq]
   refine vload _ (hle16 _ _ hR2) ?_
   simp only [go_sem, ↓reduceIte, nQ1, nQ2, nQ3, nQ4, nQ5, nQ6, reduceCtorEq, f11, f9, f10, f7, f8, f0]
   have hM5 := memJ_len hV hp hq hM
   simp only at hM5
   refine vcall (rIns M gs[i][j] (by omega) _ R6 hM.val) ?_
   intro R7 r hle7 hv7
   obtain ⟨ma, mc, rfl, -, -⟩ := EncV.form hv7
   simp only [go_sem, ↓reduceIte, nQ1, nQ2, nQ3, nQ4, nQ5, nQ6, reduceCtorEq, f11, f9, f10, f7, f8, f0]
   refine ⟨_, W.in64 (by omega), (j + 1, ⟨insI M gs[i][j], ma, mc⟩), by omega, ?_, hj', insI_inc hM.inc, fun z => by rw [insI_mem, memJ_succ hi' hj', hM.mem], hv7⟩
   exact ⟨rfl, rfl⟩
  ·obtain rfl : j = gs[i].length := by omega
   refine ⟨_, W.in64 (by omega), (i + 1, ⟨M, za, zc⟩), by omega, ?_, hi', hM.inc, fun z => by rw [hM.mem, memJ_next hi' (.inr hq1)], hM.val⟩
   exact ⟨rfl, rfl⟩
 ·have hi' : i < gs.length := by omega
  refine ⟨_, W.in64 (by omega), (i + 1, ⟨L, ya, yc⟩), by omega, ?_, hi', hJ.inc, fun z => by rw [hJ.mem, memJ_skip (fun e => e.elim hp1 hq1)], hJ.val⟩
  exact ⟨rfl, rfl⟩
 ·have hi' : i < gs.length := by omega
  have hle15 := RO.le_trans hle14 hle5
  obtain ⟨ad, u, had, hR, hu⟩ := hf i hi'
  obtain ⟨-, ua, ucap, rfl, -, huf⟩ := IntV.form hu
  have hgl5 : gs[i].length ≤ 512 := inc_len (hV.all i hi').inc fun p hp' => ((hV.all i hi').mem p hp').1
  refine vcLoop (Nat × Iv) (fun x => [(11, .val (.int .i64 x.1)), (9, .val x.2.val), (10, .val (.int .i64 i)), (7, .val (.int .i64 (grpOf gs p))), (8, .val (.int .i64 (grpOf gs q))), (0, .val (.slice a gs.length cap))]) (fun _ => [.dead]) (fun x R => x.1 ≤ gs[i].length ∧ JoinI gs p q i x.1 R x.2) (fun x => gs[i].length - x.1) (0, ⟨L, ya, yc⟩) ?_ ?_ ?_ ?_
  ·(try simp only [go_sem, ↓reduceIte, nQ1, nQ2, nQ3, nQ4, nQ5, nQ6, reduceCtorEq]) <;> (repeat' (first | rfl | trivial | constructor | (intro h; exact absurd rfl h)))
  ·try simp only [go_sem, ↓reduceIte, nQ1, nQ2, nQ3, nQ4, nQ5, nQ6, reduceCtorEq]
  ·exact ⟨Nat.zero_le _, hJ⟩
  rintro ⟨j, ⟨M, za, zc⟩⟩ env R6 hle6 hE ⟨hj, hM⟩
  simp only at hE hj hM ⊢
  (simp only [go_sem] at hE; obtain ⟨f11, f9, f10, f7, f8, f0⟩ := hE; simp only [go_sem, ↓reduceIte, nQ1, nQ2, nQ3, nQ4, nQ5, nQ6, reduceCtorEq, f11, f9, f10, f7, f8, f0]; dsimp only at *)
  have hle16 := RO.le_trans hle15 hle6
  refine ⟨by omega, vat ad had ?_⟩
  try simp only [go_sem, ↓reduceIte, nQ1, nQ2, nQ3, nQ4, nQ5, nQ6, reduceCtorEq]
  refine vload _ (hle16 _ _ hR) ?_
  simp only [go_sem, ↓reduceIte, nQ1, nQ2, nQ3, nQ4, nQ5, nQ6, reduceCtorEq, f11, f9, f10, f7, f8, f0]
  refine ⟨fun hlt2 => ⟨by omega, vat ad had ?_⟩, fun hge2 => ?_⟩
  ·have hj' : j < gs[i].length := by omega
   obtain ⟨ad2, had2, hR2⟩ := huf j hj'
   try simp only [go_sem, ↓reduceIte, nQ1, nQ2, nQ3, nQ4, nQ5, nQ6, reduceCtorEq]
   refine vload _ (hle16 _ _ hR) ?_
   simp only [go_sem, ↓reduceIte, nQ1, nQ2, nQ3, nQ4, nQ5, nQ6, reduceCtorEq, f11, f9, f10, f7, f8, f0]
   refine ⟨by omega, vat ad2 had2 ?_⟩
   try simp only [go_sem, ↓reduceIte, nQ1, nQ2, nQ3, nQ4, nQ5, nQ6, reduceCtorEq]
   refine vload _ (hle16 _ _ hR2) ?_
   simp only [go_sem, ↓reduceIte, nQ1, nQ2, nQ3, nQ4, nQ5, nQ6, reduceCtorEq, f11, f9, f10, f7, f8, f0]
   have hM5 := memJ_len hV hp hq hM
   simp only at hM5
   refine vcall (rIns M gs[i][j] (by omega) _ R6 hM.val) ?_
   intro R7 r hle7 hv7
   obtain ⟨ma, mc, rfl, -, -⟩ := EncV.form hv7
   simp only [go_sem, ↓reduceIte, nQ1, nQ2, nQ3, nQ4, nQ5, nQ6, reduceCtorEq, f11, f9, f10, f7, f8, f0]
   refine ⟨_, W.in64 (by omega), (j + 1, ⟨insI M gs[i][j], ma, mc⟩), by omega, ?_, hj', insI_inc hM.inc, fun z => by rw [insI_mem, memJ_succ hi' hj', hM.mem], hv7⟩
   exact ⟨rfl, rfl⟩
  ·obtain rfl : j = gs[i].length := by omega
   refine ⟨_, W.in64 (by omega), (i + 1, ⟨M, za, zc⟩), by omega, ?_, hi', hM.inc, fun z => by rw [hM.mem, memJ_next hi' (.inl hp1)], hM.val⟩
   exact ⟨rfl, rfl⟩
 obtain rfl : i = gs.length := by omega
 have hall := hJ.all hV hp hq hne
 simp only at hall
 have hle15 := RO.le_trans hle14 hle5
 obtain ⟨hs, hE0, hhl, hhv⟩ := h0
 have hH : HsV R hs gs := ⟨hhl, hhv⟩
 obtain ⟨a', cap', e', -, hsf⟩ := hE0.form
 simp only [Value.slice.injEq] at e'
 obtain ⟨rfl, -, rfl⟩ := e'
 obtain ⟨keep, hkeep⟩ : ∃ keep, keep = keepG gs p q := ⟨_, rfl⟩
 obtain ⟨gone, hgone⟩ : ∃ gone, gone = goneG gs p q := ⟨_, rfl⟩
 rw [← hkeep, ← hgone] at hK ⊢
 rw [← hkeep, ← hgone] at hall
 have ho := hK.ord
 have hhi := hK.hi
 have hsw : ∀ i : Nat, ((i : Int) = grpOf gs p ∨ (i : Int) = grpOf gs q) ↔ ((i : Int) = keep ∨ (i : Int) = gone) := fun i => by
  rw [hkeep, hgone]
  unfold keepG goneG
  split
  ·exact Or.comm
  ·exact Iff.rfl
 obtain ⟨z, hz⟩ : ∃ z, z = Value.slice ya L.length yc := ⟨_, rfl⟩
 have hzv : IntV R5 z L := by rw [hz]; exact hJ.val
 have hz1 : z.oneCell' = true := by rw [hz]; rfl
 refine vcLoopR Nat (fun i => [(14, .val (.int .i64 i)), (12, .sl 1 (setE hs keep gone z i).length), (13, .val (.bool (decide (0 ≤ keep ∧ keep < i)))), (9, .val (.slice ya L.length yc)), (7, .val (.int .i64 (grpOf gs p))), (8, .val (.int .i64 (grpOf gs q))), (0, .val (.slice a gs.length cap))]) (fun i => [.dead, .row 64 1 (setE hs keep gone z i)]) (fun i _ => i ≤ gs.length) (fun i => gs.length - i) 0 [] ?_ ?_ ?_ ?_
 ·rw [setE_zero, show decide (0 ≤ keep ∧ keep < ((0 : Nat) : Int)) = false from decide_eq_false (by omega)]
  (try simp only [go_sem, ↓reduceIte, nQ1, nQ2, nQ3, nQ4, nQ5, nQ6, reduceCtorEq]) <;> (repeat' (first | rfl | trivial | constructor | (intro h; exact absurd rfl h)))
 ·try simp only [go_sem, ↓reduceIte, nQ1, nQ2, nQ3, nQ4, nQ5, nQ6, reduceCtorEq]
 ·exact Nat.zero_le _
 rintro i env R6 hle6 hE hi
 (simp only [go_sem] at hE; obtain ⟨e14, e12, e13, e9, e7, e8, e0⟩ := hE; simp only [go_sem, ↓reduceIte, nQ1, nQ2, nQ3, nQ4, nQ5, nQ6, reduceCtorEq, e14, e12, e13, e9, e7, e8, e0]; dsimp only at *)
 have hle16 := RO.le_trans hle15 hle6
 have hsl := setE_len hs keep gone z i
 have hsl1 := setE_len hs keep gone z (i + 1)
 refine ⟨fun hlt => ⟨fun hp1 => ⟨fun hq1 => ?_, fun hq1 => ?_⟩, fun hp1 => ?_⟩, fun hge => ?_⟩
 ·have hi' : i < hs.length := by omega
  obtain ⟨s1, s2, s3⟩ := setE_succ hs z hi' ho
  have hni : ¬ ((i : Int) = keep ∨ (i : Int) = gone) := fun e => ((hsw i).2 e).elim hp1 hq1
  have s3 := s3 (fun e => hni (.inl e)) (fun e => hni (.inr e))
  have hsl2 := congrArg List.length s3
  rw [List.length_append, List.length_singleton] at hsl2
  obtain ⟨ad, had, hR⟩ := hsf i hi'
  have hR0 := hR 0 _ rfl
  rw [add_add, Nat.mul_one, Nat.add_zero] at hR0
  obtain ⟨xa, xc, hxe, -, -⟩ := EncV.form (hH.val i hi' (by omega))
  rw [hxe] at hR0 s3
  refine ⟨by omega, vat ad had ?_⟩
  try simp only [go_sem, ↓reduceIte, nQ1, nQ2, nQ3, nQ4, nQ5, nQ6, reduceCtorEq]
  refine vload _ (hle16 _ _ hR0) ?_
  simp only [go_sem, ↓reduceIte, nQ1, nQ2, nQ3, nQ4, nQ5, nQ6, reduceCtorEq, e14, e12, e13, e9, e7, e8, e0]
  refine vappO (setE hs keep gone z i) rfl (by simp) (by omega) ?_
  simp only [go_sem, ↓reduceIte, nQ1, nQ2, nQ3, nQ4, nQ5, nQ6, reduceCtorEq, e14, e12, e13, e9, e7, e8, e0]
  refine ⟨_, W.in64 (by omega), i + 1, [0, 3], by omega, ?_, by decide, by omega⟩
  rw [s3, List.length_append, show decide (0 ≤ keep ∧ keep < ((i + 1 : Nat) : Int)) = decide (0 ≤ keep ∧ keep < (i : Int)) from decide_eq_decide.2 (by omega)]
  exact ⟨⟨rfl, rfl, rfl⟩, rfl⟩
 ·have hi' : i < hs.length := by omega
  obtain ⟨s1, s2, s3⟩ := setE_succ hs z hi' ho
  refine ⟨fun hd => ?_, fun hd => ?_⟩
  ·have hik : (i : Int) = keep := by
    rcases (hsw i).1 (.inr hq1) with h1 | h1
    ·exact h1
    ·exact absurd (by omega) hd
   have s2 := s2 hik
   have hsl2 := congrArg List.length s2
   rw [List.length_append, List.length_singleton] at hsl2
   refine vappO (setE hs keep gone z i) rfl (by simp) (by omega) ?_
   simp only [go_sem, ↓reduceIte, nQ1, nQ2, nQ3, nQ4, nQ5, nQ6, reduceCtorEq, e14, e12, e13, e9, e7, e8, e0]
   refine ⟨_, W.in64 (by omega), i + 1, [0, 3], by omega, ?_, by decide, by omega⟩
   rw [s2, hz, List.length_append, show decide (0 ≤ keep ∧ keep < ((i + 1 : Nat) : Int)) = true from decide_eq_true (by omega)]
   exact ⟨⟨rfl, rfl, rfl⟩, rfl⟩
  ·have hig : (i : Int) = gone := by
    rcases (hsw i).1 (.inr hq1) with h1 | h1
    ·exact absurd hd (by omega)
    ·exact h1
   refine ⟨_, W.in64 (by omega), i + 1, [], by omega, ?_, by decide, by omega⟩
   rw [s1 hig, show decide (0 ≤ keep ∧ keep < ((i + 1 : Nat) : Int)) = true from decide_eq_true (by omega)]
   rw [show decide (0 ≤ keep ∧ keep < (i : Int)) = true from decide_eq_true hd]
   exact ⟨⟨rfl, rfl, rfl⟩, rfl⟩
 ·have hi' : i < hs.length := by omega
  obtain ⟨s1, s2, s3⟩ := setE_succ hs z hi' ho
  refine ⟨fun hd => ?_, fun hd => ?_⟩
  ·have hik : (i : Int) = keep := by
    rcases (hsw i).1 (.inl hp1) with h1 | h1
    ·exact h1
    ·exact absurd (by omega) hd
   have s2 := s2 hik
   have hsl2 := congrArg List.length s2
   rw [List.length_append, List.length_singleton] at hsl2
   refine vappO (setE hs keep gone z i) rfl (by simp) (by omega) ?_
   simp only [go_sem, ↓reduceIte, nQ1, nQ2, nQ3, nQ4, nQ5, nQ6, reduceCtorEq, e14, e12, e13, e9, e7, e8, e0]
   refine ⟨_, W.in64 (by omega), i + 1, [0, 3], by omega, ?_, by decide, by omega⟩
   rw [s2, hz, List.length_append, show decide (0 ≤ keep ∧ keep < ((i + 1 : Nat) : Int)) = true from decide_eq_true (by omega)]
   exact ⟨⟨rfl, rfl, rfl⟩, rfl⟩
  ·have hig : (i : Int) = gone := by
    rcases (hsw i).1 (.inl hp1) with h1 | h1
    ·exact absurd hd (by omega)
    ·exact h1
   refine ⟨_, W.in64 (by omega), i + 1, [], by omega, ?_, by decide, by omega⟩
   rw [s1 hig, show decide (0 ≤ keep ∧ keep < ((i + 1 : Nat) : Int)) = true from decide_eq_true (by omega)]
   rw [show decide (0 ≤ keep ∧ keep < (i : Int)) = true from decide_eq_true hd]
   exact ⟨⟨rfl, rfl, rfl⟩, rfl⟩
 obtain rfl : i = gs.length := by omega
 have hset := (hH.mono hle15).setG keep gone hzv gs.length
 have hsl := setE_len hs keep gone z gs.length
 refine ⟨fun hd => ?_, fun hd => ?_⟩
 ·have hk : keep < 0 := by omega
  refine vappO (setE hs keep gone z gs.length) rfl (by simp) (by omega) ?_
  try simp only [go_sem, ↓reduceIte, nQ1, nQ2, nQ3, nQ4, nQ5, nQ6, reduceCtorEq, e14, e12, e13, e9, e7, e8, e0]
  intro b7 cap7 R7 hle7 hrow hcap hfr
  rw [joinG_setE ho, if_pos hk, ← hall]
  have hlen : (setE hs keep gone z gs.length).length + 1 = (setE hs keep gone z gs.length ++ [z]).length := by simp
  have hpush := (hset.push hzv).mono (RO.le_trans hle6 hle7)
  rw [hlen]
  exact hpush.gv (rowV (by rw [hz] at hrow ⊢; exact hrow) (by rw [← hlen]; rw [hz] at hcap ⊢; omega) (by rw [← hlen]; omega))
 ·have hk : ¬ keep < 0 := by omega
  intro b7 cap7 R7 hle7 hrow hcap hfr
  rw [joinG_setE ho, if_neg hk, ← hall, List.append_nil]
  exact (hset.mono (RO.le_trans hle6 hle7)).gv (rowV hrow (by omega) (by omega))
end Go.Proofs.YtclkibjonbhldaaGreatDoor
namespace Go.Proofs.YtclkibjonbhldaaGreatDoor
set_option linter.unusedSimpArgs false
set_option linter.unusedVariables false
open Go.Proofs.YtclkibjonbhldaaGreatDoor.Vc
def mapS (gs : List (List Int)) (keep gone : Int) (s : Se) : Se := ⟨mapG gs keep gone s.group, s.grain, s.cells⟩
def accA (gs : List (List Int)) (keep gone : Int) (l : List Se) (i : Nat) : List Se := ((l.map (mapS gs keep gone)).take i).foldl (fun acc s => addS acc s.group s.grain s.cells) []
theorem accA_succ {gs : List (List Int)} {keep gone : Int} {l : List Se} {i : Nat} (hi : i < l.length) : accA gs keep gone l (i + 1) = addS (accA gs keep gone l i) (mapG gs keep gone l[i].group) l[i].grain l[i].cells := by
 unfold accA
 rw [List.take_succ_eq_append_getElem (by simpa using hi), List.foldl_append, List.getElem_map]
 rfl
theorem accA_facts (gs : List (List Int)) (keep gone : Int) (l : List Se) (i : Nat) : (accA gs keep gone l i).Pairwise keyLt ∧ Full (accA gs keep gone l i) := by
 have := foldS_facts ((l.map (mapS gs keep gone)).take i) [] List.Pairwise.nil (by simp [Full])
 exact ⟨this.1, this.2.1⟩
theorem lens_le {l : List Se} {n : Nat} (h : ∀ s ∈ l, s.cells.length ≤ n) : lens l ≤ n * l.length := by
 induction l with
 | nil => simp [lens]
 | cons s l ih =>
  have h1 := ih fun x hx => h x (by simp [hx])
  have h2 := h s (by simp)
  rw [lens_cons, List.length_cons, Nat.mul_add]
  omega
theorem accA_bd {gs : List (List Int)} {keep gone : Int} {l : List Se} {i : Nat} (hl : l.length ≤ 1000) (hc : ∀ s ∈ l, s.cells.length ≤ 1000) : (accA gs keep gone l i).length ≤ 1000 ∧ ∀ s ∈ accA gs keep gone l i, s.cells.length ≤ 1000000 := by
 obtain ⟨h1, h2⟩ := fold_bd ((l.map (mapS gs keep gone)).take i) [] List.Pairwise.nil
 have h3 : lens ((l.map (mapS gs keep gone)).take i) ≤ 1000 * ((l.map (mapS gs keep gone)).take i).length := lens_le fun s hs => by
  obtain ⟨x, hx, rfl⟩ := List.mem_map.1 (List.mem_of_mem_take hs)
  exact hc x hx
 have h4 : ((l.map (mapS gs keep gone)).take i).length ≤ 1000 := by simp; omega
 have h5 : lens ([] : List Se) = 0 := rfl
 refine ⟨Nat.le_trans h2 (by simp only [List.length_nil]; omega), fun s hs => Nat.le_trans (lens_mem hs) (Nat.le_trans h1 ?_)⟩
 have : 1000 * ((l.map (mapS gs keep gone)).take i).length ≤ 1000 * 1000 := Nat.mul_le_mul_left _ h4
 omega
set_option maxHeartbeats 4000000 in
theorem rAlias (b : Bu) (hr : RawB b) (p q : Int) (v : Value) (R : RO) (h : BuV R v b) : CallsR Tryz.prog 19 [v, .int .i64 p, .int .i64 q] R fun R' r => AliasV R' r b p q (okB b) := by
 have hV := fun R' hle => rValid b hr v R' (BuV.mono (R' := R') h hle)
 have hb0 := h
 obtain ⟨gv, sv, rfl, hg, hs⟩ := h
 obtain ⟨-, ga, gc, rfl, -, hgf⟩ := hg.form
 obtain ⟨hsl, sa, sc, rfl, -, hsf⟩ := hs.form
 have hbad : ¬ (okB b = true ∧ personB p = true ∧ personB q = true) → ∀ R', AliasV R' (.tuple #[.agg #[.int .i64 0, .slice none 0 0, .slice none 0 0], .int .i64 1]) b p q (okB b) := fun hn R' => by unfold AliasV; rw [if_neg hn]; rfl
 refine callsT mix Tryz.func19 comp19 (by simp [Tryz.ntmps19]) ?_; simp only [go_sem, ↓reduceIte, nQ1, nQ2, nQ3, nQ4, nQ5, nQ6, reduceCtorEq, vc19, rs19]
 refine vcall (hV R (RO.le_refl _)) ?_
 rintro R1 r hle1 rfl
 try simp only [go_sem, ↓reduceIte, nQ1, nQ2, nQ3, nQ4, nQ5, nQ6, reduceCtorEq]
 refine ⟨fun h1 => ?_, fun h1 => hbad (fun hO => by rw [hO.1] at h1; cases h1) _⟩
 refine vcall (rPerson p R1) ?_
 rintro R2 r hle2 rfl
 try simp only [go_sem, ↓reduceIte, nQ1, nQ2, nQ3, nQ4, nQ5, nQ6, reduceCtorEq]
 refine ⟨fun h2 => ?_, fun h2 => hbad (fun hO => by rw [hO.2.1] at h2; cases h2) _⟩
 refine vcall (rPerson q R2) ?_
 rintro R3 r hle3 rfl
 try simp only [go_sem, ↓reduceIte, nQ1, nQ2, nQ3, nQ4, nQ5, nQ6, reduceCtorEq]
 refine ⟨fun h3 => hbad (fun hO => by rw [hO.2.2] at h3; cases h3) _, fun h3 => ?_⟩
 have hle13 := RO.le_trans hle1 (RO.le_trans hle2 hle3)
 refine vcall (rGroupOf b.groups p (personB_bd h2) _ R3 (hg.mono hle13)) ?_
 rintro R4 r hle4 rfl
 try simp only [go_sem, ↓reduceIte, nQ1, nQ2, nQ3, nQ4, nQ5, nQ6, reduceCtorEq]
 refine vcall (rGroupOf b.groups q (personB_bd h3) _ R4 (hg.mono (RO.le_trans hle13 hle4))) ?_
 rintro R5 r hle5 rfl
 try simp only [go_sem, ↓reduceIte, nQ1, nQ2, nQ3, nQ4, nQ5, nQ6, reduceCtorEq]
 have hle15 := RO.le_trans hle13 (RO.le_trans hle4 hle5)
 have hB := okB_iff.1 h1
 have hyes : ∀ (R' : RO) bv, BuV R' bv (aliasB b p q) → AliasV R' (.tuple #[bv, .int .i64 0]) b p q (okB b) := fun R' bv hb => by unfold AliasV; rw [if_pos ⟨h1, h2, h3⟩]; exact ⟨bv, rfl, hb⟩
 refine ⟨fun he => ?_, fun he => ?_⟩
 ·refine hyes _ _ ?_
  rw [aliasB_same he]
  exact hb0.mono hle15
 refine vcall (rJoined b.groups hB.groups p q h2 h3 he _ R5 (hg.mono hle15)) ?_
 intro R6 r hle6 hgj
 have hgjf := hgj.form
 obtain ⟨-, ja, jc, rfl, -, -⟩ := hgjf
 try simp only [go_sem, ↓reduceIte, nQ1, nQ2, nQ3, nQ4, nQ5, nQ6, reduceCtorEq]
 have hK := kg_of h2 h3 he
 obtain ⟨k1, k2⟩ := kg_gone (gs := b.groups) h2 h3
 have hal := aliasB_diff (b := b) he
 obtain ⟨keep, hkeep⟩ : ∃ keep, keep = keepG b.groups p q := ⟨_, rfl⟩
 obtain ⟨gone, hgone⟩ : ∃ gone, gone = goneG b.groups p q := ⟨_, rfl⟩
 rw [← hkeep, ← hgone] at hK hal hgj ⊢
 rw [← hkeep] at k1
 rw [← hgone] at k2
 have hcan : canon (b.spent.map fun s => ⟨mapG b.groups keep gone s.group, s.grain, s.cells⟩) = accA b.groups keep gone b.spent b.spent.length := by
  unfold accA canon
  rw [List.take_of_length_le (by simp)]
  rfl
 refine vcLoop (Nat × Option Addr × Nat) (fun x => [(10, .val (.int .i64 x.1)), (3, .loc 0 0), (9, .loc 2 0), (6, .loc 1 0)]) (fun x => [.box [.val (.int .i64 b.limit), .val (.slice ga b.groups.length gc), .val (.slice sa b.spent.length sc)], .box [.val (.int .i64 0), .val (.slice none 0 0), .val (.slice none 0 0)], .box [.val (.int .i64 b.limit), .val (.slice ja (joinG b.groups keep gone).length jc), .val (.slice x.2.1 (accA b.groups keep gone b.spent x.1).length x.2.2)]]) (fun x R => x.1 ≤ b.spent.length ∧ SpentV R (.slice x.2.1 (accA b.groups keep gone b.spent x.1).length x.2.2) (accA b.groups keep gone b.spent x.1)) (fun x => b.spent.length - x.1) (0, none, 0) ?_ ?_ ?_ ?_
 ·(try simp only [go_sem, ↓reduceIte, nQ1, nQ2, nQ3, nQ4, nQ5, nQ6, reduceCtorEq]) <;> (repeat' (first | rfl | trivial | constructor | (intro h; exact absurd rfl h)))
 ·try simp only [go_sem, ↓reduceIte, nQ1, nQ2, nQ3, nQ4, nQ5, nQ6, reduceCtorEq]
 ·exact ⟨Nat.zero_le _, SpentV.nil _⟩
 rintro ⟨i, xa, xc⟩ env R7 hle7 hE ⟨hi, hsp⟩
 simp only at hE hi hsp ⊢
 (simp only [go_sem] at hE; obtain ⟨e10, e3, e9, e6⟩ := hE; simp only [go_sem, ↓reduceIte, nQ1, nQ2, nQ3, nQ4, nQ5, nQ6, reduceCtorEq, e10, e3, e9, e6]; dsimp only at *)
 have hle17 := RO.le_trans hle15 (RO.le_trans hle6 hle7)
 refine ⟨fun hlt => ?_, fun hge => ?_⟩
 ·have hi' : i < b.spent.length := by omega
  obtain ⟨ad, u, had, hR, hu⟩ := hsf i hi'
  have huf := hu.form
  obtain ⟨ua, ucap, rfl, -, -⟩ := huf
  refine ⟨by omega, vat ad had ?_⟩
  try simp only [go_sem, ↓reduceIte, nQ1, nQ2, nQ3, nQ4, nQ5, nQ6, reduceCtorEq]
  refine vloadn (seCells (b.spent[i], _)) rfl (fun j w hj => hle17 _ _ (hR j w hj)) ?_
  simp only [go_sem, ↓reduceIte, nQ1, nQ2, nQ3, nQ4, nQ5, nQ6, reduceCtorEq, seCells, e10, e3, e9, e6]
  have hmem := List.getElem_mem hi'
  have hea := hB.each _ hmem
  have hgh := hea.group
  have hbd := accA_bd (gs := b.groups) (keep := keep) (gone := gone) (i := i) hr.len fun s hs => (hr.spent s hs).len
  have hfa := accA_facts b.groups keep gone b.spent i
  have hrl := hr.len
  obtain ⟨z0, hz0, hzg0⟩ := hB.grp hmem
  have hb0 := grpOf_bd (gs := b.groups) hz0
  have hgl2 := hB.groups.len
  refine ⟨_, W.in64 (by omega), fun h5 => ⟨h5, hgh, ?_⟩, fun h5 => ?_⟩
  ·have hgn : b.spent[i].group.toNat < b.groups.length := by omega
   obtain ⟨ad2, u2, had2, hR2, hu2⟩ := hgf _ hgn
   obtain ⟨-, wa, wc, rfl, -, hwf⟩ := IntV.form hu2
   have hO := hB.groups.all _ hgn
   have hpos : 0 < (b.groups[b.spent[i].group.toNat]).length := List.length_pos_iff.2 hO.ne
   obtain ⟨ad3, had3, hR3⟩ := hwf 0 hpos
   have hzm := hO.mem _ (List.getElem_mem hpos)
   have hzg : grpOf b.groups (b.groups[b.spent[i].group.toNat])[0] = b.spent[i].group := by rw [hzm.2]; omega
   refine vat ad2 had2 ?_
   try simp only [go_sem, ↓reduceIte, nQ1, nQ2, nQ3, nQ4, nQ5, nQ6, reduceCtorEq]
   refine vload _ (hle17 _ _ hR2) ?_
   simp only [go_sem, ↓reduceIte, nQ1, nQ2, nQ3, nQ4, nQ5, nQ6, reduceCtorEq, seCells, e10, e3, e9, e6]
   refine ⟨by omega, by omega, vat ad3 had3 ?_⟩
   try simp only [go_sem, ↓reduceIte, nQ1, nQ2, nQ3, nQ4, nQ5, nQ6, reduceCtorEq]
   refine vload _ (hle17 _ _ hR3) ?_
   simp only [go_sem, ↓reduceIte, nQ1, nQ2, nQ3, nQ4, nQ5, nQ6, reduceCtorEq, seCells, e10, e3, e9, e6]
   refine vcall (rGroupOf (joinG b.groups keep gone) ((b.groups[b.spent[i].group.toNat])[0]) (personB_bd hzm.1) _ R7 (hgj.mono hle7)) ?_
   rintro R8 r hle8 rfl
   rw [grpOf_join hB.groups hK k1 k2 hzm.1, hzg]
   simp only [go_sem, ↓reduceIte, nQ1, nQ2, nQ3, nQ4, nQ5, nQ6, reduceCtorEq, seCells, e10, e3, e9, e6]
   refine vcall (rAdd (accA b.groups keep gone b.spent i) (mapG b.groups keep gone b.spent[i].group) b.spent[i].grain b.spent[i].cells hfa.1 hfa.2 (by omega) hbd.2 (Nat.le_trans (hr.spent _ hmem).len (by omega)) (fun hne => union_ne ?_) _ _ R8 (hsp.mono hle8) (hu.mono (RO.le_trans hle17 hle8))) ?_
   ·cases hm : b.spent[i].cells with
    | nil => exact absurd hm hne
    | cons c l => exact ⟨c, by simp, (validS_iff.1 hea.nor).1.pos c (by rw [hm]; simp)⟩
   intro R9 r hle9 hsv
   have hsvf := hsv.form
   obtain ⟨-, na, nc, rfl, -, -⟩ := hsvf
   simp only [go_sem, ↓reduceIte, nQ1, nQ2, nQ3, nQ4, nQ5, nQ6, reduceCtorEq, e10, e3, e9, e6]
   refine ⟨_, W.in64 (by omega), (i + 1, na, nc), by omega, ?_, hi', ?_⟩
   ·simp only [accA_succ hi']
    exact ⟨rfl, trivial⟩
   ·simp only [accA_succ hi']
    exact hsv
  ·have hal2 := hea.alone (by omega)
   refine vcall (rGroupOf (joinG b.groups keep gone) (-1 - b.spent[i].group) (personB_bd hal2.1) _ R7 (hgj.mono hle7)) ?_
   rintro R8 r hle8 rfl
   rw [grpOf_join hB.groups hK k1 k2 hal2.1, hal2.2]
   simp only [go_sem, ↓reduceIte, nQ1, nQ2, nQ3, nQ4, nQ5, nQ6, reduceCtorEq, seCells, e10, e3, e9, e6]
   refine vcall (rAdd (accA b.groups keep gone b.spent i) (mapG b.groups keep gone b.spent[i].group) b.spent[i].grain b.spent[i].cells hfa.1 hfa.2 (by omega) hbd.2 (Nat.le_trans (hr.spent _ hmem).len (by omega)) (fun hne => union_ne ?_) _ _ R8 (hsp.mono hle8) (hu.mono (RO.le_trans hle17 hle8))) ?_
   ·cases hm : b.spent[i].cells with
    | nil => exact absurd hm hne
    | cons c l => exact ⟨c, by simp, (validS_iff.1 hea.nor).1.pos c (by rw [hm]; simp)⟩
   intro R9 r hle9 hsv
   have hsvf := hsv.form
   obtain ⟨-, na, nc, rfl, -, -⟩ := hsvf
   simp only [go_sem, ↓reduceIte, nQ1, nQ2, nQ3, nQ4, nQ5, nQ6, reduceCtorEq, e10, e3, e9, e6]
   refine ⟨_, W.in64 (by omega), (i + 1, na, nc), by omega, ?_, hi', ?_⟩
   ·simp only [accA_succ hi']
    exact ⟨rfl, trivial⟩
   ·simp only [accA_succ hi']
    exact hsv
 ·obtain rfl : i = b.spent.length := by omega
  refine hyes _ _ ?_
  rw [hal, hcan]
  exact ⟨_, _, rfl, hgj.mono hle7, hsp⟩
end Go.Proofs.YtclkibjonbhldaaGreatDoor
namespace Go.Proofs.YtclkibjonbhldaaGreatDoor
set_option linter.unusedSimpArgs false
set_option linter.unusedVariables false
open Go.Proofs.YtclkibjonbhldaaGreatDoor.Vc
structure MadI (n : Nat) (b : Bu) : Prop where
 ok : OkB b
 sz : SzB b n (40 * n)
theorem MadI.raw {n : Nat} {b : Bu} (h : MadI n b) (hn : n ≤ 20) : RawB b := h.ok.raw (h.sz.mono (by omega) (by omega))
theorem MadI.ask {n : Nat} {b : Bu} (h : MadI n b) {p k : Int} {w : Sp} (hp : personB p = true) (hk : 1 ≤ k ∧ k ≤ 4) (hw : OkW k w) (hc : (w.t - w.f) / sizeI k ≤ 40) : MadI (n + 1) (askB b p k w) :=
 ⟨h.ok.ask hp hk hw, (askB_bd h.ok hw h.sz (c := 40) (by omega)).mono (Nat.le_refl _) (by omega)⟩
theorem MadI.alias {n : Nat} {b : Bu} (h : MadI n b) {p q : Int} (hp : personB p = true) (hq : personB q = true) : MadI (n + 1) (aliasB b p q) :=
 ⟨h.ok.alias hp hq, (aliasB_bd h.sz).mono (by omega) (by omega)⟩
end Go.Proofs.YtclkibjonbhldaaGreatDoor
namespace Go.Proofs.YtclkibjonbhldaaGreatDoor
set_option linter.unusedSimpArgs false
set_option linter.unusedVariables false
open Go.Proofs.YtclkibjonbhldaaGreatDoor.Vc
noncomputable def sameB (x y : Bu) : Bool := @decide (x = y) (Classical.propDecidable _)
theorem sameB_iff {x y : Bu} : sameB x y = true ↔ x = y := @decide_eq_true_iff _ (Classical.propDecidable _)
theorem sameB_no {x y : Bu} (h : x ≠ y) : sameB x y = false := @decide_eq_false _ (Classical.propDecidable _) h
theorem take_eq_succ {α : Type} {a b : List α} {i : Nat} (ha : i < a.length) (hb : i < b.length) (h : a.take i = b.take i) (e : a[i] = b[i]) : a.take (i + 1) = b.take (i + 1) := by
 rw [List.take_succ_eq_append_getElem ha, List.take_succ_eq_append_getElem hb, h, e]
theorem take_eq_all {α : Type} {a b : List α} (hl : a.length = b.length) (h : a.take a.length = b.take a.length) : a = b := by
 rwa [List.take_length, hl, List.take_length] at h
theorem Bu.ext' {x y : Bu} (h1 : x.limit = y.limit) (h2 : x.groups = y.groups) (h3 : x.spent = y.spent) : x = y := by
 cases x; cases y
 simp only at h1 h2 h3
 rw [h1, h2, h3]
theorem Se.ext' {x y : Se} (h1 : x.group = y.group) (h2 : x.grain = y.grain) (h3 : x.cells = y.cells) : x = y := by
 cases x; cases y
 simp only at h1 h2 h3
 rw [h1, h2, h3]
set_option maxHeartbeats 4000000 in
theorem rSameBu (x y : Bu) (v u : Value) (R : RO) (h : BuV R v x) (h' : BuV R u y) : CallsR Tryz.prog 20 [v, u] R fun _ r => r = .bool (sameB x y) := by
 obtain ⟨gv, sv, rfl, hg, hs⟩ := h
 obtain ⟨gv', sv', rfl, hg', hs'⟩ := h'
 obtain ⟨hgl, ga, gc, rfl, -, gf⟩ := hg.form
 obtain ⟨hsl, sa, sc, rfl, -, sf⟩ := hs.form
 obtain ⟨-, ga', gc', rfl, -, gf'⟩ := hg'.form
 obtain ⟨-, sa', sc', rfl, -, sf'⟩ := hs'.form
 have hbad : x ≠ y → Value.bool false = Value.bool (sameB x y) := fun hn => by rw [sameB_no hn]
 refine callsT mix Tryz.func20 comp20 (by simp [Tryz.ntmps20]) ?_; simp only [go_sem, ↓reduceIte, nQ1, nQ2, nQ3, nQ4, nQ5, nQ6, reduceCtorEq, vc20, rs20]
 refine ⟨fun h1 => ⟨fun h2 => ⟨fun h3 => hbad fun e => h3 (by rw [e]), fun h3 => ?_⟩, fun h2 => hbad fun e => h2 (by rw [e])⟩, fun h1 => hbad fun e => h1 (by rw [e])⟩
 have hg2 : x.groups.length = y.groups.length := by omega
 have hs2 : x.spent.length = y.spent.length := by omega
 refine vcLoop Nat (fun i => [(5, .val (.int .i64 i)), (2, .loc 0 0), (3, .loc 1 0)]) (fun _ => [.box [.val (.int .i64 x.limit), .val (.slice ga x.groups.length gc), .val (.slice sa x.spent.length sc)], .box [.val (.int .i64 y.limit), .val (.slice ga' y.groups.length gc'), .val (.slice sa' y.spent.length sc')]]) (fun i _ => i ≤ x.groups.length ∧ x.groups.take i = y.groups.take i) (fun i => x.groups.length - i) 0 ?_ ?_ ?_ ?_
 ·(try simp only [go_sem, ↓reduceIte, nQ1, nQ2, nQ3, nQ4, nQ5, nQ6, reduceCtorEq]) <;> (repeat' (first | rfl | trivial | constructor | (intro h; exact absurd rfl h)))
 ·try simp only [go_sem, ↓reduceIte, nQ1, nQ2, nQ3, nQ4, nQ5, nQ6, reduceCtorEq]
 ·exact ⟨Nat.zero_le _, rfl⟩
 rintro i env R1 hle1 hE ⟨hi, ht⟩
 (simp only [go_sem] at hE; obtain ⟨e5, e2, e3⟩ := hE; simp only [go_sem, ↓reduceIte, nQ1, nQ2, nQ3, nQ4, nQ5, nQ6, reduceCtorEq, e5, e2, e3]; dsimp only at *)
 refine ⟨fun hlt => ?_, fun hge => ?_⟩
 ·have hi' : i < x.groups.length := by omega
  have hi2 : i < y.groups.length := by omega
  obtain ⟨ad, w, had, hR, hw⟩ := gf i hi'
  obtain ⟨ad', w', had', hR', hw'⟩ := gf' i hi2
  obtain ⟨hwl, wa, wc, rfl, -, wf⟩ := IntV.form hw
  obtain ⟨-, wa', wc', rfl, -, wf'⟩ := IntV.form hw'
  refine ⟨by omega, vat ad had ?_⟩
  try simp only [go_sem, ↓reduceIte, nQ1, nQ2, nQ3, nQ4, nQ5, nQ6, reduceCtorEq]
  refine vload _ (hle1 _ _ hR) ?_
  simp only [go_sem, ↓reduceIte, nQ1, nQ2, nQ3, nQ4, nQ5, nQ6, reduceCtorEq, e5, e2, e3]
  refine ⟨by omega, vat ad' had' ?_⟩
  try simp only [go_sem, ↓reduceIte, nQ1, nQ2, nQ3, nQ4, nQ5, nQ6, reduceCtorEq]
  refine vload _ (hle1 _ _ hR') ?_
  simp only [go_sem, ↓reduceIte, nQ1, nQ2, nQ3, nQ4, nQ5, nQ6, reduceCtorEq, e5, e2, e3]
  have hgne : x.groups[i] ≠ y.groups[i] → x ≠ y := fun hn e => hn (by subst e; rfl)
  refine ⟨fun hl => hbad (hgne fun e => hl (by rw [e])), fun hl => ?_⟩
  have hl2 : x.groups[i].length = y.groups[i].length := by omega
  refine vcLoop Nat (fun j => [(6, .val (.int .i64 j)), (5, .val (.int .i64 i)), (2, .loc 0 0), (3, .loc 1 0)]) (fun _ => [.box [.val (.int .i64 x.limit), .val (.slice ga x.groups.length gc), .val (.slice sa x.spent.length sc)], .box [.val (.int .i64 y.limit), .val (.slice ga' y.groups.length gc'), .val (.slice sa' y.spent.length sc')]]) (fun j _ => j ≤ x.groups[i].length ∧ x.groups[i].take j = y.groups[i].take j) (fun j => x.groups[i].length - j) 0 ?_ ?_ ?_ ?_
  ·(try simp only [go_sem, ↓reduceIte, nQ1, nQ2, nQ3, nQ4, nQ5, nQ6, reduceCtorEq]) <;> (repeat' (first | rfl | trivial | constructor | (intro h; exact absurd rfl h)))
  ·try simp only [go_sem, ↓reduceIte, nQ1, nQ2, nQ3, nQ4, nQ5, nQ6, reduceCtorEq]
  ·exact ⟨Nat.zero_le _, rfl⟩
  rintro j env R2 hle2 hE ⟨hj, htj⟩
  (simp only [go_sem] at hE; obtain ⟨f6, f5, f2, f3⟩ := hE; simp only [go_sem, ↓reduceIte, nQ1, nQ2, nQ3, nQ4, nQ5, nQ6, reduceCtorEq, f6, f5, f2, f3]; dsimp only at *)
  have hle12 := RO.le_trans hle1 hle2
  refine ⟨by omega, vat ad had ?_⟩
  try simp only [go_sem, ↓reduceIte, nQ1, nQ2, nQ3, nQ4, nQ5, nQ6, reduceCtorEq]
  refine vload _ (hle12 _ _ hR) ?_
  simp only [go_sem, ↓reduceIte, nQ1, nQ2, nQ3, nQ4, nQ5, nQ6, reduceCtorEq, f6, f5, f2, f3]
  refine ⟨fun hjl => ⟨by omega, vat ad had ?_⟩, fun hjg => ?_⟩
  ·have hj' : j < x.groups[i].length := by omega
   have hj2 : j < y.groups[i].length := by omega
   obtain ⟨bd, hbd, hRb⟩ := wf j hj'
   obtain ⟨bd', hbd', hRb'⟩ := wf' j hj2
   try simp only [go_sem, ↓reduceIte, nQ1, nQ2, nQ3, nQ4, nQ5, nQ6, reduceCtorEq]
   refine vload _ (hle12 _ _ hR) ?_
   simp only [go_sem, ↓reduceIte, nQ1, nQ2, nQ3, nQ4, nQ5, nQ6, reduceCtorEq, f6, f5, f2, f3]
   refine ⟨by omega, vat bd hbd ?_⟩
   try simp only [go_sem, ↓reduceIte, nQ1, nQ2, nQ3, nQ4, nQ5, nQ6, reduceCtorEq]
   refine vload _ (hle12 _ _ hRb) ?_
   simp only [go_sem, ↓reduceIte, nQ1, nQ2, nQ3, nQ4, nQ5, nQ6, reduceCtorEq, f6, f5, f2, f3]
   refine ⟨by omega, vat ad' had' ?_⟩
   try simp only [go_sem, ↓reduceIte, nQ1, nQ2, nQ3, nQ4, nQ5, nQ6, reduceCtorEq]
   refine vload _ (hle12 _ _ hR') ?_
   simp only [go_sem, ↓reduceIte, nQ1, nQ2, nQ3, nQ4, nQ5, nQ6, reduceCtorEq, f6, f5, f2, f3]
   refine ⟨by omega, vat bd' hbd' ?_⟩
   try simp only [go_sem, ↓reduceIte, nQ1, nQ2, nQ3, nQ4, nQ5, nQ6, reduceCtorEq]
   refine vload _ (hle12 _ _ hRb') ?_
   simp only [go_sem, ↓reduceIte, nQ1, nQ2, nQ3, nQ4, nQ5, nQ6, reduceCtorEq, f6, f5, f2, f3]
   refine ⟨fun hne => hbad (hgne fun e => hne (by simp only [e])), fun heq => ⟨_, W.in64 (by omega), j + 1, by omega, rfl, by omega, take_eq_succ hj' hj2 htj heq⟩⟩
  ·obtain rfl : j = x.groups[i].length := by omega
   exact ⟨_, W.in64 (by omega), i + 1, by omega, rfl, by omega, take_eq_succ hi' hi2 ht (take_eq_all hl2 htj)⟩
 ·obtain rfl : i = x.groups.length := by omega
  have hgs := take_eq_all hg2 ht
  refine vcLoop Nat (fun i => [(7, .val (.int .i64 i)), (2, .loc 0 0), (3, .loc 1 0)]) (fun _ => [.box [.val (.int .i64 x.limit), .val (.slice ga x.groups.length gc), .val (.slice sa x.spent.length sc)], .box [.val (.int .i64 y.limit), .val (.slice ga' y.groups.length gc'), .val (.slice sa' y.spent.length sc')]]) (fun i _ => i ≤ x.spent.length ∧ x.spent.take i = y.spent.take i) (fun i => x.spent.length - i) 0 ?_ ?_ ?_ ?_
  ·(try simp only [go_sem, ↓reduceIte, nQ1, nQ2, nQ3, nQ4, nQ5, nQ6, reduceCtorEq]) <;> (repeat' (first | rfl | trivial | constructor | (intro h; exact absurd rfl h)))
  ·try simp only [go_sem, ↓reduceIte, nQ1, nQ2, nQ3, nQ4, nQ5, nQ6, reduceCtorEq]
  ·exact ⟨Nat.zero_le _, rfl⟩
  rintro i env R2 hle2 hE ⟨hi, ht2⟩
  (simp only [go_sem] at hE; obtain ⟨f7, f2, f3⟩ := hE; simp only [go_sem, ↓reduceIte, nQ1, nQ2, nQ3, nQ4, nQ5, nQ6, reduceCtorEq, f7, f2, f3]; dsimp only at *)
  have hle12 := RO.le_trans hle1 hle2
  refine ⟨fun hlt2 => ?_, fun hge2 => ?_⟩
  ·have hi' : i < x.spent.length := by omega
   have hi2 : i < y.spent.length := by omega
   obtain ⟨ad, w, had, hR, hw⟩ := sf i hi'
   obtain ⟨ad', w', had', hR', hw'⟩ := sf' i hi2
   have hwf := hw.form
   have hwf' := hw'.form
   obtain ⟨wa, wc, rfl, -, -⟩ := hwf
   obtain ⟨wa', wc', rfl, -, -⟩ := hwf'
   have hsne : x.spent[i] ≠ y.spent[i] → x ≠ y := fun hn e => hn (by subst e; rfl)
   refine ⟨by omega, vat ad had ?_⟩
   try simp only [go_sem, ↓reduceIte, nQ1, nQ2, nQ3, nQ4, nQ5, nQ6, reduceCtorEq]
   refine vload _ (hle12 _ _ (hR 2 _ rfl)) ?_
   simp only [go_sem, ↓reduceIte, nQ1, nQ2, nQ3, nQ4, nQ5, nQ6, reduceCtorEq, f7, f2, f3]
   refine ⟨by omega, vat ad' had' ?_⟩
   try simp only [go_sem, ↓reduceIte, nQ1, nQ2, nQ3, nQ4, nQ5, nQ6, reduceCtorEq]
   refine vload _ (hle12 _ _ (hR' 2 _ rfl)) ?_
   simp only [go_sem, ↓reduceIte, nQ1, nQ2, nQ3, nQ4, nQ5, nQ6, reduceCtorEq, f7, f2, f3]
   refine vcall (rSameS x.spent[i].cells y.spent[i].cells _ _ R2 (hw.mono hle12) (hw'.mono hle12)) ?_
   rintro R3 r hle3 rfl
   simp only [go_sem, ↓reduceIte, nQ1, nQ2, nQ3, nQ4, nQ5, nQ6, reduceCtorEq, f7, f2, f3]
   have hle13 := RO.le_trans hle12 hle3
   refine ⟨fun hce => ⟨by omega, vat ad had ?_⟩, fun hce => hbad (hsne fun e => hce (by rw [e]))⟩
   try simp only [go_sem, ↓reduceIte, nQ1, nQ2, nQ3, nQ4, nQ5, nQ6, reduceCtorEq]
   refine vload (.int .i64 x.spent[i].group) (hle13 _ _ (hR 0 _ rfl)) ?_
   simp only [go_sem, ↓reduceIte, nQ1, nQ2, nQ3, nQ4, nQ5, nQ6, reduceCtorEq, f7, f2, f3]
   refine ⟨by omega, vat ad' had' ?_⟩
   try simp only [go_sem, ↓reduceIte, nQ1, nQ2, nQ3, nQ4, nQ5, nQ6, reduceCtorEq]
   refine vload (.int .i64 y.spent[i].group) (hle13 _ _ (hR' 0 _ rfl)) ?_
   simp only [go_sem, ↓reduceIte, nQ1, nQ2, nQ3, nQ4, nQ5, nQ6, reduceCtorEq, f7, f2, f3]
   refine ⟨fun hge1 => ⟨by omega, vat ad had ?_⟩, fun hge1 => hbad (hsne fun e => hge1 (by rw [e]))⟩
   try simp only [go_sem, ↓reduceIte, nQ1, nQ2, nQ3, nQ4, nQ5, nQ6, reduceCtorEq]
   refine vload (.int .i64 x.spent[i].grain) (hle13 _ _ (hR 1 _ rfl)) ?_
   simp only [go_sem, ↓reduceIte, nQ1, nQ2, nQ3, nQ4, nQ5, nQ6, reduceCtorEq, f7, f2, f3]
   refine ⟨by omega, vat ad' had' ?_⟩
   try simp only [go_sem, ↓reduceIte, nQ1, nQ2, nQ3, nQ4, nQ5, nQ6, reduceCtorEq]
   refine vload (.int .i64 y.spent[i].grain) (hle13 _ _ (hR' 1 _ rfl)) ?_
   simp only [go_sem, ↓reduceIte, nQ1, nQ2, nQ3, nQ4, nQ5, nQ6, reduceCtorEq, f7, f2, f3]
   refine ⟨fun hgr => hbad (hsne fun e => hgr (by rw [e])), fun hgr => ⟨_, W.in64 (by omega), i + 1, by omega, rfl, by omega, take_eq_succ hi' hi2 ht2 (Se.ext' hge1 hgr hce)⟩⟩
  ·obtain rfl : i = x.spent.length := by omega
   rw [sameB_iff.2 (Bu.ext' h1 hgs (take_eq_all hs2 ht2))]
end Go.Proofs.YtclkibjonbhldaaGreatDoor
namespace Go.Proofs.YtclkibjonbhldaaGreatDoor
set_option linter.unusedSimpArgs false
set_option linter.unusedVariables false
open Go.Proofs.YtclkibjonbhldaaGreatDoor.Vc
noncomputable def eQ (b : Bu) (p k : Int) (w : Sp) : Int := if b.limit < totalD (grpOf b.groups p) b.spent + costQ b p k w then 13 else 0
noncomputable def nQ (b : Bu) (p k : Int) (w : Sp) : Bu := if b.limit < totalD (grpOf b.groups p) b.spent + costQ b p k w then ⟨0, [], []⟩ else askB b p k w
theorem ask_bx {R : RO} {r : Value} {b : Bu} {p k : Int} {w : Sp} (h : AskV R r b p k w) (h1 : checkI b p k w = 0) : ∃ x : Bx, r = .tuple #[.agg x.cells.toArray, .int .i64 (eQ b p k w)] ∧ BxV R x ∧ x.b = nQ b p k w := by
 rcases h with ⟨h, _⟩ | ⟨_, hl, rfl⟩ | ⟨_, hl, bv, rfl, gv, sv, rfl, hg, hs⟩
 ·exact absurd h1 h
 ·refine ⟨⟨⟨0, [], []⟩, none, 0, none, 0⟩, ?_, ⟨_, _, rfl, GV.nil _, SpentV.nil _⟩, ?_⟩
  ·unfold eQ; rw [if_pos hl]; rfl
  ·unfold nQ; rw [if_pos hl]
 ·have hg : GV R gv b.groups := hg
  obtain ⟨-, ga, gc, rfl, -, -⟩ := hg.form
  obtain ⟨-, sa, sc, rfl, -, -⟩ := hs.form
  refine ⟨⟨askB b p k w, ga, gc, sa, sc⟩, ?_, ⟨_, _, rfl, hg, hs⟩, ?_⟩
  ·unfold eQ; rw [if_neg hl]; rfl
  ·unfold nQ; rw [if_neg hl]
end Go.Proofs.YtclkibjonbhldaaGreatDoor
namespace Go.Proofs.YtclkibjonbhldaaGreatDoor
set_option linter.unusedSimpArgs false
set_option linter.unusedVariables false
open Go.Proofs.YtclkibjonbhldaaGreatDoor.Vc
def BuW (R : RO) (v : Value) : Prop := ∃ (lim : Int) (gv sv : Value) (gcs scs : List (List Value)), v = .agg #[.int .i64 lim, gv, sv] ∧
 (SlK R gv 1 gcs ∧ ∀ c ∈ gcs, ∃ u, ∃ xs : List Int, c = [u] ∧ SlK R u 1 (xs.map fun x => [.int .i64 x])) ∧ SlK R sv 3 scs ∧ ∀ c ∈ scs, ∃ g k u, ∃ ss : List Sp, c = [.int .i64 g, .int .i64 k, u] ∧ I64 g ∧ SlK R u 2 (ss.map Sp.cells)
theorem BuW.mono {R R' : RO} {v : Value} (h : BuW R v) (hle : RO.le R R') : BuW R' v := by
 obtain ⟨lim, gv, sv, gcs, scs, rfl, ⟨hg, hgc⟩, hs, hsc⟩ := h
 refine ⟨lim, gv, sv, gcs, scs, rfl, ⟨hg.mono hle, fun c hc => ?_⟩, hs.mono hle, fun c hc => ?_⟩
 ·obtain ⟨u, xs, h1, h2⟩ := hgc c hc
  exact ⟨u, xs, h1, h2.mono hle⟩
 ·obtain ⟨g, k, u, ss, h1, h2, h3⟩ := hsc c hc
  exact ⟨g, k, u, ss, h1, h2, h3.mono hle⟩
theorem SlK.form {R : RO} {v : Value} {k : Nat} {cs : List (List Value)} (h : SlK R v k cs) : ∃ a cap, v = .slice a cs.length cap ∧ cs.length ≤ cap ∧ ∀ i (hi : i < cs.length), (cs[i]).length = k ∧ ∃ ad, a = some ad ∧ ∀ j u, (cs[i])[j]? = some u → R ((ad.add (i * k)).add j) u := by
 obtain ⟨a, cap, e, hc, h⟩ := h
 exact ⟨a, cap, e, hc, fun i hi => h i _ (List.getElem?_eq_getElem hi)⟩
theorem addr0 (a : Option Addr) (c : Nat) : (if c = 0 then a else Option.map (fun x => x.add 0) a) = a := by
 cases a <;> simp [Addr.add_zero']
theorem SlK.cut {R : RO} {a : Option Addr} {n c k : Nat} {cs : List (List Value)} (h : SlK R (.slice a n c) k cs) (m : Nat) : SlK R (.slice a (min n m) c) k (cs.take m) := by
 obtain ⟨a', cap, e, hc, hf⟩ := h
 simp only [Value.slice.injEq] at e
 obtain ⟨rfl, rfl, rfl⟩ := e
 refine ⟨a, c, by rw [List.length_take, Nat.min_comm], by rw [List.length_take]; omega, fun i us hi => ?_⟩
 rw [List.getElem?_take] at hi
 split at hi
 ·exact hf i us hi
 ·cases hi
theorem SlK.cap {R : RO} {a : Option Addr} {n c k : Nat} {cs : List (List Value)} (h : SlK R (.slice a n c) k cs) : n = cs.length ∧ n ≤ c := by
 obtain ⟨a', cap, e, hc, hf⟩ := h
 simp only [Value.slice.injEq] at e
 obtain ⟨rfl, rfl, rfl⟩ := e
 exact ⟨rfl, hc⟩
theorem GV.of {R : RO} {v : Value} {us : List Value} (h : EncV (fun x : Value => [x]) 1 R v us) (hus : ∀ u ∈ us, ∃ xs, IntV R u xs ∧ xs.length ≤ 8) : ∃ g : List (List Int), g.length = us.length ∧ GV R v g := by
 refine ⟨us.attach.map fun u => (hus u.1 u.2).choose, by simp, us, h, by simp, fun i h1 h2 => ?_⟩
 rw [List.getElem_map, List.getElem_attach]
 exact (hus us[i] (List.getElem_mem h1)).choose_spec.1
theorem cut_fin {R : RO} {lim : Int} {ga sa : Option Addr} {gc sc : Nat} {us : List Value} {ps : List (Se × Value)} (hg : EncV (fun x : Value => [x]) 1 R (.slice ga us.length gc) us) (hus : ∀ u ∈ us, ∃ xs, IntV R u xs ∧ xs.length ≤ 8)
  (hs : EncV seCells 3 R (.slice sa ps.length sc) ps) (hps : ∀ p ∈ ps, SpV R p.2 p.1.cells ∧ p.1.cells.length ≤ 6 ∧ I64 p.1.group) (hpl : ps.length ≤ 8) : ∃ x : Bx, Value.agg #[.int .i64 lim, .slice ga us.length gc, .slice sa ps.length sc] = .agg x.cells.toArray ∧ BxV R x ∧ RawB x.b := by
 obtain ⟨g, hgl, hG⟩ := GV.of hg hus
 have hx : Value.agg #[.int .i64 lim, .slice ga us.length gc, .slice sa ps.length sc] = .agg (Bx.cells ⟨⟨lim, g, ps.map (·.1)⟩, ga, gc, sa, sc⟩).toArray := by
  simp only [Bx.cells, hgl, List.length_map]
 refine ⟨⟨⟨lim, g, ps.map (·.1)⟩, ga, gc, sa, sc⟩, hx, ⟨?_⟩, ⟨fun s hs' => ?_, ?_⟩⟩
 ·rw [← hx]
  exact ⟨_, _, rfl, hG, ps, hs, rfl, fun p hp => (hps p hp).1⟩
 ·obtain ⟨p, hp, rfl⟩ := List.mem_map.1 hs'
  exact ⟨(hps p hp).2.2, by have := (hps p hp).2.1; omega⟩
 ·simp only [List.length_map]; omega
theorem hrl (ps : List (Se × Value)) : (ps.map seCells).flatten.length = ps.length * 3 := by
 rw [length_flattenK (k := 3) (fun us hus => by obtain ⟨x, _, rfl⟩ := List.mem_map.1 hus; rfl)]
 simp
theorem flat1V : ∀ us : List Value, (us.map fun x => [x]).flatten = us
 | [] => rfl
 | x :: r => by rw [List.map_cons, List.flatten_cons, flat1V r]; rfl
set_option maxHeartbeats 4000000 in
theorem lCut (v : Value) (R : RO) (h : BuW R v) : CallsR Tryz.prog 26 [v] R fun R' r => ∃ x : Bx, r = .agg x.cells.toArray ∧ BxV R' x ∧ RawB x.b := by
 obtain ⟨lim, gv, sv, gcs, scs, rfl, ⟨hg, hgc⟩, hs, hsc⟩ := h
 obtain ⟨ga, gcap, rfl, hgcap, hgf⟩ := SlK.form hg
 obtain ⟨sa, scap, rfl, hscap, hsf⟩ := SlK.form hs
 refine callsT mix Tryz.func26 comp26 (by simp [Tryz.ntmps26]) ?_; simp only [go_sem, ↓reduceIte, nQ1, nQ2, nQ3, nQ4, nQ5, nQ6, reduceCtorEq, vc26, rs26]
 try simp only [go_sem, ↓reduceIte, nQ1, nQ2, nQ3, nQ4, nQ5, nQ6, reduceCtorEq]
 refine cutL (fun s' => ∃ env R1, ∃ us : List Value, s' = ⟨env, [.box [.val (.int .i64 lim), .val (.slice ga gcs.length gcap), .val (.slice sa scs.length scap)], .box [.val (.int .i64 0), .val (.slice none 0 0), .val (.slice none 0 0)], .box [.val (.int .i64 lim), gs 3 us.length, .val (.slice none 0 0)], gb 64 1 us], R1⟩ ∧ RO.le R R1 ∧ us.length ≤ 6 ∧ (∀ u ∈ us, ∃ xs, IntV R1 u xs ∧ xs.length ≤ 8) ∧ env 1 = .loc 0 0 ∧ env 2 = .loc 1 0 ∧ env 3 = .loc 2 0) ?_ ?_
 ·refine vcLoopR (Nat × List Value) (fun x => [(4, .val (.int .i64 x.1)), (1, .loc 0 0), (2, .loc 1 0), (3, .loc 2 0)])
   (fun x => [.box [.val (.int .i64 lim), .val (.slice ga gcs.length gcap), .val (.slice sa scs.length scap)], .box [.val (.int .i64 0), .val (.slice none 0 0), .val (.slice none 0 0)], .box [.val (.int .i64 lim), gs 3 x.2.length, .val (.slice none 0 0)], gb 64 1 x.2])
   (fun x R' => x.2.length = x.1 ∧ x.1 ≤ gcs.length ∧ x.1 ≤ 6 ∧ ∀ u ∈ x.2, ∃ xs, IntV R' u xs ∧ xs.length ≤ 8) (fun x => 6 - x.1) (0, []) [] ?_ ?_ ?_ ?_
  ·(try simp only [go_sem, ↓reduceIte, nQ1, nQ2, nQ3, nQ4, nQ5, nQ6, reduceCtorEq]) <;> (repeat' (first | rfl | trivial | constructor | (intro h; exact absurd rfl h)))
  ·try simp only [go_sem, ↓reduceIte, nQ1, nQ2, nQ3, nQ4, nQ5, nQ6, reduceCtorEq]
  ·exact ⟨rfl, Nat.zero_le _, by decide, by simp⟩
  rintro ⟨i, us⟩ env R1 hle1 hE ⟨hul, hi, hi6, hus⟩
  simp only at hE hul hi hi6 hus
  (simp only [go_sem] at hE; obtain ⟨e4, e1, e2, e3⟩ := hE; simp only [go_sem, ↓reduceIte, nQ1, nQ2, nQ3, nQ4, nQ5, nQ6, reduceCtorEq, e4, e1, e2, e3]; dsimp only at *)
  refine ⟨fun hlt => ⟨fun hlt6 => ?_, fun hge => ?_⟩, fun hge => ?_⟩
  ·have hlt' : i < gcs.length := by omega
   obtain ⟨hl1, ad, had, hR⟩ := hgf i hlt'
   obtain ⟨u, xs, hc, hu⟩ := hgc _ (List.getElem_mem hlt')
   have hu1 := hR 0 u (by rw [hc]; rfl)
   rw [Nat.mul_one, Addr.add_zero'] at hu1
   obtain ⟨ia, ic, hue, hic, _⟩ := SlK.form hu
   rw [List.length_map] at hue hic
   subst hue
   have hcut := (SlK.cut hu 8).mono hle1
   rw [← List.map_take] at hcut
   have h8 : (xs.take 8).length ≤ 8 := List.length_take_le _ _
   refine ⟨?_, hlt, vat ad had ?_⟩
   rotate_left
   ·try simp only [go_sem, ↓reduceIte, nQ1, nQ2, nQ3, nQ4, nQ5, nQ6, reduceCtorEq]
    refine ⟨?_, ?_⟩
    all_goals repeat (first | (refine ⟨hlt, vat ad had ?_⟩; try simp only [go_sem, ↓reduceIte, nQ1, nQ2, nQ3, nQ4, nQ5, nQ6, reduceCtorEq]) | (refine vat ad had ?_; try simp only [go_sem, ↓reduceIte, nQ1, nQ2, nQ3, nQ4, nQ5, nQ6, reduceCtorEq]) | (refine vload _ (hle1 _ _ hu1) ?_; simp only [go_sem, ↓reduceIte, nQ1, nQ2, nQ3, nQ4, nQ5, nQ6, reduceCtorEq, e4, e1, e2, e3]))
    all_goals (
     refine ⟨0, min xs.length 8, rfl, by omega, Nat.zero_le _, by omega, ?_⟩
     rw [addr0, Nat.sub_zero, Nat.sub_zero]
     refine vgrow us (fun h0 => by rw [gb_ne h0]; rfl) (fun h0 => by rw [h0, gb_nil]; rfl) (by omega) (by omega) (by omega) (by omega) ?_
     simp only [go_sem, ↓reduceIte, nQ1, nQ2, nQ3, nQ4, nQ5, nQ6, reduceCtorEq, e4, e1, e2, e3]
     refine ⟨_, W.in64 (by omega), (i + 1, us ++ [.slice ia (min xs.length 8) ic]), [0, 1, 2, 5], ?_⟩
     try simp only [go_sem, ↓reduceIte, nQ1, nQ2, nQ3, nQ4, nQ5, nQ6, reduceCtorEq]
     refine ⟨by omega, by norm_cast, by decide, hul, by omega, by omega, fun u hu => ?_⟩
     rcases List.mem_append.1 hu with hu | hu
     ·exact hus u hu
     ·simp only [List.mem_cons, List.not_mem_nil, or_false] at hu; subst hu; exact ⟨_, ⟨hcut, by omega⟩, h8⟩)
   repeat (first | (refine ⟨hlt, vat ad had ?_⟩; try simp only [go_sem, ↓reduceIte, nQ1, nQ2, nQ3, nQ4, nQ5, nQ6, reduceCtorEq]) | (refine vat ad had ?_; try simp only [go_sem, ↓reduceIte, nQ1, nQ2, nQ3, nQ4, nQ5, nQ6, reduceCtorEq]) | (refine vload _ (hle1 _ _ hu1) ?_; simp only [go_sem, ↓reduceIte, nQ1, nQ2, nQ3, nQ4, nQ5, nQ6, reduceCtorEq, e4, e1, e2, e3]))
   refine ⟨0, min xs.length 8, rfl, by omega, Nat.zero_le _, by omega, ?_⟩
   rw [addr0, Nat.sub_zero, Nat.sub_zero]
   refine vgrow us (fun h0 => by rw [gb_ne h0]; rfl) (fun h0 => by rw [h0, gb_nil]; rfl) (by omega) (by omega) (by omega) (by omega) ?_
   simp only [go_sem, ↓reduceIte, nQ1, nQ2, nQ3, nQ4, nQ5, nQ6, reduceCtorEq, e4, e1, e2, e3]
   refine ⟨_, W.in64 (by omega), (i + 1, us ++ [.slice ia (min xs.length 8) ic]), [0, 1, 2, 5], ?_⟩
   try simp only [go_sem, ↓reduceIte, nQ1, nQ2, nQ3, nQ4, nQ5, nQ6, reduceCtorEq]
   refine ⟨by omega, by norm_cast, by decide, hul, by omega, by omega, fun u hu => ?_⟩
   rcases List.mem_append.1 hu with hu | hu
   ·exact hus u hu
   ·simp only [List.mem_cons, List.not_mem_nil, or_false] at hu; subst hu; exact ⟨_, ⟨hcut, by omega⟩, h8⟩
  ·exact ⟨_, _, us, rfl, hle1, by omega, hus, e1, e2, e3⟩
  ·exact ⟨_, _, us, rfl, hle1, by omega, hus, e1, e2, e3⟩
 rintro _ ⟨env, R1, us, rfl, hle1, hul, hus, e1, e2, e3⟩
 simp only [go_sem, ↓reduceIte, nQ1, nQ2, nQ3, nQ4, nQ5, nQ6, reduceCtorEq, e1, e2, e3]
 refine cutL (fun s' => ∃ env R2, ∃ ps : List (Se × Value), s' = ⟨env, [.box [.val (.int .i64 lim), .val (.slice ga gcs.length gcap), .val (.slice sa scs.length scap)], .box [.val (.int .i64 0), .val (.slice none 0 0), .val (.slice none 0 0)], .box [.val (.int .i64 lim), gs 3 us.length, gs 4 ps.length], gb 64 1 us, gb 66 3 (ps.map seCells).flatten], R2⟩ ∧ RO.le R1 R2 ∧ ps.length ≤ 8 ∧ (∀ p ∈ ps, SpV R2 p.2 p.1.cells ∧ p.1.cells.length ≤ 6 ∧ I64 p.1.group) ∧ env 2 = .loc 1 0 ∧ env 3 = .loc 2 0) ?_ ?_
 ·refine vcLoopR (Nat × List (Se × Value)) (fun x => [(5, .val (.int .i64 x.1)), (1, .loc 0 0), (2, .loc 1 0), (3, .loc 2 0)])
   (fun x => [.box [.val (.int .i64 lim), .val (.slice ga gcs.length gcap), .val (.slice sa scs.length scap)], .box [.val (.int .i64 0), .val (.slice none 0 0), .val (.slice none 0 0)], .box [.val (.int .i64 lim), gs 3 us.length, gs 4 x.2.length], gb 64 1 us, gb 66 3 (x.2.map seCells).flatten])
   (fun x R' => x.2.length = x.1 ∧ x.1 ≤ scs.length ∧ x.1 ≤ 8 ∧ ∀ p ∈ x.2, SpV R' p.2 p.1.cells ∧ p.1.cells.length ≤ 6 ∧ I64 p.1.group) (fun x => 8 - x.1) (0, []) [] ?_ ?_ ?_ ?_
  ·(try simp only [go_sem, ↓reduceIte, nQ1, nQ2, nQ3, nQ4, nQ5, nQ6, reduceCtorEq]) <;> (repeat' (first | rfl | trivial | constructor | (intro h; exact absurd rfl h)))
   exact fun h => gb_ne h
  ·try simp only [go_sem, ↓reduceIte, nQ1, nQ2, nQ3, nQ4, nQ5, nQ6, reduceCtorEq]
  ·exact ⟨rfl, Nat.zero_le _, by decide, by simp⟩
  rintro ⟨i, ps⟩ env R2 hle2 hE ⟨hpl, hi, hi8, hps⟩
  simp only at hE hpl hi hi8 hps
  (simp only [go_sem] at hE; obtain ⟨e5, e1', e2', e3'⟩ := hE; simp only [go_sem, ↓reduceIte, nQ1, nQ2, nQ3, nQ4, nQ5, nQ6, reduceCtorEq, e5, e1', e2', e3']; dsimp only at *)
  refine ⟨fun hlt => ⟨fun hlt6 => ?_, fun hge => ?_⟩, fun hge => ?_⟩
  ·have hlt' : i < scs.length := by omega
   obtain ⟨hl1, ad, had, hR⟩ := hsf i hlt'
   obtain ⟨g, k, u, xs, hc, hg64, hu⟩ := hsc _ (List.getElem_mem hlt')
   rw [hc] at hR
   obtain ⟨ia, ic, hue, hic, _⟩ := SlK.form hu
   rw [List.length_map] at hue hic
   subst hue
   have hcut := (SlK.cut hu 6).mono (RO.le_trans hle1 hle2)
   rw [← List.map_take] at hcut
   have h8 : (xs.take 6).length ≤ 6 := List.length_take_le _ _
   refine ⟨hlt, vat ad had ?_⟩
   try simp only [go_sem, ↓reduceIte, nQ1, nQ2, nQ3, nQ4, nQ5, nQ6, reduceCtorEq]
   refine vloadn _ rfl (fun j u hj => hle2 _ _ (hle1 _ _ (hR j u hj))) ?_
   simp only [go_sem, ↓reduceIte, nQ1, nQ2, nQ3, nQ4, nQ5, nQ6, reduceCtorEq, e5, e1', e2', e3']
   refine ⟨0, min xs.length 6, rfl, by omega, Nat.zero_le _, by omega, ?_⟩
   rw [Nat.zero_mul, addr0, Nat.sub_zero, Nat.sub_zero]
   refine vgrow (ps.map seCells).flatten (fun h0 => by rw [gb_ne h0]; rfl) (fun h0 => by rw [h0, gb_nil]; rfl) (hrl ps) (by omega) (by omega) (by omega) ?_
   simp only [go_sem, ↓reduceIte, nQ1, nQ2, nQ3, nQ4, nQ5, nQ6, reduceCtorEq, e5, e1', e2', e3']
   refine ⟨_, W.in64 (by omega), (i + 1, ps ++ [(⟨g, k, xs.take 6⟩, .slice ia (min xs.length 6) ic)]), [0, 1, 2, 3, 7], ?_⟩
   try simp only [go_sem, ↓reduceIte, nQ1, nQ2, nQ3, nQ4, nQ5, nQ6, reduceCtorEq]
   refine ⟨by omega, ⟨by norm_cast, fun h => gb_ne h, fun _ => by rw [List.map_append, List.flatten_append]; rfl⟩, by decide, hpl, by omega, by omega, fun p hp => ?_⟩
   rcases List.mem_append.1 hp with hp | hp
   ·exact hps p hp
   ·simp only [List.mem_cons, List.not_mem_nil, or_false] at hp; subst hp; exact ⟨⟨hcut, by show (xs.take 6).length ≤ _; omega⟩, h8, hg64⟩
  ·exact ⟨_, _, ps, rfl, hle2, by omega, hps, e2', e3'⟩
  ·exact ⟨_, _, ps, rfl, hle2, by omega, hps, e2', e3'⟩
 rintro _ ⟨env, R2, ps, rfl, hle2, hpl, hps, e2, e3⟩
 simp only [go_sem, ↓reduceIte, nQ1, nQ2, nQ3, nQ4, nQ5, nQ6, reduceCtorEq, e2, e3]
 have hus2 : ∀ {R3}, RO.le R2 R3 → ∀ u ∈ us, ∃ xs, IntV R3 u xs ∧ xs.length ≤ 8 := fun h3 u hu => by
  obtain ⟨xs, h1, h2⟩ := hus u hu
  exact ⟨xs, h1.mono (RO.le_trans hle2 h3), h2⟩
 have hps2 : ∀ {R3}, RO.le R2 R3 → ∀ p ∈ ps, SpV R3 p.2 p.1.cells ∧ p.1.cells.length ≤ 6 ∧ I64 p.1.group := fun h3 p hp => ⟨(hps p hp).1.mono h3, (hps p hp).2⟩
 by_cases h1 : us.length = 0
 ·obtain rfl : us = [] := List.eq_nil_of_length_eq_zero h1
  rw [List.length_nil, gs_zero]
  try simp only [go_sem, ↓reduceIte, nQ1, nQ2, nQ3, nQ4, nQ5, nQ6, reduceCtorEq]
  by_cases h2 : ps.length = 0
  ·obtain rfl : ps = [] := List.eq_nil_of_length_eq_zero h2
   rw [List.length_nil, gs_zero]
   simp only [go_sem, ↓reduceIte, nQ1, nQ2, nQ3, nQ4, nQ5, nQ6, reduceCtorEq, e2, e3]
   exact cut_fin (us := []) (ps := []) (EncV.nil _ _ _) (by simp) (EncV.nil _ _ _) (by simp) (by simp)
  ·rw [gs_pos h2, gb_ne (fun e => h2 (by have := hrl ps; rw [e] at this; simp at this; omega))]
   try simp only [go_sem, ↓reduceIte, nQ1, nQ2, nQ3, nQ4, nQ5, nQ6, reduceCtorEq]
   intro b2 cap2 R4 hle4 hrow2 hcap2 hfr2
   simp only [go_sem, ↓reduceIte, nQ1, nQ2, nQ3, nQ4, nQ5, nQ6, reduceCtorEq, e2, e3]
   exact cut_fin (us := []) (EncV.nil _ _ _) (by simp) (RowIn.enc (fun _ => rfl) (by omega) hrow2 hcap2 (by omega)) (hps2 hle4) hpl
 ·rw [gs_pos h1, gb_ne (fun e => h1 (by rw [e]; rfl))]
  try simp only [go_sem, ↓reduceIte, nQ1, nQ2, nQ3, nQ4, nQ5, nQ6, reduceCtorEq]
  intro b1 cap1 R3 hle3 hrow1 hcap1 hfr1
  have hG : EncV (fun x : Value => [x]) 1 R3 (.slice (some ⟨b1, 0, none⟩) us.length cap1) us := RowIn.enc (enc := fun x : Value => [x]) (k := 1) (fun _ => rfl) (by omega) (by rw [flat1V]; exact hrow1) (by rw [flat1V, Nat.mul_one]; exact hcap1) (by omega)
  by_cases h2 : ps.length = 0
  ·obtain rfl : ps = [] := List.eq_nil_of_length_eq_zero h2
   rw [List.length_nil, gs_zero]
   simp only [go_sem, ↓reduceIte, nQ1, nQ2, nQ3, nQ4, nQ5, nQ6, reduceCtorEq, e2, e3]
   exact cut_fin (ps := []) hG (hus2 hle3) (EncV.nil _ _ _) (by simp) (by simp)
  ·rw [gs_pos h2, gb_ne (fun e => h2 (by have := hrl ps; rw [e] at this; simp at this; omega))]
   try simp only [go_sem, ↓reduceIte, nQ1, nQ2, nQ3, nQ4, nQ5, nQ6, reduceCtorEq]
   intro b2 cap2 R4 hle4 hrow2 hcap2 hfr2
   simp only [go_sem, ↓reduceIte, nQ1, nQ2, nQ3, nQ4, nQ5, nQ6, reduceCtorEq, e2, e3]
   exact cut_fin (hG.mono hle4) (hus2 (RO.le_trans hle3 hle4)) (RowIn.enc (fun _ => rfl) (by omega) hrow2 hcap2 (by omega)) (hps2 (RO.le_trans hle3 hle4)) hpl
end Go.Proofs.YtclkibjonbhldaaGreatDoor
namespace Go.Proofs.YtclkibjonbhldaaGreatDoor
set_option linter.unusedSimpArgs false
set_option linter.unusedVariables false
open Go.Proofs.YtclkibjonbhldaaGreatDoor.Vc
noncomputable def kK (b : Bu) (p k : Int) (ok : Bool) : List Sp := if ok = true ∧ personB p = true ∧ grainB k = true then knownD b.spent (grpOf b.groups p) k else []
noncomputable def kE (p k : Int) (ok : Bool) : Int := if ok = true ∧ personB p = true ∧ grainB k = true then 0 else 1
noncomputable def aB (b : Bu) (p q : Int) (ok : Bool) : Bu := if ok = true ∧ personB p = true ∧ personB q = true then aliasB b p q else ⟨0, [], []⟩
noncomputable def aE (p q : Int) (ok : Bool) : Int := if ok = true ∧ personB p = true ∧ personB q = true then 0 else 1
theorem known_nf {R : RO} {r : Value} {b : Bu} {p k : Int} {ok : Bool} (h : KnownV R r b p k ok) : ∃ ka kc, r = .tuple #[.slice ka (kK b p k ok).length kc, .int .i64 (kE p k ok)] ∧ SpV R (.slice ka (kK b p k ok).length kc) (kK b p k ok) := by
 unfold KnownV at h
 unfold kK kE
 split at h
 ·rename_i hc
  obtain ⟨v, rfl, hv⟩ := h
  obtain ⟨ka, kc, rfl, _, _⟩ := EncV.form hv
  rw [if_pos hc, if_pos hc]
  exact ⟨ka, kc, rfl, hv⟩
 ·rename_i hc
  rw [if_neg hc, if_neg hc]
  exact ⟨none, 0, h, EncV.nil _ _ _⟩
theorem bx_of {R : RO} {v : Value} {b : Bu} (h : BuV R v b) : ∃ x : Bx, v = .agg x.cells.toArray ∧ BxV R x ∧ x.b = b := by
 obtain ⟨gv, sv, rfl, hg, hs⟩ := h
 have hg' := hg
 have hs' := hs
 obtain ⟨_, ga, gc, rfl, _, _⟩ := hg.form
 obtain ⟨_, sa, sc, rfl, _, _⟩ := hs.form
 exact ⟨⟨b, ga, gc, sa, sc⟩, rfl, ⟨⟨_, _, rfl, hg', hs'⟩⟩, rfl⟩
theorem zero_bx (R : RO) : ∃ x : Bx, zeroBu = .agg x.cells.toArray ∧ BxV R x ∧ x.b = ⟨0, [], []⟩ := ⟨⟨⟨0, [], []⟩, none, 0, none, 0⟩, rfl, ⟨⟨_, _, rfl, GV.nil _, SpentV.nil _⟩⟩, rfl⟩
theorem alias_nf {R : RO} {r : Value} {b : Bu} {p q : Int} {ok : Bool} (h : AliasV R r b p q ok) : ∃ x : Bx, r = .tuple #[.agg x.cells.toArray, .int .i64 (aE p q ok)] ∧ BxV R x ∧ x.b = aB b p q ok := by
 unfold AliasV at h
 unfold aB aE
 split at h
 ·rename_i hc
  obtain ⟨bv, rfl, hv⟩ := h
  obtain ⟨x, rfl, h1, h2⟩ := bx_of hv
  rw [if_pos hc, if_pos hc]
  exact ⟨x, rfl, h1, h2⟩
 ·rename_i hc
  obtain ⟨x, h1, h2, h3⟩ := zero_bx R
  rw [if_neg hc, if_neg hc]
  exact ⟨x, by rw [h, h1], h2, h3⟩
theorem askr_bx {R : RO} {r : Value} {b : Bu} {q : Qn} (h : AskRV R r b q) (h1 : checkI b q.person q.grain q.w = 0) : ∃ x : Bx, r = .tuple #[.agg x.cells.toArray, .int .i64 (costQ b q.person q.grain q.w), .int .i64 (eQ b q.person q.grain q.w)] ∧ BxV R x ∧ x.b = nQ b q.person q.grain q.w := by
 rcases h with ⟨h, _⟩ | ⟨_, hl, rfl⟩ | ⟨_, hl, bv, rfl, hv⟩
 ·exact absurd h1 h
 ·obtain ⟨x, e1, h2, h3⟩ := zero_bx R
  exact ⟨x, by unfold eQ; rw [if_pos hl, e1], h2, by unfold nQ; rw [if_pos hl]; exact h3⟩
 ·obtain ⟨x, rfl, h2, h3⟩ := bx_of hv
  exact ⟨x, by unfold eQ; rw [if_neg hl], h2, by unfold nQ; rw [if_neg hl]; exact h3⟩
set_option maxHeartbeats 8000000 in
theorem lMatchesB (v : Value) (q : Qn) (other : Int) (R : RO) (hz : SzR R) (h : BuW R v) :
  CallsR Tryz.prog 6 [v, q.val, .int .i64 other] R fun _ r => r = .bool true := by
 have h0 := h
 obtain ⟨lim, gv, sv, gcs, scs, rfl, _⟩ := h0
 have hcut := fun R' hle => lCut (.agg #[.int .i64 lim, gv, sv]) R' (BuW.mono (R' := R') h hle)
 obtain ⟨p, k, ⟨f, t⟩⟩ := q
 simp only [Qn.val]
 refine callsT mix Tryz.func6 comp6 (by simp [Tryz.ntmps6]) ?_; simp only [go_sem, ↓reduceIte, nQ1, nQ2, nQ3, nQ4, nQ5, nQ6, reduceCtorEq, vc6, rs6]
 refine vcall (lSanity R hz) ?_
 rintro R1 r hle1 rfl
 try simp only [go_sem, ↓reduceIte, nQ1, nQ2, nQ3, nQ4, nQ5, nQ6, reduceCtorEq]
 refine vcall (hcut R1 hle1) ?_
 rintro R2 r hle2 ⟨⟨b, ga, gc, sa, sc⟩, rfl, ⟨hV⟩, hraw⟩
 simp only [Bx.cells] at hV hraw ⊢
 try simp only [go_sem, ↓reduceIte, nQ1, nQ2, nQ3, nQ4, nQ5, nQ6, reduceCtorEq]
 have hz2 := hz.mono (RO.le_trans hle1 hle2)
 refine vcall (bKnownP b hraw p k _ R2 hz2 hV) ?_
 intro R3 r hle3 hr
 obtain ⟨ka, kc, rfl, hk1⟩ := known_nf hr
 replace hk1 := hk1.mono newR_le
 clear hr
 try simp only [go_sem, ↓reduceIte, nQ1, nQ2, nQ3, nQ4, nQ5, nQ6, reduceCtorEq]
 have hV3 := hV.mono hle3
 refine vcall (rKnown b hraw p k _ R3 hV3) ?_
 intro R4 r hle4 hr
 obtain ⟨ka2, kc2, rfl, hk2⟩ := known_nf hr
 clear hr
 try simp only [go_sem, ↓reduceIte, nQ1, nQ2, nQ3, nQ4, nQ5, nQ6, reduceCtorEq]
 have hz4 := hz2.mono (RO.le_trans hle3 hle4)
 have hV4 := hV3.mono hle4
 refine vcall (bAlias b hraw p other _ R4 hz4 hV4) ?_
 intro R5 r hle5 hr
 obtain ⟨⟨ab, aga, agc, asa, asc⟩, rfl, ⟨hA⟩, hab⟩ := alias_nf hr
 simp only [Bx.cells] at hA hab ⊢
 replace hA := hA.mono newR_le
 clear hr
 try simp only [go_sem, ↓reduceIte, nQ1, nQ2, nQ3, nQ4, nQ5, nQ6, reduceCtorEq]
 have hV5 := hV4.mono hle5
 refine vcall (rAlias b hraw p other _ R5 hV5) ?_
 intro R6 r hle6 hr
 obtain ⟨⟨rb, rga, rgc, rsa, rsc⟩, rfl, ⟨hB⟩, hrb⟩ := alias_nf hr
 simp only [Bx.cells] at hB hrb ⊢
 clear hr
 obtain rfl : ab = rb := hab.trans hrb.symm
 try simp only [go_sem, ↓reduceIte, nQ1, nQ2, nQ3, nQ4, nQ5, nQ6, reduceCtorEq]
 have hz6 := hz4.mono (RO.le_trans hle5 hle6)
 have hV6 := hV5.mono hle6
 refine vcall (bValid b hraw _ R6 hz6 hV6) ?_
 rintro R7 r hle7 rfl
 try simp only [go_sem, ↓reduceIte, nQ1, nQ2, nQ3, nQ4, nQ5, nQ6, reduceCtorEq]
 have hV7 := hV6.mono hle7
 refine vcall (rValid b hraw _ R7 hV7) ?_
 rintro R8 r hle8 rfl
 simp only [go_sem, ↓reduceIte, nQ1, nQ2, nQ3, nQ4, nQ5, nQ6, reduceCtorEq, bne_self_eq_false]
 have hz8 := hz6.mono (RO.le_trans hle7 hle8)
 have hV8 := hV7.mono hle8
 refine vcall (bGroup b hraw p _ R8 hz8 hV8) ?_
 rintro R9 r hle9 rfl
 try simp only [go_sem, ↓reduceIte, nQ1, nQ2, nQ3, nQ4, nQ5, nQ6, reduceCtorEq]
 have hV9 := hV8.mono hle9
 refine vcall (rGroup b hraw p _ R9 hV9) ?_
 rintro R10 r hle10 rfl
 try simp only [go_sem, ↓reduceIte, nQ1, nQ2, nQ3, nQ4, nQ5, nQ6, reduceCtorEq]
 have hle4x := RO.le_trans hle5 (RO.le_trans hle6 (RO.le_trans hle7 (RO.le_trans hle8 (RO.le_trans hle9 hle10))))
 refine vcall (rSameS _ _ _ _ R10 (hk1.mono (RO.le_trans hle4 hle4x)) (hk2.mono hle4x)) ?_
 rintro R11 r hle11 rfl
 rw [decide_eq_true rfl]
 try simp only [go_sem, ↓reduceIte, nQ1, nQ2, nQ3, nQ4, nQ5, nQ6, reduceCtorEq]
 have hle6x := RO.le_trans hle7 (RO.le_trans hle8 (RO.le_trans hle9 (RO.le_trans hle10 hle11)))
 refine vcall (rSameBu ab ab _ _ R11 (hA.mono (RO.le_trans hle6 hle6x)) (hB.mono hle6x)) ?_
 rintro R12 r hle12 rfl
 rw [sameB_iff.2 rfl]
 try simp only [go_sem, ↓reduceIte, nQ1, nQ2, nQ3, nQ4, nQ5, nQ6, reduceCtorEq]
 have hV12 := hV9.mono (RO.le_trans hle10 (RO.le_trans hle11 hle12))
 have hz12 := hz8.mono (RO.le_trans hle9 (RO.le_trans hle10 (RO.le_trans hle11 hle12)))
 have hCk := fun R' => rCheck b hraw ⟨p, k, ⟨f, t⟩⟩ (.agg #[.int .i64 b.limit, .slice ga b.groups.length gc, .slice sa b.spent.length sc]) R'
 have hCo := fun R' => rCost b hraw ⟨p, k, ⟨f, t⟩⟩ (.agg #[.int .i64 b.limit, .slice ga b.groups.length gc, .slice sa b.spent.length sc]) R'
 have hAs := fun R' => rAsked b hraw ⟨p, k, ⟨f, t⟩⟩ (.agg #[.int .i64 b.limit, .slice ga b.groups.length gc, .slice sa b.spent.length sc]) R'
 have hRa := fun R' => rAsk b hraw ⟨p, k, ⟨f, t⟩⟩ (.agg #[.int .i64 b.limit, .slice ga b.groups.length gc, .slice sa b.spent.length sc]) R'
 simp only [Qn.val] at hCk hCo hAs hRa
 refine vcall (hCk R12 hV12) ?_
 rintro R13 r hle13 rfl
 try simp only [go_sem, ↓reduceIte, nQ1, nQ2, nQ3, nQ4, nQ5, nQ6, reduceCtorEq]
 have hV13 := hV12.mono hle13
 have hz13 := hz12.mono hle13
 refine ⟨fun hg => ?_, fun hg => ?_⟩
 ·refine vcall (hCo R13 hz13 hV13) ?_
  rintro R14 r hle14 rfl
  unfold costV
  rw [if_neg hg]
  try simp only [go_sem, ↓reduceIte, nQ1, nQ2, nQ3, nQ4, nQ5, nQ6, reduceCtorEq]
  have hV14 := hV13.mono hle14
  have hz14 := hz13.mono hle14
  refine vcall (hAs R14 hz14 hV14) ?_
  intro R15 r hle15 hr
  rcases hr with ⟨-, rfl⟩ | ⟨h, -⟩ | ⟨h, -⟩
  rotate_left
  ·exact absurd h hg
  ·exact absurd h hg
  unfold zeroBu
  try simp only [go_sem, ↓reduceIte, nQ1, nQ2, nQ3, nQ4, nQ5, nQ6, reduceCtorEq]
  have hZ : BuV R15 (.agg #[.int .i64 0, .slice none 0 0, .slice none 0 0]) ⟨0, [], []⟩ := ⟨_, _, rfl, GV.nil _, SpentV.nil _⟩
  refine vcall (rSameBu ⟨0, [], []⟩ ⟨0, [], []⟩ _ _ R15 hZ hZ) ?_
  rintro R16 r hle16 rfl
  rw [sameB_iff.2 rfl]
  try simp only [go_sem, ↓reduceIte, nQ1, nQ2, nQ3, nQ4, nQ5, nQ6, reduceCtorEq]
 ·have hok := checkI_zero.1 hg
  have hw := hok.1.2.2.2
  have w1 := hw.pos
  have w2 := hw.lo
  have w3 := hw.hi
  simp only at w1 w2 w3
  refine ⟨_, W.in64 (by omega), ?_⟩
  refine vcall (rSize k R13) ?_
  rintro R14 r hle14 rfl
  have hsz := sizeI_pos k
  try simp only [go_sem, ↓reduceIte, nQ1, nQ2, nQ3, nQ4, nQ5, nQ6, reduceCtorEq]
  refine ⟨by omega, ?_⟩
  have hV14 := hV13.mono hle14
  have hz14 := hz13.mono hle14
  have hq1 : (t - f).tdiv (sizeI k) = (t - f) / sizeI k := Int.tdiv_eq_ediv_of_nonneg (by omega)
  have hq2 : 0 ≤ (t - f) / sizeI k := Int.ediv_nonneg (by omega) (by omega)
  have hq3 := hok.2
  simp only at hq3
  rw [hq1]
  refine ⟨_, W.in64 (by omega), fun _ => ?_⟩
  refine vcall (hCo R14 hz14 hV14) ?_
  rintro R15 r hle15 rfl
  unfold costV
  rw [if_pos hg, hg]
  try simp only [go_sem, ↓reduceIte, nQ1, nQ2, nQ3, nQ4, nQ5, nQ6, reduceCtorEq]
  have hV15 := hV14.mono hle15
  have hz15 := hz14.mono hle15
  refine vcall (hAs R15 hz15 hV15) ?_
  intro R16 r hle16 hr
  obtain ⟨⟨nb, nga, ngc, nsa, nsc⟩, rfl, ⟨hN⟩, hnb⟩ := ask_bx hr hg
  replace hN := hN.mono newR_le
  simp only [Bx.cells] at hN hnb ⊢
  clear hr
  try simp only [go_sem, ↓reduceIte, nQ1, nQ2, nQ3, nQ4, nQ5, nQ6, reduceCtorEq]
  have hV16 := hV15.mono hle16
  refine vcall (hRa R16 hV16) ?_
  intro R17 r hle17 hr
  obtain ⟨⟨mb, mga, mgc, msa, msc⟩, rfl, ⟨hM⟩, hmb⟩ := askr_bx hr hg
  simp only [Bx.cells] at hM hmb ⊢
  clear hr
  obtain rfl : nb = mb := hnb.trans hmb.symm
  try simp only [go_sem, ↓reduceIte, nQ1, nQ2, nQ3, nQ4, nQ5, nQ6, reduceCtorEq]
  refine vcall (rSameBu nb nb _ _ R17 (hN.mono hle17) hM) ?_
  rintro R18 r hle18 rfl
  rw [sameB_iff.2 rfl]
  try simp only [go_sem, ↓reduceIte, nQ1, nQ2, nQ3, nQ4, nQ5, nQ6, reduceCtorEq]
end Go.Proofs.YtclkibjonbhldaaGreatDoor
namespace Go.Proofs.YtclkibjonbhldaaGreatDoor
set_option linter.unusedSimpArgs false
set_option linter.unusedVariables false
open Go.ChangeShapes Go.WideShapes Go.ChangeAt Go.RowKit Go.Joins Go.Proofs.YtclkibjonbhldaaGreatDoor.Vc
theorem Tryz.own : ownKnob Tryz.prog.godebug = none := by kernel_rfl
theorem Tryz.laidOut : laidOutB Tryz.prog = true := by kernel_rfl
section
variable {H : Type} {enc : TypeId × Value → H} {P : Program}
theorem trodAll_stay (hl : laidOutB P = true) {W W' : World} {sp : Nat → Bool} (hb : Ext W W') : ∀ {ts : List TypeId} {vs : List Value} {ds : List (DataW H)} {ps : List MemPlace},
  (∀ t ∈ ts, P.readableRec t = true ∧ t < P.types.size) → DataW.TrodAll enc P W 0 (fun _ => true) true ts vs ds ps → (∀ x ∈ ps, x.block < W.heap.size) → (∀ x ∈ ps, sp x.block = true) → DataW.TrodAll enc P W' 0 sp true ts vs ds ps
 | [], [], [], ps, _, h, _, _ => h
 | t :: ts, v :: vs, d :: ds, ps, ht, ⟨p, q, h1, h2, he⟩, hlt, hsp => by
  subst he
  refine ⟨p, q, WideElems.Trod_stays hl (ht t (by simp)).1 (ht t (by simp)).2 h1 (fun x hx => hb.below.same (hlt x (by simp [hx]))) (fun x hx => hsp x (by simp [hx])), ?_, rfl⟩
  exact trodAll_stay hl hb (fun t h => ht t (by simp [h])) h2 (fun x hx => hlt x (by simp [hx])) (fun x hx => hsp x (by simp [hx]))
theorem trodAll_len {w : World} {base : Nat} {sp : Nat → Bool} {held : Bool} : ∀ {ts : List TypeId} {vs : List Value} {ds : List (DataW H)} {ps : List MemPlace}, DataW.TrodAll enc P w base sp held ts vs ds ps → ds.length = ts.length
 | [], [], [], ps, _ => rfl
 | t :: ts, v :: vs, d :: ds, ps, ⟨p, q, _, h2, _⟩ => by simp [trodAll_len h2]
theorem law_post {f : Func} {s : ChangeSpec} {W W' : World} {args : Array Value} {ds : List (DataW H)} {ps : List MemPlace} {tb : TypeId} (hl : laidOutB P = true) (hvars : s.vars = []) (hfres : f.resultTypes = #[tb]) (hb : P.underlying tb = some .bool)
  (hread : ∀ t ∈ f.params.toList, P.readableRec t = true ∧ t < P.types.size) (hs : s.fn H ds = { results := [.lit (.bool true)], args := ds })
  (hW : DataW.Whole enc P f.params.toList s.vars false W args.toList ds [] ps) (hA : DataW.TrodAll enc P W 0 (fun _ => true) true f.params.toList args.toList ds ps) (hext : Ext W W') : s.post enc P f false true false false W args (.bool true) W' := by
 have hlt : ∀ x ∈ ps, x.block < W.heap.size := fun x hx => hW.lt x hx
 have hds : s.fn H (ds ++ []) = { results := [.lit (.bool true)], args := ds } := by rw [List.append_nil]; exact hs
 have hbool : ∀ (b : Nat) (sp : Nat → Bool) (hd : Bool), DataW.TrodAll enc P W' b sp hd f.resultTypes.toList ((Value.bool true).resultList f.resultTypes.size) [.lit (.bool true)] [] := fun b sp hd => by
  rw [hfres]
  exact trodAll_mk1 ⟨1, by simp [DataW.trod, Value.cells, hb]⟩
 have hargs := fun (sp : Nat → Bool) (hsp : ∀ x ∈ ps, sp x.block = true) => trodAll_stay (enc := enc) hl hext hread hA hlt hsp
 have hnoV : ∀ sp : Nat → Bool, DataW.TrodVars enc P W' sp s.vars ([] : List (DataW H)) [] := fun sp => by rw [hvars]; rfl
 have hfrozen : W'.noneFrozen ps := by
  obtain ⟨_, _, _, _, _, hz, _⟩ := hW
  intro b off hp
  rw [hext.below.frozen (hlt _ hp)]
  exact hz b off hp
 refine ⟨ds, [], ps, [], ps, [], hW, by rw [hds]; exact hbool _ _ _, by rw [hds]; exact hargs (fun b => decide (b < W.heap.size)) (fun x hx => by simpa using hlt x hx), by rw [hds]; exact hnoV _, World.keptBut_mono (fun x hx => ⟨hx, .inr (by simpa using hx)⟩) (hext.below.frame (· ∈ ps)), fun _ => ⟨fun j t r hj hr => ?_, [.lit (.bool true)] ++ ds, [], ps, ⟨ps, [], ?_, hnoV _, by simp, hfrozen, fun e => by cases e⟩, fun p hp _ => by simpa using hp⟩⟩
 ·rw [hfres] at hj hr
  match j with
  | 0 =>
   simp only [List.getElem?_toArray, List.getElem?_cons_zero, Option.some.injEq] at hj
   subst hj
   have : r = .bool true := by simpa [Value.resultList] using hr.symm
   subst this
   simp [Value.okWide, hb, Cell.okWide, Cell.ok]
  | j + 1 => simp at hj
 ·have := trodAll_append (hargs (fun _ => true) (fun _ _ => rfl)) (hbool 0 (fun _ => true) true)
  simpa using this
end
def factsOf (W : World) : RO := fun a v => W.cell? a = some v
section
variable {H : Type} {enc : TypeId × Value → H} {W : World} {base fuel : Nat} {spare : Nat → Bool} {held : Bool}
end
end Go.Proofs.YtclkibjonbhldaaGreatDoor
/- Plain lemmas of our own, no statement of the seat: how a law's row follows from a contract where its row lists the table of sizes; deeds as arguments. -/
namespace Go.Proofs.YtclkibjonbhldaaGreatDoor
set_option linter.unusedSimpArgs false
set_option linter.unusedVariables false
open Go.ChangeShapes Go.WideShapes Go.ChangeAt Go.RowKit Go.Joins Go.Proofs.YtclkibjonbhldaaGreatDoor.Vc
set_option maxRecDepth 100000
/-! ### The table -/
abbrev laidL : List (String × DataW Unit) := [("kalends/budget.sizes", Rows.laid_kalends_budget_sizes)]
theorem gSizes : Tryz.prog.globalNamed "kalends/budget.sizes" = some 0 := by kernel_rfl
theorem gSizesType : (Tryz.prog.globals[0]?).map (·.type) = some 90 := by kernel_rfl
theorem cellsSizes : Tryz.prog.cellsOf 90 = 5 := by kernel_rfl
theorem cellsInt : Tryz.prog.cellsOf 3 = 1 := by kernel_rfl
theorem szR_of {W : World} (h : laidMetH Tryz.prog laidL W) : SzR (factsOf W) := fun i hi => by
 have ht : Lib.TabIs Tryz.prog W "kalends/budget.sizes" .i64 [0, 1440, 30, 30, 1] := Lib.tabIs_of_head (rest := []) gSizes gSizesType Tryz.underlying90 Tryz.underlying3 cellsInt cellsSizes h
 exact ht.cell gSizes i hi
/-! ### The row -/
theorem lawLiftedL {os : Os} (started : os.Started) {H : Type} {enc : TypeId × Value → H} {n : Nat} {fn : Func} {s : ChangeSpec} {tb : TypeId} {F : Stop.Interp} (noInit : Tryz.checked.prog.inits.idxOf? n = none) (hfn : Tryz.checked.prog.funcs[n]? = some fn)
  (hvars : s.vars = []) (hres : fn.resultTypes = #[tb]) (hbool : Tryz.checked.prog.underlying tb = some .bool) (hread : ∀ t ∈ fn.params.toList, Tryz.prog.readableRec t = true ∧ t < Tryz.prog.types.size)
  (hs : ∀ ds : List (DataW H), ds.length = fn.params.toList.length → s.fn H ds = { results := [.lit (.bool true)], args := ds })
  (witness : ∃ (w : World) (tape : Tape) (i : Input), w.os = os ∧ (w.forCall tape i).Shaped Tryz.checked.prog ∧ i.vars = [] ∧ Input.okWide Tryz.checked.prog (w.forCall tape i) .any w.heap.size n i ∧
   (OpenSpec.ofChange s).preRow enc Tryz.checked.prog fn [] false laidL (w.forCall tape i).memory i.args ∧ Assume.holds {} Tryz.checked.prog (lone (Frame.enter Tryz.checked.prog n i.args .normal) [] (w.forCall tape i)))
  (hlaw : ∀ (W : World) (base : Nat) (args : Array Value) (ds : List (DataW H)) (ps : List MemPlace), (∀ (j : Nat) t v, fn.params[j]? = some t → args[j]? = some v → Value.okWide Tryz.prog W .any base t v) →
   DataW.TrodAll enc Tryz.prog W 0 (fun _ => true) true fn.params.toList args.toList ds ps → (DataW.weightsEach Tryz.prog fn.params.toList ds).all (· ≤ reachBytes) = true → SzR (factsOf W) →
   CallsR Tryz.prog n args.toList (factsOf W) fun _ v => v = .bool true) :
  ReturnsInHanded {} Tryz.checked os n .any ((OpenSpec.ofChange s).preRow enc Tryz.prog fn [] false laidL) (((OpenSpec.ofChange s).at F).post enc Tryz.prog fn false true false false) := by
 refine returnsInHanded_of_row (C := Tryz.checked) (s := OpenSpec.ofChange s) Tryz.own started noInit hfn witness ?_
 intro W base args ds gs before hval hW hcnd _ hwt hL _ _
 have hW : DataW.Whole enc Tryz.prog fn.params.toList s.vars false W args.toList ds gs before := hW
 have hW0 := hW
 obtain ⟨p, q, hA, hV, rfl, hfz, hnd⟩ := hW0
 rw [hvars] at hV
 obtain ⟨rfl, rfl⟩ := trodVars_none hV
 have hvt : (OpenSpec.ofChange s).bare.plain.varTypes Tryz.checked.prog = [] := by
  show s.plain.varTypes Tryz.checked.prog = []
  simp [ChangeSpec.plain, DataSpec.varTypes, hvars]
 rw [hvt, List.append_nil, List.append_nil] at hwt
 have hlt : ∀ x ∈ p ++ [], x.block < W.heap.size := fun x hx => hW.lt x hx
 rw [List.append_nil] at hlt
 refine (hlaw W base args ds p hval hA hwt (szR_of hL) W (fun a v h => h)).mono ?_
 rintro e W' ⟨v, R', rfl, -, -, hext, rfl⟩
 rw [List.append_nil] at hW
 exact ⟨_, rfl, law_post Tryz.laidOut hvars hres hbool hread (hs ds (trodAll_len hA)) hW hA hext⟩
noncomputable def laidWorld (os : Os) : World :=
 {World.holding Tryz.prog os ⟨#[], #[], []⟩ with heap := (World.holding Tryz.prog os ⟨#[], #[], []⟩).heap.modify 0 fun
   | .cells _ t frozen => .cells #[.int .i64 0, .int .i64 1440, .int .i64 30, .int .i64 30, .int .i64 1] t frozen
   | o => o }
end Go.Proofs.YtclkibjonbhldaaGreatDoor
/- Plain lemmas of our own, no statement of the seat: numbers, arrays, deeds as a law's arguments. -/
namespace Go.Proofs.YtclkibjonbhldaaGreatDoor
set_option linter.unusedSimpArgs false
set_option linter.unusedVariables false
open Go.ChangeShapes Go.WideShapes Go.ChangeAt Go.RowKit Go.Joins Go.Proofs.YtclkibjonbhldaaGreatDoor.Vc
set_option maxRecDepth 100000
section
variable {P : Program} {t : TypeId} {W : World} {r : Reach} {b0 : Nat} {v : Value}
theorem ok_int (ht : P.underlying t = some (.int .i64)) (h : Cell.okWide P W r b0 t v) : ∃ n, v = .int .i64 n := by
 unfold Cell.okWide Cell.ok at h
 rw [ht] at h
 cases v <;> simp_all
theorem okw_cell {k : IntKind} (ht : P.underlying t = some (.int k)) (h : Value.okWide P W r b0 t v) : Cell.okWide P W r b0 t v := by
 unfold Value.okWide at h
 rw [ht] at h
 exact h
theorem okw_struct {fs : Array Field} {n : Nat} {ts : List TypeId} (ht : P.underlying t = some (.struct fs)) (hC : P.cellsOf t = n) (hT : P.cellTypes P.depth t = some ts) (h : Value.okWide P W r b0 t v) : ∃ cs : List Value, v = .agg cs.toArray ∧ cs.length = n ∧ ∀ i u, cs[i]? = some u → ∃ t, ts[i % ts.length]? = some t ∧ Cell.okWide P W r b0 t u := by
 unfold Value.okWide at h
 rw [ht] at h
 obtain ⟨cs, rfl, hsz, ts', hts, _, hc⟩ := h
 rw [hT] at hts
 cases hts
 rw [hC] at hsz
 exact ⟨cs.toList, rfl, hsz, fun i u hi => hc i u (by simpa using hi)⟩
theorem int_in {v : Value} (hv : Value.okWide Tryz.prog W r b0 3 v) : ∃ n, v = .int .i64 n := ok_int Tryz.underlying3 (okw_cell Tryz.underlying3 hv)
end
section
variable {H : Type} {enc : TypeId × Value → H} {W : World} {base fuel : Nat} {spare : Nat → Bool} {held : Bool}
theorem wf_kind {K : IntKind} {n lo hi : Int} (h : (Lit.int K n).wf = true) (h1 : K.min = lo) (h2 : K.max = hi) : lo ≤ n ∧ n ≤ hi := by
 simp only [Lit.wf, Bool.and_eq_true, decide_eq_true_eq] at h
 omega
end
end Go.Proofs.YtclkibjonbhldaaGreatDoor
namespace Go.Proofs.YtclkibjonbhldaaGreatDoor
set_option linter.unusedSimpArgs false
set_option linter.unusedVariables false
open Go.ChangeShapes Go.WideShapes Go.ChangeAt Go.RowKit Go.Joins Go.Proofs.YtclkibjonbhldaaGreatDoor.Vc
set_option maxRecDepth 100000
section
variable {H : Type} {enc : TypeId × Value → H} {W : World} {base fuel : Nat} {spare : Nat → Bool} {held : Bool}
theorem slice_raw {α : Type} {t e : TypeId} {k : Nat} (mk : List Value → α → Prop) (ht : Tryz.prog.underlying t = some (.slice e)) (hC : Tryz.prog.cellsOf e = k)
  (each : ∀ (fuel : Nat) (cs : List Value) (x : DataW H × List MemPlace), DataW.trod enc Tryz.prog W base spare held fuel e cs = some x → ∃ a : α, mk cs a)
  {cs : List Value} {x : DataW H × List MemPlace} (h : DataW.trod enc Tryz.prog W base spare held fuel t cs = some x) :
  ∃ (v : Value) (css : List (List Value)) (ys : List α), cs = [v] ∧ SlK (factsOf W) v k css ∧ css.length = ys.length ∧ ∀ (i : Nat) (c : List Value) (a : α), css[i]? = some c → ys[i]? = some a → mk c a := by
 rcases Go.Deep.open_slice ht h with ⟨rfl, _⟩ | ⟨a, len, cap, m, n, D, Pl, rfl, -, hl, hm, hmm, rfl, hi⟩
 ·exact ⟨_, [], [], rfl, ⟨none, 0, rfl, Nat.le_refl _, by simp⟩, rfl, by simp⟩
 ·have hlm : len ≤ m := by rw [hmm]; split <;> omega
  rw [hC] at hi
  have ex : ∀ i, i < len → ∃ (c : List Value) (y : α), c.length = k ∧ (∀ j v, c[j]? = some v → W.cell? ((a.add (i * k)).add j) = some v) ∧ mk c y := fun i hil => by
   obtain ⟨cs', hc, htr⟩ := hi i (by omega)
   obtain ⟨_, hcl, hat⟩ := World.cells?_some hc
   obtain ⟨y, hy⟩ := each n cs' _ htr
   exact ⟨cs', y, hcl, fun j v hj => by rw [hat j (by rw [← hcl]; exact (List.getElem?_eq_some_iff.1 hj).1)]; exact hj, hy⟩
  by_cases h0 : len = 0
  ·subst h0
   exact ⟨_, [], [], rfl, ⟨some a, cap, rfl, Nat.zero_le _, by simp⟩, rfl, by simp⟩
  obtain ⟨c0, y0, _⟩ := ex 0 (by omega)
  let fc : Nat → List Value := fun i => if h : i < len then (ex i h).choose else c0
  let fy : Nat → α := fun i => if h : i < len then (ex i h).choose_spec.choose else y0
  have hf : ∀ i, i < len → (fc i).length = k ∧ (∀ j v, (fc i)[j]? = some v → W.cell? ((a.add (i * k)).add j) = some v) ∧ mk (fc i) (fy i) := fun i hil => by
   simp only [fc, fy, hil, dif_pos]
   exact (ex i hil).choose_spec.choose_spec
  refine ⟨_, (List.range len).map fc, (List.range len).map fy, rfl, ⟨some a, cap, by simp, by simpa using hl, fun i us hus => ?_⟩, by simp, fun i c y hc hy => ?_⟩
  ·obtain ⟨i', hi', rfl⟩ := Option.map_eq_some_iff.1 (by rw [← List.getElem?_map]; exact hus)
   obtain ⟨hlt, rfl⟩ := List.getElem?_eq_some_iff.1 hi'
   simp only [List.length_range, List.getElem_range] at hlt ⊢
   exact ⟨(hf i hlt).1, a, rfl, (hf i hlt).2.1⟩
  ·obtain ⟨i', hi', rfl⟩ := Option.map_eq_some_iff.1 (by rw [← List.getElem?_map]; exact hc)
   obtain ⟨i'', hi'', rfl⟩ := Option.map_eq_some_iff.1 (by rw [← List.getElem?_map]; exact hy)
   obtain ⟨hlt, rfl⟩ := List.getElem?_eq_some_iff.1 hi'
   obtain ⟨_, rfl⟩ := List.getElem?_eq_some_iff.1 hi''
   simp only [List.length_range, List.getElem_range] at hlt ⊢
   exact (hf i hlt).2.2
theorem css_eq {α : Type} {f : α → List Value} {css : List (List Value)} {ys : List α} (hl : css.length = ys.length) (h : ∀ (i : Nat) (c : List Value) (a : α), css[i]? = some c → ys[i]? = some a → c = f a) : css = ys.map f := by
 apply List.ext_getElem
 ·rw [List.length_map, hl]
 ·intro i h1 h2
  rw [List.getElem_map]
  exact h i _ _ (List.getElem?_eq_getElem h1) (List.getElem?_eq_getElem (by rw [List.length_map] at h2; exact h2))
theorem css_all {α : Type} {mk : List Value → α → Prop} {css : List (List Value)} {ys : List α} (hl : css.length = ys.length) (h : ∀ (i : Nat) (c : List Value) (a : α), css[i]? = some c → ys[i]? = some a → mk c a) : ∀ c ∈ css, ∃ a, mk c a := fun c hc => by
 obtain ⟨i, hi, rfl⟩ := List.mem_iff_getElem.1 hc
 exact ⟨_, h i _ _ (List.getElem?_eq_getElem hi) (List.getElem?_eq_getElem (by omega))⟩
theorem trod_intsW {cs : List Value} {x : DataW H × List MemPlace} (h : DataW.trod enc Tryz.prog W base spare held fuel 64 cs = some x) : ∃ (v : Value) (xs : List Int), cs = [v] ∧ SlK (factsOf W) v 1 (xs.map fun x => [.int .i64 x]) := by
 obtain ⟨v, css, ys, e, h1, h2, h3⟩ := slice_raw (k := 1) (fun c (z : Int) => c = [.int .i64 z]) Tryz.underlying64 (by kernel_rfl) (fun fuel cs x h => by
  obtain ⟨z, e, -, -⟩ := DataW.trod_int Tryz.underlying3 h
  exact ⟨z, e⟩) h
 rw [css_eq h2 h3] at h1
 exact ⟨v, ys, e, h1⟩
theorem trod_span {cs : List Value} {x : DataW H × List MemPlace} (h : DataW.trod enc Tryz.prog W base spare held fuel 32 cs = some x) : ∃ s : Sp, cs = s.cells := by
 obtain ⟨xs, n, _, _, hl, hlen, hf⟩ := DataW.trod_struct Tryz.underlying32 h
 have hC : Tryz.prog.cellsOf 32 = 2 := by kernel_rfl
 have hC3 : Tryz.prog.cellsOf 3 = 1 := by kernel_rfl
 rw [hC] at hl
 match xs, hlen, cs, hl with
 | [y0, y1], _, [c0, c1], _ =>
  have h0 : DataW.trod enc Tryz.prog W base spare held n 3 (([c0, c1].drop 0).take (Tryz.prog.cellsOf 3)) = [y0, y1][0]? := hf 0 _ rfl
  have h1 : DataW.trod enc Tryz.prog W base spare held n 3 (([c0, c1].drop 1).take (Tryz.prog.cellsOf 3)) = [y0, y1][1]? := hf 1 _ rfl
  simp only [hC3, List.drop_zero, List.drop_succ_cons, List.take_succ_cons, List.take_zero, List.getElem?_cons_zero, List.getElem?_cons_succ] at h0 h1
  obtain ⟨z0, e0, -, -⟩ := DataW.trod_int Tryz.underlying3 h0
  obtain ⟨z1, e1, -, -⟩ := DataW.trod_int Tryz.underlying3 h1
  simp only [List.cons.injEq, and_true] at e0 e1
  subst e0 e1
  exact ⟨⟨z0, z1⟩, rfl⟩
theorem trod_spent {cs : List Value} {x : DataW H × List MemPlace} (h : DataW.trod enc Tryz.prog W base spare held fuel 66 cs = some x) : ∃ g k u, ∃ ss : List Sp, cs = [.int .i64 g, .int .i64 k, u] ∧ I64 g ∧ SlK (factsOf W) u 2 (ss.map Sp.cells) := by
 obtain ⟨xs, n, _, _, hl, hlen, hf⟩ := DataW.trod_struct Tryz.underlying66 h
 have hC : Tryz.prog.cellsOf 66 = 3 := by kernel_rfl
 have hC3 : Tryz.prog.cellsOf 3 = 1 := by kernel_rfl
 have hCl : Tryz.prog.cellsOf 54 = 1 := by kernel_rfl
 rw [hC] at hl
 match xs, hlen, cs, hl with
 | [y0, y1, y2], _, [c0, c1, c2], _ =>
  have h0 : DataW.trod enc Tryz.prog W base spare held n 3 (([c0, c1, c2].drop 0).take (Tryz.prog.cellsOf 3)) = [y0, y1, y2][0]? := hf 0 _ rfl
  have h1 : DataW.trod enc Tryz.prog W base spare held n 3 (([c0, c1, c2].drop 1).take (Tryz.prog.cellsOf 3)) = [y0, y1, y2][1]? := hf 1 _ rfl
  have h2 : DataW.trod enc Tryz.prog W base spare held n 54 (([c0, c1, c2].drop 2).take (Tryz.prog.cellsOf 54)) = [y0, y1, y2][2]? := hf 2 _ rfl
  simp only [hC3, hCl, List.drop_zero, List.drop_succ_cons, List.take_succ_cons, List.take_zero, List.getElem?_cons_zero, List.getElem?_cons_succ] at h0 h1 h2
  obtain ⟨z0, e0, -, w0⟩ := DataW.trod_int Tryz.underlying3 h0
  obtain ⟨z1, e1, -, -⟩ := DataW.trod_int Tryz.underlying3 h1
  obtain ⟨v, css, ys, e2, g1, g2, g3⟩ := slice_raw (k := 2) (fun c (s : Sp) => c = s.cells) Tryz.underlying54 (by kernel_rfl) (fun fuel cs x h => trod_span h) h2
  simp only [List.cons.injEq, and_true] at e0 e1 e2
  subst e0 e1 e2
  rw [css_eq g2 g3] at g1
  exact ⟨z0, z1, _, ys, rfl, wf_kind (lo := -9223372036854775808) (hi := 9223372036854775807) w0 (by decide) (by decide), g1⟩
theorem bu_in {v : Value} {d : DataW H} {p : List MemPlace} {r : Reach} {b0 : Nat} (hv : Value.okWide Tryz.prog W r b0 28 v) (h : DataW.Trod enc Tryz.prog W base spare held 28 v d p) : BuW (factsOf W) v := by
 obtain ⟨fuel, hf⟩ := h
 obtain ⟨cs, rfl, hsz, _⟩ := okw_struct Tryz.underlying28 (n := 3) (ts := [3, 25, 26]) (by kernel_rfl) (by kernel_rfl) hv
 obtain ⟨xs, n, _, _, hl, hlen, hf⟩ := DataW.trod_struct Tryz.underlying28 hf
 have hC3 : Tryz.prog.cellsOf 3 = 1 := by kernel_rfl
 have hCg : Tryz.prog.cellsOf 25 = 1 := by kernel_rfl
 have hCs : Tryz.prog.cellsOf 26 = 1 := by kernel_rfl
 match xs, hlen, cs, hsz with
 | [y0, y1, y2], _, [c0, c1, c2], _ =>
  have h0 : DataW.trod enc Tryz.prog W base spare held n 3 (([c0, c1, c2].drop 0).take (Tryz.prog.cellsOf 3)) = [y0, y1, y2][0]? := hf 0 _ rfl
  have h1 : DataW.trod enc Tryz.prog W base spare held n 25 (([c0, c1, c2].drop 1).take (Tryz.prog.cellsOf 25)) = [y0, y1, y2][1]? := hf 1 _ rfl
  have h2 : DataW.trod enc Tryz.prog W base spare held n 26 (([c0, c1, c2].drop 2).take (Tryz.prog.cellsOf 26)) = [y0, y1, y2][2]? := hf 2 _ rfl
  simp only [hC3, hCg, hCs, List.drop_zero, List.drop_succ_cons, List.take_succ_cons, List.take_zero, List.getElem?_cons_zero, List.getElem?_cons_succ] at h0 h1 h2
  obtain ⟨z0, e0, -, -⟩ := DataW.trod_int Tryz.underlying3 h0
  obtain ⟨gv, gcs, ys, e1, g1, g2, g3⟩ := slice_raw (k := 1) (fun c (a : Value × List Int) => c = [a.1] ∧ SlK (factsOf W) a.1 1 (a.2.map fun x => [.int .i64 x])) Tryz.underlying25 (by kernel_rfl) (fun fuel cs x h => by
   obtain ⟨v, xs, e, h⟩ := trod_intsW h
   exact ⟨(v, xs), e, h⟩) h1
  obtain ⟨sv, scs, ys2, e2, k1, k2, k3⟩ := slice_raw (k := 3) (fun c (a : Int × Int × Value × List Sp) => c = [.int .i64 a.1, .int .i64 a.2.1, a.2.2.1] ∧ I64 a.1 ∧ SlK (factsOf W) a.2.2.1 2 (a.2.2.2.map Sp.cells)) Tryz.underlying26 (by kernel_rfl) (fun fuel cs x h => by
   obtain ⟨g, k, u, ss, e, h1, h2⟩ := trod_spent h
   exact ⟨(g, k, u, ss), e, h1, h2⟩) h2
  simp only [List.cons.injEq, and_true] at e0 e1 e2
  subst e0 e1 e2
  refine ⟨z0, c1, c2, gcs, scs, rfl, ⟨g1, fun c hc => ?_⟩, k1, fun c hc => ?_⟩
  ·obtain ⟨⟨u, xs⟩, e, h⟩ := css_all g2 g3 c hc
   exact ⟨u, xs, e, h⟩
  ·obtain ⟨⟨g, k, u, ss⟩, e, h1, h2⟩ := css_all k2 k3 c hc
   exact ⟨g, k, u, ss, e, h1, h2⟩
theorem qn_in {v : Value} {r : Reach} {b0 : Nat} (hv : Value.okWide Tryz.prog W r b0 34 v) : ∃ q : Qn, v = q.val := by
 obtain ⟨cs, rfl, hsz, hc⟩ := okw_struct Tryz.underlying34 (n := 4) (ts := [3, 3, 3, 3]) (by kernel_rfl) (by kernel_rfl) hv
 match cs, hsz with
 | [c0, c1, c2, c3], _ =>
  obtain ⟨u, hu, k0⟩ := hc 0 c0 rfl
  cases hu
  obtain ⟨u, hu, k1⟩ := hc 1 c1 rfl
  cases hu
  obtain ⟨u, hu, k2⟩ := hc 2 c2 rfl
  cases hu
  obtain ⟨u, hu, k3⟩ := hc 3 c3 rfl
  cases hu
  obtain ⟨n0, rfl⟩ := ok_int Tryz.underlying3 k0
  obtain ⟨n1, rfl⟩ := ok_int Tryz.underlying3 k1
  obtain ⟨n2, rfl⟩ := ok_int Tryz.underlying3 k2
  obtain ⟨n3, rfl⟩ := ok_int Tryz.underlying3 k3
  exact ⟨⟨n0, n1, ⟨n2, n3⟩⟩, rfl⟩
end
end Go.Proofs.YtclkibjonbhldaaGreatDoor
