/- Lemmas of our own, no statement of the seat; the last one of the claim's texts proves the law. -/
import Derived.Shelf.Abstract
import Derived.OpenShut
import Derived.Deep.DeepHandedRow
import Derived.Lib.LaidTab
import Derived.Test.YtdglpgepgmdbdaaGreatDoorByf
import Derived.Test.YtdglpgepgmdbdaaGreatDoorBye
import Derived.Test.YtdglpgepgmdbdaaGreatDoorBya
import Derived.Test.YtdglpgepgmdbdaaGreatDoorCards
import Derived.Test.YtdglpgepgmdbdaaGreatDoorTie
open Nat renaming reduceEqDiff → nQ1, reduceAdd → nQ2, reduceMul → nQ3, reduceLeDiff → nQ4, reduceLT → nQ5, reduceBNe → nQ6
open Int renaming reduceLE → iQ1, reduceLT → iQ2, reduceToNat → iQ3, cast_ofNat_Int → iQ4, reduceEq → iQ5, reduceNe → iQ6
namespace Go.Proofs.YtdglpgepgmdbdaaGreatDoor
set_option linter.unusedSectionVars false
variable [Go.Proofs.YtdglpgepgmdbdaaGreatDoor.Vc.Drew]
set_option linter.unusedSimpArgs false
set_option linter.unusedVariables false
open Go.Proofs.YtdglpgepgmdbdaaGreatDoor.Vc Go.RowKit
theorem tUsesB (f : Nat) (hf : f < 17) (b : Bool) (hb : decide (f = 4 ∨ f = 5 ∨ 13 ≤ f) = b) (R : RO) : CallsR Tryz.prog 61 [.int .i64 16, .int .i64 f] R fun _ r => r = .bool b := hb ▸ tUses f hf R
def zb : List SV := [.val (.bool false), .val (.bool false), .val (.bool false), .val (.bool false), .val (.bool false), .val (.bool false), .val (.bool false), .val (.bool false), .val (.bool false), .val (.bool true), .val (.bool true), .val (.bool false), .val (.bool false), .val (.bool false), .val (.bool false), .val (.bool false), .val (.bool true)]
set_option maxHeartbeats 8000000 in
theorem tValidOthers (y : Value) (R : RO) (hy : Ints R y [0, 2, 0]) : CallsR Tryz.prog 79 [.agg (letC y).toArray] R fun _ r => r = .bool true := by
 have hC := fun R' (hle : RO.le R R') => tValidCells y R' (hy.mono hle)
 have hN := tNoSeries
 obtain ⟨a, c, rfl, _, hf⟩ := hy.form
 simp only [letC, List.length_cons, List.length_nil] at hC ⊢
 refine callsT mix Tryz.func79 comp79 (by simp [Tryz.ntmps79]) ?_; simp only [go_sem, ↓reduceIte, nQ1, nQ2, nQ3, nQ4, nQ5, nQ6, reduceCtorEq, vc79, rs79]
 try simp only [go_sem, ↓reduceIte, nQ1, nQ2, nQ3, nQ4, nQ5, nQ6, reduceCtorEq, iQ1, iQ2, iQ3, iQ4, iQ5, iQ6]
 refine vcall (hN R) ?_
 rintro R1 r hle1 rfl
 try simp only [go_sem, ↓reduceIte, nQ1, nQ2, nQ3, nQ4, nQ5, nQ6, reduceCtorEq, iQ1, iQ2, iQ3, iQ4, iQ5, iQ6]
 refine vcLoop Nat (fun i => [(29, .val (.int .i64 i)), (28, .val (.int .i64 5)), (27, .sl 2 5), (1, .loc 0 0), (3, .loc 1 0)]) (fun _ => [.box ((letC (.slice a 3 c)).map .val), .box zb, .row 129 1 [.int .i64 9, .int .i64 10, .int .i64 14, .int .i64 15, .int .i64 16]]) (fun i _ => i ≤ 5) (fun i => 5 - i) 0 ?_ ?_ ?_ ?_
 ·unfold letC zb
  (try simp only [go_sem, ↓reduceIte, nQ1, nQ2, nQ3, nQ4, nQ5, nQ6, reduceCtorEq]) <;> (repeat' (first | rfl | trivial | constructor | (intro h; exact absurd rfl h)))
  try trivial
 ·exact inScope_mk rfl rfl rfl rfl rfl rfl
 ·exact Nat.zero_le _
 rintro i env R2 hle2 hE hi
 (simp only [go_sem] at hE; obtain ⟨e29, e28, e27, e1, e3⟩ := hE; simp only [go_sem, ↓reduceIte, nQ1, nQ2, nQ3, nQ4, nQ5, nQ6, reduceCtorEq, e29, e28, e27, e1, e3]; dsimp only at *)
 refine ⟨fun hlt => ?_, fun hge => ?_⟩
 ·have : i = 0 ∨ i = 1 ∨ i = 2 ∨ i = 3 ∨ i = 4 := by omega
  rcases this with rfl | rfl | rfl | rfl | rfl
  ·try simp only [go_sem, ↓reduceIte, nQ1, nQ2, nQ3, nQ4, nQ5, nQ6, reduceCtorEq, iQ1, iQ2, iQ3, iQ4, iQ5, iQ6, letC, zb, e29, e28, e27, e1, e3]
   refine vcall (tUsesB 9 (by decide) false rfl R2) ?_
   rintro R3 r hle3 rfl
   try simp only [go_sem, ↓reduceIte, nQ1, nQ2, nQ3, nQ4, nQ5, nQ6, reduceCtorEq, iQ1, iQ2, iQ3, iQ4, iQ5, iQ6, letC, zb, e29, e28, e27, e1, e3]
   refine ⟨_, W.in64 (by decide), 1, by decide, ?_⟩
   repeat' (first | trivial | rfl | decide | apply And.intro)
  ·try simp only [go_sem, ↓reduceIte, nQ1, nQ2, nQ3, nQ4, nQ5, nQ6, reduceCtorEq, iQ1, iQ2, iQ3, iQ4, iQ5, iQ6, letC, zb, e29, e28, e27, e1, e3]
   refine vcall (tUsesB 10 (by decide) false rfl R2) ?_
   rintro R3 r hle3 rfl
   try simp only [go_sem, ↓reduceIte, nQ1, nQ2, nQ3, nQ4, nQ5, nQ6, reduceCtorEq, iQ1, iQ2, iQ3, iQ4, iQ5, iQ6, letC, zb, e29, e28, e27, e1, e3]
   refine ⟨_, W.in64 (by decide), 2, by decide, ?_⟩
   repeat' (first | trivial | rfl | decide | apply And.intro)
  ·try simp only [go_sem, ↓reduceIte, nQ1, nQ2, nQ3, nQ4, nQ5, nQ6, reduceCtorEq, iQ1, iQ2, iQ3, iQ4, iQ5, iQ6, letC, zb, e29, e28, e27, e1, e3]
   refine vcall (tUsesB 14 (by decide) true rfl R2) ?_
   rintro R3 r hle3 rfl
   try simp only [go_sem, ↓reduceIte, nQ1, nQ2, nQ3, nQ4, nQ5, nQ6, reduceCtorEq, iQ1, iQ2, iQ3, iQ4, iQ5, iQ6, letC, zb, e29, e28, e27, e1, e3]
   refine ⟨_, W.in64 (by decide), 3, by decide, ?_⟩
   repeat' (first | trivial | rfl | decide | apply And.intro)
  ·try simp only [go_sem, ↓reduceIte, nQ1, nQ2, nQ3, nQ4, nQ5, nQ6, reduceCtorEq, iQ1, iQ2, iQ3, iQ4, iQ5, iQ6, letC, zb, e29, e28, e27, e1, e3]
   refine vcall (tUsesB 15 (by decide) true rfl R2) ?_
   rintro R3 r hle3 rfl
   try simp only [go_sem, ↓reduceIte, nQ1, nQ2, nQ3, nQ4, nQ5, nQ6, reduceCtorEq, iQ1, iQ2, iQ3, iQ4, iQ5, iQ6, letC, zb, e29, e28, e27, e1, e3]
   refine ⟨_, W.in64 (by decide), 4, by decide, ?_⟩
   repeat' (first | trivial | rfl | decide | apply And.intro)
  ·try simp only [go_sem, ↓reduceIte, nQ1, nQ2, nQ3, nQ4, nQ5, nQ6, reduceCtorEq, iQ1, iQ2, iQ3, iQ4, iQ5, iQ6, letC, zb, e29, e28, e27, e1, e3]
   refine vcall (tUsesB 16 (by decide) true rfl R2) ?_
   rintro R3 r hle3 rfl
   try simp only [go_sem, ↓reduceIte, nQ1, nQ2, nQ3, nQ4, nQ5, nQ6, reduceCtorEq, iQ1, iQ2, iQ3, iQ4, iQ5, iQ6, letC, zb, e29, e28, e27, e1, e3]
   refine ⟨_, W.in64 (by decide), 5, by decide, ?_⟩
   repeat' (first | trivial | rfl | decide | apply And.intro)
 ·try simp only [go_sem, ↓reduceIte, nQ1, nQ2, nQ3, nQ4, nQ5, nQ6, reduceCtorEq, iQ1, iQ2, iQ3, iQ4, iQ5, iQ6, letC, zb, e29, e28, e27, e1, e3]
  refine vcall (hC R2 (RO.le_trans hle1 hle2)) ?_
  rintro R3 r hle3 rfl
  try simp only [go_sem, ↓reduceIte, nQ1, nQ2, nQ3, nQ4, nQ5, nQ6, reduceCtorEq, iQ1, iQ2, iQ3, iQ4, iQ5, iQ6, e29, e28, e27, e1, e3]
set_option maxHeartbeats 8000000 in
theorem tValid (y : Value) (R : RO) (hy : Ints R y [0, 2, 0]) : CallsR Tryz.prog 53 [.agg (letC y).toArray] R fun _ r => r = .int .i64 0 := by
 have hN := fun R' => tValidNumbers y R' (by obtain ⟨a, c, rfl, _⟩ := hy.form; exact ⟨a, c, rfl⟩)
 have hO := fun R' (hle : RO.le R R') => tValidOthers y R' (hy.mono hle)
 have hS := tServer
 have hU := tUsesB 10 (by decide) false rfl
 obtain ⟨a, c, rfl, _, hf⟩ := hy.form
 simp only [letC, List.length_cons, List.length_nil] at hN hO ⊢
 have hb77 : hasBody Tryz.prog 77 = true := by kernel_rfl
 refine callsT mix Tryz.func53 comp53 (by simp [Tryz.ntmps53]) ?_; simp only [go_sem, ↓reduceIte, nQ1, nQ2, nQ3, nQ4, nQ5, nQ6, reduceCtorEq, vc53, rs53]
 try simp only [go_sem, ↓reduceIte, nQ1, nQ2, nQ3, nQ4, nQ5, nQ6, reduceCtorEq, iQ1, iQ2, iQ3, iQ4, iQ5, iQ6, hb77]
 refine vcall (hS 1 (by decide) R) ?_
 rintro R1 r hle1 rfl
 try simp only [go_sem, ↓reduceIte, nQ1, nQ2, nQ3, nQ4, nQ5, nQ6, reduceCtorEq, iQ1, iQ2, iQ3, iQ4, iQ5, iQ6, hb77]
 refine vcall (hS 0 (by decide) R1) ?_
 rintro R2 r hle2 rfl
 try simp only [go_sem, ↓reduceIte, nQ1, nQ2, nQ3, nQ4, nQ5, nQ6, reduceCtorEq, iQ1, iQ2, iQ3, iQ4, iQ5, iQ6, hb77]
 refine vcall (hN R2) ?_
 rintro R3 r hle3 rfl
 try simp only [go_sem, ↓reduceIte, nQ1, nQ2, nQ3, nQ4, nQ5, nQ6, reduceCtorEq, iQ1, iQ2, iQ3, iQ4, iQ5, iQ6, hb77]
 have hle13 : RO.le R R3 := RO.le_trans hle1 (RO.le_trans hle2 hle3)
 refine vcall (hO R3 hle13) ?_
 rintro R4 r hle4 rfl
 try simp only [go_sem, ↓reduceIte, nQ1, nQ2, nQ3, nQ4, nQ5, nQ6, reduceCtorEq, iQ1, iQ2, iQ3, iQ4, iQ5, iQ6, hb77]
 refine vcall (hU R4) ?_
 rintro R5 r hle5 rfl
 try simp only [go_sem, ↓reduceIte, nQ1, nQ2, nQ3, nQ4, nQ5, nQ6, reduceCtorEq, iQ1, iQ2, iQ3, iQ4, iQ5, iQ6, hb77]
end Go.Proofs.YtdglpgepgmdbdaaGreatDoor
namespace Go.Proofs.YtdglpgepgmdbdaaGreatDoor
set_option linter.unusedSectionVars false
variable [Go.Proofs.YtdglpgepgmdbdaaGreatDoor.Vc.Drew]
set_option linter.unusedSimpArgs false
set_option linter.unusedVariables false
open Go.Proofs.YtdglpgepgmdbdaaGreatDoor.Vc Go.RowKit
def wrB (p : Value) (l : List Int) : List Blk := [.box [.val p, .sl 2 l.length], .dead, .row 5 1 (u8s l)]
set_option maxHeartbeats 4000000 in
theorem wNumber (p : Value) (l : List Int) (n : Int) (size : Nat) (hs : 1 ≤ size ∧ size ≤ 8) (hl : l.length ≤ 1000) (R : RO) :
  CallsS Tryz.prog 54 [.loc 0 0, .val (.int .i64 n), .val (.int .i64 size)] [.box [.val p, .sl 1 l.length], .row 5 1 (u8s l)] R fun _ bs _ => ∃ l' : List Int, l'.length = l.length + size ∧ bs = wrB p l' := by
 refine callsTS mix Tryz.func54 comp54 (by simp [Tryz.ntmps54]) rfl rfl ?_; simp only [go_sem, ↓reduceIte, nQ1, nQ2, nQ3, nQ4, nQ5, nQ6, reduceCtorEq, vc54, rs54]
 refine vcLoopR (Nat × List Int × Int) (fun y => [(7, .val (.int .i64 y.1)), (6, .val (.int .i64 size)), (0, .loc 0 0), (1, .val (.int .i64 y.2.2))]) (fun y => if y.1 = 0 then [.box [.val p, .sl 1 l.length], .row 5 1 (u8s l)] else wrB p y.2.1) (fun y _ => y.1 ≤ size ∧ y.2.1.length = l.length + y.1) (fun y => size - y.1) (0, l, n) [0, 1] ?_ ?_ ?_ ?_
 ·rw [if_pos rfl]
  (try simp only [go_sem, ↓reduceIte, nQ1, nQ2, nQ3, nQ4, nQ5, nQ6, reduceCtorEq]) <;> (repeat' (first | rfl | trivial | constructor | (intro h; exact absurd rfl h)))
  try trivial
 ·rw [if_pos rfl]
  exact inScope_mk rfl rfl rfl rfl rfl rfl
 ·exact ⟨Nat.zero_le _, by simp⟩
 rintro ⟨i, us, m⟩ env R1 hle1 hE ⟨hi, hu⟩
 dsimp only at hi hu
 by_cases h0 : i = 0
 ·subst h0
  rw [if_pos rfl]
  (simp only [go_sem] at hE; obtain ⟨e7, e6, e0, e1⟩ := hE; simp only [go_sem, ↓reduceIte, nQ1, nQ2, nQ3, nQ4, nQ5, nQ6, reduceCtorEq, e7, e6, e0, e1]; dsimp only at *)
  have hln : (u8s l).length = l.length * 1 := by rw [u8s_len, Nat.mul_one]
  obtain ⟨r, hr⟩ : ∃ r, W .u8 m r := ⟨_, W.mk _ _⟩
  refine ⟨fun _ => ?_, fun h => absurd (show ((0 : Nat) : Int) < size by omega) h⟩
  try simp only [go_sem, ↓reduceIte, nQ1, nQ2, nQ3, nQ4, nQ5, nQ6, reduceCtorEq, iQ1, iQ2, iQ3, iQ4, iQ5, iQ6, e7, e6, e0, e1]
  refine ⟨r, hr, vappO (u8s l) rfl hln (by omega) ?_⟩
  try simp only [go_sem, ↓reduceIte, nQ1, nQ2, nQ3, nQ4, nQ5, nQ6, reduceCtorEq, iQ1, iQ2, iQ3, iQ4, iQ5, iQ6, e7, e6, e0, e1]
  refine ⟨_, W.in64 (by omega), (0 + 1, l ++ [r], m.fdiv (2 ^ min 8 64)), [0, 1, 3], by dsimp only; omega, ⟨⟨by norm_cast, rfl, rfl⟩, ?_⟩, ?_, by dsimp only; omega, by dsimp only; rw [List.length_append]; simp only [List.length_cons, List.length_nil]; try omega⟩
  ·dsimp only
   rw [if_neg (by omega)]
   refine ⟨?_, ?_, trivial⟩
   ·rw [List.length_append]; rfl
   ·rw [← u8s_app]; rfl
  ·dsimp only
   rw [if_neg (by omega)]
   exact inScope_mk rfl rfl rfl rfl rfl rfl
 ·rw [if_neg h0]
  unfold wrB
  (simp only [go_sem] at hE; obtain ⟨e7, e6, e0, e1⟩ := hE; simp only [go_sem, ↓reduceIte, nQ1, nQ2, nQ3, nQ4, nQ5, nQ6, reduceCtorEq, e7, e6, e0, e1]; dsimp only at *)
  have hln : (u8s us).length = us.length * 1 := by rw [u8s_len, Nat.mul_one]
  obtain ⟨r, hr⟩ : ∃ r, W .u8 m r := ⟨_, W.mk _ _⟩
  refine ⟨fun hlt => ?_, fun hge => ?_⟩
  ·try simp only [go_sem, ↓reduceIte, nQ1, nQ2, nQ3, nQ4, nQ5, nQ6, reduceCtorEq, iQ1, iQ2, iQ3, iQ4, iQ5, iQ6, e7, e6, e0, e1]
   refine ⟨r, hr, vappO (u8s us) rfl hln (by omega) ?_⟩
   try simp only [go_sem, ↓reduceIte, nQ1, nQ2, nQ3, nQ4, nQ5, nQ6, reduceCtorEq, iQ1, iQ2, iQ3, iQ4, iQ5, iQ6, e7, e6, e0, e1]
   refine ⟨_, W.in64 (by omega), (i + 1, us ++ [r], m.fdiv (2 ^ min 8 64)), [0, 1, 4], by dsimp only; omega, ⟨⟨by norm_cast, rfl, rfl⟩, ?_⟩, ?_, by dsimp only; omega, by dsimp only; rw [List.length_append]; simp only [List.length_cons, List.length_nil]; try omega⟩
   ·dsimp only
    rw [if_neg (by omega)]
    refine ⟨?_, ?_, trivial⟩
    ·rw [List.length_append]; rfl
    ·rw [← u8s_app]; rfl
   ·dsimp only
    rw [if_neg (by omega)]
    exact inScope_mk rfl rfl rfl rfl rfl rfl
  ·have his : i = size := by omega
   exact ⟨us, by omega, rfl, rfl, rfl⟩
set_option maxHeartbeats 4000000 in
theorem wNumber0 (p : Value) (n : Int) (size : Nat) (hs : 1 ≤ size ∧ size ≤ 8) (R : RO) :
  CallsS Tryz.prog 54 [.loc 0 0, .val (.int .i64 n), .val (.int .i64 size)] [.box [.val p, .val (.slice none 0 0)]] R fun _ bs _ => ∃ l' : List Int, l'.length = size ∧ bs = [.box [.val p, .sl 1 l'.length], .row 5 1 (u8s l')] := by
 refine callsTS mix Tryz.func54 comp54 (by simp [Tryz.ntmps54]) rfl rfl ?_; simp only [go_sem, ↓reduceIte, nQ1, nQ2, nQ3, nQ4, nQ5, nQ6, reduceCtorEq, vc54, rs54]
 refine vcLoopR (Nat × List Int × Int) (fun y => [(7, .val (.int .i64 y.1)), (6, .val (.int .i64 size)), (0, .loc 0 0), (1, .val (.int .i64 y.2.2))]) (fun y => if y.1 = 0 then [.box [.val p, .val (.slice none 0 0)]] else [.box [.val p, .sl 1 y.2.1.length], .row 5 1 (u8s y.2.1)]) (fun y _ => y.1 ≤ size ∧ y.2.1.length = y.1) (fun y => size - y.1) (0, [], n) [0] ?_ ?_ ?_ ?_
 ·rw [if_pos rfl]
  (try simp only [go_sem, ↓reduceIte, nQ1, nQ2, nQ3, nQ4, nQ5, nQ6, reduceCtorEq]) <;> (repeat' (first | rfl | trivial | constructor | (intro h; exact absurd rfl h)))
  try trivial
 ·rw [if_pos rfl]
  exact inScope_mk rfl rfl rfl rfl rfl rfl
 ·exact ⟨Nat.zero_le _, rfl⟩
 rintro ⟨i, us, m⟩ env R1 hle1 hE ⟨hi, hu⟩
 dsimp only at hi hu
 by_cases h0 : i = 0
 ·subst h0
  rw [if_pos rfl]
  (simp only [go_sem] at hE; obtain ⟨e7, e6, e0, e1⟩ := hE; simp only [go_sem, ↓reduceIte, nQ1, nQ2, nQ3, nQ4, nQ5, nQ6, reduceCtorEq, e7, e6, e0, e1]; dsimp only at *)
  obtain ⟨r, hr⟩ : ∃ r, W .u8 m r := ⟨_, W.mk _ _⟩
  refine ⟨fun _ => ?_, fun h => absurd (show ((0 : Nat) : Int) < size by omega) h⟩
  try simp only [go_sem, ↓reduceIte, nQ1, nQ2, nQ3, nQ4, nQ5, nQ6, reduceCtorEq, iQ1, iQ2, iQ3, iQ4, iQ5, iQ6, e7, e6, e0, e1]
  refine ⟨r, hr, ?_⟩
  try simp only [go_sem, ↓reduceIte, nQ1, nQ2, nQ3, nQ4, nQ5, nQ6, reduceCtorEq, iQ1, iQ2, iQ3, iQ4, iQ5, iQ6, e7, e6, e0, e1]
  refine ⟨_, W.in64 (by omega), (1, [r], m.fdiv (2 ^ min 8 64)), [0, 2], by dsimp only; omega, ⟨⟨rfl, rfl, rfl⟩, ?_⟩, ?_, by dsimp only; omega, rfl⟩
  ·dsimp only
   rw [if_neg (by omega)]
   exact ⟨rfl, rfl, trivial⟩
  ·dsimp only
   rw [if_neg (by omega)]
   exact inScope_mk rfl rfl rfl rfl rfl rfl
 ·rw [if_neg h0]
  (simp only [go_sem] at hE; obtain ⟨e7, e6, e0, e1⟩ := hE; simp only [go_sem, ↓reduceIte, nQ1, nQ2, nQ3, nQ4, nQ5, nQ6, reduceCtorEq, e7, e6, e0, e1]; dsimp only at *)
  have hln : (u8s us).length = us.length * 1 := by rw [u8s_len, Nat.mul_one]
  obtain ⟨r, hr⟩ : ∃ r, W .u8 m r := ⟨_, W.mk _ _⟩
  refine ⟨fun hlt => ?_, fun hge => ?_⟩
  ·try simp only [go_sem, ↓reduceIte, nQ1, nQ2, nQ3, nQ4, nQ5, nQ6, reduceCtorEq, iQ1, iQ2, iQ3, iQ4, iQ5, iQ6, e7, e6, e0, e1]
   refine ⟨r, hr, vappO (u8s us) rfl hln (by omega) ?_⟩
   try simp only [go_sem, ↓reduceIte, nQ1, nQ2, nQ3, nQ4, nQ5, nQ6, reduceCtorEq, iQ1, iQ2, iQ3, iQ4, iQ5, iQ6, e7, e6, e0, e1]
   refine ⟨_, W.in64 (by omega), (i + 1, us ++ [r], m.fdiv (2 ^ min 8 64)), [0, 3], by dsimp only; omega, ⟨⟨by norm_cast, rfl, rfl⟩, ?_⟩, ?_, by dsimp only; omega, by dsimp only; rw [List.length_append]; simp only [List.length_cons, List.length_nil]; try omega⟩
   ·dsimp only
    rw [if_neg (by omega)]
    refine ⟨?_, ?_, trivial⟩
    ·rw [List.length_append]; rfl
    ·rw [← u8s_app]; rfl
   ·dsimp only
    rw [if_neg (by omega)]
    exact inScope_mk rfl rfl rfl rfl rfl rfl
  ·have his : i = size := by omega
   exact ⟨us, by omega, rfl, rfl⟩
set_option maxHeartbeats 4000000 in
theorem wWindow (b : Nat) (y : Value) (l : List Int) (hl : l.length ≤ 900) (R : RO) (h : RowIn R b (letC y)) :
  CallsS Tryz.prog 57 [.loc 0 0] [.box [.val (.pointer (some ⟨b, 0, none⟩)), .sl 1 l.length], .row 5 1 (u8s l)] R fun _ bs _ => ∃ l' : List Int, l'.length = l.length + 16 ∧ bs = [.box [.val (.pointer (some ⟨b, 0, none⟩)), .sl 3 l'.length], .dead, .dead, .row 5 1 (u8s l')] := by
 have h27 : R ⟨b, 27, none⟩ (.int .i64 0) := h 27 _ rfl
 have h28 : R ⟨b, 28, none⟩ (.int .i64 90) := h 28 _ rfl
 refine callsTS mix Tryz.func57 comp57 (by simp [Tryz.ntmps57]) rfl rfl ?_; simp only [go_sem, ↓reduceIte, nQ1, nQ2, nQ3, nQ4, nQ5, nQ6, reduceCtorEq, vc57, rs57]
 refine vload _ h27 ?_
 try simp only [go_sem, ↓reduceIte, nQ1, nQ2, nQ3, nQ4, nQ5, nQ6, reduceCtorEq, iQ1, iQ2, iQ3, iQ4, iQ5, iQ6]
 refine vhand [0, 1] [.loc 0 0, .val (.int .i64 0), .val (.int .i64 ((8 : Nat) : Int))] [.box [.val (.pointer (some ⟨b, 0, none⟩)), .sl 1 l.length], .row 5 1 (u8s l)] (wNumber (.pointer (some ⟨b, 0, none⟩)) l 0 8 (by decide) (by omega) R) rfl rfl rfl ⟨rfl, rfl, trivial⟩ (by simp) rfl rfl ?_
 rintro R1 bs r hle1 ⟨l1, hl1, rfl⟩ _
 unfold wrB
 simp only [go_sem, ↓reduceIte, nQ1, nQ2, nQ3, nQ4, nQ5, nQ6, reduceCtorEq, setG, renB, ren, renC, Vc.rn, List.range', Nat.reduceSub]
 refine vload _ (hle1 _ _ h28) ?_
 try simp only [go_sem, ↓reduceIte, nQ1, nQ2, nQ3, nQ4, nQ5, nQ6, reduceCtorEq, iQ1, iQ2, iQ3, iQ4, iQ5, iQ6]
 refine vhand [0, 2] [.loc 0 0, .val (.int .i64 90), .val (.int .i64 ((8 : Nat) : Int))] [.box [.val (.pointer (some ⟨b, 0, none⟩)), .sl 1 l1.length], .row 5 1 (u8s l1)] (wNumber (.pointer (some ⟨b, 0, none⟩)) l1 90 8 (by decide) (by omega) R1) rfl rfl rfl ⟨rfl, rfl, trivial⟩ (by simp) rfl rfl ?_
 rintro R2 bs r hle2 ⟨l2, hl2, rfl⟩ _
 unfold wrB
 simp only [go_sem, ↓reduceIte, nQ1, nQ2, nQ3, nQ4, nQ5, nQ6, reduceCtorEq, setG, renB, renC, Vc.rn, List.range', Nat.reduceSub]
 exact ⟨l2, by omega, rfl, rfl, rfl, rfl⟩
set_option maxHeartbeats 4000000 in
theorem wRef (b : Nat) (y : Value) (l : List Int) (hl : l.length ≤ 900) (R : RO) (h : RowIn R b (letC y)) :
  CallsS Tryz.prog 59 [.loc 0 0] [.box [.val (.pointer (some ⟨b, 0, none⟩)), .sl 1 l.length], .row 5 1 (u8s l)] R fun _ bs _ => ∃ l' : List Int, l'.length = l.length + 32 ∧ bs = wrB (.pointer (some ⟨b, 0, none⟩)) l' := by
 have hf : ∀ i v, (u8s z32)[i]? = some v → R ⟨b, 30 + i, none⟩ v := fun i v hv => h (30 + i) v (by
  have e : letC y = (letC y).take 30 ++ u8s z32 := rfl
  rw [e, List.getElem?_append_right (show 30 ≤ 30 + i by omega)]
  show (u8s z32)[30 + i - 30]? = some v
  rw [Nat.add_sub_cancel_left]
  exact hv)
 refine callsTS mix Tryz.func59 comp59 (by simp [Tryz.ntmps59]) rfl rfl ?_; simp only [go_sem, ↓reduceIte, nQ1, nQ2, nQ3, nQ4, nQ5, nQ6, reduceCtorEq, vc59, rs59]
 have hln : (u8s l).length = l.length * 1 := by rw [u8s_len, Nat.mul_one]
 refine vsrc (u8s z32) rfl u8s_one (fun _ => ⟨_, rfl, fun i v hv => by have := hf i v hv; simpa [Addr.add_lit] using this⟩) ?_
 try simp only [go_sem, ↓reduceIte, nQ1, nQ2, nQ3, nQ4, nQ5, nQ6, reduceCtorEq, iQ1, iQ2, iQ3, iQ4, iQ5, iQ6]
 refine vappO (u8s l) rfl hln (by omega) ?_
 try simp only [go_sem, ↓reduceIte, nQ1, nQ2, nQ3, nQ4, nQ5, nQ6, reduceCtorEq, iQ1, iQ2, iQ3, iQ4, iQ5, iQ6]
 refine ⟨l ++ z32, by rw [List.length_append]; rfl, ?_⟩
 unfold wrB
 rw [← u8s_app, List.length_append]
 rfl
set_option maxHeartbeats 4000000 in
theorem wCells (b : Nat) (y : Value) (l : List Int) (hl : l.length ≤ 900) (R : RO) (h : RowIn R b (letC y)) (hy : Ints R y [0, 2, 0]) :
  CallsS Tryz.prog 58 [.loc 0 0] [.box [.val (.pointer (some ⟨b, 0, none⟩)), .sl 1 l.length], .row 5 1 (u8s l)] R fun _ bs _ => ∃ l' : List Int, l'.length = l.length + 7 ∧ bs = wrB (.pointer (some ⟨b, 0, none⟩)) l' := by
 obtain ⟨a, c, rfl, _, hf⟩ := hy.form
 have h29 : R ⟨b, 29, none⟩ (.slice a 3 c) := h 29 _ rfl
 refine callsTS mix Tryz.func58 comp58 (by simp [Tryz.ntmps58]) rfl rfl ?_; simp only [go_sem, ↓reduceIte, nQ1, nQ2, nQ3, nQ4, nQ5, nQ6, reduceCtorEq, vc58, rs58]
 refine vload _ h29 ?_
 try simp only [go_sem, ↓reduceIte, nQ1, nQ2, nQ3, nQ4, nQ5, nQ6, reduceCtorEq, iQ1, iQ2, iQ3, iQ4, iQ5, iQ6]
 refine vhand [0, 1] [.loc 0 0, .val (.int .i64 3), .val (.int .i64 ((4 : Nat) : Int))] [.box [.val (.pointer (some ⟨b, 0, none⟩)), .sl 1 l.length], .row 5 1 (u8s l)] (wNumber (.pointer (some ⟨b, 0, none⟩)) l 3 4 (by decide) (by omega) R) rfl rfl rfl ⟨rfl, rfl, trivial⟩ (by simp) rfl rfl ?_
 rintro R1 bs r hle1 ⟨l1, hl1, rfl⟩ _
 unfold wrB
 simp only [go_sem, ↓reduceIte, nQ1, nQ2, nQ3, nQ4, nQ5, nQ6, reduceCtorEq, setG, renB, renC, Vc.rn, List.range', Nat.reduceSub]
 refine vload _ (hle1 _ _ h29) ?_
 try simp only [go_sem, ↓reduceIte, nQ1, nQ2, nQ3, nQ4, nQ5, nQ6, reduceCtorEq, iQ1, iQ2, iQ3, iQ4, iQ5, iQ6]
 refine vcLoopR (Nat × List Int) (fun x => [(22, .val (.int .i64 x.1)), (20, .val (.slice a 3 c)), (21, .val (.int .i64 3)), (0, .loc 0 0)]) (fun x => [.box [.val (.pointer (some ⟨b, 0, none⟩)), .sl 2 x.2.length], .dead, .row 5 1 (u8s x.2)]) (fun x _ => x.1 ≤ 3 ∧ x.2.length = l.length + 4 + x.1) (fun x => 3 - x.1) (0, l1) [0, 1, 2] ?_ ?_ ?_ ?_
 ·(try simp only [go_sem, ↓reduceIte, nQ1, nQ2, nQ3, nQ4, nQ5, nQ6, reduceCtorEq]) <;> (repeat' (first | rfl | trivial | constructor | (intro h; exact absurd rfl h)))
  try trivial
 ·exact inScope_mk rfl rfl rfl rfl rfl rfl
 ·exact ⟨Nat.zero_le _, by dsimp only; omega⟩
 rintro ⟨i, us⟩ env R2 hle2 hE ⟨hi, hu⟩
 dsimp only at hi hu
 (simp only [go_sem] at hE; obtain ⟨e22, e20, e21, e0⟩ := hE; simp only [go_sem, ↓reduceIte, nQ1, nQ2, nQ3, nQ4, nQ5, nQ6, reduceCtorEq, e22, e20, e21, e0]; dsimp only at *)
 refine ⟨fun hlt => ?_, fun hge => ?_⟩
 ·have hi3 : i < [(0 : Int), 2, 0].length := by show i < 3; omega
  obtain ⟨ad, had, hR⟩ := hf i hi3
  refine ⟨by omega, vat ad had ?_⟩
  try simp only [go_sem, ↓reduceIte, nQ1, nQ2, nQ3, nQ4, nQ5, nQ6, reduceCtorEq]
  refine vload _ (hle2 _ _ (hle1 _ _ hR)) ?_
  try simp only [go_sem, ↓reduceIte, nQ1, nQ2, nQ3, nQ4, nQ5, nQ6, reduceCtorEq, iQ1, iQ2, iQ3, iQ4, iQ5, iQ6, e22, e20, e21, e0]
  refine vhand [0, 2] [.loc 0 0, .val (.int .i64 [(0 : Int), 2, 0][i]), .val (.int .i64 ((1 : Nat) : Int))] [.box [.val (.pointer (some ⟨b, 0, none⟩)), .sl 1 us.length], .row 5 1 (u8s us)] (wNumber (.pointer (some ⟨b, 0, none⟩)) us [(0 : Int), 2, 0][i] 1 (by decide) (by omega) R2) rfl rfl rfl ⟨rfl, rfl, trivial⟩ (by simp) rfl rfl ?_
  rintro R3 bs r hle3 ⟨l3, hl3, rfl⟩ _
  unfold wrB
  try simp only [go_sem, ↓reduceIte, nQ1, nQ2, nQ3, nQ4, nQ5, nQ6, reduceCtorEq, iQ1, iQ2, iQ3, iQ4, iQ5, iQ6, setG, renB, renC, Vc.rn, List.range', Nat.reduceSub, e22, e20, e21, e0]
  refine ⟨_, W.in64 (by omega), (i + 1, l3), [0, 1, 3], by dsimp only; omega, ⟨⟨by norm_cast, rfl⟩, rfl, rfl⟩, inScope_mk rfl rfl rfl rfl rfl rfl, by dsimp only; omega, by dsimp only; omega⟩
 ·exact ⟨us, by omega, rfl, rfl, rfl⟩
end Go.Proofs.YtdglpgepgmdbdaaGreatDoor
namespace Go.Proofs.YtdglpgepgmdbdaaGreatDoor
set_option linter.unusedSectionVars false
variable [Go.Proofs.YtdglpgepgmdbdaaGreatDoor.Vc.Drew]
set_option linter.unusedSimpArgs false
set_option linter.unusedVariables false
open Go.Proofs.YtdglpgepgmdbdaaGreatDoor.Vc Go.RowKit
section
variable {P : Program} {X : Ctx} {s : St} {fr : Option Nat} {n : Nat} {ds : List Deferred} {c : Code} {Q : Exit → Act → World → Prop}
theorem sem_sharpen (hX : X.keep = []) (hns : s.blk.all Blk.noShr = true) (h : ∀ X' : Ctx, X'.n = X.n → X'.keep = [] → X'.ng = s.blk.length → (∀ β κ s' tm w, Rel X' β κ s' tm w → Rel X β κ s' tm w) → SemI P fr n X' ds c s Q) : SemI P fr n X ds c s Q := fun β κ tm w hr =>
 h (Sharp X β κ s w) rfl rfl rfl (fun _ _ _ _ _ h1 => hr.back hX h1) β κ tm w (hr.sharp hns)
theorem sem_pin (t j off : Nat) (hj : j < X.ng) (he : s.env t = .loc j off) (h : SemI P fr n X ds c ⟨upd s.env t (.val (.pointer (some ⟨X.β0 j, off, none⟩))), s.blk, s.R⟩ Q) : SemI P fr n X ds c s Q := fun β κ tm w hr => by
 refine h β κ tm w { hr with
  env := fun t' => ?_
  ok := fun t' => ?_
  shr := fun j b cap T sz cs hj => { hr.shr j b cap T sz cs hj with }
  own := fun j F hj => { hr.own j F hj with } }
 ·rw [hr.env t']
  show den β κ (s.env t') = den β κ (upd s.env t _ t')
  unfold upd
  split
  ·rename_i e
   rw [e, he]
   simp only [den, (hr.pos j hj).1]
  ·rfl
 ·show SV.ok s.blk.length (upd s.env t _ t') = true
  unfold upd
  split
  ·rfl
  ·exact hr.ok t'
theorem sem_unpin (t j off : Nat) (hj : j < X.ng) (he : s.env t = .val (.pointer (some ⟨X.β0 j, off, none⟩))) (h : SemI P fr n X ds c ⟨upd s.env t (.loc j off), s.blk, s.R⟩ Q) : SemI P fr n X ds c s Q := fun β κ tm w hr => by
 have hlt : j < s.blk.length := Nat.lt_of_lt_of_le hj hr.len
 refine h β κ tm w { hr with
  env := fun t' => ?_
  ok := fun t' => ?_
  shr := fun j b cap T sz cs hj => { hr.shr j b cap T sz cs hj with }
  own := fun j F hj => { hr.own j F hj with } }
 ·rw [hr.env t']
  show den β κ (s.env t') = den β κ (upd s.env t _ t')
  unfold upd
  split
  ·rename_i e
   rw [e, he]
   simp only [den, (hr.pos j hj).1]
  ·rfl
 ·show SV.ok s.blk.length (upd s.env t _ t') = true
  unfold upd
  split
  ·simpa [SV.ok] using hlt
  ·exact hr.ok t'
theorem sem_bm {N : Nat} (hN : X.n = N) {id : Nat} {ops : Array Oper} (pl1 : List Nat) (i : Nat) (hsp : List.range ops.size = pl1 ++ [i]) (hd : ops.all noDefer = true) {l1 : List VStep} (hc1 : compSteps P true N ops pl1 = some l1)
  {t d : Nat} (hop : ∃ at' ty pos after, ops[i]? = some ⟨some d, .call ⟨.value (.tmp t), #[], at'⟩, ty, pos, after, none⟩) (hdn : d < N)
  (h : StepsT ⟨P, X.ng⟩ l1 s (fun s' => ∃ f j, s'.env t = .val (.func (.func f) #[.pointer (some ⟨X.β0 j, 0, none⟩)] #[]) ∧ j < X.ng ∧ hasBody P f = true ∧ Hand P f [.loc j 0] s' (fun v s'' => SemN X ds (s''.put (some d) v) Q)) .mk) : SemI P fr n X ds (.region id ops false) s Q := by
 subst hN
 intro β κ tm w hr
 refine wpIn_region ?_
 rw [hsp]
 refine steps_pre rfl hd (fun β κ s' tm w hr hk => ?_) _ _ hc1 β κ s tm w hr h
 obtain ⟨f, j, he, hj, hb, hh⟩ := hk
 obtain ⟨at', ty, pos, after, ho⟩ := hop
 have ev : (⟨tm, ds⟩ : Act).eval (.tmp t) = .func (.func f) #[.pointer (some ⟨X.β0 j, 0, none⟩)] #[] := (hr.eval ds (.tmp t)).trans (by show den β κ (s'.env t) = _; rw [he]; rfl)
 rw [wpOpsIn_cons]
 unfold wpOpIn
 simp only [ho]
 rw [if_pos (by simp [Region.wanted])]
 refine op_inF rfl ?_
 unfold Oper.wp
 rw [enter_run (P := P) hb (⟨tm, ds⟩ : Act).eval (.tmp t) #[] at' #[.pointer (some ⟨X.β0 j, 0, none⟩)] #[] ev (some d) ty pos after none w, Oper.upon_enter]
 have hargs : (#[Value.pointer (some ⟨X.β0 j, 0, none⟩)] ++ (#[] : Array Operand).map (⟨tm, ds⟩ : Act).eval ++ #[] : Array Value) = (([.loc j 0] : List SV).map (den β κ)).toArray := by
  simp [den, (hr.pos j hj).1]
 rw [hargs]
 refine (hand_sound hr hh).mono ?_
 rintro e w' ⟨β', κ', r, s'', rfl, hok, h', hk'⟩
 exact hk' β' κ' _ w' (h'.put (some d) (fun t e => by cases e; exact hdn) r hok)
end
end Go.Proofs.YtdglpgepgmdbdaaGreatDoor
namespace Go.Proofs.YtdglpgepgmdbdaaGreatDoor
set_option linter.unusedSectionVars false
variable [Go.Proofs.YtdglpgepgmdbdaaGreatDoor.Vc.Drew]
set_option linter.unusedSimpArgs false
set_option linter.unusedVariables false
open Go.Proofs.YtdglpgepgmdbdaaGreatDoor.Vc Go.RowKit
noncomputable def b30 : Code := Tryz.f30.body.getD .skip
noncomputable def b30Y : Code := cL (cR (cR (cR (cR (cR b30)))))
noncomputable def b30L : Code := cL (cL (cR b30Y))
noncomputable def b30I : Code := cL (cL (cR (cR b30L)))
noncomputable def b30D : Code := cL (cR b30I)
noncomputable def b30G : Code := cR (cR b30D)
def v30Y : VCode := vL (vR (vR (vR (vR (vR vc30)))))
def v30L : VCode := vL (vL (vR v30Y))
def v30I : VCode := vL (vL (vR (vR v30L)))
def v30D : VCode := vL (vR v30I)
def v30G : VCode := vR (vR v30D)
theorem b30_0 : comp Tryz.prog 73 (cL b30) = some (vL vc30) := by kernel_rfl
theorem b30_1 : comp Tryz.prog 73 (cL (cR b30)) = some (vL (vR vc30)) := by kernel_rfl
theorem b30_2 : comp Tryz.prog 73 (cL (cR (cR b30))) = some (vL (vR (vR vc30))) := by kernel_rfl
theorem b30_3 : comp Tryz.prog 73 (cL (cR (cR (cR b30)))) = some (vL (vR (vR (vR vc30)))) := by kernel_rfl
theorem b30_4 : comp Tryz.prog 73 (cL (cR (cR (cR (cR b30))))) = some (vL (vR (vR (vR (vR vc30))))) := by kernel_rfl
theorem b30_5 : comp Tryz.prog 73 (cL b30Y) = some (vL v30Y) := by kernel_rfl
theorem b30_6 : comp Tryz.prog 73 (cR (cR (cR (cR (cR (cR b30)))))) = some (vR (vR (vR (vR (vR (vR vc30)))))) := by kernel_rfl
theorem b30_e5 : cR (cR (cR (cR (cR b30)))) = .seq b30Y (cR (cR (cR (cR (cR (cR b30)))))) := by kernel_rfl
theorem b30_eY : b30Y = .seq (cL b30Y) (.block 2 (.loop b30L)) := by kernel_rfl
theorem b30_eL : b30L = .seq (cL b30L) (.seq (cL (cR b30L)) (.seq (.block 3 b30I) (cR (cR (cR b30L))))) := by kernel_rfl
theorem b30_eI : b30I = .seq (cL b30I) (.block 4 b30D) := by kernel_rfl
theorem b30_eD : b30D = .seq (cL b30D) (.cond (.tmp 54) .skip b30G) := by kernel_rfl
theorem b30_eG : b30G = .seq (cL b30G) (.cond (.tmp 60) (cL (cR b30G)) (cR (cR b30G))) := by kernel_rfl
theorem b30_A : comp Tryz.prog 73 (cL b30L) = some (vL v30L) := by kernel_rfl
theorem b30_B : comp Tryz.prog 73 (cL (cR b30L)) = some (vL (vR v30L)) := by kernel_rfl
theorem b30_Z : comp Tryz.prog 73 (cR (cR (cR b30L))) = some (vR (vR (vR v30L))) := by kernel_rfl
theorem b30_C : comp Tryz.prog 73 (cL b30I) = some (vL v30I) := by kernel_rfl
theorem b30_E : comp Tryz.prog 73 (cL b30D) = some (vL v30D) := by kernel_rfl
theorem b30_H : comp Tryz.prog 73 (cL b30G) = some (vL v30G) := by kernel_rfl
theorem b30_M : comp Tryz.prog 73 (cL (cR b30G)) = some (vL (vR v30G)) := by kernel_rfl
noncomputable def ops30 : Array Oper := rOps (cR (cR b30G))
theorem ops30_eq : cR (cR b30G) = .region (rId (cR (cR b30G))) ops30 false := by kernel_rfl
theorem ops30_sp : List.range ops30.size = [0, 1, 2] ++ [3] := by kernel_rfl
theorem ops30_nd : ops30.all noDefer = true := by kernel_rfl
theorem ops30_c1 : compSteps Tryz.prog true 73 ops30 [0, 1, 2] = some ((vOps (vR (vR v30G))).take 3) := by kernel_rfl
theorem ops30_y : ∃ at' ty pos after, ops30[3]? = some ⟨some 53, .call ⟨.value (.tmp 52), #[], at'⟩, ty, pos, after, none⟩ := ⟨_, _, _, _, rfl⟩
def PB (R : RO) (r : Value) : Prop := ∃ v l, r = .tuple #[v, .int .i64 0] ∧ U8 R v l ∧ l.length ≤ 1000
def bmV (b1 f : Nat) : Value := .func (.func f) #[.pointer (some ⟨b1, 0, none⟩)] #[]
def wrF (b1 : Nat) : List Value := [.nilFunc, .nilFunc, .nilFunc, .nilFunc, .nilFunc, .nilFunc, .nilFunc, .nilFunc, .nilFunc, bmV b1 55, bmV b1 56, .nilFunc, .nilFunc, .nilFunc, bmV b1 57, bmV b1 58, bmV b1 59]
def LB (b b1 : Nat) (l : List Int) : List Blk := [.dead, .box [.val (.pointer (some ⟨b, 0, none⟩)), .sl 3 l.length], .box ((wrF b1).map .val), .row 5 1 (u8s l)]
def LA (b : Nat) (l : List Int) (i : Nat) : List Blk := if i = 0 then [.dead, .box [.val (.pointer (some ⟨b, 0, none⟩)), .val (.slice none 0 0)], .row 3 1 [.int .i64 16, .int .i64 1, .int .i64 0]] else [.dead, .box [.val (.pointer (some ⟨b, 0, none⟩)), .sl 3 l.length], .row 3 1 [.int .i64 16, .int .i64 1, .int .i64 0], .row 5 1 (u8s l)]
section
variable {X : Ctx} {Q : Exit → Act → World → Prop}
set_option maxHeartbeats 8000000 in
theorem bytes_3 (hXn : X.n = 73) (hXk : X.keep = []) (hXg : X.ng = 2) (b : Nat) (y : Value) (R : RO) (hrow : RowIn R b (letC y)) (env : Nat → SV) (e1 : env 1 = .val (.pointer (some ⟨b, 0, none⟩))) (e5 : env 5 = .loc 1 0)
  (h : ∀ (env' : Nat → SV) (R' : RO) (l : List Int), RO.le R R' → l.length = 3 → env' 1 = .val (.pointer (some ⟨b, 0, none⟩)) → env' 5 = .loc 1 0 →
   SemI Tryz.prog none 0 X [] (cR (cR (cR (cR b30)))) ⟨env', [.dead, .box [.val (.pointer (some ⟨b, 0, none⟩)), .sl 3 l.length], .row 3 1 [.int .i64 16, .int .i64 1, .int .i64 0], .row 5 1 (u8s l)], R'⟩ Q) :
  SemI Tryz.prog none 0 X [] (cR (cR (cR b30))) ⟨env, [.dead, .box [.val (.pointer (some ⟨b, 0, none⟩)), .val (.slice none 0 0)]], R⟩ Q := by
 have f0 : R ⟨b, 0, none⟩ (.int .i64 16) := hrow 0 _ rfl
 have f1 : R ⟨b, 1, none⟩ (.int .i64 1) := hrow 1 _ rfl
 have f2 : R ⟨b, 2, none⟩ (.int .i64 0) := hrow 2 _ rfl
 show SemI Tryz.prog none 0 X [] (.seq (cL (cR (cR (cR b30)))) (cR (cR (cR (cR b30))))) _ Q
 refine sem_seq mix hXk (by rw [hXn]; exact b30_3) ?_
 rw [hXg]
 simp only [go_sem, ↓reduceIte, nQ1, nQ2, nQ3, nQ4, nQ5, nQ6, reduceCtorEq, vL, vR, vc30, e1, e5]
 refine vload _ f0 ?_
 try simp only [go_sem, ↓reduceIte, nQ1, nQ2, nQ3, nQ4, nQ5, nQ6, reduceCtorEq, iQ1, iQ2, iQ3, iQ4, iQ5, iQ6, e1, e5]
 refine vload _ f1 ?_
 try simp only [go_sem, ↓reduceIte, nQ1, nQ2, nQ3, nQ4, nQ5, nQ6, reduceCtorEq, iQ1, iQ2, iQ3, iQ4, iQ5, iQ6, e1, e5]
 refine vload _ f2 ?_
 try simp only [go_sem, ↓reduceIte, nQ1, nQ2, nQ3, nQ4, nQ5, nQ6, reduceCtorEq, iQ1, iQ2, iQ3, iQ4, iQ5, iQ6, e1, e5]
 refine vcLoopR (Nat × List Int) (fun x => [(26, .val (.int .i64 x.1)), (24, .sl 2 3), (25, .val (.int .i64 3)), (1, .val (.pointer (some ⟨b, 0, none⟩))), (5, .loc 1 0)]) (fun x => LA b x.2 x.1) (fun x _ => x.1 ≤ 3 ∧ x.2.length = x.1) (fun x => 3 - x.1) (0, []) [0, 1, 2] ?_ ?_ ?_ ?_
 ·show Matches _ _ (LA b [] 0) _
  unfold LA
  rw [if_pos rfl]
  try simp only [go_sem, ↓reduceIte, nQ1, nQ2, nQ3, nQ4, nQ5, nQ6, reduceCtorEq, iQ1, iQ2, iQ3, iQ4, iQ5, iQ6, e1, e5]
 ·exact inScope_mk rfl rfl rfl rfl rfl rfl
 ·exact ⟨Nat.zero_le _, rfl⟩
 rintro ⟨i, l⟩ env1 R1 hle1 hE ⟨hi, hl⟩
 dsimp only at hi hl
 unfold LA
 by_cases h0 : i = 0
 ·subst h0
  dsimp only
  rw [if_pos rfl]
  (simp only [go_sem] at hE; obtain ⟨g26, g24, g25, g1, g5⟩ := hE; simp only [go_sem, ↓reduceIte, nQ1, nQ2, nQ3, nQ4, nQ5, nQ6, reduceCtorEq, g26, g24, g25, g1, g5]; dsimp only at *)
  refine ⟨fun _ => ⟨by decide, ?_⟩, fun h => absurd (by decide) h⟩
  refine vhand [1] [.loc 0 0, .val (.int .i64 16), .val (.int .i64 ((1 : Nat) : Int))] [.box [.val (.pointer (some ⟨b, 0, none⟩)), .val (.slice none 0 0)]] (wNumber0 (.pointer (some ⟨b, 0, none⟩)) 16 1 (by decide) R1) rfl rfl rfl ⟨rfl, trivial⟩ (by simp) rfl rfl ?_
  rintro R2 bs r hle2 ⟨l1, hl1, rfl⟩ _
  try simp only [go_sem, ↓reduceIte, nQ1, nQ2, nQ3, nQ4, nQ5, nQ6, reduceCtorEq, iQ1, iQ2, iQ3, iQ4, iQ5, iQ6, setG, renB, renC, Vc.rn, List.range', Nat.reduceSub, g26, g24, g25, g1, g5]
  refine ⟨_, W.in64 (by omega), (1, l1), [0, 1, 2, 3], by dsimp only; omega, ⟨⟨rfl, rfl, rfl⟩, ?_⟩, ?_, by dsimp only; omega, hl1⟩
  ·dsimp only
   rw [if_neg (by decide)]
   exact ⟨rfl, rfl, rfl, trivial⟩
  ·dsimp only
   rw [if_neg (by decide)]
   exact inScope_mk rfl rfl rfl rfl rfl rfl
 ·dsimp only
  rw [if_neg h0]
  (simp only [go_sem] at hE; obtain ⟨g26, g24, g25, g1, g5⟩ := hE; simp only [go_sem, ↓reduceIte, nQ1, nQ2, nQ3, nQ4, nQ5, nQ6, reduceCtorEq, g26, g24, g25, g1, g5]; dsimp only at *)
  refine ⟨fun hlt => ?_, fun hge => ?_⟩
  ·obtain ⟨nn, hnn⟩ : ∃ nn : Int, [Value.int .i64 16, .int .i64 1, .int .i64 0][i]? = some (.int .i64 nn) := by
    have : i = 1 ∨ i = 2 := by omega
    rcases this with rfl | rfl <;> exact ⟨_, rfl⟩
   refine ⟨by omega, _, hnn, ?_⟩
   refine vhand [1, 3] [.loc 0 0, .val (.int .i64 nn), .val (.int .i64 ((1 : Nat) : Int))] [.box [.val (.pointer (some ⟨b, 0, none⟩)), .sl 1 l.length], .row 5 1 (u8s l)] (wNumber (.pointer (some ⟨b, 0, none⟩)) l nn 1 (by decide) (by omega) R1) rfl rfl rfl ⟨rfl, rfl, trivial⟩ (by simp) rfl rfl ?_
   rintro R2 bs r hle2 ⟨l1, hl1, rfl⟩ _
   unfold wrB
   try simp only [go_sem, ↓reduceIte, nQ1, nQ2, nQ3, nQ4, nQ5, nQ6, reduceCtorEq, iQ1, iQ2, iQ3, iQ4, iQ5, iQ6, setG, renB, renC, Vc.rn, List.range', Nat.reduceSub, g26, g24, g25, g1, g5]
   refine ⟨_, W.in64 (by omega), (i + 1, l1), [0, 1, 2, 4], by dsimp only; omega, ⟨⟨by norm_cast, rfl, rfl⟩, ?_⟩, ?_, by dsimp only; omega, by dsimp only; omega⟩
   ·dsimp only
    rw [if_neg (by omega)]
    exact ⟨rfl, rfl, rfl, trivial⟩
   ·dsimp only
    rw [if_neg (by omega)]
    exact inScope_mk rfl rfl rfl rfl rfl rfl
  ·exact h _ R1 l hle1 (by omega) (by simp only [go_sem, ↓reduceIte, nQ1, nQ2, nQ3, nQ4, nQ5, nQ6, reduceCtorEq, g1, g5]) (by simp only [go_sem, ↓reduceIte, nQ1, nQ2, nQ3, nQ4, nQ5, nQ6, reduceCtorEq, g1, g5])
def LW (b b1 : Nat) (l : List Int) : List Blk := [.dead, .box [.val (.pointer (some ⟨b, 0, none⟩)), .sl 3 l.length], .row 3 1 [.int .i64 16, .int .i64 1, .int .i64 0], .row 5 1 (u8s l), .box ((wrF b1).map .val)]
set_option maxHeartbeats 8000000 in
theorem bytes_4 (hXn : X.n = 73) (hXk : X.keep = []) (hXg : X.ng = 2) (b : Nat) (R : RO) (l : List Int) (env : Nat → SV) (e1 : env 1 = .val (.pointer (some ⟨b, 0, none⟩))) (e5 : env 5 = .loc 1 0)
  (h : ∀ (env' : Nat → SV), env' 1 = .val (.pointer (some ⟨b, 0, none⟩)) → env' 5 = .loc 1 0 → env' 8 = .loc 4 0 →
   SemI Tryz.prog none 0 X [] (cR (cR (cR (cR (cR b30))))) ⟨env', LW b (X.β0 1) l, R⟩ Q) :
  SemI Tryz.prog none 0 X [] (cR (cR (cR (cR b30)))) ⟨env, [.dead, .box [.val (.pointer (some ⟨b, 0, none⟩)), .sl 3 l.length], .row 3 1 [.int .i64 16, .int .i64 1, .int .i64 0], .row 5 1 (u8s l)], R⟩ Q := by
 refine sem_pin 5 1 0 (by rw [hXg]; decide) e5 ?_
 show SemI Tryz.prog none 0 X [] (.seq (cL (cR (cR (cR (cR b30))))) (cR (cR (cR (cR (cR b30)))))) _ Q
 refine sem_seq mix hXk (by rw [hXn]; exact b30_4) ?_
 rw [hXg]
 simp only [go_sem, ↓reduceIte, nQ1, nQ2, nQ3, nQ4, nQ5, nQ6, reduceCtorEq, vL, vR, vc30, e1, e5]
 refine sem_unpin 5 1 0 (by rw [hXg]; decide) (by simp only [go_sem, ↓reduceIte, nQ1, nQ2, nQ3, nQ4, nQ5, nQ6, reduceCtorEq, ]) ?_
 exact h _ (by simp only [go_sem, ↓reduceIte, nQ1, nQ2, nQ3, nQ4, nQ5, nQ6, reduceCtorEq, e1, e5]) (by simp only [go_sem, ↓reduceIte, nQ1, nQ2, nQ3, nQ4, nQ5, nQ6, reduceCtorEq, e1, e5]) (by simp only [go_sem, ↓reduceIte, nQ1, nQ2, nQ3, nQ4, nQ5, nQ6, reduceCtorEq, e1, e5])
def bV (b b1 : Nat) (p : Nat × List Int) : List (Nat × SV) := [(46, .val (.int .i64 p.1)), (45, .val (.agg (ptrs b).toArray)), (1, .val (.pointer (some ⟨b, 0, none⟩))), (5, .loc 1 0), (8, .loc 2 0)]
def BEnd (X3 : Ctx) (b b1 i : Nat) (a' : Act) (w' : World) : Prop := ∃ β κ s' tm, a' = ⟨tm, []⟩ ∧ Rel X3 β κ s' tm w' ∧ ∃ (y' : Nat × List Int) (ρ : List Nat), 17 - y'.1 < 17 - i ∧ Matches ρ (bV b b1 y') (LB b b1 y'.2) s' ∧ inScope 2 ρ (bV b b1 y') (LB b b1 y'.2) = true ∧ y'.1 ≤ 17 ∧ y'.2.length ≤ 3 + 32 * y'.1
theorem bytes_Z {X3 : Ctx} (h3n : X3.n = 73) (h3k : X3.keep = []) (h3g : X3.ng = 2) (b b1 i : Nat) (hi : i < 17) (l' : List Int) (hl : l'.length ≤ 3 + 32 * (i + 1)) (k : Nat) (hk : k = 3 ∨ k = 4 ∨ k = 5) (env : Nat → SV) (bl : List Blk) (R : RO) (hB : blkM [0, 1, 2, k] bl 0 (LB b b1 l'))
  (e46 : env 46 = .val (.int .i64 i)) (e45 : env 45 = .val (.agg (ptrs b).toArray)) (e1 : env 1 = .val (.pointer (some ⟨b, 0, none⟩))) (e5 : env 5 = .loc 1 0) (e8 : env 8 = .loc 2 0) {Q7 : Exit → Act → World → Prop} (hQ : ∀ a w, BEnd X3 b b1 i a w → Q7 .normal a w) :
  SemI Tryz.prog none 0 X3 [] (cR (cR (cR b30L))) ⟨env, bl, R⟩ Q7 := by
 refine sem_vc mix h3k (by rw [h3n]; exact b30_Z) ?_
 rw [h3g]
 simp only [go_sem, ↓reduceIte, nQ1, nQ2, nQ3, nQ4, nQ5, nQ6, reduceCtorEq, vL, vR, v30L, v30Y, vc30, e46, e45, e1, e5, e8]
 refine ⟨_, W.in64 (by omega), ?_⟩
 intro β κ tm w hr
 refine hQ _ _ ⟨β, κ, _, tm, rfl, hr, (i + 1, l'), [0, 1, 2, k], by dsimp only; omega, ⟨fun p hp => ?_, hB⟩, ?_, by dsimp only; omega, hl⟩
 ·simp only [bV, List.mem_cons, List.not_mem_nil, or_false] at hp
  rcases hp with rfl | rfl | rfl | rfl | rfl
  ·simp only [go_sem, ↓reduceIte, nQ1, nQ2, nQ3, nQ4, nQ5, nQ6, reduceCtorEq, Vc.rn]
   norm_cast
  ·simp only [go_sem, ↓reduceIte, nQ1, nQ2, nQ3, nQ4, nQ5, nQ6, reduceCtorEq, Vc.rn, e45]
  ·simp only [go_sem, ↓reduceIte, nQ1, nQ2, nQ3, nQ4, nQ5, nQ6, reduceCtorEq, Vc.rn, e1]
  ·simp only [go_sem, ↓reduceIte, nQ1, nQ2, nQ3, nQ4, nQ5, nQ6, reduceCtorEq, Vc.rn, e5]
  ·simp only [go_sem, ↓reduceIte, nQ1, nQ2, nQ3, nQ4, nQ5, nQ6, reduceCtorEq, Vc.rn, e8]
 ·rcases hk with rfl | rfl | rfl <;> exact inScope_mk rfl rfl rfl rfl rfl rfl
set_option maxHeartbeats 8000000 in
theorem bytes_5 (hXn : X.n = 73) (hXk : X.keep = []) (hXg : X.ng = 2) (b : Nat) (y : Value) (R : RO) (hrow : RowIn R b (letC y)) (hy : Ints R y [0, 2, 0]) (l : List Int) (hl : l.length ≤ 3) (env : Nat → SV) (e1 : env 1 = .val (.pointer (some ⟨b, 0, none⟩))) (e5 : env 5 = .loc 1 0) (e8 : env 8 = .loc 4 0)
  (h : ∀ (env' : Nat → SV) (R' : RO) (l' : List Int), RO.le R R' → l'.length ≤ 900 → env' 5 = .loc 1 0 →
   SemI Tryz.prog none 0 X [] (cR (cR (cR (cR (cR (cR b30)))))) ⟨env', LB b (X.β0 1) l', R'⟩ Q) :
  SemI Tryz.prog none 0 X [] (cR (cR (cR (cR (cR b30))))) ⟨env, LW b (X.β0 1) l, R⟩ Q := by
 obtain ⟨b1, hb1⟩ : ∃ b1, b1 = X.β0 1 := ⟨_, rfl⟩
 rw [← hb1] at h ⊢
 suffices hS : RO.le X.R0 R → SemI Tryz.prog none 0 X [] (cR (cR (cR (cR (cR b30))))) ⟨env, LW b b1 l, R⟩ Q by
  exact fun β κ tm w hr => hS hr.le β κ tm w hr
 intro hXR
 rw [b30_e5]
 refine sem_seqS ?_
 rw [b30_eY]
 refine sem_seq mix hXk (by rw [hXn]; exact b30_5) ?_
 rw [hXg]
 unfold LW
 simp only [go_sem, ↓reduceIte, nQ1, nQ2, nQ3, nQ4, nQ5, nQ6, reduceCtorEq, vL, vR, v30Y, vc30, e1, e5, e8]
 refine vcall (tNumbers b R) ?_
 rintro R2 r hle2 rfl
 try simp only [go_sem, ↓reduceIte, nQ1, nQ2, nQ3, nQ4, nQ5, nQ6, reduceCtorEq, iQ1, iQ2, iQ3, iQ4, iQ5, iQ6, e1, e5, e8]
 refine sem_block ?_
 obtain ⟨Q6, hQ6⟩ : ∃ Q6, Q6 = Exit.inBlock 2 (Exit.then (fun a' w' => (cR (cR (cR (cR (cR (cR b30)))))).wpIn (Fr none) 0 Tryz.prog Q a' w') Q) := ⟨_, rfl⟩
 rw [← hQ6]
 refine sem_loop (Nat × List Int) (bV b b1) (fun p => LB b b1 p.2) (fun p _ => p.1 ≤ 17 ∧ p.2.length ≤ 3 + 32 * p.1) (fun p => 17 - p.1) (0, l) [0, 1, 4, 3] ?_ (by rw [hXg]; exact inScope_mk rfl rfl rfl rfl rfl rfl) ⟨Nat.zero_le _, by dsimp only; omega⟩ ?_
 ·refine ⟨fun p hp => ?_, ⟨rfl, rfl, rfl, trivial⟩⟩
  simp only [bV, List.mem_cons, List.not_mem_nil, or_false] at hp
  rcases hp with rfl | rfl | rfl | rfl | rfl
  ·simp only [go_sem, ↓reduceIte, nQ1, nQ2, nQ3, nQ4, nQ5, nQ6, reduceCtorEq, Vc.rn]
   rfl
  ·simp only [go_sem, ↓reduceIte, nQ1, nQ2, nQ3, nQ4, nQ5, nQ6, reduceCtorEq, Vc.rn]
  ·simp only [go_sem, ↓reduceIte, nQ1, nQ2, nQ3, nQ4, nQ5, nQ6, reduceCtorEq, Vc.rn, e1]
  ·simp only [go_sem, ↓reduceIte, nQ1, nQ2, nQ3, nQ4, nQ5, nQ6, reduceCtorEq, Vc.rn, e5]
  ·simp only [go_sem, ↓reduceIte, nQ1, nQ2, nQ3, nQ4, nQ5, nQ6, reduceCtorEq, Vc.rn, e8]
 rintro ⟨i, l'⟩ env3 R3 hle3 hE ⟨hi, hl'⟩
 dsimp only at hi hl' hE ⊢
 obtain ⟨X3, hX3⟩ : ∃ X3 : Ctx, X3 = { X with R0 := R2 } := ⟨_, rfl⟩
 have h3n : X3.n = 73 := by rw [hX3]; exact hXn
 have h3k : X3.keep = [] := by rw [hX3]; exact hXk
 have h3g : X3.ng = 2 := by rw [hX3]; exact hXg
 have h3b : b1 = X3.β0 1 := by rw [hX3]; exact hb1
 obtain ⟨Q7, hQ7⟩ : ∃ Q7, Q7 = Exit.then (BEnd X3 b b1 i) Q6 := ⟨_, rfl⟩
 suffices hRound : SemI Tryz.prog none 0 X3 [] b30L ⟨env3, LB b b1 l', R3⟩ Q7 by
  refine sem_mono (X := { X with R0 := R2 }) (Q := Q7) (by rw [← hX3]; exact hRound) ?_
  intro e a w hq
  rw [hQ7] at hq
  cases e with
  | normal =>
   obtain ⟨β, κ, s', tm, ha, hr, y', ρ, g1, g2, g3, g4, g5⟩ := hq
   rw [hX3] at hr
   exact ⟨β, κ, s', tm, ha, hr, y', ρ, g1, g2, by rw [hXg]; exact g3, g4, g5⟩
  | _ => exact hq
 have hZ := fun k hk l2 hl2 env bl R hB e46 e45 e1 e5 e8 hi => bytes_Z h3n h3k h3g b b1 i hi l2 hl2 k hk env bl R hB e46 e45 e1 e5 e8 (Q7 := Q7) (fun a w hq => by rw [hQ7]; exact hq)
 have e46 : env3 46 = .val (.int .i64 i) := hE _ (.head _)
 have e45 : env3 45 = .val (.agg (ptrs b).toArray) := hE _ (.tail _ (.head _))
 have e1 : env3 1 = .val (.pointer (some ⟨b, 0, none⟩)) := hE _ (.tail _ (.tail _ (.head _)))
 have e5 : env3 5 = .loc 1 0 := hE _ (.tail _ (.tail _ (.tail _ (.head _))))
 have e8 : env3 8 = .loc 2 0 := hE _ (.tail _ (.tail _ (.tail _ (.tail _ (.head _)))))
 clear hE
 rw [b30_eL]
 refine sem_seq mix h3k (by rw [h3n]; exact b30_A) ?_
 rw [h3g]
 simp only [go_sem, ↓reduceIte, nQ1, nQ2, nQ3, nQ4, nQ5, nQ6, reduceCtorEq, vL, vR, v30L, v30Y, vc30, e46, e45, e1, e5, e8]
 refine sem_seq mix h3k (by rw [h3n]; exact b30_B) ?_
 rw [h3g]
 simp only [go_sem, ↓reduceIte, nQ1, nQ2, nQ3, nQ4, nQ5, nQ6, reduceCtorEq, vL, vR, v30L, v30Y, vc30, e46, e45, e1, e5, e8]
 refine ⟨fun hlt => ?_, fun hge => ?_⟩
 ·have hi' : i < 17 := by omega
  refine sem_seqS ?_
  rw [b30_eI]
  refine sem_block ?_
  refine sem_seq mix h3k (by rw [h3n]; exact b30_C) ?_
  rw [h3g]
  have q16 : R3 ⟨b, 0, none⟩ (.int .i64 16) := hle3 _ _ (hle2 _ _ (hrow 0 _ rfl))
  suffices hD : ∀ (pv : Value), (ptrs b)[i]? = some pv → ∀ env4 : Nat → SV, env4 46 = .val (.int .i64 i) → env4 45 = .val (.agg (ptrs b).toArray) → env4 1 = .val (.pointer (some ⟨b, 0, none⟩)) → env4 5 = .loc 1 0 → env4 8 = .loc 2 0 → env4 9 = .val (.int .i64 i) → env4 10 = .val pv →
    SemI Tryz.prog none 0 X3 [] (.block 4 b30D) ⟨env4, LB b b1 l', R3⟩ (Exit.inBlock 3 (Exit.then (fun a' w' => Code.wpIn (Fr none) 0 Tryz.prog (cR (cR (cR b30L))) Q7 a' w') Q7)) by
   obtain ⟨pv, hpv⟩ : ∃ pv, (ptrs b)[i]? = some pv := ⟨_, List.getElem?_eq_getElem (by exact hi')⟩
   simp only [go_sem, ↓reduceIte, nQ1, nQ2, nQ3, nQ4, nQ5, nQ6, reduceCtorEq, vL, vR, v30I, v30L, v30Y, vc30, e46, e45, e1, e5, e8, hpv]
   refine ⟨by omega, hD pv hpv _ ?_ ?_ ?_ ?_ ?_ ?_ ?_⟩ <;> simp only [go_sem, ↓reduceIte, nQ1, nQ2, nQ3, nQ4, nQ5, nQ6, reduceCtorEq, e46, e45, e1, e5, e8]
  clear e46 e45 e1 e5 e8
  intro pv hpv env4 e46 e45 e1 e5 e8 e9 e10
  refine sem_block ?_
  rw [b30_eD]
  refine sem_seq mix h3k (by rw [h3n]; exact b30_E) ?_
  rw [h3g]
  simp only [go_sem, ↓reduceIte, nQ1, nQ2, nQ3, nQ4, nQ5, nQ6, reduceCtorEq, vL, vR, v30D, v30I, v30L, v30Y, vc30, e46, e45, e1, e5, e8, e9, e10]
  refine vload _ q16 ?_
  try simp only [go_sem, ↓reduceIte, nQ1, nQ2, nQ3, nQ4, nQ5, nQ6, reduceCtorEq, iQ1, iQ2, iQ3, iQ4, iQ5, iQ6, e46, e45, e1, e5, e8, e9, e10]
  by_cases hu : (i = 4 ∨ i = 5 ∨ 13 ≤ i)
  ·refine vcall (tUsesB i hi' true (by simp only [decide_eq_true_eq]; exact hu) R3) ?_
   rintro R4 r hle4 rfl
   try simp only [go_sem, ↓reduceIte, nQ1, nQ2, nQ3, nQ4, nQ5, nQ6, reduceCtorEq, iQ1, iQ2, iQ3, iQ4, iQ5, iQ6, e46, e45, e1, e5, e8, e9, e10]
   refine sem_cond (t := false) (by simp only [go_sem, ↓reduceIte, nQ1, nQ2, nQ3, nQ4, nQ5, nQ6, reduceCtorEq, ]) (fun h => by cases h) (fun _ => ?_)
   rw [b30_eG]
   have hrow4 : RowIn R4 b (letC y) := fun k v hk => hle4 _ _ (hle3 _ _ (hle2 _ _ (hrow k v hk)))
   have hy4 : Ints R4 y [0, 2, 0] := hy.mono (RO.le_trans hle2 (RO.le_trans hle3 hle4))
   refine sem_seq mix h3k (by rw [h3n]; exact b30_H) ?_
   rw [h3g]
   rcases ptrs_cases b i hi' with ⟨hn, hni⟩ | ⟨k, hn, hni⟩
   ·cases Option.some.inj (hn.symm.trans hpv)
    simp only [go_sem, ↓reduceIte, nQ1, nQ2, nQ3, nQ4, nQ5, nQ6, reduceCtorEq, vL, vR, v30G, v30D, v30I, v30L, v30Y, vc30, e46, e45, e1, e5, e8, e9, e10]
    refine sem_cond (t := false) (by simp only [go_sem, ↓reduceIte, nQ1, nQ2, nQ3, nQ4, nQ5, nQ6, reduceCtorEq, ]) (fun h => by cases h) (fun _ => ?_)
    rw [ops30_eq]
    refine sem_bm h3n [0, 1, 2] 3 ops30_sp ops30_nd ops30_c1 ops30_y (by decide) ?_
    rw [h3g]
    have hi3 : i = 14 ∨ i = 15 ∨ i = 16 := by omega
    rcases hi3 with rfl | rfl | rfl
    ·simp only [go_sem, ↓reduceIte, nQ1, nQ2, nQ3, nQ4, nQ5, nQ6, reduceCtorEq, vL, vR, vOps, v30G, v30D, v30I, v30L, v30Y, vc30, e46, e45, e1, e5, e8, e9, e10, LB, wrF]
     refine ⟨by decide, 57, 1, by rw [← h3b]; rfl, by decide, by kernel_rfl, [1, 3], [.loc 0 0], [.box [.val (.pointer (some ⟨b, 0, none⟩)), .sl 1 l'.length], .row 5 1 (u8s l')], _, wWindow b y l' (by omega) R4 hrow4, rfl, rfl, rfl, ⟨rfl, rfl, trivial⟩, by simp, rfl, rfl, ?_⟩
     rintro R5 bs r hle5 ⟨l2, hl2, rfl⟩ _
     try simp only [go_sem, ↓reduceIte, nQ1, nQ2, nQ3, nQ4, nQ5, nQ6, reduceCtorEq, iQ1, iQ2, iQ3, iQ4, iQ5, iQ6, setG, renB, renC, Vc.rn, List.range', Nat.reduceSub, e46, e45, e1, e5, e8, e9, e10]
     show SemI Tryz.prog none 0 X3 [] (cR (cR (cR b30L))) _ Q7
     refine hZ 5 (.inr (.inr rfl)) l2 (by omega) _ _ R5 ⟨rfl, rfl, rfl, trivial⟩ ?_ ?_ ?_ ?_ ?_ hi' <;> simp only [go_sem, ↓reduceIte, nQ1, nQ2, nQ3, nQ4, nQ5, nQ6, reduceCtorEq, e46, e45, e1, e5, e8]
    ·simp only [go_sem, ↓reduceIte, nQ1, nQ2, nQ3, nQ4, nQ5, nQ6, reduceCtorEq, vL, vR, vOps, v30G, v30D, v30I, v30L, v30Y, vc30, e46, e45, e1, e5, e8, e9, e10, LB, wrF]
     refine ⟨by decide, 58, 1, by rw [← h3b]; rfl, by decide, by kernel_rfl, [1, 3], [.loc 0 0], [.box [.val (.pointer (some ⟨b, 0, none⟩)), .sl 1 l'.length], .row 5 1 (u8s l')], _, wCells b y l' (by omega) R4 hrow4 hy4, rfl, rfl, rfl, ⟨rfl, rfl, trivial⟩, by simp, rfl, rfl, ?_⟩
     rintro R5 bs r hle5 ⟨l2, hl2, rfl⟩ _
     unfold wrB
     try simp only [go_sem, ↓reduceIte, nQ1, nQ2, nQ3, nQ4, nQ5, nQ6, reduceCtorEq, iQ1, iQ2, iQ3, iQ4, iQ5, iQ6, setG, renB, renC, Vc.rn, List.range', Nat.reduceSub, e46, e45, e1, e5, e8, e9, e10]
     show SemI Tryz.prog none 0 X3 [] (cR (cR (cR b30L))) _ Q7
     refine hZ 4 (.inr (.inl rfl)) l2 (by omega) _ _ R5 ⟨rfl, rfl, rfl, trivial⟩ ?_ ?_ ?_ ?_ ?_ hi' <;> simp only [go_sem, ↓reduceIte, nQ1, nQ2, nQ3, nQ4, nQ5, nQ6, reduceCtorEq, e46, e45, e1, e5, e8]
    ·simp only [go_sem, ↓reduceIte, nQ1, nQ2, nQ3, nQ4, nQ5, nQ6, reduceCtorEq, vL, vR, vOps, v30G, v30D, v30I, v30L, v30Y, vc30, e46, e45, e1, e5, e8, e9, e10, LB, wrF]
     refine ⟨by decide, 59, 1, by rw [← h3b]; rfl, by decide, by kernel_rfl, [1, 3], [.loc 0 0], [.box [.val (.pointer (some ⟨b, 0, none⟩)), .sl 1 l'.length], .row 5 1 (u8s l')], _, wRef b y l' (by omega) R4 hrow4, rfl, rfl, rfl, ⟨rfl, rfl, trivial⟩, by simp, rfl, rfl, ?_⟩
     rintro R5 bs r hle5 ⟨l2, hl2, rfl⟩ _
     unfold wrB
     try simp only [go_sem, ↓reduceIte, nQ1, nQ2, nQ3, nQ4, nQ5, nQ6, reduceCtorEq, iQ1, iQ2, iQ3, iQ4, iQ5, iQ6, setG, renB, renC, Vc.rn, List.range', Nat.reduceSub, e46, e45, e1, e5, e8, e9, e10]
     show SemI Tryz.prog none 0 X3 [] (cR (cR (cR b30L))) _ Q7
     refine hZ 4 (.inr (.inl rfl)) l2 (by omega) _ _ R5 ⟨rfl, rfl, rfl, trivial⟩ ?_ ?_ ?_ ?_ ?_ hi' <;> simp only [go_sem, ↓reduceIte, nQ1, nQ2, nQ3, nQ4, nQ5, nQ6, reduceCtorEq, e46, e45, e1, e5, e8]
   ·cases Option.some.inj (hn.symm.trans hpv)
    simp only [go_sem, ↓reduceIte, nQ1, nQ2, nQ3, nQ4, nQ5, nQ6, reduceCtorEq, vL, vR, v30G, v30D, v30I, v30L, v30Y, vc30, e46, e45, e1, e5, e8, e9, e10]
    refine sem_cond (t := true) (by simp only [go_sem, ↓reduceIte, nQ1, nQ2, nQ3, nQ4, nQ5, nQ6, reduceCtorEq, ]) (fun _ => ?_) (fun h => by cases h)
    refine sem_vc mix h3k (by rw [h3n]; exact b30_M) ?_
    rw [h3g]
    simp only [go_sem, ↓reduceIte, nQ1, nQ2, nQ3, nQ4, nQ5, nQ6, reduceCtorEq, vL, vR, v30G, v30D, v30I, v30L, v30Y, vc30, e46, e45, e1, e5, e8, e9, e10]
    refine vload _ (letC_get y b R4 hrow4 i hi' k hn) ?_
    try simp only [go_sem, ↓reduceIte, nQ1, nQ2, nQ3, nQ4, nQ5, nQ6, reduceCtorEq, iQ1, iQ2, iQ3, iQ4, iQ5, iQ6, e46, e45, e1, e5, e8, e9, e10]
    unfold LB
    refine vhand [1, 3] [.loc 0 0, .val (.int .i64 (fldV i)), .val (.int .i64 ((8 : Nat) : Int))] [.box [.val (.pointer (some ⟨b, 0, none⟩)), .sl 1 l'.length], .row 5 1 (u8s l')] (wNumber (.pointer (some ⟨b, 0, none⟩)) l' (fldV i) 8 (by decide) (by omega) R4) rfl rfl rfl ⟨rfl, rfl, trivial⟩ (by simp) rfl rfl ?_
    rintro R5 bs r hle5 ⟨l2, hl2, rfl⟩ _
    unfold wrB
    try simp only [go_sem, ↓reduceIte, nQ1, nQ2, nQ3, nQ4, nQ5, nQ6, reduceCtorEq, iQ1, iQ2, iQ3, iQ4, iQ5, iQ6, setG, renB, renC, Vc.rn, List.range', Nat.reduceSub, e46, e45, e1, e5, e8, e9, e10]
    show SemI Tryz.prog none 0 X3 [] (cR (cR (cR b30L))) _ Q7
    refine hZ 4 (.inr (.inl rfl)) l2 (by omega) _ _ R5 ⟨rfl, rfl, rfl, trivial⟩ ?_ ?_ ?_ ?_ ?_ hi' <;> simp only [go_sem, ↓reduceIte, nQ1, nQ2, nQ3, nQ4, nQ5, nQ6, reduceCtorEq, e46, e45, e1, e5, e8]
  ·refine vcall (tUsesB i hi' false (by simp only [decide_eq_false_iff_not]; exact hu) R3) ?_
   rintro R4 r hle4 rfl
   try simp only [go_sem, ↓reduceIte, nQ1, nQ2, nQ3, nQ4, nQ5, nQ6, reduceCtorEq, iQ1, iQ2, iQ3, iQ4, iQ5, iQ6, e46, e45, e1, e5, e8, e9, e10]
   refine sem_cond (t := true) (by simp only [go_sem, ↓reduceIte, nQ1, nQ2, nQ3, nQ4, nQ5, nQ6, reduceCtorEq, ]) (fun _ => ?_) (fun h => by cases h)
   refine sem_skip ?_
   show SemI Tryz.prog none 0 X3 [] (cR (cR (cR b30L))) _ Q7
   refine hZ 3 (.inl rfl) l' (by omega) _ _ R4 ⟨rfl, rfl, rfl, trivial⟩ ?_ ?_ ?_ ?_ ?_ hi' <;> simp only [go_sem, ↓reduceIte, nQ1, nQ2, nQ3, nQ4, nQ5, nQ6, reduceCtorEq, e46, e45, e1, e5, e8]
 ·have hil : i = 17 := by omega
  subst hil
  intro β κ tm w2 hr
  rw [hQ7]
  show Q6 (.exit 2) _ _
  rw [hQ6]
  show (cR (cR (cR (cR (cR (cR b30)))))).wpIn (Fr none) 0 Tryz.prog Q _ w2
  rw [hX3] at hr
  refine h _ R3 l' (RO.le_trans hle2 hle3) (by omega) ?_ β κ tm w2 (hr.up (RO.le_trans hXR hle2))
  simp only [go_sem, ↓reduceIte, nQ1, nQ2, nQ3, nQ4, nQ5, nQ6, reduceCtorEq, e5]
end
end Go.Proofs.YtdglpgepgmdbdaaGreatDoor
namespace Go.Proofs.YtdglpgepgmdbdaaGreatDoor
set_option linter.unusedSectionVars false
variable [Go.Proofs.YtdglpgepgmdbdaaGreatDoor.Vc.Drew]
set_option linter.unusedSimpArgs false
set_option linter.unusedVariables false
open Go.Proofs.YtdglpgepgmdbdaaGreatDoor.Vc Go.RowKit
theorem b30_eq : b30 = .seq (cL b30) (.seq (cL (cR b30)) (.seq (cL (cR (cR b30))) (cR (cR (cR b30))))) := by kernel_rfl
set_option maxHeartbeats 8000000 in
theorem tBytes (y : Value) (R : RO) (hy : Ints R y [0, 2, 0]) : CallsR Tryz.prog 30 [.agg (letC y).toArray] R fun R' r => PB R' r := by
 have hV := fun R' (hle : RO.le R R') => tValid y R' (hy.mono hle)
 have hy1 := hy
 obtain ⟨a, c, rfl, _, hf⟩ := hy1.form
 obtain ⟨L, hL⟩ : ∃ L, L = letC (.slice a [(0 : Int), 2, 0].length c) := ⟨_, rfl⟩
 have hL2 := hL
 simp only [letC, List.length_cons, List.length_nil] at hL2
 rw [← hL] at hV ⊢
 intro w0 hRw
 refine (callsIn_wide (n := 0)).1 (callsIn_of_wp_marks (F := Fr none) (c := b30) Tryz.func30 rfl trivial ?_ rfl)
 obtain ⟨Q, hQ⟩ : ∃ Q, Q = bodyPostM (Fr none) 0 Tryz.prog Tryz.f30 (fun e w' => ∃ v R', e = .returned v ∧ RO.le R R' ∧ (∀ a v, R' a v → w'.cell? a = some v ∧ (R a v ∨ (w0.heap.size ≤ a.block ∧ Loose w' a.block))) ∧ Ext w0 w' ∧ PB R' v) := ⟨_, rfl⟩
 rw [← hQ]
 have hst0 := rel_startR (n := 73) (args := [.agg L.toArray]) (by simp) hRw
 obtain ⟨X, hX⟩ : ∃ X : Ctx, X = { w0 := w0, R0 := R, B := R, n := 73 } := ⟨_, rfl⟩
 rw [← hX] at hst0
 have hXn : X.n = 73 := by rw [hX]
 have hXk : X.keep = [] := by rw [hX]
 have hXg : X.ng = 0 := by rw [hX]
 suffices hS : SemI Tryz.prog none 0 X [] b30 ⟨envOf [.agg L.toArray], [], R⟩ Q by
  exact hS _ _ _ _ hst0
 rw [b30_eq]
 refine sem_seq mix hXk (by rw [hXn]; exact b30_0) ?_
 rw [hXg]
 simp only [go_sem, ↓reduceIte, nQ1, nQ2, nQ3, nQ4, nQ5, nQ6, reduceCtorEq, vL, vR, vc30]
 rw [hL2]
 try simp only [go_sem, ↓reduceIte, nQ1, nQ2, nQ3, nQ4, nQ5, nQ6, reduceCtorEq, iQ1, iQ2, iQ3, iQ4, iQ5, iQ6]
 refine sem_seq mix hXk (by rw [hXn]; exact b30_1) ?_
 rw [hXg]
 simp only [go_sem, ↓reduceIte, nQ1, nQ2, nQ3, nQ4, nQ5, nQ6, reduceCtorEq, vL, vR, vc30]
 rw [← hL2]
 refine vcall (hV R (RO.le_refl _)) ?_
 rintro R1 r hle1 rfl
 try simp only [go_sem, ↓reduceIte, nQ1, nQ2, nQ3, nQ4, nQ5, nQ6, reduceCtorEq, iQ1, iQ2, iQ3, iQ4, iQ5, iQ6]
 refine sem_seq mix hXk (by rw [hXn]; exact b30_2) ?_
 rw [hXg]
 simp only [go_sem, ↓reduceIte, nQ1, nQ2, nQ3, nQ4, nQ5, nQ6, reduceCtorEq, vL, vR, vc30]
 intro b R2 hle2 hrow _
 have hrow : RowIn R2 b (letC (.slice a 3 c)) := hrow
 refine sem_sharpen hXk rfl ?_
 intro X' hn hk hg hback
 have hn : X'.n = 73 := hn.trans hXn
 have hg : X'.ng = 2 := hg
 refine bytes_3 hn hk hg b (.slice a 3 c) R2 hrow _ (by simp only [go_sem, ↓reduceIte, nQ1, nQ2, nQ3, nQ4, nQ5, nQ6, reduceCtorEq, ]) (by simp only [go_sem, ↓reduceIte, nQ1, nQ2, nQ3, nQ4, nQ5, nQ6, reduceCtorEq, ]) ?_
 intro env1 R3 l hle3 hl e1 e5
 refine bytes_4 hn hk hg b R3 l env1 e1 e5 ?_
 clear e1 e5
 intro env2 e1 e5 e8
 have hle13 : RO.le R R3 := RO.le_trans hle1 (RO.le_trans hle2 hle3)
 refine bytes_5 hn hk hg b (.slice a 3 c) R3 (fun k v hkv => hle3 _ _ (hrow k v hkv)) (hy.mono hle13) l (by omega) env2 e1 e5 e8 ?_
 clear e1 e5 e8
 intro env3 R4 l4 hle4 hl4 e5
 refine sem_vc mix hk (by rw [hn]; exact b30_6) ?_
 rw [hg]
 unfold LB
 simp only [go_sem, ↓reduceIte, nQ1, nQ2, nQ3, nQ4, nQ5, nQ6, reduceCtorEq, vL, vR, vc30, e5]
 intro β κ tm w2 hr
 have hr2 := hback _ _ _ _ _ hr
 rw [hQ]
 refine retM_fin (rv := [.tmp 2, .tmp 3]) hX (by kernel_rfl) ?_ [] w2 hr2 ⟨List.nodup_nil, fun _ h => by cases h⟩
 show RetT [.tmp 2, .tmp 3] _ (fun vs s' => PB s'.R (resVal vs)) .mk
 simp only [go_sem, ↓reduceIte, nQ1, nQ2, nQ3, nQ4, nQ5, nQ6, reduceCtorEq, e5]
 intro b2 cap2 R5 _ hrow2 hcap2 _
 rw [u8s_len] at hcap2
 exact ⟨_, l4, rfl, U8.row hrow2 hcap2 (by omega), by omega⟩
end Go.Proofs.YtdglpgepgmdbdaaGreatDoor
namespace Go.Proofs.YtdglpgepgmdbdaaGreatDoor
set_option linter.unusedSectionVars false
variable [Go.Proofs.YtdglpgepgmdbdaaGreatDoor.Vc.Drew]
set_option linter.unusedSimpArgs false
set_option linter.unusedVariables false
open Go.Proofs.YtdglpgepgmdbdaaGreatDoor.Vc
def bits8 (k : Nat) (b1 b2 b3 b4 b5 b6 b7 b8 : Bool) : Int := bitsL [b1 || k == 1, b2 || k == 2, b3 || k == 3, b4 || k == 4, b5 || k == 5, b6 || k == 6, b7 || k == 7, b8 || k == 8]
theorem or_bit : ∀ k : Fin 8, ∀ b1 b2 b3 b4 b5 b6 b7 b8 : Bool, bits .or .i64 (bitsL [b1, b2, b3, b4, b5, b6, b7, b8]) (2 ^ k.val) = bits8 (k.val + 1) b1 b2 b3 b4 b5 b6 b7 b8 := by decide +kernel
theorem or_one : ∀ b : Bool, bits .or .i64 (if b = true then 1 else 0) 1 = 1 := by decide +kernel
theorem touchK_snoc (l : List Mk) (m : Mk) (k c n : Int) : touchK (l ++ [m]) k c n = (touchK l k c n || (hits c n m && decide (m.kind = k))) := by simp [touchK]
theorem touchA_snoc (l : List Mk) (m : Mk) (c n : Int) : touchA (l ++ [m]) c n = (touchA l c n || hits c n m) := by simp [touchA]
def bitOf (g : Int) (m : Mk) : Int := if 3 ≤ g then 2 ^ (m.kind - 1).toNat else 1
theorem cellV_snoc (l : List Mk) (m : Mk) (g c n : Int) (hm : 1 ≤ m.kind ∧ m.kind ≤ 8) : cellV (l ++ [m]) g c n = if hits c n m = true then bits .or .i64 (cellV l g c n) (bitOf g m) else cellV l g c n := by
 unfold cellV bitOf
 cases hh : hits c n m with
 | false => simp only [touchK_snoc, touchA_snoc, hh, Bool.false_and, Bool.or_false, Bool.false_eq_true, if_false]
 | true =>
  rw [if_pos rfl]
  by_cases hg : 3 ≤ g
  ·rw [if_pos hg, if_pos hg, if_pos hg]
   have h := or_bit ⟨(m.kind - 1).toNat, by omega⟩ (touchK l 1 c n) (touchK l 2 c n) (touchK l 3 c n) (touchK l 4 c n) (touchK l 5 c n) (touchK l 6 c n) (touchK l 7 c n) (touchK l 8 c n)
   refine Eq.trans ?_ h.symm
   unfold bits8
   simp only [touchK_snoc, hh, Bool.true_and]
   have e : ∀ j : Nat, 1 ≤ j → (((m.kind - 1).toNat + 1 == j) = decide (m.kind = (j : Int))) := fun j hj => by
    rw [Bool.eq_iff_iff, beq_iff_eq, decide_eq_true_eq]; omega
   rw [e 1 (by omega), e 2 (by omega), e 3 (by omega), e 4 (by omega), e 5 (by omega), e 6 (by omega), e 7 (by omega), e 8 (by omega)]
   rfl
  ·rw [if_neg hg, if_neg hg, if_neg hg]
   simp only [touchA_snoc, hh, Bool.or_true, if_true]
   exact (or_one _).symm
theorem touched_iff {k : Int} {w : Sp} {m : Mk} (hw : OkW k w) (hm : m.f < m.t) {i : Int} (h0 : 0 ≤ i) (h1 : w.f + i * sizeI k < w.t) :
  (max m.f w.f < min m.t w.t ∧ (max m.f w.f - w.f) / sizeI k ≤ i ∧ i * sizeI k < min m.t w.t - w.f) ↔ hits (w.f + i * sizeI k) (sizeI k) m = true := by
 have hali := alignedB_iff.1 hw.ali
 have hp := hw.pos
 have g1 := hali.1
 have g2 := hali.2
 simp only [hits, Bool.and_eq_true, decide_eq_true_eq]
 rcases sizeI_cases k with e | e | e <;> rw [e] at g1 g2 h1 ⊢ <;> constructor <;> intro h <;> omega
theorem cellV_nil (g c n : Int) : cellV [] g c n = 0 := by unfold cellV; simp [touchK, touchA, bitsL]
end Go.Proofs.YtdglpgepgmdbdaaGreatDoor
namespace Go.Proofs.YtdglpgepgmdbdaaGreatDoor
set_option linter.unusedSectionVars false
variable [Go.Proofs.YtdglpgepgmdbdaaGreatDoor.Vc.Drew]
set_option linter.unusedSimpArgs false
set_option linter.unusedVariables false
open Go.Proofs.YtdglpgepgmdbdaaGreatDoor.Vc Go.RowKit
def nT (f t wf wt c : Int) : Nat := if max f wf < min t wt then ((min t wt - wf + c - 1) / c - (max f wf - wf) / c).toNat else 0
theorem nT_iff {f t wf wt c : Int} (hc : c = 1440 ∨ c = 30 ∨ c = 1) (k : Nat) : (max f wf < min t wt ∧ ((max f wf - wf) / c + k) * c < min t wt - wf) ↔ k < nT f t wf wt c := by
 unfold nT
 split
 ·rename_i h
  simp only [h, true_and]
  rcases hc with rfl | rfl | rfl <;> omega
 ·rename_i h
  simp only [h, false_and, false_iff]
  omega
theorem cTouched (f t wf wt c : Int) (R : RO) : CallsS Tryz.prog 28 [.val (.agg #[.int .i64 f, .int .i64 t]), .val (.agg #[.int .i64 wf, .int .i64 wt]), .val (.int .i64 c)] [] R fun R' bs r => R' = R ∧ bs = [.box [.val (.int .i64 f), .val (.int .i64 t)], .box [.val (.int .i64 wf), .val (.int .i64 wt)], .box [.val (.int .i64 c)]] ∧ r = .fn 52 [.l 0 0, .l 1 0, .l 2 0] := by
 refine callsTS mix Tryz.func28 comp28 (by simp [Tryz.ntmps28]) rfl rfl ?_; simp only [go_sem, ↓reduceIte, nQ1, nQ2, nQ3, nQ4, nQ5, nQ6, reduceCtorEq, vc28, rs28]
 repeat' (first | trivial | rfl | apply And.intro)
noncomputable def b52 : Code := Tryz.f52.body.getD .skip
noncomputable def b52L : Code := cL (cL (cR (cR b52)))
def v52L : VCode := vL (vL (vR (vR vc52)))
theorem b52A : comp Tryz.prog 43 (cL b52) = some (vL vc52) := by kernel_rfl
theorem b52B : comp Tryz.prog 43 (cL (cR b52)) = some (vL (vR vc52)) := by kernel_rfl
theorem b52C : comp Tryz.prog 43 (cL b52L) = some (vL v52L) := by kernel_rfl
theorem b52D : comp Tryz.prog 43 (cR (cR b52L)) = some (vR (vR v52L)) := by kernel_rfl
noncomputable def ops52 : Array Oper := rOps (cL (cL (cL (cR b52L))))
theorem ops52_eq : cL (cL (cL (cR b52L))) = .region (rId (cL (cL (cL (cR b52L))))) ops52 false := by kernel_rfl
theorem ops52_sp : List.range ops52.size = [0, 1] ++ 2 :: [3] := by kernel_rfl
theorem ops52_nd : ops52.all noDefer = true := by kernel_rfl
theorem ops52_c1 : compSteps Tryz.prog true 43 ops52 [0, 1] = some ((vOps (vL (vL (vL (vR v52L))))).take 2) := by kernel_rfl
theorem ops52_c2 : compSteps Tryz.prog true 43 ops52 [3] = some ((vOps (vL (vL (vL (vR v52L))))).drop 3) := by kernel_rfl
theorem ops52_y : ∃ at' ty pos after, ops52[2]? = some ⟨some 41, .call ⟨.value (.tmp 39), #[.tmp 40], at'⟩, ty, pos, after, none⟩ := ⟨_, _, _, _, rfl⟩
set_option maxHeartbeats 4000000 in
theorem itTouched (f t wf wt c : Int) (hc : c = 1440 ∨ c = 30 ∨ c = 1) (bf : -4503599627370496 ≤ f ∧ f ≤ 4503599627370496) (bt : -4503599627370496 ≤ t ∧ t ≤ 4503599627370496) (bw : 0 ≤ wf ∧ wf ≤ 4503599627370496) (bv : -4503599627370496 ≤ wt ∧ wt ≤ 4503599627370496)
  (b0 b1 b2 : Nat) (R : RO) (r0 : R ⟨b0, 0, none⟩ (.int .i64 f)) (r1 : R ⟨b0, 1, none⟩ (.int .i64 t)) (r2 : R ⟨b1, 0, none⟩ (.int .i64 wf)) (r3 : R ⟨b1, 1, none⟩ (.int .i64 wt)) (r4 : R ⟨b2, 0, none⟩ (.int .i64 c)) :
  IterC Tryz.prog 52 [.pointer (some ⟨b0, 0, none⟩), .pointer (some ⟨b1, 0, none⟩), .pointer (some ⟨b2, 0, none⟩)] R (nT f t wf wt c) (fun k _ v => v = .int .i64 ((max f wf - wf) / c + k)) := by
 intro n l wz J hR hst hJ0 hY
 obtain ⟨m, hm⟩ : ∃ m, m = nT f t wf wt c := ⟨_, rfl⟩
 have hiff := fun k => nT_iff (f := f) (t := t) (wf := wf) (wt := wt) hc k
 rw [← hm] at hY hiff ⊢
 refine callsIn_of_wp (c := b52) Tryz.func52 rfl trivial ?_
 obtain ⟨Q, hQ⟩ : ∃ Q, Q = bodyPost Tryz.prog Tryz.f52 (fun e W' => (∃ v, e = .returned v) ∧ J m W') := ⟨_, rfl⟩
 rw [← hQ]
 have hst0 := rel_startR (n := 43) (args := [.func (.yield l) #[] #[], .pointer (some ⟨b0, 0, none⟩), .pointer (some ⟨b1, 0, none⟩), .pointer (some ⟨b2, 0, none⟩)]) (by simp) hR
 obtain ⟨X, hX⟩ : ∃ X : Ctx, X = { w0 := wz, R0 := R, B := R, n := 43 } := ⟨_, rfl⟩
 rw [← hX] at hst0
 have hXn : X.n = 43 := by rw [hX]
 have hXk : X.keep = [] := by rw [hX]
 have hXg : X.ng = 0 := by rw [hX]
 suffices hS : SemI Tryz.prog none n X [] b52 ⟨envOf [.func (.yield l) #[] #[], .pointer (some ⟨b0, 0, none⟩), .pointer (some ⟨b1, 0, none⟩), .pointer (some ⟨b2, 0, none⟩)], [], R⟩ Q by
  exact hS _ _ _ _ hst0
 show SemI Tryz.prog none n X [] (.seq (cL b52) (.seq (cL (cR b52)) (.block 0 (.loop b52L)))) _ Q
 refine sem_seq mix hXk (by rw [hXn]; exact b52A) ?_
 rw [hXg]
 simp only [go_sem, ↓reduceIte, nQ1, nQ2, nQ3, nQ4, nQ5, nQ6, reduceCtorEq, vL, vR, vc52]
 refine vload (.int .i64 f) r0 ?_
 try simp only [go_sem, ↓reduceIte, nQ1, nQ2, nQ3, nQ4, nQ5, nQ6, reduceCtorEq, iQ1, iQ2, iQ3, iQ4, iQ5, iQ6]
 refine vload (.int .i64 wf) r2 ?_
 try simp only [go_sem, ↓reduceIte, nQ1, nQ2, nQ3, nQ4, nQ5, nQ6, reduceCtorEq, iQ1, iQ2, iQ3, iQ4, iQ5, iQ6]
 refine vload (.int .i64 t) r1 ?_
 try simp only [go_sem, ↓reduceIte, nQ1, nQ2, nQ3, nQ4, nQ5, nQ6, reduceCtorEq, iQ1, iQ2, iQ3, iQ4, iQ5, iQ6]
 refine vload (.int .i64 wt) r3 ?_
 try simp only [go_sem, ↓reduceIte, nQ1, nQ2, nQ3, nQ4, nQ5, nQ6, reduceCtorEq, iQ1, iQ2, iQ3, iQ4, iQ5, iQ6]
 refine sem_seq mix hXk (by rw [hXn]; exact b52B) ?_
 rw [hXg]
 simp only [go_sem, ↓reduceIte, nQ1, nQ2, nQ3, nQ4, nQ5, nQ6, reduceCtorEq, vL, vR, vc52]
 refine vload (.int .i64 wf) r2 ?_
 try simp only [go_sem, ↓reduceIte, nQ1, nQ2, nQ3, nQ4, nQ5, nQ6, reduceCtorEq, iQ1, iQ2, iQ3, iQ4, iQ5, iQ6]
 refine ⟨_, W.in64 (by omega), vload (.int .i64 c) r4 ?_⟩
 try simp only [go_sem, ↓reduceIte, nQ1, nQ2, nQ3, nQ4, nQ5, nQ6, reduceCtorEq, iQ1, iQ2, iQ3, iQ4, iQ5, iQ6]
 have hcp : 0 < c := by omega
 have hdv : (max f wf - wf).tdiv c = (max f wf - wf) / c := Int.tdiv_eq_ediv_of_nonneg (by omega)
 obtain ⟨a0, ha0⟩ : ∃ a0, a0 = (max f wf - wf) / c := ⟨_, rfl⟩
 rw [hdv, ← ha0]
 rw [← ha0] at hiff hY
 have ha0b : 0 ≤ a0 ∧ a0 ≤ 9007199254740992 := by rw [ha0]; rcases hc with rfl | rfl | rfl <;> omega
 have hmb : ∀ k : Nat, k < m → (a0 + k) * c ≤ 9007199254740992 ∧ a0 + k ≤ 9007199254740992 := fun k hk => by
  have := ((hiff k).2 hk).2
  rcases hc with rfl | rfl | rfl <;> omega
 have hmb' : ∀ k : Nat, k ≤ m → (a0 + k) * c ≤ 9007199254740992 + 1440 ∧ a0 + k ≤ 9007199254740992 + 1 := fun k hk => by
  rcases Nat.eq_zero_or_pos k with rfl | hp
  ·have h1 : a0 * c ≤ max f wf - wf := by rw [ha0]; rcases hc with rfl | rfl | rfl <;> omega
   rw [show ((0 : Nat) : Int) = 0 from rfl, Int.add_zero]
   omega
  ·have := hmb (k - 1) (by omega)
   rcases hc with rfl | rfl | rfl <;> omega
 refine ⟨by omega, _, W.in64 (by omega), ?_⟩
 refine sem_block ?_
 obtain ⟨Q6, hQ6⟩ : ∃ Q6, Q6 = Exit.inBlock 0 Q := ⟨_, rfl⟩
 rw [← hQ6]
 have hle : RO.le R R := RO.le_refl _
 refine iter_loop (N := 43) (R := R) (D := []) Nat (fun k env W => k ≤ m ∧ J k W ∧ ItOK R R wz W ∧ env 0 = .val (.func (.yield l) #[] #[]) ∧ env 2 = .val (.pointer (some ⟨b1, 0, none⟩)) ∧ env 3 = .val (.pointer (some ⟨b2, 0, none⟩)) ∧ env 5 = .val (.int .i64 (max f wf)) ∧ env 6 = .val (.int .i64 (min t wt)) ∧ env 7 = .val (.int .i64 (a0 + k))) (fun k => m - k) 0 ?_ ?_ rfl ?_
 ·have hok : ItOK R R wz wz := ⟨Nat.le_refl _, fun a v ha => ⟨hR a v ha, .inl ha⟩⟩
  refine ⟨Nat.zero_le _, by rw [hX]; exact hJ0, by rw [hX]; exact hok, rfl, rfl, rfl, rfl, rfl, ?_⟩
  rw [show ((0 : Nat) : Int) = 0 from rfl, Int.add_zero]
  rfl
 ·rw [hX]
 rintro k env Wk ⟨hk, hJ, hok, f0, f2, f3, f5, f6, f7⟩
 obtain ⟨Q7, hQ7⟩ : ∃ Q7, Q7 = Exit.then (fun a' w' => ∃ y' β κ env' tm W', a' = (⟨tm, []⟩ : Act) ∧ m - y' < m - k ∧ Rel { w0 := W', R0 := R, B := R, n := 43 } β κ ⟨env', [], R⟩ tm w' ∧ (y' ≤ m ∧ J y' W' ∧ ItOK R R wz W' ∧ env' 0 = .val (.func (.yield l) #[] #[]) ∧ env' 2 = .val (.pointer (some ⟨b1, 0, none⟩)) ∧ env' 3 = .val (.pointer (some ⟨b2, 0, none⟩)) ∧ env' 5 = .val (.int .i64 (max f wf)) ∧ env' 6 = .val (.int .i64 (min t wt)) ∧ env' 7 = .val (.int .i64 (a0 + y')))) Q6 := ⟨_, rfl⟩
 rw [← hQ7]
 show SemI _ none n _ [] (.seq (cL b52L) (.seq (.block 1 (.seq (cL (cL (cL (cR b52L)))) (.cond (.tmp 42) .ret .skip))) (cR (cR b52L)))) _ _
 refine sem_seq mix rfl b52C ?_
 have hend : k = m → ∀ s', SemE { w0 := Wk, R0 := R, B := R, n := 43 } [] 0 s' Q7 := fun hkm s' => by
  intro β κ tm w2 hr
  rw [hQ7]
  show Q6 (.exit 0) _ _
  rw [hQ6]
  show Q .normal _ _
  subst hQ
  exact ⟨rfl, _, results_run (us := []) rfl, ⟨_, rfl⟩, hkm ▸ hst _ _ _ hJ hr.below.below⟩
 have hq := hmb' k hk
 have hq0 : 0 ≤ (a0 + k) * c := Int.mul_nonneg (by omega) (by omega)
 by_cases hft : max f wf < min t wt
 ·simp only [go_sem, ↓reduceIte, nQ1, nQ2, nQ3, nQ4, nQ5, nQ6, reduceCtorEq, vL, vR, v52L, vc52, f0, f2, f3, f5, f6, f7, decide_eq_true hft]
  refine vload (.int .i64 c) r4 ?_
  try simp only [go_sem, ↓reduceIte, nQ1, nQ2, nQ3, nQ4, nQ5, nQ6, reduceCtorEq, iQ1, iQ2, iQ3, iQ4, iQ5, iQ6]
  refine ⟨_, W.in64 (by omega), ?_⟩
  try simp only [go_sem, ↓reduceIte, nQ1, nQ2, nQ3, nQ4, nQ5, nQ6, reduceCtorEq, iQ1, iQ2, iQ3, iQ4, iQ5, iQ6, f0, f2, f3, f5, f6, f7]
  refine vload (.int .i64 wf) r2 ?_
  try simp only [go_sem, ↓reduceIte, nQ1, nQ2, nQ3, nQ4, nQ5, nQ6, reduceCtorEq, iQ1, iQ2, iQ3, iQ4, iQ5, iQ6, f0, f2, f3, f5, f6, f7]
  refine ⟨_, W.in64 (by omega), ?_⟩
  try simp only [go_sem, ↓reduceIte, nQ1, nQ2, nQ3, nQ4, nQ5, nQ6, reduceCtorEq, iQ1, iQ2, iQ3, iQ4, iQ5, iQ6, f0, f2, f3, f5, f6, f7]
  refine ⟨fun h1 => ?_, fun h1 => ?_⟩
  ·have hkm : k < m := (hiff k).1 ⟨hft, h1⟩
   have hqm := hmb k hkm
   rw [ops52_eq]
   refine sem_seqS ?_
   refine sem_block ?_
   refine sem_seqS ?_
   refine sem_yield (l := l) (N := 43) rfl [0, 1] 2 [3] ops52_sp ops52_nd ops52_c1 ops52_c2 ops52_y (by decide) ?_
   simp only [go_sem, ↓reduceIte, nQ1, nQ2, nQ3, nQ4, nQ5, nQ6, reduceCtorEq, vL, vR, v52L, vc52, vOps, List.take, List.drop, f0, f2, f3, f5, f6, f7]
   refine ⟨_, rfl, fun w1 hk1 hf1 => ?_⟩
   have hJ1 := hst k Wk w1 hJ hk1.below
   have hok1 := hok.ext hk1.below
   obtain ⟨gf, tmps, asg, bd, hrun, hround⟩ := hY k w1 R (.int .i64 (a0 + k)) hkm hJ1 hok1.1 hle hok1.2 rfl
   refine ⟨gf, tmps, asg, bd, hrun, RoundIn.mono hround ?_⟩
   rintro e W' ⟨rfl, hJ2, hsz, hbl⟩
   refine ⟨rfl, fun u x hu => by rw [World.cell?_of_block (hbl u x hu)]; exact (hok1.2 u x hu).1, ?_⟩
   have hok2 := hok1.next hsz hbl
   intro β κ tm w2 hr
   refine sem_cond (t := false) ?_ (fun e => by cases e) (fun _ => ?_) β κ tm w2 hr
   ·simp only [go_sem, ↓reduceIte, nQ1, nQ2, nQ3, nQ4, nQ5, nQ6, reduceCtorEq, f0, f3]
   refine sem_skip ?_
   intro β κ tm w2 hr
   refine sem_vc mix rfl b52D ?_ β κ tm w2 hr
   simp only [go_sem, ↓reduceIte, nQ1, nQ2, nQ3, nQ4, nQ5, nQ6, reduceCtorEq, vL, vR, v52L, vc52, f0, f2, f3, f5, f6, f7]
   refine ⟨_, W.in64 (by omega), ?_⟩
   intro β κ tm w3 hr
   rw [hQ7]
   refine ⟨k + 1, β, κ, _, tm, W', rfl, by omega, hr, by omega, hJ2, hok2, ?_, ?_, ?_, ?_, ?_, ?_⟩
   all_goals simp only [go_sem, ↓reduceIte, nQ1, nQ2, nQ3, nQ4, nQ5, nQ6, reduceCtorEq, f0, f2, f3, f5, f6, f7]
   rw [show ((k + 1 : Nat) : Int) = k + 1 by omega, Int.add_assoc]
  ·have hkm : k = m := by
    rcases Nat.lt_or_ge k m with h | h
    ·exact absurd ((hiff k).2 h).2 h1
    ·omega
   exact hend hkm _
 ·simp only [go_sem, ↓reduceIte, nQ1, nQ2, nQ3, nQ4, nQ5, nQ6, reduceCtorEq, vL, vR, v52L, vc52, f0, f2, f3, f5, f6, f7, decide_eq_false hft]
  have hkm : k = m := by
   rcases Nat.lt_or_ge k m with h | h
   ·exact absurd ((hiff k).2 h).1 hft
   ·omega
  exact hend hkm _
end Go.Proofs.YtdglpgepgmdbdaaGreatDoor
namespace Go.Proofs.YtdglpgepgmdbdaaGreatDoor
set_option linter.unusedSectionVars false
variable [Go.Proofs.YtdglpgepgmdbdaaGreatDoor.Vc.Drew]
set_option linter.unusedSimpArgs false
set_option linter.unusedVariables false
open Go.Proofs.YtdglpgepgmdbdaaGreatDoor.Vc Go.RowKit
def orAt (c : List Int) (a j : Nat) (b : Int) : List Int := (List.range c.length).map fun i => if a ≤ i ∧ i < a + j then bits .or .i64 (c.getD i 0) b else c.getD i 0
theorem orAt_len (c : List Int) (a j : Nat) (b : Int) : (orAt c a j b).length = c.length := by simp [orAt]
theorem orAt_getD {c : List Int} {a j : Nat} {b : Int} {i : Nat} (hi : i < c.length) : (orAt c a j b).getD i 0 = if a ≤ i ∧ i < a + j then bits .or .i64 (c.getD i 0) b else c.getD i 0 := by
 unfold orAt
 rw [List.getD_eq_getElem?_getD, List.getElem?_map, List.getElem?_range hi]
 rfl
theorem list_getD_ext {l m : List Int} (h : l.length = m.length) (hg : ∀ i, i < l.length → l.getD i 0 = m.getD i 0) : l = m := by
 apply List.ext_getElem h
 intro i h1 h2
 have := hg i h1
 rwa [List.getD_eq_getElem?_getD, List.getD_eq_getElem?_getD, List.getElem?_eq_getElem h1, List.getElem?_eq_getElem h2] at this
theorem orAt_zero (c : List Int) (a : Nat) (b : Int) : orAt c a 0 b = c := list_getD_ext (orAt_len _ _ _ _) fun i hi => by
 rw [orAt_len] at hi
 rw [orAt_getD hi, if_neg (by omega)]
theorem orAt_succ (c : List Int) (a j : Nat) (b : Int) (h : a + j < c.length) : (orAt c a j b).set (a + j) (bits .or .i64 ((orAt c a j b).getD (a + j) 0) b) = orAt c a (j + 1) b := list_getD_ext (by rw [List.length_set, orAt_len, orAt_len]) fun i hi => by
 rw [List.length_set, orAt_len] at hi
 rw [orAt_getD hi, orAt_getD h, if_neg (by omega)]
 rw [List.getD_eq_getElem?_getD, List.getElem?_set]
 by_cases e : a + j = i
 ·subst e
  rw [if_pos rfl, if_pos (by rw [orAt_len]; omega), if_pos (by omega)]
  rfl
 ·rw [if_neg e, ← List.getD_eq_getElem?_getD, orAt_getD hi]
  by_cases h1 : a ≤ i ∧ i < a + j
  ·rw [if_pos h1, if_pos (by omega)]
  ·rw [if_neg h1, if_neg (by omega)]
theorem viewC_getD (l : List Mk) (k : Int) (w : Sp) {i : Nat} (hi : i < ((w.t - w.f) / sizeI k).toNat) : (viewC l k w).getD i 0 = cellV l k (w.f + i * sizeI k) (sizeI k) := by
 unfold viewC
 rw [List.getD_eq_getElem?_getD, List.getElem?_map, List.getElem?_range hi]
 rfl
theorem viewC_length (l : List Mk) (k : Int) (w : Sp) : (viewC l k w).length = ((w.t - w.f) / sizeI k).toNat := by simp [viewC]
theorem viewC_nil (k : Int) (w : Sp) : viewC [] k w = List.replicate ((w.t - w.f) / sizeI k).toNat 0 := list_getD_ext (by rw [viewC_length, List.length_replicate]) fun i hi => by
 rw [viewC_length] at hi
 rw [viewC_getD _ _ _ hi, cellV_nil, List.getD_eq_getElem?_getD, List.getElem?_replicate, if_pos hi]
 rfl
theorem sizeI_three (k : Int) : sizeI k = 1440 ∨ sizeI k = 30 ∨ sizeI k = 1 := sizeI_cases k
theorem viewC_snoc (l : List Mk) (m : Mk) (k : Int) (w : Sp) (hw : OkW k w) (h0 : 0 ≤ w.f) (hm : okMk m) : viewC (l ++ [m]) k w = orAt (viewC l k w) ((max m.f w.f - w.f) / sizeI k).toNat (nT m.f m.t w.f w.t (sizeI k)) (bitOf k m) := list_getD_ext (by rw [viewC_length, orAt_len, viewC_length]) fun i hi => by
 rw [viewC_length] at hi
 obtain ⟨_, hft, _, hk1, hk8⟩ := hm
 have hs := sizeI_three k
 have hsp := sizeI_pos k
 rw [viewC_getD _ _ _ hi, orAt_getD (by rw [viewC_length]; exact hi), viewC_getD _ _ _ hi, cellV_snoc _ _ _ _ _ ⟨hk1, hk8⟩]
 have hali := alignedB_iff.1 hw.ali
 have hb : w.f + i * sizeI k < w.t := by
  have h1 := hali.1
  have h2 := hali.2
  rcases hs with e | e | e <;> rw [e] at h1 h2 hi ⊢ <;> omega
 have ht := touched_iff hw hft (i := i) (by omega) hb
 have ha : 0 ≤ (max m.f w.f - w.f) / sizeI k := by rcases hs with e | e | e <;> rw [e] <;> omega
 have key : (((max m.f w.f - w.f) / sizeI k).toNat ≤ i ∧ i < ((max m.f w.f - w.f) / sizeI k).toNat + nT m.f m.t w.f w.t (sizeI k)) ↔ hits (w.f + i * sizeI k) (sizeI k) m = true := by
  rw [← ht]
  constructor
  ·rintro ⟨g1, g2⟩
   have := (nT_iff (f := m.f) (t := m.t) (wf := w.f) (wt := w.t) hs (i - ((max m.f w.f - w.f) / sizeI k).toNat)).2 (by omega)
   obtain ⟨g3, g4⟩ := this
   refine ⟨g3, by omega, ?_⟩
   rwa [show (max m.f w.f - w.f) / sizeI k + ((i - ((max m.f w.f - w.f) / sizeI k).toNat : Nat) : Int) = i by omega] at g4
  ·rintro ⟨g1, g2, g3⟩
   have := (nT_iff (f := m.f) (t := m.t) (wf := w.f) (wt := w.t) hs (i - ((max m.f w.f - w.f) / sizeI k).toNat)).1 ⟨g1, by rwa [show (max m.f w.f - w.f) / sizeI k + ((i - ((max m.f w.f - w.f) / sizeI k).toNat : Nat) : Int) = i by omega]⟩
   omega
 by_cases h : hits (w.f + i * sizeI k) (sizeI k) m = true
 ·rw [if_pos h, if_pos (key.2 h)]
 ·rw [if_neg h, if_neg (fun e => h (key.1 e))]
theorem semM_frzB {P : Program} {n : Nat} {X : Ctx} {s : St} {rs : List Nat} {c : Code} {Q : Exit → Act → World → Prop} (j : Nat) (vs : List Value) (hj : s.blk[j]? = some (.box (vs.map .val)))
  (h : ∀ b R', RO.le s.R R' → RowIn R' b vs → SemM P n X rs c (frzB s j b R') Q) : SemM P n X rs c s Q := fun β κ tm w hr hm => by
 obtain ⟨R', h1, h2, h3⟩ := hr.frzB hj vs (fun i v hv => hr.boxCell hj (by rw [List.getElem?_map, hv]; rfl))
 exact h (β j) R' h1 h2 β κ tm w h3 hm
def i64s (l : List Int) : List Value := l.map fun x => .int .i64 x
theorem i64s_len (l : List Int) : (i64s l).length = l.length := by unfold i64s; rw [List.length_map]
theorem i64s_get {l : List Int} {i : Nat} (h : i < l.length) : (i64s l)[i]? = some (.int .i64 (l.getD i 0)) := by unfold i64s; rw [List.getElem?_map, List.getElem?_eq_getElem h, List.getD_eq_getElem?_getD, List.getElem?_eq_getElem h]; rfl
theorem i64s_set (l : List Int) (i : Nat) (r : Int) : (i64s l).set i (.int .i64 r) = i64s (l.set i r) := by unfold i64s; rw [List.map_set]
noncomputable def b11 : Code := Tryz.f11.body.getD .skip
noncomputable def c11_L : Code := (cL b11)
def v11_L : VCode := (.ops [⟨(some 5), none, (.box (.tmp 2))⟩, ⟨(some 6), none, (.mov (.const (.slice none 0 0)))⟩, ⟨(some 7), none, (.mov (.const (.int .i64 0)))⟩])
theorem k11_L : comp Tryz.prog 57 c11_L = some v11_L := by kernel_rfl
noncomputable def c11_RL : Code := (cL (cR b11))
def v11_RL : VCode := (.seq (.ops [⟨(some 15), none, (.mov (.tmp 0))⟩, ⟨(some 16), none, (.call true 26 [(.tmp 15)])⟩, ⟨(some 17), none, (.un .not (.tmp 16))⟩]) (.cond (.tmp 17) (.seq (.ops [⟨(some 6), none, (.mov (.const (.slice none 0 0)))⟩, ⟨(some 7), none, (.mov (.const (.int .i64 1)))⟩]) .ret) .skip))
theorem k11_RL : comp Tryz.prog 57 c11_RL = some v11_RL := by kernel_rfl
noncomputable def c11_RRL : Code := (cL (cR (cR b11)))
def v11_RRL : VCode := (.ops [⟨(some 19), none, (.mov (.tmp 1))⟩, ⟨(some 20), none, (.load (some 2) (.tmp 5))⟩, ⟨(some 21), none, (.call true 27 [(.tmp 19), (.tmp 20)])⟩, ⟨(some 18), none, (.mov (.tmp 21))⟩, ⟨(some 22), none, (.extr (.tmp 18) 0)⟩, ⟨(some 23), none, (.extr (.tmp 18) 1)⟩, ⟨(some 8), none, (.mov (.tmp 22))⟩, ⟨(some 9), none, (.mov (.tmp 23))⟩])
theorem k11_RRL : comp Tryz.prog 57 c11_RRL = some v11_RRL := by kernel_rfl
noncomputable def c11_RRRL : Code := (cL (cR (cR (cR b11))))
def v11_RRRL : VCode := (.seq (.ops [⟨(some 24), none, (.mov (.tmp 9))⟩, ⟨(some 25), none, (.bin .neq (.tmp 24) (.const (.int .i64 0)))⟩]) (.cond (.tmp 25) (.seq (.ops [⟨(some 26), none, (.mov (.tmp 9))⟩, ⟨(some 6), none, (.mov (.const (.slice none 0 0)))⟩, ⟨(some 7), none, (.mov (.tmp 26))⟩]) .ret) .skip))
theorem k11_RRRL : comp Tryz.prog 57 c11_RRRL = some v11_RRRL := by kernel_rfl
noncomputable def c11_RRRRL : Code := (cL (cR (cR (cR (cR b11)))))
def v11_RRRRL : VCode := (.ops [⟨(some 27), none, (.mov (.tmp 8))⟩, ⟨(some 28), none, (.mkslice 3 1 8 [(.int .i64 0)] (.tmp 27) (.tmp 27))⟩, ⟨(some 10), none, (.alloc [(.slice none 0 0)])⟩, ⟨none, none, (.store 1 (.tmp 10) (.tmp 28))⟩])
theorem k11_RRRRL : comp Tryz.prog 57 c11_RRRRL = some v11_RRRRL := by kernel_rfl
noncomputable def c11_RRRRRLL : Code := (cL (cL (cR (cR (cR (cR (cR b11)))))))
def v11_RRRRRLL : VCode := (.ops [⟨(some 29), none, (.mov (.tmp 0))⟩, ⟨(some 30), none, (.len (.tmp 29))⟩, ⟨(some 31), none, (.mov (.const (.int .i64 0)))⟩])
theorem k11_RRRRRLL : comp Tryz.prog 57 c11_RRRRRLL = some v11_RRRRRLL := by kernel_rfl
noncomputable def c11_RRRRRLRblL : Code := (cL (cL (cL (cR (cL (cR (cR (cR (cR (cR b11))))))))))
def v11_RRRRRLRblL : VCode := (.ops [⟨(some 32), none, (.bin .lss (.tmp 31) (.tmp 30))⟩])
theorem k11_RRRRRLRblL : comp Tryz.prog 57 c11_RRRRRLRblL = some v11_RRRRRLRblL := by kernel_rfl
noncomputable def c11_RRRRRLRblRL : Code := (cL (cR (cL (cL (cR (cL (cR (cR (cR (cR (cR b11)))))))))))
def v11_RRRRRLRblRL : VCode := (.cond (.tmp 32) .skip (.exit 0))
theorem k11_RRRRRLRblRL : comp Tryz.prog 57 c11_RRRRRLRblRL = some v11_RRRRRLRblRL := by kernel_rfl
noncomputable def c11_RRRRRLRblRRLbL : Code := (cL (cL (cL (cR (cR (cL (cL (cR (cL (cR (cR (cR (cR (cR b11))))))))))))))
def v11_RRRRRLRblRRLbL : VCode := (.ops [⟨(some 33), none, (.iaddr (.tmp 29) (.tmp 31) 3)⟩, ⟨(some 34), none, (.load (some 3) (.tmp 33))⟩, ⟨(some 12), none, (.alloc [(.int .i64 0), (.int .i64 0), (.int .i64 0)])⟩, ⟨none, none, (.store 3 (.tmp 12) (.tmp 34))⟩])
theorem k11_RRRRRLRblRRLbL : comp Tryz.prog 57 c11_RRRRRLRblRRLbL = some v11_RRRRRLRblRRLbL := by kernel_rfl
noncomputable def c11_RRRRRLRblRRLbRL : Code := (cL (cR (cL (cL (cR (cR (cL (cL (cR (cL (cR (cR (cR (cR (cR b11)))))))))))))))
def v11_RRRRRLRblRRLbRL : VCode := (.ops [⟨(some 13), none, (.alloc [(.int .i64 0)])⟩, ⟨none, none, (.store 1 (.tmp 13) (.const (.int .i64 1)))⟩])
theorem k11_RRRRRLRblRRLbRL : comp Tryz.prog 57 c11_RRRRRLRblRRLbRL = some v11_RRRRRLRblRRLbRL := by kernel_rfl
noncomputable def c11_RRRRRLRblRRLbRRL : Code := (cL (cR (cR (cL (cL (cR (cR (cL (cL (cR (cL (cR (cR (cR (cR (cR b11))))))))))))))))
def v11_RRRRRLRblRRLbRRL : VCode := (.seq (.ops [⟨(some 35), none, (.mov (.tmp 1))⟩, ⟨(some 36), none, (.bin .geq (.tmp 35) (.const (.int .i64 3)))⟩]) (.cond (.tmp 36) (.ops [⟨(some 37), none, (.faddr (.tmp 12) 2)⟩, ⟨(some 38), none, (.load none (.tmp 37))⟩, ⟨(some 39), none, (.bin .sub (.tmp 38) (.const (.int .i64 1)))⟩, ⟨(some 40), none, (.shift true (.const (.int .i64 1)) (.tmp 39))⟩, ⟨none, none, (.store 1 (.tmp 13) (.tmp 40))⟩]) .skip))
theorem k11_RRRRRLRblRRLbRRL : comp Tryz.prog 57 c11_RRRRRLRblRRLbRRL = some v11_RRRRRLRblRRLbRRL := by kernel_rfl
noncomputable def c11_RRRRRLRblRRLbRRRL : Code := (cL (cR (cR (cR (cL (cL (cR (cR (cL (cL (cR (cL (cR (cR (cR (cR (cR b11)))))))))))))))))
def v11_RRRRRLRblRRLbRRRL : VCode := (.ops [⟨(some 41), none, (.faddr (.tmp 12) 0)⟩, ⟨(some 42), none, (.load (some 2) (.tmp 41))⟩, ⟨(some 43), none, (.load (some 2) (.tmp 5))⟩, ⟨(some 44), none, (.mov (.tmp 1))⟩, ⟨(some 45), none, (.call false 29 [(.tmp 44)])⟩, ⟨(some 46), none, (.call false 28 [(.tmp 42), (.tmp 43), (.tmp 45)])⟩])
theorem k11_RRRRRLRblRRLbRRRL : comp Tryz.prog 57 c11_RRRRRLRblRRLbRRRL = some v11_RRRRRLRblRRLbRRRL := by kernel_rfl
noncomputable def c11_RRRRRLRblRRLbRRRRbA : Code := (cA (cL (cR (cR (cR (cR (cL (cL (cR (cR (cL (cL (cR (cL (cR (cR (cR (cR (cR b11)))))))))))))))))))
def v11_RRRRRLRblRRLbRRRRbA : VCode := (.ops [⟨(some 14), none, (.mov (.tmp 47))⟩])
theorem k11_RRRRRLRblRRLbRRRRbA : comp Tryz.prog 57 c11_RRRRRLRblRRLbRRRRbA = some v11_RRRRRLRblRRLbRRRRbA := by kernel_rfl
noncomputable def c11_RRRRRLRblRRLbRRRRbB : Code := (cB (cL (cR (cR (cR (cR (cL (cL (cR (cR (cL (cL (cR (cL (cR (cR (cR (cR (cR b11)))))))))))))))))))
def v11_RRRRRLRblRRLbRRRRbB : VCode := (.block 3 (.ops [⟨(some 48), none, (.load none (.tmp 10))⟩, ⟨(some 49), none, (.mov (.tmp 14))⟩, ⟨(some 50), none, (.iaddr (.tmp 48) (.tmp 49) 1)⟩, ⟨(some 51), none, (.load none (.tmp 50))⟩, ⟨(some 52), none, (.load none (.tmp 13))⟩, ⟨(some 53), none, (.bin .or (.tmp 51) (.tmp 52))⟩, ⟨(some 54), none, (.iaddr (.tmp 48) (.tmp 49) 1)⟩, ⟨none, none, (.store 1 (.tmp 54) (.tmp 53))⟩]))
theorem k11_RRRRRLRblRRLbRRRRbB : comp Tryz.prog 57 c11_RRRRRLRblRRLbRRRRbB = some v11_RRRRRLRblRRLbRRRRbB := by kernel_rfl
noncomputable def c11_RRRRRLRblRRR : Code := (cR (cR (cR (cL (cL (cR (cL (cR (cR (cR (cR (cR b11))))))))))))
def v11_RRRRRLRblRRR : VCode := (.ops [⟨(some 55), none, (.bin .add (.tmp 31) (.const (.int .i64 1)))⟩, ⟨(some 31), none, (.mov (.tmp 55))⟩])
theorem k11_RRRRRLRblRRR : comp Tryz.prog 57 c11_RRRRRLRblRRR = some v11_RRRRRLRblRRR := by kernel_rfl
noncomputable def c11_RRRRRR : Code := (cR (cR (cR (cR (cR (cR b11))))))
def v11_RRRRRR : VCode := (.seq (.ops [⟨(some 56), none, (.load none (.tmp 10))⟩, ⟨(some 6), none, (.mov (.tmp 56))⟩, ⟨(some 7), none, (.mov (.const (.int .i64 0)))⟩]) .ret)
theorem k11_RRRRRR : comp Tryz.prog 57 c11_RRRRRR = some v11_RRRRRR := by kernel_rfl
theorem b11_eq : b11 = (.seq c11_L (.seq c11_RL (.seq c11_RRL (.seq c11_RRRL (.seq c11_RRRRL (.seq (.seq c11_RRRRRLL (.block 0 (.loop (.seq c11_RRRRRLRblL (.seq c11_RRRRRLRblRL (.seq (.block 1 (.seq c11_RRRRRLRblRRLbL (.seq c11_RRRRRLRblRRLbRL (.seq c11_RRRRRLRblRRLbRRL (.seq c11_RRRRRLRblRRLbRRRL (.block 2 (.rangeFunc (.tmp 46) #[47] c11_RRRRRLRblRRLbRRRRbA c11_RRRRRLRblRRLbRRRRbB))))))) c11_RRRRRLRblRRR)))))) c11_RRRRRR)))))) := by kernel_rfl
def DV (w : Sp) (n : Nat) (ci : List Int) (m : Mk) (bit : Int) : List Blk := [.box [.val (.int .i64 w.f), .val (.int .i64 w.t)], .row 3 1 (i64s ci), .box [.sl 1 n], .box [.val (.int .i64 m.f), .val (.int .i64 m.t), .val (.int .i64 m.kind)], .box [.val (.int .i64 bit)], .dead, .dead, .dead]
set_option maxHeartbeats 4000000 in
theorem view_range (k : Int) (w : Sp) (m : Mk) (hk : 1 ≤ k ∧ k ≤ 4) (hw : OkW k w) (h0 : 0 ≤ w.f) (hm : okMk m) (bit : Int) (hbit : 0 ≤ bit ∧ bit ≤ 256) (c0 : List Int) (n : Nat) (hn : n = ((w.t - w.f) / sizeI k).toNat) (hc0 : c0.length = n) (hn6 : n ≤ 65536)
  (b0 b1 b2 : Nat) (R : RO) (r0 : R ⟨b0, 0, none⟩ (.int .i64 m.f)) (r1 : R ⟨b0, 1, none⟩ (.int .i64 m.t)) (r2 : R ⟨b1, 0, none⟩ (.int .i64 w.f)) (r3 : R ⟨b1, 1, none⟩ (.int .i64 w.t)) (r4 : R ⟨b2, 0, none⟩ (.int .i64 (sizeI k)))
  {X : Ctx} (hXn : X.n = 57) (hXk : X.keep = []) (rs : List Nat) (env : Nat → SV) (e46 : env 46 = .fn 52 [.v (.pointer (some ⟨b0, 0, none⟩)), .v (.pointer (some ⟨b1, 0, none⟩)), .v (.pointer (some ⟨b2, 0, none⟩))]) (e10 : env 10 = .loc 2 0) (e13 : env 13 = .loc 4 0)
  {Q : Exit → Act → World → Prop} (hQ : ∀ D, SemMX X (D :: rs) .normal ⟨env, DV w n (orAt c0 ((max m.f w.f - w.f) / sizeI k).toNat (nT m.f m.t w.f w.t (sizeI k)) bit) m bit, R⟩ Q) :
  SemM Tryz.prog 0 X rs (.rangeFunc (.tmp 46) #[47] c11_RRRRRLRblRRLbRRRRbA c11_RRRRRLRblRRLbRRRRbB) ⟨env, DV w n c0 m bit, R⟩ Q := by
 obtain ⟨g1, g2, g3, g4, g5⟩ := hm
 have hlo := hw.lo
 have hhi := hw.hi
 have hp := hw.pos
 have hs := sizeI_three k
 have hsp := sizeI_pos k
 have hali := alignedB_iff.1 hw.ali
 have ha : 0 ≤ (max m.f w.f - w.f) / sizeI k := by rcases hs with e | e | e <;> rw [e] <;> omega
 obtain ⟨a, hae⟩ : ∃ a, a = ((max m.f w.f - w.f) / sizeI k).toNat := ⟨_, rfl⟩
 obtain ⟨q, hq⟩ : ∃ q, q = nT m.f m.t w.f w.t (sizeI k) := ⟨_, rfl⟩
 have hlt : ∀ j, j < q → a + j < n := fun j hj => by
  rw [hq] at hj
  have := ((nT_iff (f := m.f) (t := m.t) (wf := w.f) (wt := w.t) hs j).2 hj).2
  have h1 := hali.1
  have h2 := hali.2
  rw [hae, hn]
  rcases hs with e | e | e <;> rw [e] at this h1 h2 ha ⊢ <;> omega
 have hae' : (max m.f w.f - w.f) / sizeI k = (a : Int) := by omega
 have hIt := itTouched m.f m.t w.f w.t (sizeI k) hs (by omega) (by omega) (by omega) (by omega) b0 b1 b2 R r0 r1 r2 r3 r4
 rw [hae', ← hq] at hIt
 rw [← hae, ← hq] at hQ
 refine semM_range mix (vs := [.pointer (some ⟨b0, 0, none⟩), .pointer (some ⟨b1, 0, none⟩), .pointer (some ⟨b2, 0, none⟩)]) (El := fun j _ v => v = .int .i64 (a + j)) (fun j bl => bl = DV w n (orAt c0 a j bit) m bit) hXk e46 rfl (enters_of Tryz.func52 (by kernel_rfl) rfl) hIt (by rw [hXn]; exact k11_RRRRRLRblRRLbRRRRbA) (by rw [hXn]; exact k11_RRRRRLRblRRLbRRRRbB) (by rw [hXn]; decide) (by rw [orAt_zero]) ?_ ?_ ?_
 ·rintro j bl rfl
  refine ⟨rfl, fun i b hi hl => ?_⟩
  match i, hi with
  | 0, hi => exact ⟨_, rfl, rfl⟩
  | 1, hi => exact ⟨_, rfl, rfl⟩
  | 2, hi => exact ⟨_, rfl, rfl⟩
  | 3, hi => exact ⟨_, rfl, rfl⟩
  | 4, hi => exact ⟨_, rfl, rfl⟩
  | 5, hi => cases hi; cases hl
  | 6, hi => cases hi; cases hl
  | 7, hi => cases hi; cases hl
 ·rintro j bl R' v hj hbl rfl hle rfl
  have hlj := hlt j hj
  simp only [v11_RRRRRLRblRRLbRRRRbA]
  simp only [go_sem, ↓reduceIte, nQ1, nQ2, nQ3, nQ4, nQ5, nQ6, reduceCtorEq, DV, e46, e10, e13]
  refine ⟨⟨rfl, rfl, rfl, rfl, rfl, rfl⟩, ?_⟩
  simp only [v11_RRRRRLRblRRLbRRRRbB]
  have q1 : (i64s (orAt c0 a j bit))[a + j]? = some (.int .i64 ((orAt c0 a j bit).getD (a + j) 0)) := i64s_get (by rw [orAt_len]; omega)
  have hnat : ((a : Int) + j).toNat = a + j := by omega
  try simp only [go_sem, ↓reduceIte, nQ1, nQ2, nQ3, nQ4, nQ5, nQ6, reduceCtorEq, iQ1, iQ2, iQ3, iQ4, iQ5, iQ6, e46, e10, e13, hnat, q1]
  refine ⟨by omega, by omega, by omega, by omega, by rw [i64s_len, orAt_len]; omega, ?_⟩
  rw [i64s_set, orAt_succ _ _ _ _ (by omega)]
  exact ⟨rfl, rfl, rfl⟩
 ·rintro D bl hbl rfl
  exact hQ D
theorem rep_i64s (n : Nat) : repCells [Value.int .i64 0] n = i64s (List.replicate n 0) := by
 unfold i64s
 rw [List.map_replicate]
 induction n with
 | zero => rfl
 | succ n ih => rw [repCells, ih, List.replicate_succ]; rfl
theorem pow_kind {kk : Int} (h : 1 ≤ kk ∧ kk ≤ 8) : (1 : Int) * 2 ^ min (kk - 1).toNat 64 = 2 ^ (kk - 1).toNat ∧ 1 ≤ (2 : Int) ^ (kk - 1).toNat ∧ (2 : Int) ^ (kk - 1).toNat ≤ 128 := by
 have : kk = 1 ∨ kk = 2 ∨ kk = 3 ∨ kk = 4 ∨ kk = 5 ∨ kk = 6 ∨ kk = 7 ∨ kk = 8 := by omega
 rcases this with rfl | rfl | rfl | rfl | rfl | rfl | rfl | rfl <;> decide
theorem bitOf_bd {k : Int} {m : Mk} (h : 1 ≤ m.kind ∧ m.kind ≤ 8) : 0 ≤ bitOf k m ∧ bitOf k m ≤ 256 := by
 have := pow_kind h
 unfold bitOf
 split <;> omega
def CV (w : Sp) (n : Nat) (ci : List Int) : List Blk := [.box [.val (.int .i64 w.f), .val (.int .i64 w.t)], .row 3 1 (i64s ci), .box [.sl 1 n]]
set_option maxHeartbeats 8000000 in
theorem cView (xs : List Mk) (x : Value) (k : Int) (w : Sp) (R : RO) (hx : EncV Mk.cells 3 R x xs) (hok : ∀ m ∈ xs, okMk m) (hk : 1 ≤ k ∧ k ≤ 4) (hw : OkW k w) (h0 : 0 ≤ w.f) (hn6 : (w.t - w.f) / sizeI k ≤ 65536) :
  CallsR Tryz.prog 11 [x, .int .i64 k, .agg w.cells.toArray] R fun R2 r => ∃ y, r = .tuple #[y, .int .i64 0] ∧ Ints R2 y (viewC xs k w) := by
 have hxl := hx.2
 have hV := fun R' (hle : RO.le R R') => cValid xs x R' (hx.mono hle) hok
 have hC := fun R' => cCells k w hk hw h0 hn6 R'
 have hS := fun R' => cSize k hk R'
 obtain ⟨a, cap, rfl, hc, hf⟩ := hx.form
 have hp := hw.pos
 have hsp := sizeI_pos k
 have hq0 : 0 ≤ (w.t - w.f) / sizeI k := Int.ediv_nonneg (by omega) (by omega)
 obtain ⟨n, hn⟩ : ∃ n, n = ((w.t - w.f) / sizeI k).toNat := ⟨_, rfl⟩
 have hnq : (w.t - w.f) / sizeI k = (n : Int) := by omega
 rw [hnq] at hn6
 simp only [hnq] at hC
 simp only [Sp.cells] at hC ⊢
 intro w0 hRw
 refine (callsIn_wide (n := 0)).1 (callsIn_of_wp_marks (F := Fr none) (c := b11) Tryz.func11 rfl trivial ?_ rfl)
 obtain ⟨Q, hQ⟩ : ∃ Q, Q = bodyPostM (Fr none) 0 Tryz.prog Tryz.f11 (fun e w' => ∃ v R', e = .returned v ∧ RO.le R R' ∧ (∀ a v, R' a v → w'.cell? a = some v ∧ (R a v ∨ (w0.heap.size ≤ a.block ∧ Loose w' a.block))) ∧ Ext w0 w' ∧ ∃ y, v = .tuple #[y, .int .i64 0] ∧ Ints R' y (viewC xs k w)) := ⟨_, rfl⟩
 rw [← hQ]
 have hst0 := rel_startR (n := 57) (args := [.slice a xs.length cap, .int .i64 k, .agg #[.int .i64 w.f, .int .i64 w.t]]) (by simp) hRw
 obtain ⟨X, hX⟩ : ∃ X : Ctx, X = { w0 := w0, R0 := R, B := R, n := 57 } := ⟨_, rfl⟩
 rw [← hX] at hst0
 have hXn : X.n = 57 := by rw [hX]
 have hXk : X.keep = [] := by rw [hX]
 have hXg : X.ng = 0 := by rw [hX]
 suffices hSS : SemI Tryz.prog none 0 X [] b11 ⟨envOf [.slice a xs.length cap, .int .i64 k, .agg #[.int .i64 w.f, .int .i64 w.t]], [], R⟩ Q by
  exact hSS _ _ _ _ hst0
 rw [b11_eq]
 refine sem_seq mix hXk (by rw [hXn]; exact k11_L) ?_
 rw [hXg]
 simp only [go_sem, ↓reduceIte, nQ1, nQ2, nQ3, nQ4, nQ5, nQ6, reduceCtorEq, v11_L]
 refine sem_seq mix hXk (by rw [hXn]; exact k11_RL) ?_
 rw [hXg]
 simp only [go_sem, ↓reduceIte, nQ1, nQ2, nQ3, nQ4, nQ5, nQ6, reduceCtorEq, v11_RL]
 refine vcall (hV R (RO.le_refl _)) ?_
 rintro R1 r hle1 rfl
 try simp only [go_sem, ↓reduceIte, nQ1, nQ2, nQ3, nQ4, nQ5, nQ6, reduceCtorEq, iQ1, iQ2, iQ3, iQ4, iQ5, iQ6]
 refine sem_seq mix hXk (by rw [hXn]; exact k11_RRL) ?_
 rw [hXg]
 simp only [go_sem, ↓reduceIte, nQ1, nQ2, nQ3, nQ4, nQ5, nQ6, reduceCtorEq, v11_RRL]
 refine vcall (hC R1) ?_
 rintro R2 r hle2 rfl
 try simp only [go_sem, ↓reduceIte, nQ1, nQ2, nQ3, nQ4, nQ5, nQ6, reduceCtorEq, iQ1, iQ2, iQ3, iQ4, iQ5, iQ6]
 refine sem_seq mix hXk (by rw [hXn]; exact k11_RRRL) ?_
 rw [hXg]
 simp only [go_sem, ↓reduceIte, nQ1, nQ2, nQ3, nQ4, nQ5, nQ6, reduceCtorEq, v11_RRRL]
 refine sem_seq mix hXk (by rw [hXn]; exact k11_RRRRL) ?_
 rw [hXg]
 simp only [go_sem, ↓reduceIte, nQ1, nQ2, nQ3, nQ4, nQ5, nQ6, reduceCtorEq, v11_RRRRL]
 refine ⟨by omega, by omega, ?_⟩
 refine sem_seqS ?_
 refine sem_seq mix hXk (by rw [hXn]; exact k11_RRRRRLL) ?_
 rw [hXg]
 simp only [go_sem, ↓reduceIte, nQ1, nQ2, nQ3, nQ4, nQ5, nQ6, reduceCtorEq, v11_RRRRRLL, rep_i64s]
 have hle12 : RO.le R R2 := RO.le_trans hle1 hle2
 have hle12' := hle12
 refine semM0 ?_
 refine semM_block ?_
 obtain ⟨Q6, hQ6⟩ : ∃ Q6, Q6 = Exit.inBlock 0 (Exit.then (fun a' w' => c11_RRRRRR.wpIn (Fr none) 0 Tryz.prog Q a' w') Q) := ⟨_, rfl⟩
 rw [← hQ6]
 refine semM_loop Nat (fun i => [(31, .val (.int .i64 i)), (29, .val (.slice a xs.length cap)), (30, .val (.int .i64 xs.length)), (1, .val (.int .i64 k)), (5, .loc 0 0), (10, .loc 2 0)]) (fun i => CV w n (viewC (xs.take i) k w)) (fun i _ => i ≤ xs.length) (fun i => xs.length - i) 0 [] ?_ (by rw [hXg]; exact inScope_mk rfl rfl rfl rfl rfl rfl) (Nat.zero_le _) ?_
 ·show Matches [] _ (CV w n (viewC (xs.take 0) k w)) _
  rw [List.take_zero, viewC_nil, ← hn]
  unfold CV
  (try simp only [go_sem, ↓reduceIte, nQ1, nQ2, nQ3, nQ4, nQ5, nQ6, reduceCtorEq]) <;> (repeat' (first | rfl | trivial | constructor | (intro h; exact absurd rfl h)))
  try trivial
 rintro i env R3 rs hle3 hE hi
 obtain ⟨X3, hX3⟩ : ∃ X3 : Ctx, X3 = { X with R0 := R2 } := ⟨_, rfl⟩
 have h3n : X3.n = 57 := by rw [hX3]; exact hXn
 have h3k : X3.keep = [] := by rw [hX3]; exact hXk
 obtain ⟨Q7, hQ7⟩ : ∃ Q7, Q7 = Exit.then (fun a' w' => ∃ β κ s' tm rs', a' = (⟨tm, dsOf rs'⟩ : Act) ∧ Rel X3 β κ s' tm w' ∧ MKs X3 rs' w' ∧ ∃ y' ρ, xs.length - y' < xs.length - i ∧ Matches ρ [(31, .val (.int .i64 y')), (29, .val (.slice a xs.length cap)), (30, .val (.int .i64 xs.length)), (1, .val (.int .i64 k)), (5, .loc 0 0), (10, .loc 2 0)] (CV w n (viewC (xs.take y') k w)) s' ∧ inScope X.ng ρ [(31, .val (.int .i64 y')), (29, .val (.slice a xs.length cap)), (30, .val (.int .i64 xs.length)), (1, .val (.int .i64 k)), (5, .loc 0 0), (10, .loc 2 0)] (CV w n (viewC (xs.take y') k w)) = true ∧ y' ≤ xs.length) Q6 := ⟨_, rfl⟩
 suffices hRound : SemM Tryz.prog 0 X3 rs (.seq c11_RRRRRLRblL (.seq c11_RRRRRLRblRL (.seq (.block 1 (.seq c11_RRRRRLRblRRLbL (.seq c11_RRRRRLRblRRLbRL (.seq c11_RRRRRLRblRRLbRRL (.seq c11_RRRRRLRblRRLbRRRL (.block 2 (.rangeFunc (.tmp 46) #[47] c11_RRRRRLRblRRLbRRRRbA c11_RRRRRLRblRRLbRRRRbB))))))) c11_RRRRRLRblRRR))) ⟨env, CV w n (viewC (xs.take i) k w), R3⟩ Q7 by
  rw [hQ7, hX3] at hRound
  exact hRound
 have e31 : env 31 = .val (.int .i64 i) := hE _ (.head _)
 have e29 : env 29 = .val (.slice a xs.length cap) := hE _ (.tail _ (.head _))
 have e30 : env 30 = .val (.int .i64 xs.length) := hE _ (.tail _ (.tail _ (.head _)))
 have e1 : env 1 = .val (.int .i64 k) := hE _ (.tail _ (.tail _ (.tail _ (.head _))))
 have e5 : env 5 = .loc 0 0 := hE _ (.tail _ (.tail _ (.tail _ (.tail _ (.head _)))))
 have e10 : env 10 = .loc 2 0 := hE _ (.tail _ (.tail _ (.tail _ (.tail _ (.tail _ (.head _))))))
 refine semM_seq mix h3k rfl (by rw [h3n]; exact k11_RRRRRLRblL) ?_
 simp only [go_sem, ↓reduceIte, nQ1, nQ2, nQ3, nQ4, nQ5, nQ6, reduceCtorEq, v11_RRRRRLRblL, CV, e31, e29, e30, e1, e5, e10]
 refine semM_seq mix h3k rfl (by rw [h3n]; exact k11_RRRRRLRblRL) ?_
 simp only [go_sem, ↓reduceIte, nQ1, nQ2, nQ3, nQ4, nQ5, nQ6, reduceCtorEq, v11_RRRRRLRblRL, CV, e31, e29, e30, e1, e5, e10]
 refine ⟨fun hlt => ?_, fun hge => ?_⟩
 ·have hi' : i < xs.length := by omega
  obtain ⟨ad, had, hRf⟩ := hf i hi'
  have hm := hok xs[i] (List.getElem_mem hi')
  have hmo := hm
  obtain ⟨g1, g2, g3, g4, g5⟩ := hmo
  refine semM_seqS (semM_block ?_)
  refine semM_seq mix h3k rfl (by rw [h3n]; exact k11_RRRRRLRblRRLbL) ?_
  simp only [v11_RRRRRLRblRRLbL]
  simp only [go_sem, ↓reduceIte, nQ1, nQ2, nQ3, nQ4, nQ5, nQ6, reduceCtorEq, e31, e29, e30, e1, e5, e10]
  refine ⟨by omega, vat ad had ?_⟩
  try simp only [go_sem, ↓reduceIte, nQ1, nQ2, nQ3, nQ4, nQ5, nQ6, reduceCtorEq]
  refine vloadn (xs[i]).cells rfl (fun j u hj => hle3 _ _ (hle12 _ _ (hRf j u hj))) ?_
  simp only [go_sem, ↓reduceIte, nQ1, nQ2, nQ3, nQ4, nQ5, nQ6, reduceCtorEq, Mk.cells, e31, e29, e30, e1, e5, e10]
  refine semM_seq mix h3k rfl (by rw [h3n]; exact k11_RRRRRLRblRRLbRL) ?_
  simp only [v11_RRRRRLRblRRLbRL]
  simp only [go_sem, ↓reduceIte, nQ1, nQ2, nQ3, nQ4, nQ5, nQ6, reduceCtorEq, e31, e29, e30, e1, e5, e10]
  refine semM_seq mix h3k rfl (by rw [h3n]; exact k11_RRRRRLRblRRLbRRL) ?_
  simp only [v11_RRRRRLRblRRLbRRL]
  refine cutT (fun s' => ∃ env, s' = ⟨env, [.box [.val (.int .i64 w.f), .val (.int .i64 w.t)], .row 3 1 (i64s (viewC (xs.take i) k w)), .box [.sl 1 n], .box [.val (.int .i64 xs[i].f), .val (.int .i64 xs[i].t), .val (.int .i64 xs[i].kind)], .box [.val (.int .i64 (bitOf k xs[i]))]], R3⟩ ∧ env 31 = .val (.int .i64 i) ∧ env 29 = .val (.slice a xs.length cap) ∧ env 30 = .val (.int .i64 xs.length) ∧ env 1 = .val (.int .i64 k) ∧ env 5 = .loc 0 0 ∧ env 10 = .loc 2 0 ∧ env 12 = .loc 3 0 ∧ env 13 = .loc 4 0) ?_ ?_
  ·unfold bitOf
   by_cases hk3 : 3 ≤ k
   ·try simp only [go_sem, ↓reduceIte, nQ1, nQ2, nQ3, nQ4, nQ5, nQ6, reduceCtorEq, e31, e29, e30, e1, e5, e10, hk3]
    obtain ⟨pk1, pk2, pk3⟩ := pow_kind (kk := xs[i].kind) ⟨g4, g5⟩
    exact ⟨_, W.in64 (by omega), by omega, 2 ^ (xs[i].kind - 1).toNat, by rw [pk1]; exact W.in64 (by omega), _, rfl, e31, e29, e30, e1, e5, e10, rfl, rfl⟩
   ·try simp only [go_sem, ↓reduceIte, nQ1, nQ2, nQ3, nQ4, nQ5, nQ6, reduceCtorEq, e31, e29, e30, e1, e5, e10, hk3]
    exact ⟨_, rfl, e31, e29, e30, e1, e5, e10, rfl, rfl⟩
  rintro _ ⟨env2, rfl, p31, p29, p30, p1, p5, p10, p12, p13⟩
  refine semM_seq mix h3k rfl (by rw [h3n]; exact k11_RRRRRLRblRRLbRRRL) ?_
  simp only [v11_RRRRRLRblRRLbRRRL]
  simp only [go_sem, ↓reduceIte, nQ1, nQ2, nQ3, nQ4, nQ5, nQ6, reduceCtorEq, p31, p29, p30, p1, p5, p10, p12, p13]
  refine vcall (hS R3) ?_
  rintro R4 r hle4 rfl
  try simp only [go_sem, ↓reduceIte, nQ1, nQ2, nQ3, nQ4, nQ5, nQ6, reduceCtorEq, p31, p29, p30, p1, p5, p10, p12, p13]
  refine vhandE (cTouched xs[i].f xs[i].t w.f w.t (sizeI k) R4) rfl ?_
  rintro R5 bs rr - ⟨hR5, rfl, rfl⟩
  rw [hR5]
  clear hR5
  simp only [go_sem, ↓reduceIte, nQ1, nQ2, nQ3, nQ4, nQ5, nQ6, reduceCtorEq, ren, renC, renB, Vc.rn, List.range', p31, p29, p30, p1, p5, p10, p12, p13]
  refine semM_block ?_
  refine semM_frzB 5 [.int .i64 xs[i].f, .int .i64 xs[i].t] rfl ?_
  intro b0 R6 hle6 row0
  simp only [go_sem, ↓reduceIte, nQ1, nQ2, nQ3, nQ4, nQ5, nQ6, reduceCtorEq, p31, p29, p30, p1, p5, p10, p12, p13]
  refine semM_frzB 6 [.int .i64 w.f, .int .i64 w.t] rfl ?_
  intro b1 R7 hle7 row1
  simp only [go_sem, ↓reduceIte, nQ1, nQ2, nQ3, nQ4, nQ5, nQ6, reduceCtorEq, p31, p29, p30, p1, p5, p10, p12, p13]
  refine semM_frzB 7 [.int .i64 (sizeI k)] rfl ?_
  intro b2 R8 hle8 row2
  simp only [go_sem, ↓reduceIte, nQ1, nQ2, nQ3, nQ4, nQ5, nQ6, reduceCtorEq, p31, p29, p30, p1, p5, p10, p12, p13]
  have hvs : viewC (xs.take (i + 1)) k w = orAt (viewC (xs.take i) k w) ((max xs[i].f w.f - w.f) / sizeI k).toNat (nT xs[i].f xs[i].t w.f w.t (sizeI k)) (bitOf k xs[i]) := by
   rw [List.take_succ_eq_append_getElem hi']
   exact viewC_snoc _ _ k w hw h0 hm
  suffices hV : ∀ env3 : Nat → SV, env3 46 = .fn 52 [.v (.pointer (some ⟨b0, 0, none⟩)), .v (.pointer (some ⟨b1, 0, none⟩)), .v (.pointer (some ⟨b2, 0, none⟩))] → env3 31 = .val (.int .i64 i) → env3 29 = .val (.slice a xs.length cap) → env3 30 = .val (.int .i64 xs.length) → env3 1 = .val (.int .i64 k) → env3 5 = .loc 0 0 → env3 10 = .loc 2 0 → env3 13 = .loc 4 0 →
    SemM Tryz.prog 0 X3 rs (.rangeFunc (.tmp 46) #[47] c11_RRRRRLRblRRLbRRRRbA c11_RRRRRLRblRRLbRRRRbB) ⟨env3, DV w n (viewC (xs.take i) k w) xs[i] (bitOf k xs[i]), R8⟩ (Exit.inBlock 2 (Exit.inBlock 1 (Exit.then (fun a' w' => c11_RRRRRLRblRRR.wpIn (Fr none) 0 Tryz.prog Q7 a' w') Q7))) by
   refine hV _ ?_ ?_ ?_ ?_ ?_ ?_ ?_ ?_ <;> simp only [go_sem, ↓reduceIte, nQ1, nQ2, nQ3, nQ4, nQ5, nQ6, reduceCtorEq, p31, p29, p30, p1, p5, p10, p12, p13]
  intro env3 u46 u31 u29 u30 u1 u5 u10 u13
  refine view_range k w xs[i] hk hw h0 hm (bitOf k xs[i]) (bitOf_bd ⟨g4, g5⟩) (viewC (xs.take i) k w) n hn (by rw [viewC_length, hn]) (by omega) b0 b1 b2 R8 (hle8 _ _ (hle7 _ _ (row0 0 _ rfl))) (hle8 _ _ (hle7 _ _ (row0 1 _ rfl))) (hle8 _ _ (row1 0 _ rfl)) (hle8 _ _ (row1 1 _ rfl)) (row2 0 _ rfl) h3n h3k rs env3 u46 u10 u13 ?_
  intro D
  show SemM Tryz.prog 0 X3 (D :: rs) c11_RRRRRLRblRRR _ Q7
  rw [← hvs]
  refine semM_vc mix h3k rfl (by rw [h3n]; exact k11_RRRRRLRblRRR) ?_
  simp only [v11_RRRRRLRblRRR]
  simp only [go_sem, ↓reduceIte, nQ1, nQ2, nQ3, nQ4, nQ5, nQ6, reduceCtorEq, DV, u31, u29, u30, u1, u5, u10, u13]
  refine ⟨_, W.in64 (by omega), ?_⟩
  intro β κ tm w2 hr hmk
  rw [hQ7]
  refine ⟨β, κ, _, tm, D :: rs, rfl, hr, hmk, i + 1, [], by omega, ?_, by rw [hXg]; exact inScope_mk rfl rfl rfl rfl rfl rfl, by omega⟩
  unfold CV
  simp only [go_sem, ↓reduceIte, nQ1, nQ2, nQ3, nQ4, nQ5, nQ6, reduceCtorEq, u31, u29, u30, u1, u5, u10, u13]
  norm_cast
 ·have hil : i = xs.length := by omega
  subst hil
  intro β κ tm w2 hr hm
  rw [hQ7]
  show Q6 (.exit 0) _ _
  rw [hQ6]
  show c11_RRRRRR.wpIn (Fr none) 0 Tryz.prog Q ⟨tm, dsOf rs⟩ w2
  rw [hX3] at hr hm
  refine semM_vc (X := X) mix hXk rfl (by rw [hXn]; exact k11_RRRRRR) ?_ β κ tm w2 (hr.up (by rw [hX]; exact hle12)) hm
  simp only [v11_RRRRRR]
  simp only [go_sem, ↓reduceIte, nQ1, nQ2, nQ3, nQ4, nQ5, nQ6, reduceCtorEq, e31, e29, e30, e1, e5, e10]
  intro β κ tm w3 hr hm
  rw [hQ]
  refine retM_fin (rv := [.tmp 6, .tmp 7]) hX (by kernel_rfl) ?_ rs w3 hr hm
  show RetT [.tmp 6, .tmp 7] _ (fun vs s' => ∃ y, resVal vs = .tuple #[y, .int .i64 0] ∧ Ints s'.R y (viewC xs k w)) .mk
  simp only [go_sem, ↓reduceIte, nQ1, nQ2, nQ3, nQ4, nQ5, nQ6, reduceCtorEq, e31, e29, e30, e1, e5, e10]
  intro b2 cap2 R4 hle4 hrow hcap _
  rw [List.take_length] at hrow hcap
  rw [i64s_len] at hcap
  refine ⟨_, rfl, ?_⟩
  have := RowIn.ints (cap := cap2) (xs := viewC xs k w) hrow (by rw [Nat.mul_one]; exact hcap)
  rwa [viewC_length, ← hn] at this
end Go.Proofs.YtdglpgepgmdbdaaGreatDoor
namespace Go.Proofs.YtdglpgepgmdbdaaGreatDoor
set_option linter.unusedSectionVars false
variable [Go.Proofs.YtdglpgepgmdbdaaGreatDoor.Vc.Drew]
set_option linter.unusedSimpArgs false
set_option linter.unusedVariables false
open Go.Proofs.YtdglpgepgmdbdaaGreatDoor.Vc Go.RowKit
set_option maxHeartbeats 4000000 in
theorem tAnswer (y : Value) (R : RO) (hy : Ints R y [0, 2, 0]) : CallsR Tryz.prog 13 [y, .int .i64 3, .agg #[.int .i64 0, .int .i64 90]] R fun _ r => r = .agg (letC y).toArray := by
 obtain ⟨a, c, rfl, _, _⟩ := hy.form
 simp only [letC, List.length_cons, List.length_nil]
 refine callsT mix Tryz.func13 comp13 (by simp [Tryz.ntmps13]) ?_; simp only [go_sem, ↓reduceIte, nQ1, nQ2, nQ3, nQ4, nQ5, nQ6, reduceCtorEq, vc13, rs13]
def keysC : List Value := u8s (List.replicate 64 0)
theorem u8_32 (l : List Int) (h : l.length = 32) : u8s l = [.int .u8 (l.getD 0 0), .int .u8 (l.getD 1 0), .int .u8 (l.getD 2 0), .int .u8 (l.getD 3 0), .int .u8 (l.getD 4 0), .int .u8 (l.getD 5 0), .int .u8 (l.getD 6 0), .int .u8 (l.getD 7 0), .int .u8 (l.getD 8 0), .int .u8 (l.getD 9 0), .int .u8 (l.getD 10 0), .int .u8 (l.getD 11 0), .int .u8 (l.getD 12 0), .int .u8 (l.getD 13 0), .int .u8 (l.getD 14 0), .int .u8 (l.getD 15 0), .int .u8 (l.getD 16 0), .int .u8 (l.getD 17 0), .int .u8 (l.getD 18 0), .int .u8 (l.getD 19 0), .int .u8 (l.getD 20 0), .int .u8 (l.getD 21 0), .int .u8 (l.getD 22 0), .int .u8 (l.getD 23 0), .int .u8 (l.getD 24 0), .int .u8 (l.getD 25 0), .int .u8 (l.getD 26 0), .int .u8 (l.getD 27 0), .int .u8 (l.getD 28 0), .int .u8 (l.getD 29 0), .int .u8 (l.getD 30 0), .int .u8 (l.getD 31 0)] := by
 have e : l = (List.range 32).map fun i => l.getD i 0 := list_getD_ext (by rw [h]; rfl) fun i hi => by
  rw [h] at hi
  rw [List.getD_eq_getElem?_getD (l := (List.range 32).map _), List.getElem?_map, List.getElem?_range hi]
  rfl
 unfold u8s
 conv => lhs; rw [e]
 rfl
set_option maxHeartbeats 8000000 in
theorem tSeal (y : Value) (R : RO) (hr : RdR R) (hy : Ints R y [0, 2, 0]) (b cap : Nat) (hcap : 2 ≤ cap) (hk : RowIn R b keysC) :
  CallsR Tryz.prog 12 [.slice (some ⟨b, 0, none⟩) 2 cap, .int .i64 1, .agg (letC y).toArray] R fun _ r => ∃ a n c l, l.length = 32 ∧ r = .tuple #[.agg (envC 1 0 1 (.slice a n c) l).toArray, .int .i64 0] := by
 have hB := fun R' (hle : RO.le R R') => tBytes y R' (hy.mono hle)
 have hR := fun (f t s : Int) (v : Value) (l : List Int) (R' : RO) (hle : RO.le R R') (hU : U8 R' v l) (hl : l.length ≤ 1000) => vRight f t s v l R' (hr.mono hle) hU hl
 obtain ⟨a, c, rfl, _, _⟩ := hy.form
 obtain ⟨L, hL⟩ : ∃ L, L = letC (.slice a [(0 : Int), 2, 0].length c) := ⟨_, rfl⟩
 have hL2 := hL
 simp only [letC, List.length_cons, List.length_nil] at hL2
 rw [← hL] at hB ⊢
 refine callsT mix Tryz.func12 comp12 (by simp [Tryz.ntmps12]) ?_; simp only [go_sem, ↓reduceIte, nQ1, nQ2, nQ3, nQ4, nQ5, nQ6, reduceCtorEq, vc12, rs12]
 rw [hL2]
 try simp only [go_sem, ↓reduceIte, nQ1, nQ2, nQ3, nQ4, nQ5, nQ6, reduceCtorEq, iQ1, iQ2, iQ3, iQ4, iQ5, iQ6]
 rw [← hL2]
 refine vcall (hB R (RO.le_refl _)) ?_
 rintro R1 r hle1 ⟨v, l, rfl, hU, hl⟩
 have hR1 := fun R' (hle : RO.le R1 R') => hR 1 0 1 v l R' (RO.le_trans hle1 hle) (hU.mono hle) hl
 obtain ⟨a2, c2, rfl, _, _⟩ := hU.form
 obtain ⟨E, hE⟩ : ∃ E, E = envC 1 0 1 (.slice a2 l.length c2) z32 := ⟨_, rfl⟩
 have hE2 := hE
 simp only [envC, u8s, z32, List.replicate, List.map_cons, List.map_nil, List.cons_append, List.nil_append] at hE2
 rw [← hE] at hR1
 try simp only [go_sem, ↓reduceIte, nQ1, nQ2, nQ3, nQ4, nQ5, nQ6, reduceCtorEq, iQ1, iQ2, iQ3, iQ4, iQ5, iQ6]
 refine ⟨fun h => absurd h (by decide), fun _ => ?_⟩
 refine vloadn (u8s z32) rfl (fun j u hj => hle1 _ _ (by rw [Addr.add_lit]; exact hk (32 + j) u (by
  show (u8s z32 ++ u8s z32)[32 + j]? = some u
  rw [List.getElem?_append_right (show 32 ≤ 32 + j by omega)]
  show (u8s z32)[32 + j - 32]? = some u
  rw [Nat.add_sub_cancel_left]
  exact hj))) ?_
 obtain ⟨K, hK⟩ : ∃ K, K = u8s z32 := ⟨_, rfl⟩
 rw [← hK] at hR1 ⊢
 try simp only [go_sem, ↓reduceIte, nQ1, nQ2, nQ3, nQ4, nQ5, nQ6, reduceCtorEq, iQ1, iQ2, iQ3, iQ4, iQ5, iQ6]
 rw [← hE2]
 refine vcall (hR1 R1 (RO.le_refl _)) ?_
 rintro R2 r hle2 ⟨l2, hl2, rfl⟩
 rw [u8_32 l2 hl2]
 try simp only [go_sem, ↓reduceIte, nQ1, nQ2, nQ3, nQ4, nQ5, nQ6, reduceCtorEq, iQ1, iQ2, iQ3, iQ4, iQ5, iQ6]
 exact ⟨a2, l.length, c2, l2, hl2, by unfold envC; rw [u8_32 l2 hl2]; rfl⟩
def mk27 : Mk := ⟨30, 60, 2⟩
set_option maxHeartbeats 8000000 in
theorem tSanity27 (R : RO) (hr : RdR R) : CallsR Tryz.prog 4 [] R fun _ r => r = .bool true := by
 refine callsT mix Tryz.func4 comp4 (by simp [Tryz.ntmps4]) ?_; simp only [go_sem, ↓reduceIte, nQ1, nQ2, nQ3, nQ4, nQ5, nQ6, reduceCtorEq, vc4, rs4]
 refine vfreeze ?_
 try simp only [go_sem, ↓reduceIte, nQ1, nQ2, nQ3, nQ4, nQ5, nQ6, reduceCtorEq, iQ1, iQ2, iQ3, iQ4, iQ5, iQ6]
 intro b cap R1 hle1 hrow hcap _
 have hx : EncV Mk.cells 3 R1 (.slice (some ⟨b, 0, none⟩) 1 cap) [mk27] := RowIn.enc (xs := [mk27]) (fun _ => rfl) (by decide) hrow hcap (by decide)
 refine vcall (cView [mk27] _ 3 ⟨0, 90⟩ R1 hx (fun m hm => by rw [List.mem_singleton.1 hm]; unfold okMk mk27; decide) (by decide) ⟨by decide, by decide, by decide, by decide⟩ (by decide) (by decide)) ?_
 rintro R2 r hle2 ⟨y, rfl, hy⟩
 rw [show viewC [mk27] 3 ⟨0, 90⟩ = [0, 2, 0] by decide] at hy
 have hA := fun R' (hle : RO.le R2 R') => tAnswer y R' (hy.mono hle)
 have hS := fun b cap (h2 : 2 ≤ cap) R' (hle : RO.le R2 R') (hk : RowIn R' b keysC) => tSeal y R' (hr.mono (RO.le_trans hle1 (RO.le_trans hle2 hle))) (hy.mono hle) b cap h2 hk
 obtain ⟨a, c, rfl, _, hf⟩ := hy.form
 obtain ⟨a0, h0, f0⟩ := hf 0 (by decide)
 have f0 : R2 (a0.add 0) (.int .i64 0) := f0
 obtain ⟨a1, h1, f1⟩ := hf 1 (by decide)
 have f1 : R2 (a1.add 1) (.int .i64 2) := f1
 obtain ⟨a2, h2, f2⟩ := hf 2 (by decide)
 have f2 : R2 (a2.add 2) (.int .i64 0) := f2
 obtain ⟨L, hL⟩ : ∃ L, L = letC (.slice a [(0 : Int), 2, 0].length c) := ⟨_, rfl⟩
 rw [← hL] at hA hS
 try simp only [go_sem, ↓reduceIte, nQ1, nQ2, nQ3, nQ4, nQ5, nQ6, reduceCtorEq, iQ1, iQ2, iQ3, iQ4, iQ5, iQ6]
 refine vcall (hA R2 (RO.le_refl _)) ?_
 rintro R3 r hle3 rfl
 try simp only [go_sem, ↓reduceIte, nQ1, nQ2, nQ3, nQ4, nQ5, nQ6, reduceCtorEq, iQ1, iQ2, iQ3, iQ4, iQ5, iQ6]
 refine vfreeze ?_
 try simp only [go_sem, ↓reduceIte, nQ1, nQ2, nQ3, nQ4, nQ5, nQ6, reduceCtorEq, iQ1, iQ2, iQ3, iQ4, iQ5, iQ6]
 intro b4 cap4 R4 hle4 hrow4 hcap4 _
 refine vcall (hS b4 cap4 (by omega) R4 (RO.le_trans hle3 hle4) hrow4) ?_
 rintro R5 r hle5 ⟨a5, n5, c5, l5, hl5, rfl⟩
 unfold envC
 rw [u8_32 l5 hl5]
 try simp only [go_sem, ↓reduceIte, nQ1, nQ2, nQ3, nQ4, nQ5, nQ6, reduceCtorEq, iQ1, iQ2, iQ3, iQ4, iQ5, iQ6]
 have hle25 : RO.le R2 R5 := RO.le_trans hle3 (RO.le_trans hle4 hle5)
 refine vat a0 h0 ?_
 try simp only [go_sem, ↓reduceIte, nQ1, nQ2, nQ3, nQ4, nQ5, nQ6, reduceCtorEq]
 refine vload _ (hle25 _ _ f0) ?_
 try simp only [go_sem, ↓reduceIte, nQ1, nQ2, nQ3, nQ4, nQ5, nQ6, reduceCtorEq, iQ1, iQ2, iQ3, iQ4, iQ5, iQ6]
 refine vat a1 h1 ?_
 try simp only [go_sem, ↓reduceIte, nQ1, nQ2, nQ3, nQ4, nQ5, nQ6, reduceCtorEq]
 refine vload _ (hle25 _ _ f1) ?_
 try simp only [go_sem, ↓reduceIte, nQ1, nQ2, nQ3, nQ4, nQ5, nQ6, reduceCtorEq, iQ1, iQ2, iQ3, iQ4, iQ5, iQ6]
 refine vat a2 h2 ?_
 try simp only [go_sem, ↓reduceIte, nQ1, nQ2, nQ3, nQ4, nQ5, nQ6, reduceCtorEq]
 refine vload _ (hle25 _ _ f2) ?_
 try simp only [go_sem, ↓reduceIte, nQ1, nQ2, nQ3, nQ4, nQ5, nQ6, reduceCtorEq, iQ1, iQ2, iQ3, iQ4, iQ5, iQ6]
end Go.Proofs.YtdglpgepgmdbdaaGreatDoor
/- Plain lemmas of our own, no statement of the seat: how a law's row follows from a contract where its row lists two tables; deeds, marks as arguments. -/
namespace Go.Proofs.YtdglpgepgmdbdaaGreatDoor
set_option linter.unusedSimpArgs false
set_option linter.unusedVariables false
open Go.ChangeShapes Go.WideShapes Go.ChangeAt Go.RowKit Go.Joins Go.Proofs.YtdglpgepgmdbdaaGreatDoor.Vc
set_option maxRecDepth 100000
/-! ### The table -/
abbrev laidL : List (String × DataW Unit) := [("kalends/digest.rounds", Rows.laid_kalends_digest_rounds), ("kalends/budget.sizes", Rows.laid_kalends_budget_sizes)]
def roundL : List Int := [1116352408, 1899447441, 3049323471, 3921009573, 961987163, 1508970993, 2453635748, 2870763221, 3624381080, 310598401, 607225278, 1426881987, 1925078388, 2162078206, 2614888103, 3248222580, 3835390401, 4022224774, 264347078, 604807628, 770255983, 1249150122, 1555081692, 1996064986, 2554220882, 2821834349, 2952996808, 3210313671, 3336571891, 3584528711, 113926993, 338241895, 666307205, 773529912, 1294757372, 1396182291, 1695183700, 1986661051, 2177026350, 2456956037, 2730485921, 2820302411, 3259730800, 3345764771, 3516065817, 3600352804, 4094571909, 275423344, 430227734, 506948616, 659060556, 883997877, 958139571, 1322822218, 1537002063, 1747873779, 1955562222, 2024104815, 2227730452, 2361852424, 2428436474, 2756734187, 3204031479, 3329325298]
theorem gSizes : Tryz.prog.globalNamed "kalends/budget.sizes" = some 0 := by kernel_rfl
theorem gSizesType : (Tryz.prog.globals[0]?).map (·.type) = some 82 := by kernel_rfl
theorem cellsSizes : Tryz.prog.cellsOf 82 = 5 := by kernel_rfl
theorem cellsInt : Tryz.prog.cellsOf 3 = 1 := by kernel_rfl
theorem gRounds : Tryz.prog.globalNamed "kalends/digest.rounds" = some 1 := by kernel_rfl
theorem gRoundsType : (Tryz.prog.globals[1]?).map (·.type) = some 223 := by kernel_rfl
theorem cellsRounds : Tryz.prog.cellsOf 223 = 64 := by kernel_rfl
theorem cellsU32 : Tryz.prog.cellsOf 166 = 1 := by kernel_rfl
theorem laid_tail {P : Program} {W : World} {x : String × DataW Unit} {r : List (String × DataW Unit)} (h : laidMet P (x :: r) W) : laidMet P r W := by
 obtain ⟨ps, ⟨g, t, cs, fuel, p, q, _, _, _, _, hq, rfl⟩, hn, hc⟩ := h
 exact ⟨q, hq, (List.nodup_append.1 hn).2.1, fun b off hb => hc b off (List.mem_append_right _ hb)⟩
theorem szR_of {W : World} (h : laidMetH Tryz.prog laidL W) : SzR (factsOf W) := fun i hi => by
 have h : laidMet Tryz.prog laidL W := h
 have ht : Lib.TabIs Tryz.prog W "kalends/budget.sizes" .i64 [0, 1440, 30, 30, 1] := Lib.tabIs_of_head (rest := []) gSizes gSizesType Tryz.underlying82 Tryz.underlying3 cellsInt cellsSizes (laid_tail h)
 exact ht.cell gSizes i hi
theorem rdR_of {W : World} (h : laidMetH Tryz.prog laidL W) : RdR (factsOf W) := by
 refine ⟨roundL, rfl, fun i hi => ?_⟩
 have h : laidMet Tryz.prog laidL W := h
 have ht : Lib.TabIs Tryz.prog W "kalends/digest.rounds" .u32 roundL := Lib.tabIs_of_head (rest := [("kalends/budget.sizes", Rows.laid_kalends_budget_sizes)]) gRounds gRoundsType Tryz.underlying223 Tryz.underlying166 cellsU32 cellsRounds h
 exact ht.cell gRounds i hi
/-! ### The row -/
theorem lawLiftedL {os : Os} (started : os.Started) {H : Type} {enc : TypeId × Value → H} {n : Nat} {fn : Func} {s : ChangeSpec} {tb : TypeId} {F : Stop.Interp} (noInit : Tryz.checked.prog.inits.idxOf? n = none) (hfn : Tryz.checked.prog.funcs[n]? = some fn)
  (hvars : s.vars = []) (hres : fn.resultTypes = #[tb]) (hbool : Tryz.checked.prog.underlying tb = some .bool) (hread : ∀ t ∈ fn.params.toList, Tryz.prog.readableRec t = true ∧ t < Tryz.prog.types.size)
  (hs : ∀ ds : List (DataW H), ds.length = fn.params.toList.length → s.fn H ds = { results := [.lit (.bool true)], args := ds })
  (witness : ∃ (w : World) (tape : Tape) (i : Input), w.os = os ∧ (w.forCall tape i).Shaped Tryz.checked.prog ∧ i.vars = [] ∧ Input.okWide Tryz.checked.prog (w.forCall tape i) .any w.heap.size n i ∧
   (OpenSpec.ofChange s).preRow enc Tryz.checked.prog fn [] false laidL (w.forCall tape i).memory i.args ∧ Assume.holds {} Tryz.checked.prog (lone (Frame.enter Tryz.checked.prog n i.args .normal) [] (w.forCall tape i)))
  (hlaw : ∀ (W : World) (base : Nat) (args : Array Value) (ds : List (DataW H)) (ps : List MemPlace), (∀ (j : Nat) t v, fn.params[j]? = some t → args[j]? = some v → Value.okWide Tryz.prog W .any base t v) →
   DataW.TrodAll enc Tryz.prog W 0 (fun _ => true) true fn.params.toList args.toList ds ps → (DataW.weightsEach Tryz.prog fn.params.toList ds).all (· ≤ reachBytes) = true → SzR (factsOf W) → RdR (factsOf W) →
   CallsR Tryz.prog n args.toList (factsOf W) fun _ v => v = .bool true) :
  ReturnsInHanded {} Tryz.checked os n .any ((OpenSpec.ofChange s).preRow enc Tryz.prog fn [] false laidL) (((OpenSpec.ofChange s).at F).post enc Tryz.prog fn false true false false) := by
 refine returnsInHanded_of_row (C := Tryz.checked) (s := OpenSpec.ofChange s) Tryz.own started noInit hfn witness ?_
 intro W base args ds gs before hval hW hcnd _ hwt hL _ _
 have hW : DataW.Whole enc Tryz.prog fn.params.toList s.vars false W args.toList ds gs before := hW
 have hW0 := hW
 obtain ⟨p, q, hA, hV, rfl, hfz, hnd⟩ := hW0
 rw [hvars] at hV
 obtain ⟨rfl, rfl⟩ := trodVars_none hV
 have hvt : (OpenSpec.ofChange s).bare.plain.varTypes Tryz.checked.prog = [] := by
  show s.plain.varTypes Tryz.checked.prog = []
  simp [ChangeSpec.plain, DataSpec.varTypes, hvars]
 rw [hvt, List.append_nil, List.append_nil] at hwt
 have hlt : ∀ x ∈ p ++ [], x.block < W.heap.size := fun x hx => hW.lt x hx
 rw [List.append_nil] at hlt
 refine (hlaw W base args ds p hval hA hwt (szR_of hL) (rdR_of hL) W (fun a v h => h)).mono ?_
 rintro e W' ⟨v, R', rfl, -, -, hext, rfl⟩
 rw [List.append_nil] at hW
 exact ⟨_, rfl, law_post Tryz.laidOut hvars hres hbool hread (hs ds (trodAll_len hA)) hW hA hext⟩
def laidObj (vs : Array Value) : Obj → Obj
 | .cells _ t frozen => .cells vs t frozen
 | o => o
noncomputable def laidWorld (os : Os) : World :=
 {World.holding Tryz.prog os ⟨#[], #[], []⟩ with heap := ((World.holding Tryz.prog os ⟨#[], #[], []⟩).heap.modify 0 (laidObj #[.int .i64 0, .int .i64 1440, .int .i64 30, .int .i64 30, .int .i64 1])).modify 1 (laidObj (roundL.map (.int .u32)).toArray) }
end Go.Proofs.YtdglpgepgmdbdaaGreatDoor
/- Plain lemmas of our own, no statement of the seat: numbers, arrays, deeds as a law's arguments. -/
namespace Go.Proofs.YtdglpgepgmdbdaaGreatDoor
set_option linter.unusedSimpArgs false
set_option linter.unusedVariables false
open Go.ChangeShapes Go.WideShapes Go.ChangeAt Go.RowKit Go.Joins Go.Proofs.YtdglpgepgmdbdaaGreatDoor.Vc
set_option maxRecDepth 100000
section
variable {P : Program} {t : TypeId} {W : World} {r : Reach} {b0 : Nat} {v : Value}
theorem ok_int (ht : P.underlying t = some (.int .i64)) (h : Cell.okWide P W r b0 t v) : ∃ n, v = .int .i64 n := by
 unfold Cell.okWide Cell.ok at h
 rw [ht] at h
 cases v <;> simp_all
theorem ok_bool (ht : P.underlying t = some .bool) (h : Cell.okWide P W r b0 t v) : ∃ n, v = .bool n := by
 unfold Cell.okWide Cell.ok at h
 rw [ht] at h
 cases v <;> simp_all
theorem ok_slice {e : TypeId} (ht : P.underlying t = some (.slice e)) (h : Cell.okWide P W r b0 t v) : ∃ a n c, v = .slice a n c := by
 unfold Cell.okWide Cell.ok at h
 rw [ht] at h
 cases v <;> simp_all
theorem okw_struct {fs : Array Field} {n : Nat} {ts : List TypeId} (ht : P.underlying t = some (.struct fs)) (hC : P.cellsOf t = n) (hT : P.cellTypes P.depth t = some ts) (h : Value.okWide P W r b0 t v) : ∃ cs : List Value, v = .agg cs.toArray ∧ cs.length = n ∧ ∀ i u, cs[i]? = some u → ∃ t, ts[i % ts.length]? = some t ∧ Cell.okWide P W r b0 t u := by
 unfold Value.okWide at h
 rw [ht] at h
 obtain ⟨cs, rfl, hsz, ts', hts, _, hc⟩ := h
 rw [hT] at hts
 cases hts
 rw [hC] at hsz
 exact ⟨cs.toList, rfl, hsz, fun i u hi => hc i u (by simpa using hi)⟩
theorem okw_slice {e : TypeId} (ht : P.underlying t = some (.slice e)) (h : Value.okWide P W r b0 t v) : Cell.okWide P W r b0 t v := by
 unfold Value.okWide at h
 rw [ht] at h
 exact h
theorem trod_boolP {H : Type} {enc : TypeId × Value → H} {base fuel : Nat} {spare : Nat → Bool} {held : Bool} {cs : List Value} {x : DataW H × List MemPlace} (ht : P.underlying t = some .bool) (h : DataW.trod enc P W base spare held fuel t cs = some x) : ∃ b, cs = [.bool b] := by
 cases fuel with
 | zero => simp [DataW.trod] at h
 | succ n =>
  unfold DataW.trod at h
  rw [ht] at h
  split at h <;> simp_all
end
section
variable {H : Type} {enc : TypeId × Value → H} {W : World} {base fuel : Nat} {spare : Nat → Bool} {held : Bool}
theorem wf_kind {K : IntKind} {n lo hi : Int} (h : (Lit.int K n).wf = true) (h1 : K.min = lo) (h2 : K.max = hi) : lo ≤ n ∧ n ≤ hi := by
 simp only [Lit.wf, Bool.and_eq_true, decide_eq_true_eq] at h
 omega
theorem trod_deed {cs : List Value} {x : DataW H × List MemPlace} (h : DataW.trod enc Tryz.prog W base spare held fuel 26 cs = some x) : ∃ e : Dd, cs = e.cells := by
 obtain ⟨xs, n, _, _, hl, hlen, hf⟩ := DataW.trod_struct Tryz.underlying26 h
 have hC : Tryz.prog.cellsOf 26 = 7 := by kernel_rfl
 have hC3 : Tryz.prog.cellsOf 3 = 1 := by kernel_rfl
 have hC4 : Tryz.prog.cellsOf 4 = 1 := by kernel_rfl
 rw [hC] at hl
 match xs, hlen, cs, hl with
 | [y0, y1, y2, y3, y4, y5, y6], _, [c0, c1, c2, c3, c4, c5, c6], _ =>
  have h0 : DataW.trod enc Tryz.prog W base spare held n 4 (([c0, c1, c2, c3, c4, c5, c6].drop 0).take (Tryz.prog.cellsOf 4)) = [y0, y1, y2, y3, y4, y5, y6][0]? := hf 0 _ rfl
  have h1 : DataW.trod enc Tryz.prog W base spare held n 3 (([c0, c1, c2, c3, c4, c5, c6].drop 1).take (Tryz.prog.cellsOf 3)) = [y0, y1, y2, y3, y4, y5, y6][1]? := hf 1 _ rfl
  have h2 : DataW.trod enc Tryz.prog W base spare held n 3 (([c0, c1, c2, c3, c4, c5, c6].drop 2).take (Tryz.prog.cellsOf 3)) = [y0, y1, y2, y3, y4, y5, y6][2]? := hf 2 _ rfl
  have h3 : DataW.trod enc Tryz.prog W base spare held n 3 (([c0, c1, c2, c3, c4, c5, c6].drop 3).take (Tryz.prog.cellsOf 3)) = [y0, y1, y2, y3, y4, y5, y6][3]? := hf 3 _ rfl
  have h4 : DataW.trod enc Tryz.prog W base spare held n 3 (([c0, c1, c2, c3, c4, c5, c6].drop 4).take (Tryz.prog.cellsOf 3)) = [y0, y1, y2, y3, y4, y5, y6][4]? := hf 4 _ rfl
  have h5 : DataW.trod enc Tryz.prog W base spare held n 3 (([c0, c1, c2, c3, c4, c5, c6].drop 5).take (Tryz.prog.cellsOf 3)) = [y0, y1, y2, y3, y4, y5, y6][5]? := hf 5 _ rfl
  have h6 : DataW.trod enc Tryz.prog W base spare held n 3 (([c0, c1, c2, c3, c4, c5, c6].drop 6).take (Tryz.prog.cellsOf 3)) = [y0, y1, y2, y3, y4, y5, y6][6]? := hf 6 _ rfl
  simp only [hC3, hC4, List.drop_zero, List.drop_succ_cons, List.take_succ_cons, List.take_zero, List.getElem?_cons_zero, List.getElem?_cons_succ] at h0 h1 h2 h3 h4 h5 h6
  obtain ⟨z0, e0⟩ := trod_boolP Tryz.underlying4 h0
  obtain ⟨z1, e1, -, -⟩ := DataW.trod_int Tryz.underlying3 h1
  obtain ⟨z2, e2, -, -⟩ := DataW.trod_int Tryz.underlying3 h2
  obtain ⟨z3, e3, -, -⟩ := DataW.trod_int Tryz.underlying3 h3
  obtain ⟨z4, e4, -, -⟩ := DataW.trod_int Tryz.underlying3 h4
  obtain ⟨z5, e5, -, -⟩ := DataW.trod_int Tryz.underlying3 h5
  obtain ⟨z6, e6, -, -⟩ := DataW.trod_int Tryz.underlying3 h6
  simp only [List.cons.injEq, and_true] at e0 e1 e2 e3 e4 e5 e6
  subst e0 e1 e2 e3 e4 e5 e6
  exact ⟨⟨z0, z1, z2, z3, z4, z5, z6⟩, rfl⟩
theorem deeds_in {v : Value} {d : DataW H} {p : List MemPlace} {r : Reach} {b0 : Nat} (hv : Value.okWide Tryz.prog W r b0 24 v) (h : DataW.Trod enc Tryz.prog W base spare held 24 v d p) (hw : ∀ n ∈ d.weights Tryz.prog 24, n ≤ reachBytes) :
  ∃ es, DdV (factsOf W) v es := by
 obtain ⟨fuel, hf⟩ := h
 have hC : Tryz.prog.cellsOf 26 = 7 := by kernel_rfl
 have hB : Tryz.prog.bytesOf 26 = 56 := by kernel_rfl
 obtain ⟨a0, l0, c0, rfl⟩ := ok_slice Tryz.underlying24 (okw_slice Tryz.underlying24 hv)
 rcases Go.Deep.open_slice Tryz.underlying24 hf with ⟨e, _⟩ | ⟨a, len, cap, m, n, D, Pl, e, -, hl, hm, hmm, hx, hi⟩
 ·simp only [Value.cells, List.cons.injEq, and_true, List.toList_toArray] at e
  rw [e]
  exact ⟨[], ⟨none, 0, rfl, Nat.le_refl _, by simp⟩, by simp⟩
 ·simp only [Value.cells, List.cons.injEq, and_true, List.toList_toArray] at e
  rw [e]
  obtain ⟨rfl, _⟩ := Prod.mk.inj hx
  have hlm : len ≤ m := by rw [hmm]; split <;> omega
  rw [hC] at hi
  have each : ∀ i, i < m → ∃ e : Dd, ∀ j v, (e.cells)[j]? = some v → W.cell? ((a.add (i * 7)).add j) = some v := by
   intro i him
   obtain ⟨cs', hc, ht⟩ := hi i him
   obtain ⟨_, hcl, hat⟩ := World.cells?_some hc
   obtain ⟨e, rfl⟩ := trod_deed ht
   refine ⟨e, fun j v hj => ?_⟩
   have hj7 : j < 7 := (List.getElem?_eq_some_iff.1 hj).1
   rw [hat j hj7]
   exact hj
  have hlen : len * 56 ≤ reachBytes := by
   have := hw ((((List.range len).map D).length + ((List.range (m - len)).map fun j => D (len + j)).length) * 56) (by
    simp only [DataW.weights, Tryz.underlying24, hB]
    exact List.mem_cons_self)
   simp only [List.length_map, List.length_range] at this
   omega
  unfold reachBytes at hlen
  let f : Nat → Dd := fun i => if h : i < m then (each i h).choose else ⟨false, 0, 0, 0, 0, 0, 0⟩
  have hf : ∀ i, i < len → ∀ j v, ((f i).cells)[j]? = some v → W.cell? ((a.add (i * 7)).add j) = some v := by
   intro i hi'
   have him : i < m := by omega
   simp only [f, him, dif_pos]
   exact (each i him).choose_spec
  refine ⟨(List.range len).map f, ⟨some a, cap, by simp, by simpa using hl, fun i us hi' => ?_⟩, by simp; omega⟩
  rw [List.getElem?_map, List.getElem?_map] at hi'
  obtain ⟨r, hr, rfl⟩ := Option.map_eq_some_iff.1 hi'
  obtain ⟨i', hi'', rfl⟩ := Option.map_eq_some_iff.1 hr
  have hii := List.getElem?_eq_some_iff.1 hi''
  simp only [List.length_range, List.getElem_range] at hii
  obtain ⟨hlt, rfl⟩ := hii
  exact ⟨rfl, a, rfl, fun j u hj => hf i hlt j u hj⟩
theorem each_weight {ts : List TypeId} {ds : List (DataW H)} (h : (DataW.weightsEach Tryz.prog ts ds).all (· ≤ reachBytes) = true) {j : Nat} {t : TypeId} {d : DataW H} (ht : ts[j]? = some t) (hd : ds[j]? = some d) : ∀ n ∈ d.weights Tryz.prog t, n ≤ reachBytes := fun n hn => by
 have := List.all_eq_true.1 h n (DataW.weights_mem_each ht hd n hn)
 simpa using this
theorem slice_raw {α : Type} {t e : TypeId} {k : Nat} (mk : List Value → α → Prop) (ht : Tryz.prog.underlying t = some (.slice e)) (hC : Tryz.prog.cellsOf e = k)
  (each : ∀ (fuel : Nat) (cs : List Value) (x : DataW H × List MemPlace), DataW.trod enc Tryz.prog W base spare held fuel e cs = some x → ∃ a : α, mk cs a)
  {cs : List Value} {x : DataW H × List MemPlace} (h : DataW.trod enc Tryz.prog W base spare held fuel t cs = some x) :
  ∃ (v : Value) (css : List (List Value)) (ys : List α), cs = [v] ∧ SlK (factsOf W) v k css ∧ css.length = ys.length ∧ ∀ (i : Nat) (c : List Value) (a : α), css[i]? = some c → ys[i]? = some a → mk c a := by
 rcases Go.Deep.open_slice ht h with ⟨rfl, _⟩ | ⟨a, len, cap, m, n, D, Pl, rfl, -, hl, hm, hmm, rfl, hi⟩
 ·exact ⟨_, [], [], rfl, ⟨none, 0, rfl, Nat.le_refl _, by simp⟩, rfl, by simp⟩
 ·have hlm : len ≤ m := by rw [hmm]; split <;> omega
  rw [hC] at hi
  have ex : ∀ i, i < len → ∃ (c : List Value) (y : α), c.length = k ∧ (∀ j v, c[j]? = some v → W.cell? ((a.add (i * k)).add j) = some v) ∧ mk c y := fun i hil => by
   obtain ⟨cs', hc, htr⟩ := hi i (by omega)
   obtain ⟨_, hcl, hat⟩ := World.cells?_some hc
   obtain ⟨y, hy⟩ := each n cs' _ htr
   exact ⟨cs', y, hcl, fun j v hj => by rw [hat j (by rw [← hcl]; exact (List.getElem?_eq_some_iff.1 hj).1)]; exact hj, hy⟩
  by_cases h0 : len = 0
  ·subst h0
   exact ⟨_, [], [], rfl, ⟨some a, cap, rfl, Nat.zero_le _, by simp⟩, rfl, by simp⟩
  obtain ⟨c0, y0, _⟩ := ex 0 (by omega)
  let fc : Nat → List Value := fun i => if h : i < len then (ex i h).choose else c0
  let fy : Nat → α := fun i => if h : i < len then (ex i h).choose_spec.choose else y0
  have hf : ∀ i, i < len → (fc i).length = k ∧ (∀ j v, (fc i)[j]? = some v → W.cell? ((a.add (i * k)).add j) = some v) ∧ mk (fc i) (fy i) := fun i hil => by
   simp only [fc, fy, hil, dif_pos]
   exact (ex i hil).choose_spec.choose_spec
  refine ⟨_, (List.range len).map fc, (List.range len).map fy, rfl, ⟨some a, cap, by simp, by simpa using hl, fun i us hus => ?_⟩, by simp, fun i c y hc hy => ?_⟩
  ·obtain ⟨i', hi', rfl⟩ := Option.map_eq_some_iff.1 (by rw [← List.getElem?_map]; exact hus)
   obtain ⟨hlt, rfl⟩ := List.getElem?_eq_some_iff.1 hi'
   simp only [List.length_range, List.getElem_range] at hlt ⊢
   exact ⟨(hf i hlt).1, a, rfl, (hf i hlt).2.1⟩
  ·obtain ⟨i', hi', rfl⟩ := Option.map_eq_some_iff.1 (by rw [← List.getElem?_map]; exact hc)
   obtain ⟨i'', hi'', rfl⟩ := Option.map_eq_some_iff.1 (by rw [← List.getElem?_map]; exact hy)
   obtain ⟨hlt, rfl⟩ := List.getElem?_eq_some_iff.1 hi'
   obtain ⟨_, rfl⟩ := List.getElem?_eq_some_iff.1 hi''
   simp only [List.length_range, List.getElem_range] at hlt ⊢
   exact (hf i hlt).2.2
theorem css_eq {α : Type} {f : α → List Value} {css : List (List Value)} {ys : List α} (hl : css.length = ys.length) (h : ∀ (i : Nat) (c : List Value) (a : α), css[i]? = some c → ys[i]? = some a → c = f a) : css = ys.map f := by
 apply List.ext_getElem
 ·rw [List.length_map, hl]
 ·intro i h1 h2
  rw [List.getElem_map]
  exact h i _ _ (List.getElem?_eq_getElem h1) (List.getElem?_eq_getElem (by rw [List.length_map] at h2; exact h2))
theorem trod_u3 {cs : List Value} {x : DataW H × List MemPlace} (h : DataW.trod enc Tryz.prog W base spare held fuel 71 cs = some x) : ∃ u : U3, cs = u.cells ∧ u.ok := by
 obtain ⟨xs, n, _, _, hl, hlen, hf⟩ := DataW.trod_array Tryz.underlying71 h
 have hC : Tryz.prog.cellsOf 71 = 3 := by kernel_rfl
 have hC1 : Tryz.prog.cellsOf 5 = 1 := by kernel_rfl
 rw [hC] at hl
 match xs, hlen, cs, hl with
 | [y0, y1, y2], _, [c0, c1, c2], _ =>
  have h0 := hf 0 (by omega)
  have h1 := hf 1 (by omega)
  have h2 := hf 2 (by omega)
  simp only [hC1, Nat.zero_mul, Nat.one_mul, Nat.mul_one, List.drop_zero, List.drop_succ_cons, List.take_succ_cons, List.take_zero, List.getElem?_cons_zero, List.getElem?_cons_succ] at h0 h1 h2
  obtain ⟨z0, e0, -, w0⟩ := DataW.trod_int Tryz.underlying5 h0
  obtain ⟨z1, e1, -, w1⟩ := DataW.trod_int Tryz.underlying5 h1
  obtain ⟨z2, e2, -, w2⟩ := DataW.trod_int Tryz.underlying5 h2
  simp only [List.cons.injEq, and_true] at e0 e1 e2
  subst e0 e1 e2
  exact ⟨⟨z0, z1, z2⟩, rfl, wf_kind (lo := 0) (hi := 255) w0 (by decide) (by decide), wf_kind (lo := 0) (hi := 255) w1 (by decide) (by decide), wf_kind (lo := 0) (hi := 255) w2 (by decide) (by decide)⟩
theorem u3s_open {cs : List Value} {x : DataW H × List MemPlace} (h : DataW.trod enc Tryz.prog W base spare held fuel 22 cs = some x) : ∃ (v : Value) (us : List U3), cs = [v] ∧ U3V (factsOf W) v us ∧ ∀ u ∈ us, u.ok := by
 obtain ⟨v, css, ys, e, h1, h2, h3⟩ := slice_raw (k := 3) (fun c (u : U3) => c = u.cells ∧ u.ok) Tryz.underlying22 (by kernel_rfl) (fun fuel cs x h => trod_u3 h) h
 rw [css_eq h2 (fun i c a hc ha => (h3 i c a hc ha).1)] at h1
 refine ⟨v, ys, e, h1, fun u hu => ?_⟩
 obtain ⟨i, hi, rfl⟩ := List.mem_iff_getElem.1 hu
 exact (h3 i _ _ (List.getElem?_eq_getElem (by omega)) (List.getElem?_eq_getElem hi)).2
theorem pair_in {v : Value} {d : DataW H} {p : List MemPlace} {r : Reach} {b0 : Nat} (hv : Value.okWide Tryz.prog W r b0 23 v) (h : DataW.Trod enc Tryz.prog W base spare held 23 v d p) :
  ∃ (u w : Value) (us ws : List U3), v = .agg #[u, w] ∧ U3V (factsOf W) u us ∧ U3V (factsOf W) w ws ∧ (∀ x ∈ us, x.ok) ∧ ∀ x ∈ ws, x.ok := by
 have hC2 : Tryz.prog.cellsOf 23 = 2 := by kernel_rfl
 have hC1 : Tryz.prog.cellsOf 22 = 1 := by kernel_rfl
 obtain ⟨cs, rfl, hsz⟩ : ∃ cs : Array Value, v = .agg cs ∧ cs.size = 2 := by
  cases v <;> simp [Value.okWide, Tryz.underlying23] at hv
  rename_i cs
  exact ⟨cs, rfl, by rw [← hC2]; exact hv.1⟩
 obtain ⟨fuel, hf⟩ := h
 obtain ⟨xs, m, -, -, hl, hxl, hi'⟩ := DataW.trod_array Tryz.underlying23 hf
 match cs, hsz with
 | ⟨[c0, c1]⟩, _ =>
  match xs, hxl with
  | [y0, y1], _ =>
   have h0 := hi' 0 (by omega)
   have h1 := hi' 1 (by omega)
   simp only [Value.cells, hC1, Nat.zero_mul, Nat.one_mul, Nat.mul_one, List.drop_zero, List.drop_succ_cons, List.take_succ_cons, List.take_zero, List.getElem?_cons_zero, List.getElem?_cons_succ] at h0 h1
   obtain ⟨u, us, e0, g0, k0⟩ := u3s_open h0
   obtain ⟨w, ws, e1, g1, k1⟩ := u3s_open h1
   simp only [List.cons.injEq, and_true] at e0 e1
   subst e0 e1
   exact ⟨_, _, us, ws, rfl, g0, g1, k0, k1⟩
end
theorem deed_in {W : World} {r : Reach} {b0 : Nat} {v : Value} (hv : Value.okWide Tryz.prog W r b0 26 v) : ∃ d : Dd, v = .agg d.cells.toArray := by
 obtain ⟨cs, rfl, hsz, hc⟩ := okw_struct Tryz.underlying26 (n := 7) (ts := [4, 3, 3, 3, 3, 3, 3]) (by kernel_rfl) (by kernel_rfl) hv
 match cs, hsz with
 | [c0, c1, c2, c3, c4, c5, c6], _ =>
  obtain ⟨u, hu, k0⟩ := hc 0 c0 rfl
  cases hu
  obtain ⟨u, hu, k1⟩ := hc 1 c1 rfl
  cases hu
  obtain ⟨u, hu, k2⟩ := hc 2 c2 rfl
  cases hu
  obtain ⟨u, hu, k3⟩ := hc 3 c3 rfl
  cases hu
  obtain ⟨u, hu, k4⟩ := hc 4 c4 rfl
  cases hu
  obtain ⟨u, hu, k5⟩ := hc 5 c5 rfl
  cases hu
  obtain ⟨u, hu, k6⟩ := hc 6 c6 rfl
  cases hu
  obtain ⟨n0, rfl⟩ := ok_bool Tryz.underlying4 k0
  obtain ⟨n1, rfl⟩ := ok_int Tryz.underlying3 k1
  obtain ⟨n2, rfl⟩ := ok_int Tryz.underlying3 k2
  obtain ⟨n3, rfl⟩ := ok_int Tryz.underlying3 k3
  obtain ⟨n4, rfl⟩ := ok_int Tryz.underlying3 k4
  obtain ⟨n5, rfl⟩ := ok_int Tryz.underlying3 k5
  obtain ⟨n6, rfl⟩ := ok_int Tryz.underlying3 k6
  exact ⟨⟨n0, n1, n2, n3, n4, n5, n6⟩, rfl⟩
end Go.Proofs.YtdglpgepgmdbdaaGreatDoor
