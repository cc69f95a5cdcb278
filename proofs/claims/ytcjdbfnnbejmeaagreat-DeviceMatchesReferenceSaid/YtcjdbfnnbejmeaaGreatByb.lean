/- Lemmas of our own, no statement of the seat; the last one of the claim's texts proves the law. -/
import Derived.Sort.OwnSortedInts
import Derived.Shelf.SlSortCmp.WholeK
import Derived.Shelf.SlSortCmp.NoneTotal
import Derived.Shelf.SortM.Plain
import Derived.Shelf.SlicesG.CompactI
import Derived.Sort.Grow
import Derived.Deep.Draws
import Derived.Lib.SlicesCompact
import Derived.Ground.SlsfProg
import Derived.Ground.SlgmProg
import Derived.Ground.SlgnProg
import Derived.Test.YtcjdbfnnbejmeaaGreatBya
import Derived.Test.YtcjdbfnnbejmeaaGreatVcI
open Nat renaming reduceEqDiff → nQ1, reduceAdd → nQ2, reduceMul → nQ3, reduceLeDiff → nQ4, reduceLT → nQ5, reduceBNe → nQ6
open Int renaming reduceLE → iQ1, reduceLT → iQ2, reduceToNat → iQ3, cast_ofNat_Int → iQ4, reduceEq → iQ5, reduceNe → iQ6
namespace Go.Proofs.YtcjdbfnnbejmeaaGreat
set_option linter.unusedSimpArgs false
set_option linter.unusedVariables false
open Go.Proofs.YtcjdbfnnbejmeaaGreat.Vc
structure Mv where
 day : Int
 drop : Bool
 toDay : Int
 minute : Int
 length : Int
 deriving DecidableEq
structure Ed where
 kind : Int
 day : Int
 device : Int
 seq : Int
 mv : Mv
 minute : Int
 length : Int
 ra : Option Addr
 rn : Nat
 rc : Nat
 zone : ByteArray
def Mv.cells (m : Mv) : List Value := [.int .i64 m.day, .bool m.drop, .int .i64 m.toDay, .int .i64 m.minute, .int .i64 m.length]
def Mv.val (m : Mv) : Value := .agg #[.int .i64 m.day, .bool m.drop, .int .i64 m.toDay, .int .i64 m.minute, .int .i64 m.length]
def Ed.val (e : Ed) : Value := .agg #[.int .i64 e.kind, .int .i64 e.day, .int .i64 e.device, .int .i64 e.seq, .int .i64 e.mv.day, .bool e.mv.drop, .int .i64 e.mv.toDay, .int .i64 e.mv.minute, .int .i64 e.mv.length, .int .i64 e.minute, .int .i64 e.length, .slice e.ra e.rn e.rc, .string e.zone]
def betw (lo x hi : Int) : Bool := decide (lo ≤ x ∧ x ≤ hi)
theorem eBetween (lo x hi : Int) (R : RO) : CallsR Tryz.prog 37 [.int .i64 lo, .int .i64 x, .int .i64 hi] R fun _ v => v = .bool (betw lo x hi) := by
 refine callsT mix Tryz.func37 comp37 (by simp [Tryz.ntmps37]) ?_; simp only [go_sem, ↓reduceIte, nQ1, nQ2, nQ3, nQ4, nQ5, nQ6, reduceCtorEq, vc37, rs37]
 unfold betw
 refine ⟨fun h => ?_, fun h => ?_⟩
 ·simp [h]
 ·simp [h]
theorem eNaN (a : Int) (R : RO) : CallsR Tryz.prog 53 [.int .i64 a] R fun _ v => v = .bool false := by
 refine callsT mix Tryz.func53 comp53 (by simp [Tryz.ntmps53]) ?_; simp only [go_sem, ↓reduceIte, nQ1, nQ2, nQ3, nQ4, nQ5, nQ6, reduceCtorEq, vc53, rs53]
def cmpI (a b : Int) : Int := if a < b then -1 else if b < a then 1 else 0
theorem eCompare (a b : Int) (R : RO) : CallsR Tryz.prog 43 [.int .i64 a, .int .i64 b] R fun _ v => v = .int .i64 (cmpI a b) := by
 refine callsT mix Tryz.func43 comp43 (by simp [Tryz.ntmps43]) ?_; simp only [go_sem, ↓reduceIte, nQ1, nQ2, nQ3, nQ4, nQ5, nQ6, reduceCtorEq, vc43, rs43]
 refine vcall (eNaN a R) ?_
 rintro R1 v h1 rfl
 try simp only [go_sem, ↓reduceIte, nQ1, nQ2, nQ3, nQ4, nQ5, nQ6, reduceCtorEq]
 refine vcall (eNaN b R1) ?_
 rintro R2 v h2 rfl
 try simp only [go_sem, ↓reduceIte, nQ1, nQ2, nQ3, nQ4, nQ5, nQ6, reduceCtorEq]
 unfold cmpI
 refine ⟨fun h => by simp [h], fun h => ⟨fun h' => by simp [h, h'], fun h' => by simp [h, h']⟩⟩
end Go.Proofs.YtcjdbfnnbejmeaaGreat
namespace Go.Proofs.YtcjdbfnnbejmeaaGreat
set_option linter.unusedSimpArgs false
set_option linter.unusedVariables false
open Go.Proofs.YtcjdbfnnbejmeaaGreat.Vc
def moveOK (m : Mv) : Bool := betw 0 m.day 1099511627776 && if m.drop then decide (m.toDay = 0 ∧ m.minute = 0 ∧ m.length = 0) else betw 0 m.toDay 1099511627776 && betw 0 m.minute 1439 && betw 1 m.length 10080
theorem eValidMove (m : Mv) (R : RO) : CallsR Tryz.prog 38 [m.val] R fun _ v => v = .bool (moveOK m) := by
 obtain ⟨day, drop, toDay, minute, length⟩ := m
 simp only [Mv.val]
 refine callsT mix Tryz.func38 comp38 (by simp [Tryz.ntmps38]) ?_; simp only [go_sem, ↓reduceIte, nQ1, nQ2, nQ3, nQ4, nQ5, nQ6, reduceCtorEq, vc38, rs38]
 refine vcall (eBetween 0 day 1099511627776 R) ?_
 rintro R1 v h1 rfl
 try simp only [go_sem, ↓reduceIte, nQ1, nQ2, nQ3, nQ4, nQ5, nQ6, reduceCtorEq]
 unfold moveOK
 refine ⟨fun h => by simp [h], fun h => ⟨fun hd => ?_, fun hd => ?_⟩⟩
 ·subst hd
  simp [h]
 ·subst hd
  refine vcall (eBetween 0 toDay 1099511627776 R1) ?_
  rintro R2 v h2 rfl
  try simp only [go_sem, ↓reduceIte, nQ1, nQ2, nQ3, nQ4, nQ5, nQ6, reduceCtorEq]
  refine ⟨fun g1 => ?_, fun g1 => by simp [h, g1]⟩
  refine vcall (eBetween 0 minute 1439 R2) ?_
  rintro R3 v h3 rfl
  try simp only [go_sem, ↓reduceIte, nQ1, nQ2, nQ3, nQ4, nQ5, nQ6, reduceCtorEq]
  refine ⟨fun g2 => ?_, fun g2 => by simp [h, g1, g2]⟩
  refine vcall (eBetween 1 length 10080 R3) ?_
  rintro R4 v h4 rfl
  try simp only [go_sem, ↓reduceIte, nQ1, nQ2, nQ3, nQ4, nQ5, nQ6, reduceCtorEq]
  simp [h, g1, g2]
def orI : List Int → Int
 | [] => 0
 | x :: r => if x = 0 then orI r else x
theorem eOr (xs : List Int) (v : Value) (R : RO) (h : Ints R v xs) (hl : xs.length ≤ 1099511627776) : CallsR Tryz.prog 42 [v] R fun _ r => r = .int .i64 (orI xs) := by
 obtain ⟨a, cap, rfl, hc, hf⟩ := h.form
 refine callsT mix Tryz.func42 comp42 (by simp [Tryz.ntmps42]) ?_; simp only [go_sem, ↓reduceIte, nQ1, nQ2, nQ3, nQ4, nQ5, nQ6, reduceCtorEq, vc42, rs42]
 refine vcLoop Nat (fun i => [(8, .val (.int .i64 i)), (6, .val (.slice a xs.length cap)), (7, .val (.int .i64 xs.length)), (3, .val (.int .i64 0))]) (fun _ => []) (fun i _ => i ≤ xs.length ∧ orI xs = orI (xs.drop i)) (fun i => xs.length - i) 0 ?_ rfl ?_ ?_
 ·(try simp only [go_sem, ↓reduceIte, nQ1, nQ2, nQ3, nQ4, nQ5, nQ6, reduceCtorEq]) <;> (repeat' (first | rfl | trivial | constructor | (intro h; exact absurd rfl h)))
 ·exact ⟨Nat.zero_le _, by simp⟩
 rintro i env R1 hle hE ⟨hi, hp⟩
 (simp only [go_sem] at hE; obtain ⟨e8, e6, e7, e3⟩ := hE; simp only [go_sem, ↓reduceIte, nQ1, nQ2, nQ3, nQ4, nQ5, nQ6, reduceCtorEq, e8, e6, e7, e3]; dsimp only at *)
 refine ⟨fun hlt => ⟨hlt, ?_⟩, fun hge => ?_⟩
 ·have hlt' : i < xs.length := by omega
  obtain ⟨ad, had, hR⟩ := hf i hlt'
  refine vat ad had ?_
  try simp only [go_sem, ↓reduceIte, nQ1, nQ2, nQ3, nQ4, nQ5, nQ6, reduceCtorEq]
  refine vload _ (hle _ _ hR) ?_
  simp only [go_sem, ↓reduceIte, nQ1, nQ2, nQ3, nQ4, nQ5, nQ6, reduceCtorEq, e8, e6, e7, e3]
  rw [List.drop_eq_getElem_cons hlt'] at hp
  refine ⟨fun hne => ?_, fun heq => ?_⟩
  ·rw [hp, orI, if_neg hne]
  ·refine ⟨_, W.in64 (by omega), i + 1, by omega, by constructor, by omega, ?_⟩
   rw [hp, orI, if_pos heq]
 ·obtain rfl : i = xs.length := by omega
  rw [hp, List.drop_length]; rfl
def lessE (a b : Ed) : Bool := decide (a.seq < b.seq ∨ a.seq = b.seq ∧ a.device < b.device)
def cmpE (a b : Ed) : Int := if cmpI a.seq b.seq = 0 then cmpI a.device b.device else cmpI a.seq b.seq
theorem eCompareE (a b : Ed) (R : RO) : CallsR Tryz.prog 72 [a.val, b.val] R fun _ v => v = .int .i64 (cmpE a b) := by
 simp only [Ed.val]
 refine callsT mix Tryz.func72 comp72 (by simp [Tryz.ntmps72]) ?_; simp only [go_sem, ↓reduceIte, nQ1, nQ2, nQ3, nQ4, nQ5, nQ6, reduceCtorEq, vc72, rs72]
 refine vcall (eCompare a.seq b.seq R) ?_
 rintro R1 v h1 rfl
 try simp only [go_sem, ↓reduceIte, nQ1, nQ2, nQ3, nQ4, nQ5, nQ6, reduceCtorEq]
 refine vcall (eCompare a.device b.device R1) ?_
 rintro R2 v h2 rfl
 try simp only [go_sem, ↓reduceIte, nQ1, nQ2, nQ3, nQ4, nQ5, nQ6, reduceCtorEq]
 refine vfreeze ?_
 try simp only [go_sem, ↓reduceIte, nQ1, nQ2, nQ3, nQ4, nQ5, nQ6, reduceCtorEq]
 intro bb cap R3 hle hrow hcap hfr
 have hI : Ints R3 (.slice (some ⟨bb, 0, none⟩) 2 cap) [cmpI a.seq b.seq, cmpI a.device b.device] := RowIn.ints (xs := [cmpI a.seq b.seq, cmpI a.device b.device]) hrow (by simpa using hcap)
 refine vcall (eOr _ _ R3 hI (by simp)) ?_
 rintro R4 v h4 rfl
 try simp only [go_sem, ↓reduceIte, nQ1, nQ2, nQ3, nQ4, nQ5, nQ6, reduceCtorEq]
 unfold cmpE
 simp only [orI]
 by_cases h1 : cmpI a.seq b.seq = 0
 ·by_cases h2 : cmpI a.device b.device = 0 <;> simp [h1, h2]
 ·simp [h1]
theorem cmpE_neg (a b : Ed) : (cmpE a b < 0) = (a.seq < b.seq ∨ a.seq = b.seq ∧ a.device < b.device) := by
 unfold cmpE cmpI
 apply propext
 split <;> split <;> (repeat' split) <;> omega
theorem eLess (a b : Ed) (R : RO) : CallsR Tryz.prog 73 [a.val, b.val] R fun _ v => v = .bool (lessE a b) := by
 have h := eCompareE a b
 simp only [Ed.val] at h ⊢
 refine callsT mix Tryz.func73 comp73 (by simp [Tryz.ntmps73]) ?_; simp only [go_sem, ↓reduceIte, nQ1, nQ2, nQ3, nQ4, nQ5, nQ6, reduceCtorEq, vc73, rs73]
 refine vcall (h R) ?_
 rintro R1 v h1 rfl
 try simp only [go_sem, ↓reduceIte, nQ1, nQ2, nQ3, nQ4, nQ5, nQ6, reduceCtorEq]
 unfold lessE
 simp only [cmpE_neg]
end Go.Proofs.YtcjdbfnnbejmeaaGreat
namespace Go.Proofs.YtcjdbfnnbejmeaaGreat
set_option linter.unusedSimpArgs false
set_option linter.unusedVariables false
open Go.Proofs.YtcjdbfnnbejmeaaGreat.Vc
def overE (a b : Ed) : Bool :=
 if a.kind = 1 ∧ b.kind = 1 then lessE a b && decide (a.day = b.day)
 else if a.kind = 1 ∧ b.kind = 3 ∨ a.kind = 2 ∧ b.kind = 2 ∨ a.kind = 3 ∧ b.kind = 3 then lessE a b && decide (b.day ≤ a.day)
 else if a.kind = 4 ∧ b.kind = 4 then lessE a b
 else if a.kind = 1 ∧ b.kind = 5 ∨ a.kind = 2 ∧ b.kind = 5 ∨ a.kind = 3 ∧ b.kind = 5 then decide (b.day ≤ a.day)
 else if a.kind = 5 ∧ b.kind = 5 then decide (b.day < a.day) || decide (b.day = a.day) && lessE a b
 else false
theorem eOverrules (a b : Ed) (R : RO) : CallsR Tryz.prog 59 [a.val, b.val] R fun _ v => v = .bool (overE a b) := by
 have hL := eLess a b
 simp only [Ed.val] at hL ⊢
 refine callsT mix Tryz.func59 comp59 (by simp [Tryz.ntmps59]) ?_; simp only [go_sem, ↓reduceIte, nQ1, nQ2, nQ3, nQ4, nQ5, nQ6, reduceCtorEq, vc59, rs59]
 refine vcall (hL R) ?_
 rintro R1 v h1 rfl
 try simp only [go_sem, ↓reduceIte, nQ1, nQ2, nQ3, nQ4, nQ5, nQ6, reduceCtorEq]
 unfold overE
 generalize lessE a b = l
 clear hL
 have hb : ∀ (p q : Prop) [Decidable p] [Decidable q], ((decide p && decide q) = false) = ¬ (p ∧ q) := fun p q => by simp
 simp only [hb]
 repeat' (with_reducible first | refine And.intro ?_ ?_ | intro _)
 all_goals (congr 1)
 all_goals (try subst_vars)
 all_goals (repeat' split)
 all_goals first
  | rfl
  | (exfalso; omega)
  | (simp; done)
  | (simp; omega)
  | (cases l <;> simp <;> omega)
end Go.Proofs.YtcjdbfnnbejmeaaGreat
namespace Go.Proofs.YtcjdbfnnbejmeaaGreat
set_option linter.unusedSimpArgs false
set_option linter.unusedVariables false
open Go.Proofs.YtcjdbfnnbejmeaaGreat.Vc
def mvZ (m : Mv) : Bool := decide (m.day = 0) && (m.drop == false && (decide (m.toDay = 0) && (decide (m.minute = 0) && (decide (m.length = 0) && true))))
def restZ (mv : Bool) (minute length : Int) (rn : Nat) (z : Bool) : Bool := mv && decide (minute = 0) && decide (length = 0) && decide ((rn : Int) = 0) && z
def kindE (e : Ed) : Bool :=
 if e.kind = 1 then moveOK e.mv && decide (e.mv.day = e.day) && restZ true e.minute e.length e.rn (e.zone == ⟨#[]⟩)
 else if e.kind = 2 then betw 0 e.minute 1439 && betw 1 e.length 10080 && restZ (mvZ e.mv) 0 0 e.rn (e.zone == ⟨#[]⟩)
 else if e.kind = 3 then betw 1 e.rn 64 && restZ (mvZ e.mv) e.minute e.length 0 (e.zone == ⟨#[]⟩)
 else if e.kind = 4 then decide (e.day = 0) && betw 1 e.zone.size 32 && restZ (mvZ e.mv) e.minute e.length e.rn true
 else if e.kind = 5 then restZ (mvZ e.mv) e.minute e.length e.rn (e.zone == ⟨#[]⟩)
 else false
def validE (e : Ed) : Bool := betw 0 e.device 15 && betw 1 e.seq 1099511627776 && betw 0 e.day 1099511627776 && kindE e
theorem empty_beq : ((⟨#[]⟩ : ByteArray) == ⟨#[]⟩) = true := rfl
theorem eValid (e : Ed) (R : RO) : CallsR Tryz.prog 22 [e.val] R fun _ v => v = .bool (validE e) := by
 have hm := eValidMove e.mv
 simp only [Ed.val, Mv.val] at hm ⊢
 refine callsT mix Tryz.func22 comp22 (by simp [Tryz.ntmps22]) ?_; simp only [go_sem, ↓reduceIte, nQ1, nQ2, nQ3, nQ4, nQ5, nQ6, reduceCtorEq, vc22, rs22]
 refine vcall (eBetween 0 e.device 15 R) ?_
 rintro R1 v h1 rfl
 try simp only [go_sem, ↓reduceIte, nQ1, nQ2, nQ3, nQ4, nQ5, nQ6, reduceCtorEq]
 refine ⟨fun g1 => ?_, fun g1 => by simp [validE, g1]⟩
 refine vcall (eBetween 1 e.seq 1099511627776 R1) ?_
 rintro R2 v h2 rfl
 try simp only [go_sem, ↓reduceIte, nQ1, nQ2, nQ3, nQ4, nQ5, nQ6, reduceCtorEq]
 refine ⟨fun g2 => ?_, fun g2 => by simp [validE, g1, g2]⟩
 refine vcall (eBetween 0 e.day 1099511627776 R2) ?_
 rintro R3 v h3 rfl
 try simp only [go_sem, ↓reduceIte, nQ1, nQ2, nQ3, nQ4, nQ5, nQ6, reduceCtorEq]
 refine ⟨fun g3 => by simp [validE, g1, g2, g3], fun g3 => ?_⟩
 have hv : validE e = kindE e := by simp [validE, g1, g2, g3]
 refine ⟨fun k1 => ?_, fun k1 => ⟨fun k2 => ?_, fun k2 => ⟨fun k3 => ?_, fun k3 => ⟨fun k4 => ?_, fun k4 => ⟨fun k5 => ?_, fun k5 => ?_⟩⟩⟩⟩⟩
 ·rw [hv, kindE, if_pos k1]
  refine vcall (hm R3) ?_
  rintro R4 v h4 rfl
  try simp only [go_sem, ↓reduceIte, nQ1, nQ2, nQ3, nQ4, nQ5, nQ6, reduceCtorEq]
  repeat' (with_reducible first | refine And.intro ?_ ?_ | intro _)
  all_goals (simp_all [restZ, mvZ, empty_beq]; done)
 ·rw [hv, kindE, if_neg k1, if_pos k2]
  refine vcall (eBetween 0 e.minute 1439 R3) ?_
  rintro R4 v h4 rfl
  try simp only [go_sem, ↓reduceIte, nQ1, nQ2, nQ3, nQ4, nQ5, nQ6, reduceCtorEq]
  refine ⟨fun g4 => ?_, fun g4 => by simp [g4]⟩
  refine vcall (eBetween 1 e.length 10080 R4) ?_
  rintro R5 v h5 rfl
  try simp only [go_sem, ↓reduceIte, nQ1, nQ2, nQ3, nQ4, nQ5, nQ6, reduceCtorEq]
  repeat' (with_reducible first | refine And.intro ?_ ?_ | intro _)
  all_goals (simp_all [restZ, mvZ, empty_beq]; done)
 ·rw [hv, kindE, if_neg k1, if_neg k2, if_pos k3]
  refine vcall (eBetween 1 e.rn 64 R3) ?_
  rintro R4 v h4 rfl
  try simp only [go_sem, ↓reduceIte, nQ1, nQ2, nQ3, nQ4, nQ5, nQ6, reduceCtorEq]
  repeat' (with_reducible first | refine And.intro ?_ ?_ | intro _)
  all_goals (simp_all [restZ, mvZ, empty_beq]; done)
 ·rw [hv, kindE, if_neg k1, if_neg k2, if_neg k3, if_pos k4]
  refine ⟨fun g4 => ?_, fun g4 => by simp [g4]⟩
  refine vcall (eBetween 1 e.zone.size 32 R3) ?_
  rintro R4 v h4 rfl
  try simp only [go_sem, ↓reduceIte, nQ1, nQ2, nQ3, nQ4, nQ5, nQ6, reduceCtorEq]
  repeat' (with_reducible first | refine And.intro ?_ ?_ | intro _)
  all_goals (simp_all [restZ, mvZ, empty_beq]; done)
 ·rw [hv, kindE, if_neg k1, if_neg k2, if_neg k3, if_neg k4, if_pos k5]
  repeat' (with_reducible first | refine And.intro ?_ ?_ | intro _)
  all_goals (simp_all [restZ, mvZ, empty_beq]; done)
 ·rw [hv, kindE, if_neg k1, if_neg k2, if_neg k3, if_neg k4, if_neg k5]
end Go.Proofs.YtcjdbfnnbejmeaaGreat
namespace Go.Proofs.YtcjdbfnnbejmeaaGreat
set_option linter.unusedSimpArgs false
set_option linter.unusedVariables false
open Go.Proofs.YtcjdbfnnbejmeaaGreat.Vc
structure Nd where
 kind : Int
 cal : Int
 l : Int
 r : Int
 n : Int
 m : Int
 list : List Int
 name : ByteArray
 deriving DecidableEq
def Nd.cells (x : Nd) (lv : Value) : List Value := [.int .i64 x.kind, .int .i64 x.cal, .int .i64 x.l, .int .i64 x.r, .int .i64 x.n, .int .i64 x.m, lv, .string x.name]
def NodeV (R : RO) (cs : List Value) (x : Nd) : Prop := ∃ lv, cs = x.cells lv ∧ Ints R lv x.list ∧ x.list.length ≤ 17592186044416
theorem NodeV.mono {R R' : RO} {cs : List Value} {x : Nd} (h : NodeV R cs x) (hle : RO.le R R') : NodeV R' cs x := by
 obtain ⟨lv, e, h, hl⟩ := h
 exact ⟨lv, e, h.mono hle, hl⟩
def RuleV (R : RO) (v : Value) (xs : List Nd) : Prop := ∃ cs : List (List Value), SlK R v 8 cs ∧ cs.length = xs.length ∧ (∀ (i : Nat) (c : List Value) (x : Nd), cs[i]? = some c → xs[i]? = some x → NodeV R c x) ∧ xs.length ≤ 1599289640355
theorem RuleV.mono {R R' : RO} {v : Value} {xs : List Nd} (h : RuleV R v xs) (hle : RO.le R R') : RuleV R' v xs := by
 obtain ⟨cs, h1, h2, h3, h4⟩ := h
 exact ⟨cs, h1.mono hle, h2, fun i c x (hi : cs[i]? = some c) (hx : xs[i]? = some x) => (h3 i c x hi hx).mono hle, h4⟩
theorem eEqual (xs ys : List Int) (v u : Value) (R : RO) (h : Ints R v xs) (k : Ints R u ys) (hl : xs.length ≤ 17592186044416) : CallsR Tryz.prog 54 [v, u] R fun _ r => r = .bool (decide (xs = ys)) := by
 obtain ⟨a, cap, rfl, hc, hf⟩ := h.form
 obtain ⟨b, cap', rfl, hc', hf'⟩ := k.form
 refine callsT mix Tryz.func54 comp54 (by simp [Tryz.ntmps54]) ?_; simp only [go_sem, ↓reduceIte, nQ1, nQ2, nQ3, nQ4, nQ5, nQ6, reduceCtorEq, vc54, rs54]
 refine ⟨fun hne => ?_, fun he => ?_⟩
 ·rw [decide_eq_false]; rintro rfl; exact hne rfl
 have he' : xs.length = ys.length := by omega
 refine vcLoop Nat (fun i => [(13, .val (.int .i64 i)), (0, .val (.slice a xs.length cap)), (11, .val (.slice a xs.length cap)), (12, .val (.int .i64 xs.length)), (1, .val (.slice b ys.length cap'))]) (fun _ => []) (fun i _ => i ≤ xs.length ∧ xs.take i = ys.take i) (fun i => xs.length - i) 0 ?_ rfl ?_ ?_
 ·(try simp only [go_sem, ↓reduceIte, nQ1, nQ2, nQ3, nQ4, nQ5, nQ6, reduceCtorEq]) <;> (repeat' (first | rfl | trivial | constructor | (intro h; exact absurd rfl h)))
 ·exact ⟨Nat.zero_le _, rfl⟩
 rintro i env R1 hle hE ⟨hi, hp⟩
 (simp only [go_sem] at hE; obtain ⟨e13, e0, e11, e12, e1⟩ := hE; simp only [go_sem, ↓reduceIte, nQ1, nQ2, nQ3, nQ4, nQ5, nQ6, reduceCtorEq, e13, e0, e11, e12, e1]; dsimp only at *)
 refine ⟨fun hlt => ⟨hlt, ?_⟩, fun hge => ?_⟩
 ·have hlt' : i < xs.length := by omega
  obtain ⟨ad, had, hR⟩ := hf i hlt'
  obtain ⟨ad', had', hR'⟩ := hf' i (by omega)
  refine vat ad had ?_
  try simp only [go_sem, ↓reduceIte, nQ1, nQ2, nQ3, nQ4, nQ5, nQ6, reduceCtorEq]
  refine vload _ (hle _ _ hR) ?_
  simp only [go_sem, ↓reduceIte, nQ1, nQ2, nQ3, nQ4, nQ5, nQ6, reduceCtorEq, e13, e0, e11, e12, e1]
  refine ⟨by omega, vat ad' had' ?_⟩
  try simp only [go_sem, ↓reduceIte, nQ1, nQ2, nQ3, nQ4, nQ5, nQ6, reduceCtorEq]
  refine vload _ (hle _ _ hR') ?_
  simp only [go_sem, ↓reduceIte, nQ1, nQ2, nQ3, nQ4, nQ5, nQ6, reduceCtorEq, e13, e0, e11, e12, e1]
  refine ⟨fun hne => ?_, fun heq => ?_⟩
  ·rw [decide_eq_false]; rintro rfl; exact hne rfl
  ·refine ⟨_, W.in64 (by omega), i + 1, by omega, by constructor, by omega, ?_⟩
   rw [List.take_succ_eq_append_getElem hlt', List.take_succ_eq_append_getElem (by omega : i < ys.length), hp, heq]
 ·obtain rfl : i = xs.length := by omega
  rw [List.take_length, he', List.take_length] at hp
  simp [hp]
theorem bytes_beq (a : ByteArray) : (a == a) = true := by
 obtain ⟨x⟩ := a
 show (x == x) = true
 exact beq_self_eq_true x
theorem bytes_eq {a b : ByteArray} (h : (a == b) = true) : a = b := by
 obtain ⟨x⟩ := a
 obtain ⟨y⟩ := b
 have h' : (x == y) = true := h
 rw [eq_of_beq h']
theorem eSameNode (x y : Nd) (cx cy : List Value) (R : RO) (hx : NodeV R cx x) (hy : NodeV R cy y) : CallsR Tryz.prog 76 [.agg cx.toArray, .agg cy.toArray] R fun _ r => r = .bool (decide (x = y)) := by
 obtain ⟨lv, rfl, hi, hl⟩ := hx
 obtain ⟨lu, rfl, hi', hl'⟩ := hy
 obtain ⟨kind, cal, l, r, n, m, list, name⟩ := x
 obtain ⟨kind', cal', l', r', n', m', list', name'⟩ := y
 simp only [Nd.cells] at *
 refine callsT mix Tryz.func76 comp76 (by simp [Tryz.ntmps76]) ?_; simp only [go_sem, ↓reduceIte, nQ1, nQ2, nQ3, nQ4, nQ5, nQ6, reduceCtorEq, vc76, rs76]
 have hb : (name == name') = decide (name = name') := by
  by_cases e : name = name'
  ·subst e
   simp only [decide_true]
   exact bytes_beq name
  ·rw [decide_eq_false e]
   cases hq : (name == name') with
   | false => rfl
   | true => exact absurd (bytes_eq hq) e
 rw [hb]
 simp only [Nd.mk.injEq]
 repeat' (with_reducible first | refine And.intro ?_ ?_ | intro _)
 ·refine vcall (eEqual list list' lv lu R hi hi' (by omega)) ?_
  rintro R1 v h1 rfl
  try simp only [go_sem, ↓reduceIte, nQ1, nQ2, nQ3, nQ4, nQ5, nQ6, reduceCtorEq]
  simp_all
 all_goals simp_all
theorem SlK.form {R : RO} {v : Value} {k : Nat} {cs : List (List Value)} (h : SlK R v k cs) : ∃ a cap, v = .slice a cs.length cap ∧ cs.length ≤ cap ∧ ∀ i (hi : i < cs.length), (cs[i]).length = k ∧ ∃ ad, a = some ad ∧ ∀ j u, (cs[i])[j]? = some u → R ((ad.add (i * k)).add j) u := by
 obtain ⟨a, cap, e, hc, h⟩ := h
 exact ⟨a, cap, e, hc, fun i hi => h i _ (List.getElem?_eq_getElem hi)⟩
theorem hb62 : hasBody Tryz.prog 76 = true := by kernel_rfl
theorem eEqualFunc (xs ys : List Nd) (v u : Value) (R : RO) (h : RuleV R v xs) (k : RuleV R u ys) : CallsR Tryz.prog 44 [v, u, .func (.func 76) #[] #[]] R fun _ r => r = .bool (decide (xs = ys)) := by
 obtain ⟨cs, h1, h2, h3, h4⟩ := h
 obtain ⟨ds, k1, k2, k3, k4⟩ := k
 obtain ⟨a, cap, rfl, hc, hf⟩ := SlK.form h1
 obtain ⟨b, cap', rfl, hc', hf'⟩ := SlK.form k1
 refine callsT mix Tryz.func44 comp44 (by simp [Tryz.ntmps44]) ?_; simp only [go_sem, ↓reduceIte, nQ1, nQ2, nQ3, nQ4, nQ5, nQ6, reduceCtorEq, vc44, rs44]
 refine ⟨fun hne => ?_, fun he => ?_⟩
 ·rw [decide_eq_false]; rintro rfl; exact hne (by omega)
 have he' : xs.length = ys.length := by omega
 refine vcLoop Nat (fun i => [(17, .val (.int .i64 i)), (0, .val (.slice a cs.length cap)), (15, .val (.slice a cs.length cap)), (16, .val (.int .i64 cs.length)), (1, .val (.slice b ds.length cap')), (2, .val (.func (.func 76) #[] #[]))]) (fun _ => []) (fun i _ => i ≤ cs.length ∧ xs.take i = ys.take i) (fun i => cs.length - i) 0 ?_ rfl ?_ ?_
 ·(try simp only [go_sem, ↓reduceIte, nQ1, nQ2, nQ3, nQ4, nQ5, nQ6, reduceCtorEq]) <;> (repeat' (first | rfl | trivial | constructor | (intro h; exact absurd rfl h)))
 ·exact ⟨Nat.zero_le _, rfl⟩
 rintro i env R1 hle hE ⟨hi, hp⟩
 (simp only [go_sem] at hE; obtain ⟨e17, e0, e15, e16, e1, e2⟩ := hE; simp only [go_sem, ↓reduceIte, nQ1, nQ2, nQ3, nQ4, nQ5, nQ6, reduceCtorEq, e17, e0, e15, e16, e1, e2]; dsimp only at *)
 refine ⟨fun hlt => ⟨hlt, ?_⟩, fun hge => ?_⟩
 ·have hlt' : i < cs.length := by omega
  obtain ⟨hl, ad, had, hR⟩ := hf i hlt'
  obtain ⟨hl', ad', had', hR'⟩ := hf' i (by omega)
  have hx := h3 i _ _ (List.getElem?_eq_getElem hlt') (List.getElem?_eq_getElem (by omega))
  have hy := k3 i _ _ (List.getElem?_eq_getElem (by omega : i < ds.length)) (List.getElem?_eq_getElem (by omega : i < ys.length))
  obtain ⟨x, hxe⟩ : ∃ x, x = xs[i]'(by omega) := ⟨_, rfl⟩
  obtain ⟨y, hye⟩ : ∃ y, y = ys[i]'(by omega) := ⟨_, rfl⟩
  rw [← hxe] at hx
  rw [← hye] at hy
  have hx' := hx
  have hy' := hy
  obtain ⟨lv, hcx, hI, hIl⟩ := hx
  obtain ⟨lu, hcy, hI', hIl'⟩ := hy
  have ho : lv.oneCell' = true := by obtain ⟨_, _, rfl, _⟩ := hI.form; rfl
  have ho' : lu.oneCell' = true := by obtain ⟨_, _, rfl, _⟩ := hI'.form; rfl
  rw [hcx] at hR hx'
  rw [hcy] at hR' hy'
  refine vat ad had ?_
  try simp only [go_sem, ↓reduceIte, nQ1, nQ2, nQ3, nQ4, nQ5, nQ6, reduceCtorEq]
  refine vloadn (x.cells lv) rfl (fun j u hj => hle _ _ (hR j u hj)) ?_
  simp only [go_sem, ↓reduceIte, nQ1, nQ2, nQ3, nQ4, nQ5, nQ6, reduceCtorEq, Nd.cells, e17, e0, e15, e16, e1, e2]
  refine ⟨ho, by omega, vat ad' had' ?_⟩
  try simp only [go_sem, ↓reduceIte, nQ1, nQ2, nQ3, nQ4, nQ5, nQ6, reduceCtorEq]
  refine vloadn (y.cells lu) rfl (fun j u hj => hle _ _ (hR' j u hj)) ?_
  simp only [go_sem, ↓reduceIte, nQ1, nQ2, nQ3, nQ4, nQ5, nQ6, reduceCtorEq, Nd.cells, e17, e0, e15, e16, e1, e2]
  refine ⟨ho', ?_⟩
  refine ⟨hb62, vcall (eSameNode x y _ _ R1 (hx'.mono hle) (hy'.mono hle)) ?_⟩
  rintro R2 w h6 rfl
  simp only [go_sem, ↓reduceIte, nQ1, nQ2, nQ3, nQ4, nQ5, nQ6, reduceCtorEq, e17, e0, e15, e16, e1, e2]
  refine ⟨fun hne => ?_, fun heq => ?_⟩
  ·rw [decide_eq_false]; rintro rfl; exact hne (by rw [hxe, hye])
  ·refine ⟨_, W.in64 (by omega), i + 1, by omega, by constructor, by omega, ?_⟩
   rw [List.take_succ_eq_append_getElem (by omega : i < xs.length), List.take_succ_eq_append_getElem (by omega : i < ys.length), hp, ← hxe, ← hye, heq]
 ·obtain rfl : i = cs.length := by omega
  rw [h2, List.take_length, he', List.take_length] at hp
  simp [hp]
end Go.Proofs.YtcjdbfnnbejmeaaGreat
namespace Go.Proofs.YtcjdbfnnbejmeaaGreat
set_option linter.unusedSimpArgs false
set_option linter.unusedVariables false
open Go.Proofs.YtcjdbfnnbejmeaaGreat.Vc
structure De where
 kind : Int
 day : Int
 device : Int
 seq : Int
 mv : Mv
 minute : Int
 length : Int
 rule : List Nd
 zone : ByteArray
 deriving DecidableEq
def De.ed (d : De) (a : Option Addr) (n c : Nat) : Ed := ⟨d.kind, d.day, d.device, d.seq, d.mv, d.minute, d.length, a, n, c, d.zone⟩
def EdV (R : RO) (cs : List Value) (d : De) : Prop := ∃ a n c, .agg cs.toArray = (d.ed a n c).val ∧ RuleV R (.slice a n c) d.rule
theorem EdV.mono {R R' : RO} {cs : List Value} {d : De} (h : EdV R cs d) (hle : RO.le R R') : EdV R' cs d := by
 obtain ⟨a, n, c, e, h⟩ := h
 exact ⟨a, n, c, e, h.mono hle⟩
theorem RuleV.len {R : RO} {a : Option Addr} {n c : Nat} {xs : List Nd} (h : RuleV R (.slice a n c) xs) : n = xs.length := by
 obtain ⟨cs, ⟨a', cap, e, _⟩, h2, _⟩ := h
 simp only [Value.slice.injEq] at e
 omega
theorem eSameRule (xs ys : List Nd) (v u : Value) (R : RO) (h : RuleV R v xs) (k : RuleV R u ys) : CallsR Tryz.prog 63 [v, u] R fun _ r => r = .bool (decide (xs = ys)) := by
 have hc := eEqualFunc xs ys v u R h k
 obtain ⟨cs, ⟨a, cap, rfl, _⟩, h2, _⟩ := h
 obtain ⟨ds, ⟨b, cap', rfl, _⟩, k2, _⟩ := k
 refine callsT mix Tryz.func63 comp63 (by simp [Tryz.ntmps63]) ?_; simp only [go_sem, ↓reduceIte, nQ1, nQ2, nQ3, nQ4, nQ5, nQ6, reduceCtorEq, vc63, rs63]
 refine vcall hc ?_
 rintro R1 v h1 rfl
 try simp only [go_sem, ↓reduceIte, nQ1, nQ2, nQ3, nQ4, nQ5, nQ6, reduceCtorEq]
theorem eSame (x y : De) (cx cy : List Value) (R : RO) (hx : EdV R cx x) (hy : EdV R cy y) : CallsR Tryz.prog 69 [.agg cx.toArray, .agg cy.toArray] R fun _ r => r = .bool (decide (x = y)) := by
 obtain ⟨a, n, c, e, h⟩ := hx
 obtain ⟨a', n', c', e', h'⟩ := hy
 rw [e, e']
 clear e e'
 obtain ⟨kind, day, device, seq, mv, minute, length, rule, zone⟩ := x
 obtain ⟨kind', day', device', seq', mv', minute', length', rule', zone'⟩ := y
 obtain ⟨md, mr, mt, mm, ml⟩ := mv
 obtain ⟨md', mr', mt', mm', ml'⟩ := mv'
 simp only [De.ed, Ed.val] at *
 refine callsT mix Tryz.func69 comp69 (by simp [Tryz.ntmps69]) ?_; simp only [go_sem, ↓reduceIte, nQ1, nQ2, nQ3, nQ4, nQ5, nQ6, reduceCtorEq, vc69, rs69]
 have hb : (zone == zone') = decide (zone = zone') := by
  by_cases e : zone = zone'
  ·subst e
   simp only [decide_true]
   exact bytes_beq zone
  ·rw [decide_eq_false e]
   cases hq : (zone == zone') with
   | false => rfl
   | true => exact absurd (bytes_eq hq) e
 rw [hb]
 simp only [De.mk.injEq, Mv.mk.injEq]
 repeat' (with_reducible first | refine And.intro ?_ ?_ | intro _)
 ·refine vcall (eSameRule rule rule' _ _ R h h') ?_
  rintro R1 v h1 rfl
  try simp only [go_sem, ↓reduceIte, nQ1, nQ2, nQ3, nQ4, nQ5, nQ6, reduceCtorEq]
  simp_all
 all_goals (clear h h')
 all_goals simp_all
end Go.Proofs.YtcjdbfnnbejmeaaGreat
namespace Go.Proofs.YtcjdbfnnbejmeaaGreat
set_option linter.unusedSimpArgs false
set_option linter.unusedVariables false
open Go.Proofs.YtcjdbfnnbejmeaaGreat.Vc
theorem eCloneInts (xs : List Int) (v : Value) (R : RO) (h : Ints R v xs) (hl : xs.length ≤ 17592186044416) : CallsR Tryz.prog 52 [v] R fun R' u => Ints R' u xs := by
 obtain ⟨a, cap, rfl, hc, hf⟩ := h.form
 refine callsT mix Tryz.func52 comp52 (by simp [Tryz.ntmps52]) ?_; simp only [go_sem, ↓reduceIte, nQ1, nQ2, nQ3, nQ4, nQ5, nQ6, reduceCtorEq, vc52, rs52]
 refine ⟨fun hn => ?_, fun hs => ?_⟩
 ·have : xs = [] := by
   cases xs with
   | nil => rfl
   | cons x r =>
    obtain ⟨ad, e, _⟩ := hf 0 (by simp)
    rw [e] at hn; cases hn
  subst this
  exact Ints.nil R
 ·refine vsrc (xs.map (.int .i64)) (by simp) (fun u hu => by obtain ⟨_, _, rfl⟩ := List.mem_map.1 hu; rfl) (fun hne => ?_) ?_
  ·cases ha : a with
   | none => rw [ha] at hs; cases hs
   | some ad =>
    refine ⟨ad, rfl, fun i u hi => ?_⟩
    rw [List.getElem?_map] at hi
    obtain ⟨x, hx, rfl⟩ := Option.map_eq_some_iff.1 hi
    obtain ⟨hlt, rfl⟩ := List.getElem?_eq_some_iff.1 hx
    obtain ⟨ad', e, hR⟩ := hf i hlt
    rw [ha] at e
    simp only [Option.some.injEq] at e
    subst e
    exact hR
  try simp only [go_sem, ↓reduceIte, nQ1, nQ2, nQ3, nQ4, nQ5, nQ6, reduceCtorEq]
  refine vappO [] rfl rfl (by omega) ?_
  try simp only [go_sem, ↓reduceIte, nQ1, nQ2, nQ3, nQ4, nQ5, nQ6, reduceCtorEq]
  intro b cap' R' hle hrow hcap hfr
  have := RowIn.ints (xs := xs) (cap := cap') hrow (by simpa using hcap)
  simpa using this
theorem flat_get {α : Type} {k : Nat} {cs : List (List α)} (hk : ∀ us ∈ cs, us.length = k) (h0 : 0 < k) {i : Nat} {v : α} (h : cs.flatten[i]? = some v) : ∃ us, cs[i / k]? = some us ∧ us[i % k]? = some v := by
 have hlt := (List.getElem?_eq_some_iff.1 h).1
 rw [length_flattenK hk] at hlt
 have hq : i / k < cs.length := (Nat.div_lt_iff_lt_mul h0).2 hlt
 refine ⟨cs[i / k], List.getElem?_eq_getElem hq, ?_⟩
 have h1 := getElem?_flatten hk (i / k) (i % k) _ (List.getElem?_eq_getElem hq) (Nat.mod_lt _ h0)
 rw [Nat.mul_comm, Nat.div_add_mod] at h1
 rw [← h1]; exact h
theorem NodeV.one {R : RO} {c : List Value} {x : Nd} (h : NodeV R c x) : c.length = 8 ∧ ∀ u ∈ c, u.oneCell' = true := by
 obtain ⟨lv, rfl, hI, _⟩ := h
 obtain ⟨_, _, rfl, _⟩ := hI.form
 refine ⟨rfl, fun u hu => ?_⟩
 simp only [Nd.cells, List.mem_cons, List.not_mem_nil, or_false] at hu
 rcases hu with rfl | rfl | rfl | rfl | rfl | rfl | rfl | rfl <;> rfl
theorem eCloneRule (xs : List Nd) (v : Value) (R : RO) (h : RuleV R v xs) (hl : xs.length ≤ 1599289640355) : CallsS Tryz.prog 51 [.val v] [] R fun R' bs r => ∃ cs : List (List Value), cs.length = xs.length ∧ (∀ c ∈ cs, c.length = 8) ∧ (∀ (i : Nat) (c : List Value) (x : Nd), cs[i]? = some c → xs[i]? = some x → NodeV R' c x) ∧
  (xs = [] ∧ bs = [] ∧ r = .val (.slice none 0 0) ∨ bs = [.dead, .row 78 8 cs.flatten] ∧ r = .sl 1 xs.length) := by
 obtain ⟨cs, h1, h2, h3, h4⟩ := h
 obtain ⟨a, cap, rfl, hc, hf⟩ := SlK.form h1
 refine callsTS mix Tryz.func51 comp51 (by simp [Tryz.ntmps51]) rfl rfl ?_; simp only [go_sem, ↓reduceIte, nQ1, nQ2, nQ3, nQ4, nQ5, nQ6, reduceCtorEq, vc51, rs51]
 refine ⟨fun hn => ?_, fun hs => ?_⟩
 ·have hx : xs = [] := by
   cases hcs : cs with
   | nil => rw [hcs] at h2; exact List.eq_nil_of_length_eq_zero h2.symm
   | cons x r =>
    obtain ⟨_, ad, e, _⟩ := hf 0 (by simp [hcs])
    rw [e] at hn; cases hn
  subst hx
  exact ⟨[], rfl, by simp, by simp, rfl⟩
 ·have hfl := length_flattenK (k := 8) (xs := cs) (fun us hus => by
   obtain ⟨i, hi, rfl⟩ := List.mem_iff_getElem.1 hus
   exact (hf i hi).1)
  have hn : ∀ c ∈ cs, ∃ x, NodeV R c x := fun c hc' => by
   obtain ⟨i, hi, rfl⟩ := List.mem_iff_getElem.1 hc'
   exact ⟨_, h3 i _ _ (List.getElem?_eq_getElem hi) (List.getElem?_eq_getElem (by omega))⟩
  refine vsrc cs.flatten (by rw [hfl]) (fun u hu => ?_) (fun hne => ?_) ?_
  ·obtain ⟨c, hc', hu'⟩ := List.mem_flatten.1 hu
   obtain ⟨x, hx⟩ := hn c hc'
   exact hx.one.2 u hu'
  ·cases ha : a with
   | none => rw [ha] at hs; cases hs
   | some ad =>
    refine ⟨ad, rfl, fun i u hi => ?_⟩
    obtain ⟨us, hus, hu⟩ := flat_get (fun us hus => by
     obtain ⟨x, hx⟩ := hn us hus
     exact hx.one.1) (by omega) hi
    obtain ⟨hlt, rfl⟩ := List.getElem?_eq_some_iff.1 hus
    obtain ⟨_, ad', e, hR⟩ := hf _ hlt
    rw [ha] at e
    simp only [Option.some.injEq] at e
    subst e
    have := hR _ _ hu
    rw [add_add, Nat.mul_comm, Nat.div_add_mod] at this
    exact this
  try simp only [go_sem, ↓reduceIte, nQ1, nQ2, nQ3, nQ4, nQ5, nQ6, reduceCtorEq]
  refine vappO [] rfl rfl (by omega) ?_
  try simp only [go_sem, ↓reduceIte, nQ1, nQ2, nQ3, nQ4, nQ5, nQ6, reduceCtorEq]
  exact ⟨cs, h2, fun c hc => by obtain ⟨x, hx⟩ := hn c hc; exact hx.one.1, h3, .inr ⟨⟨rfl, rfl⟩, by rw [h2]⟩⟩
theorem flat_set {α : Type} {k : Nat} : ∀ (cs : List (List α)) (_ : ∀ us ∈ cs, us.length = k) (i j : Nat) (v : α) (us : List α), cs[i]? = some us → j < k → cs.flatten.set (i * k + j) v = (cs.set i (us.set j v)).flatten
 | [], _, i, j, v, us, h, _ => by simp at h
 | c :: cs, hk, 0, j, v, us, h, hj => by
  simp only [List.getElem?_cons_zero, Option.some.injEq] at h
  subst h
  simp only [List.flatten_cons, Nat.zero_mul, Nat.zero_add, List.set_cons_zero]
  rw [List.set_append_left _ _ (by rw [hk c (by simp)]; exact hj)]
 | c :: cs, hk, i + 1, j, v, us, h, hj => by
  simp only [List.getElem?_cons_succ] at h
  have ih := flat_set cs (fun us hus => hk us (by simp [hus])) i j v us h hj
  have hl := hk c (by simp)
  simp only [List.flatten_cons, List.set_cons_succ]
  rw [List.set_append_right _ _ (by rw [hl, Nat.add_mul]; omega), hl, ← ih]
  congr 2
  rw [Nat.add_mul]; omega
def Nodes (R : RO) (cs : List (List Value)) (xs : List Nd) : Prop := cs.length = xs.length ∧ ∀ (i : Nat) (c : List Value) (x : Nd), cs[i]? = some c → xs[i]? = some x → NodeV R c x
theorem Nodes.mono {R R' : RO} {cs : List (List Value)} {xs : List Nd} (h : Nodes R cs xs) (hle : RO.le R R') : Nodes R' cs xs := ⟨h.1, fun i c x h1 h2 => (h.2 i c x h1 h2).mono hle⟩
theorem Nodes.len {R : RO} {cs : List (List Value)} {xs : List Nd} (h : Nodes R cs xs) : ∀ c ∈ cs, c.length = 8 := fun c hc => by
 obtain ⟨i, hi, rfl⟩ := List.mem_iff_getElem.1 hc
 exact (h.2 i _ _ (List.getElem?_eq_getElem hi) (List.getElem?_eq_getElem (by rw [← h.1]; exact hi))).one.1
theorem eCopied (xs : List Nd) (v : Value) (R : RO) (h : RuleV R v xs) : CallsR Tryz.prog 70 [v] R fun R' u => RuleV R' u xs := by
 have hxl : xs.length ≤ 1599289640355 := by obtain ⟨_, _, _, _, h⟩ := h; exact h
 have hcl := eCloneRule xs v R h hxl
 obtain ⟨cs0, ⟨a, cap, rfl, _⟩, _⟩ := h
 refine callsT mix Tryz.func70 comp70 (by simp [Tryz.ntmps70]) ?_; simp only [go_sem, ↓reduceIte, nQ1, nQ2, nQ3, nQ4, nQ5, nQ6, reduceCtorEq, vc70, rs70]
 refine vhand0 [] [.val (.slice a cs0.length cap)] [] hcl rfl rfl rfl trivial (by simp) rfl rfl ?_
 rintro R1 bs r hle1 ⟨cs, h1, h2, h3, h4⟩ _
 rcases h4 with ⟨rfl, rfl, rfl⟩ | ⟨rfl, rfl⟩
 ·try simp only [go_sem, ↓reduceIte, nQ1, nQ2, nQ3, nQ4, nQ5, nQ6, reduceCtorEq, iQ1, iQ2, iQ3, iQ4, iQ5, iQ6]
  refine vcLoop Unit (fun _ => [(9, .val (.int .i64 0)), (8, .val (.int .i64 0)), (3, .val (.slice none 0 0))]) (fun _ => []) (fun _ _ => True) (fun _ => 0) () ?_ rfl trivial ?_
  ·(try simp only [go_sem, ↓reduceIte, nQ1, nQ2, nQ3, nQ4, nQ5, nQ6, reduceCtorEq]) <;> (repeat' (first | rfl | trivial | constructor | (intro h; exact absurd rfl h)))
  rintro _ env R2 hle hE _
  (simp only [go_sem] at hE; obtain ⟨e9, e8, e3⟩ := hE; simp only [go_sem, ↓reduceIte, nQ1, nQ2, nQ3, nQ4, nQ5, nQ6, reduceCtorEq, e9, e8, e3]; dsimp only at *)
  exact ⟨fun h => absurd h (by omega), fun _ => ⟨[], ⟨none, 0, rfl, Nat.le_refl _, by simp⟩, rfl, by simp, by simp⟩⟩
 ·try simp only [go_sem, ↓reduceIte, nQ1, nQ2, nQ3, nQ4, nQ5, nQ6, reduceCtorEq, iQ1, iQ2, iQ3, iQ4, iQ5, iQ6]
  have hN : Nodes R1 cs xs := ⟨h1, h3⟩
  clear h1 h2 h3 hcl
  refine vcLoop (Nat × List (List Value)) (fun p => [(9, .val (.int .i64 p.1)), (8, .val (.int .i64 xs.length)), (3, .sl 1 xs.length)]) (fun p => [.dead, .row 78 8 p.2.flatten]) (fun p R => p.1 ≤ xs.length ∧ Nodes R p.2 xs) (fun p => xs.length - p.1) (0, cs) ?_ rfl ?_ ?_
  ·(try simp only [go_sem, ↓reduceIte, nQ1, nQ2, nQ3, nQ4, nQ5, nQ6, reduceCtorEq]) <;> (repeat' (first | rfl | trivial | constructor | (intro h; exact absurd rfl h)))
  ·exact ⟨Nat.zero_le _, hN⟩
  rintro ⟨i, cs⟩ env R2 hle hE ⟨hi, hN⟩
  (simp only [go_sem] at hE; obtain ⟨e9, e8, e3⟩ := hE; simp only [go_sem, ↓reduceIte, nQ1, nQ2, nQ3, nQ4, nQ5, nQ6, reduceCtorEq, e9, e8, e3]; dsimp only at *)
  have hlen := hN.1
  have h8 := hN.len
  have hfl := length_flattenK h8
  refine ⟨fun hlt => ⟨hlt, ?_⟩, fun hge => ?_⟩
  ·have hlt' : i < xs.length := by omega
   have hx := hN.2 i _ _ (List.getElem?_eq_getElem (by omega : i < cs.length)) (List.getElem?_eq_getElem hlt')
   obtain ⟨lv, hcx, hI, hIl⟩ := hx
   have hget : cs.flatten[i * 8 + 6]? = some lv := by
    rw [getElem?_flatten h8 i 6 _ (List.getElem?_eq_getElem (by omega : i < cs.length)) (by omega), hcx]
    rfl
   refine ⟨lv, hget, vcall (eCloneInts _ lv R2 hI hIl) ?_⟩
   intro R3 u hle3 hu
   obtain ⟨ua, ucap, rfl, hucap, huf⟩ := hu.form
   try simp only [go_sem, ↓reduceIte, nQ1, nQ2, nQ3, nQ4, nQ5, nQ6, reduceCtorEq, iQ1, iQ2, iQ3, iQ4, iQ5, iQ6, e9, e8, e3]
   refine ⟨hlt, by omega, _, W.in64 (by omega), (i + 1, cs.set i (xs[i].cells (.slice ua (xs[i]).list.length ucap))), by dsimp only; omega, ?_, by dsimp only; omega, by simp [hlen], ?_⟩
   ·refine ⟨rfl, ?_⟩
    rw [flat_set cs h8 i 6 _ _ (List.getElem?_eq_getElem (by omega : i < cs.length)) (by omega), hcx]
    rfl
   ·intro j c x hj hx
    rw [List.getElem?_set] at hj
    split at hj
    ·rename_i hij
     subst hij
     rw [if_pos (by omega)] at hj
     simp only [Option.some.injEq] at hj
     rw [List.getElem?_eq_getElem hlt'] at hx
     simp only [Option.some.injEq] at hx
     subst hj hx
     exact ⟨_, rfl, hu, hIl⟩
    ·exact (hN.2 j c x hj hx).mono hle3
  ·intro b cap' R3 hle3 hrow hcap hfr
   exact ⟨cs, by rw [← hlen]; exact RowIn.slK hrow h8 (by omega) hcap, hlen, fun j c x hj hx => (hN.2 j c x hj hx).mono hle3, hxl⟩
end Go.Proofs.YtcjdbfnnbejmeaaGreat
namespace Go.Proofs.YtcjdbfnnbejmeaaGreat
set_option linter.unusedSimpArgs false
set_option linter.unusedVariables false
open Go.Proofs.YtcjdbfnnbejmeaaGreat.Vc
def Ed.cells (e : Ed) : List Value := [.int .i64 e.kind, .int .i64 e.day, .int .i64 e.device, .int .i64 e.seq, .int .i64 e.mv.day, .bool e.mv.drop, .int .i64 e.mv.toDay, .int .i64 e.mv.minute, .int .i64 e.mv.length, .int .i64 e.minute, .int .i64 e.length, .slice e.ra e.rn e.rc, .string e.zone]
theorem EdV.form {R : RO} {cs : List Value} {d : De} (h : EdV R cs d) : ∃ a n c, cs = (d.ed a n c).cells ∧ RuleV R (.slice a n c) d.rule := by
 obtain ⟨a, n, c, e, h⟩ := h
 refine ⟨a, n, c, ?_, h⟩
 simp only [Ed.val, Value.agg.injEq] at e
 have := congrArg Array.toList e
 simpa [Ed.cells] using this
def EdsV (R : RO) (v : Value) (ds : List De) : Prop := ∃ cs : List (List Value), SlK R v 13 cs ∧ cs.length = ds.length ∧ (∀ (i : Nat) (c : List Value) (d : De), cs[i]? = some c → ds[i]? = some d → EdV R c d) ∧ ds.length ≤ 1000000000
theorem EdsV.mono {R R' : RO} {v : Value} {ds : List De} (h : EdsV R v ds) (hle : RO.le R R') : EdsV R' v ds := by
 obtain ⟨cs, h1, h2, h3, h4⟩ := h
 exact ⟨cs, h1.mono hle, h2, fun i c x hi hx => (h3 i c x hi hx).mono hle, h4⟩
theorem EdsV.form {R : RO} {v : Value} {ds : List De} (h : EdsV R v ds) : ∃ a cap, v = .slice a ds.length cap ∧ ds.length ≤ cap ∧ ∀ i (hi : i < ds.length), ∃ ad ra rn rc, a = some ad ∧ (∀ j u, ((ds[i].ed ra rn rc).cells)[j]? = some u → R ((ad.add (i * 13)).add j) u) ∧ RuleV R (.slice ra rn rc) (ds[i]).rule := by
 obtain ⟨cs, h1, h2, h3, h4⟩ := h
 obtain ⟨a, cap, rfl, hc, hf⟩ := SlK.form h1
 refine ⟨a, cap, by rw [h2], by omega, fun i hi => ?_⟩
 obtain ⟨_, ad, ha, hR⟩ := hf i (by omega)
 obtain ⟨ra, rn, rc, e, hr⟩ := (h3 i _ _ (List.getElem?_eq_getElem (by omega)) (List.getElem?_eq_getElem hi)).form
 rw [e] at hR
 exact ⟨ad, ra, rn, rc, ha, hR, hr⟩
structure Se where
 rule : Value
 minute : Int
 length : Int
 zone : ByteArray
 gap : Int
 fold : Int
 moves : Value
def Se.cells (s : Se) : List Value := [s.rule, .int .i64 s.minute, .int .i64 s.length, .string s.zone, .int .i64 s.gap, .int .i64 s.fold, s.moves]
def endE (ds : List De) : Int := ds.foldl (fun e d => if d.kind = 5 then d.day else e) 1099511627777
theorem eBegin (s : Se) (ds : List De) (v : Value) (R : RO) (hr : s.rule.oneCell' = true) (hm : s.moves.oneCell' = true) (h : EdsV R v ds) : CallsR Tryz.prog 48 [.agg s.cells.toArray, v] R fun _ u => u = .agg (s.cells ++ [v, .int .i64 (endE ds)]).toArray := by
 have hdl : ds.length ≤ 1000000000 := by obtain ⟨_, _, _, _, h⟩ := h; exact h
 obtain ⟨a, cap, rfl, hc, hf⟩ := h.form
 simp only [Se.cells]
 refine callsT mix Tryz.func48 comp48 (by simp [Tryz.ntmps48]) ?_; simp only [go_sem, ↓reduceIte, nQ1, nQ2, nQ3, nQ4, nQ5, nQ6, reduceCtorEq, vc48, rs48]
 refine ⟨⟨hr, hm⟩, ?_⟩
 refine vcLoop Nat (fun i => [(13, .val (.int .i64 i)), (12, .val (.int .i64 ds.length)), (11, .val (.slice a ds.length cap)), (5, .loc 2 0), (4, .loc 1 0)])
  (fun i => [.dead, .box [.val (.slice none 0 0), .val (.int .i64 0), .val (.int .i64 0), .val (.string ⟨#[]⟩), .val (.int .i64 0), .val (.int .i64 0), .val (.slice none 0 0), .val (.slice none 0 0), .val (.int .i64 0)],
   .box [.val s.rule, .val (.int .i64 s.minute), .val (.int .i64 s.length), .val (.string s.zone), .val (.int .i64 s.gap), .val (.int .i64 s.fold), .val s.moves, .val (.slice a ds.length cap), .val (.int .i64 (endE (ds.take i)))]]) (fun i _ => i ≤ ds.length) (fun i => ds.length - i) 0 ?_ ?_ ?_ ?_
 ·(try simp only [go_sem, ↓reduceIte, nQ1, nQ2, nQ3, nQ4, nQ5, nQ6, reduceCtorEq]) <;> (repeat' (first | rfl | trivial | constructor | (intro h; exact absurd rfl h)))
 ·try simp only [go_sem, ↓reduceIte, nQ1, nQ2, nQ3, nQ4, nQ5, nQ6, reduceCtorEq]
 ·exact Nat.zero_le _
 rintro i env R1 hle hE hi
 (simp only [go_sem] at hE; obtain ⟨e13, e12, e11, e5, e4⟩ := hE; simp only [go_sem, ↓reduceIte, nQ1, nQ2, nQ3, nQ4, nQ5, nQ6, reduceCtorEq, e13, e12, e11, e5, e4]; dsimp only at *)
 refine ⟨fun hlt => ⟨hlt, ?_⟩, fun hge => ?_⟩
 ·have hlt' : i < ds.length := by omega
  obtain ⟨ad, ra, rn, rc, had, hR, _⟩ := hf i hlt'
  obtain ⟨d, hd⟩ : ∃ d, d = ds[i] := ⟨_, rfl⟩
  rw [← hd] at hR
  have htk : endE (ds.take (i + 1)) = if d.kind = 5 then d.day else endE (ds.take i) := by
   rw [List.take_succ_eq_append_getElem hlt', endE, List.foldl_append, ← hd]; rfl
  refine vat ad had ?_
  try simp only [go_sem, ↓reduceIte, nQ1, nQ2, nQ3, nQ4, nQ5, nQ6, reduceCtorEq]
  refine vloadn (d.ed ra rn rc).cells rfl (fun j u hj => hle _ _ (hR j u hj)) ?_
  simp only [go_sem, ↓reduceIte, nQ1, nQ2, nQ3, nQ4, nQ5, nQ6, reduceCtorEq, Ed.cells, De.ed, e13, e12, e11, e5, e4]
  refine ⟨fun hk => ⟨_, W.in64 (by omega), i + 1, by omega, ⟨rfl, by rw [htk, if_pos hk]⟩, by omega⟩, fun hk => ⟨_, W.in64 (by omega), i + 1, by omega, ⟨rfl, by rw [htk, if_neg hk]⟩, by omega⟩⟩
 ·obtain rfl : i = ds.length := by omega
  rw [List.take_length]
  exact ⟨⟨hr, hm⟩, rfl⟩
end Go.Proofs.YtcjdbfnnbejmeaaGreat
namespace Go.Proofs.YtcjdbfnnbejmeaaGreat
set_option linter.unusedSimpArgs false
set_option linter.unusedVariables false
open Go.Proofs.YtcjdbfnnbejmeaaGreat.Vc
structure On where
 rule : List Nd
 minute : Int
 length : Int
 zone : ByteArray
 deriving DecidableEq
def stepOn (day : Int) (o : On) (d : De) : On :=
 if day < d.day then o else if d.kind = 2 then ⟨o.rule, d.minute, d.length, o.zone⟩ else if d.kind = 3 then ⟨d.rule, o.minute, o.length, o.zone⟩ else if d.kind = 4 then ⟨o.rule, o.minute, o.length, d.zone⟩ else o
def onE (day : Int) (o : On) (ds : List De) : On := ds.foldl (stepOn day) o
theorem RuleV.form {R : RO} {v : Value} {xs : List Nd} (h : RuleV R v xs) : ∃ a n c, v = .slice a n c := by
 obtain ⟨_, ⟨_, _, rfl, _⟩, _⟩ := h; exact ⟨_, _, _, rfl⟩
theorem RuleV.one {R : RO} {v : Value} {xs : List Nd} (h : RuleV R v xs) : v.oneCell' = true := by
 obtain ⟨_, ⟨_, _, rfl, _⟩, _⟩ := h; rfl
theorem eOn (s : Se) (rl : List Nd) (ds : List De) (v : Value) (e day : Int) (R : RO) (hr : RuleV R s.rule rl) (h : EdsV R v ds) : CallsR Tryz.prog 62 [.agg (s.cells ++ [v, .int .i64 e]).toArray, .int .i64 day] R fun R' u =>
  ∃ rv, u = .agg (Se.cells ⟨rv, (onE day ⟨rl, s.minute, s.length, s.zone⟩ ds).minute, (onE day ⟨rl, s.minute, s.length, s.zone⟩ ds).length, (onE day ⟨rl, s.minute, s.length, s.zone⟩ ds).zone, s.gap, s.fold, .slice none 0 0⟩).toArray ∧ RuleV R' rv (onE day ⟨rl, s.minute, s.length, s.zone⟩ ds).rule := by
 have hdl : ds.length ≤ 1000000000 := by obtain ⟨_, _, _, _, h⟩ := h; exact h
 obtain ⟨a, cap, rfl, hc, hf⟩ := h.form
 obtain ⟨sr, sm, sl, sz, sg, sf, smv⟩ := s
 obtain ⟨ra0, rn0, rc0, e0⟩ := hr.form
 dsimp only at e0 hr
 subst e0
 simp only [Se.cells, List.cons_append, List.nil_append] at *
 refine callsT mix Tryz.func62 comp62 (by simp [Tryz.ntmps62]) ?_; simp only [go_sem, ↓reduceIte, nQ1, nQ2, nQ3, nQ4, nQ5, nQ6, reduceCtorEq, vc62, rs62]
 refine vcLoop (Nat × Option Addr × Nat × Nat) (fun p => [(30, .val (.int .i64 p.1)), (29, .val (.int .i64 ds.length)), (28, .val (.slice a ds.length cap)), (1, .val (.int .i64 day)), (5, .loc 2 0), (4, .loc 1 0)])
  (fun p => [.dead, .box [.val (.slice none 0 0), .val (.int .i64 0), .val (.int .i64 0), .val (.string ⟨#[]⟩), .val (.int .i64 0), .val (.int .i64 0), .val (.slice none 0 0)],
   .box [.val (.slice p.2.1 p.2.2.1 p.2.2.2), .val (.int .i64 (onE day ⟨rl, sm, sl, sz⟩ (ds.take p.1)).minute), .val (.int .i64 (onE day ⟨rl, sm, sl, sz⟩ (ds.take p.1)).length), .val (.string (onE day ⟨rl, sm, sl, sz⟩ (ds.take p.1)).zone), .val (.int .i64 sg), .val (.int .i64 sf), .val (.slice none 0 0)]])
  (fun p R => p.1 ≤ ds.length ∧ RuleV R (.slice p.2.1 p.2.2.1 p.2.2.2) (onE day ⟨rl, sm, sl, sz⟩ (ds.take p.1)).rule) (fun p => ds.length - p.1) (0, ra0, rn0, rc0) ?_ ?_ ?_ ?_
 ·(try simp only [go_sem, ↓reduceIte, nQ1, nQ2, nQ3, nQ4, nQ5, nQ6, reduceCtorEq]) <;> (repeat' (first | rfl | trivial | constructor | (intro h; exact absurd rfl h)))
 ·try simp only [go_sem, ↓reduceIte, nQ1, nQ2, nQ3, nQ4, nQ5, nQ6, reduceCtorEq]
 ·exact ⟨Nat.zero_le _, hr⟩
 rintro ⟨i, va, vn, vc⟩ env R1 hle hE ⟨hi, hrv⟩
 (simp only [go_sem] at hE; obtain ⟨e30, e29, e28, e1, e5, e4⟩ := hE; simp only [go_sem, ↓reduceIte, nQ1, nQ2, nQ3, nQ4, nQ5, nQ6, reduceCtorEq, e30, e29, e28, e1, e5, e4]; dsimp only at *)
 refine ⟨fun hlt => ⟨hlt, ?_⟩, fun hge => ?_⟩
 ·have hlt' : i < ds.length := by omega
  obtain ⟨ad, ra, rn, rc, had, hR, hdr⟩ := hf i hlt'
  obtain ⟨d, hd⟩ : ∃ d, d = ds[i] := ⟨_, rfl⟩
  rw [← hd] at hR hdr
  obtain ⟨o, ho⟩ : ∃ o, o = onE day ⟨rl, sm, sl, sz⟩ (ds.take i) := ⟨_, rfl⟩
  have htk : onE day ⟨rl, sm, sl, sz⟩ (ds.take (i + 1)) = stepOn day o d := by
   rw [List.take_succ_eq_append_getElem hlt', onE, List.foldl_append, ← hd, ho]; rfl
  refine vat ad had ?_
  try simp only [go_sem, ↓reduceIte, nQ1, nQ2, nQ3, nQ4, nQ5, nQ6, reduceCtorEq]
  refine vloadn (d.ed ra rn rc).cells rfl (fun j u hj => hle _ _ (hR j u hj)) ?_
  rw [← ho] at hrv ⊢
  simp only [go_sem, ↓reduceIte, nQ1, nQ2, nQ3, nQ4, nQ5, nQ6, reduceCtorEq, Ed.cells, De.ed, e30, e29, e28, e1, e5, e4]
  refine ⟨fun h0 => ?_, fun h0 => ⟨fun h2 => ?_, fun h2 => ⟨fun h3 => ?_, fun h3 => ⟨fun h4 => ?_, fun h4 => ?_⟩⟩⟩⟩
  ·have hs : stepOn day o d = o := by simp [stepOn, h0]
   refine ⟨_, W.in64 (by omega), (i + 1, va, vn, vc), by dsimp only; omega, ?_, by dsimp only; omega, ?_⟩
   ·dsimp only; rw [htk, hs]; exact ⟨rfl, rfl, rfl, rfl, rfl⟩
   ·dsimp only; rw [htk, hs]; exact hrv
  ·have hs : stepOn day o d = ⟨o.rule, d.minute, d.length, o.zone⟩ := by simp [stepOn, h0, h2]
   refine ⟨_, W.in64 (by omega), (i + 1, va, vn, vc), by dsimp only; omega, ?_, by dsimp only; omega, ?_⟩
   ·dsimp only; rw [htk, hs]; exact ⟨rfl, rfl, rfl, rfl, rfl⟩
   ·dsimp only; rw [htk, hs]; exact hrv
  ·have hs : stepOn day o d = ⟨d.rule, o.minute, o.length, o.zone⟩ := by simp [stepOn, h0, h2, h3]
   refine ⟨_, W.in64 (by omega), (i + 1, ra, rn, rc), by dsimp only; omega, ?_, by dsimp only; omega, ?_⟩
   ·dsimp only; rw [htk, hs]; exact ⟨rfl, rfl, rfl, rfl, rfl⟩
   ·dsimp only; rw [htk, hs]; exact hdr.mono hle
  ·have hs : stepOn day o d = ⟨o.rule, o.minute, o.length, d.zone⟩ := by simp [stepOn, h0, h2, h3, h4]
   refine ⟨_, W.in64 (by omega), (i + 1, va, vn, vc), by dsimp only; omega, ?_, by dsimp only; omega, ?_⟩
   ·dsimp only; rw [htk, hs]; exact ⟨rfl, rfl, rfl, rfl, rfl⟩
   ·dsimp only; rw [htk, hs]; exact hrv
  ·have hs : stepOn day o d = o := by simp [stepOn, h0, h2, h3, h4]
   refine ⟨_, W.in64 (by omega), (i + 1, va, vn, vc), by dsimp only; omega, ?_, by dsimp only; omega, ?_⟩
   ·dsimp only; rw [htk, hs]; exact ⟨rfl, rfl, rfl, rfl, rfl⟩
   ·dsimp only; rw [htk, hs]; exact hrv
 ·obtain rfl : i = ds.length := by omega
  rw [List.take_length] at hrv ⊢
  generalize onE day ⟨rl, sm, sl, sz⟩ ds = o at *
  refine vcall (eCopied o.rule _ R1 hrv) ?_
  intro R2 u hle2 hu
  obtain ⟨ua, un, uc, rfl⟩ := hu.form
  try simp only [go_sem, ↓reduceIte, nQ1, nQ2, nQ3, nQ4, nQ5, nQ6, reduceCtorEq, iQ1, iQ2, iQ3, iQ4, iQ5, iQ6, e30, e29, e28, e1, e5, e4]
  exact ⟨_, rfl, hu⟩
end Go.Proofs.YtcjdbfnnbejmeaaGreat
namespace Go.Proofs.YtcjdbfnnbejmeaaGreat
set_option linter.unusedSimpArgs false
set_option linter.unusedVariables false
open Go.Proofs.YtcjdbfnnbejmeaaGreat.Vc
def idxE (p : De → Bool) : Nat → List De → Int
 | _, [] => -1
 | i, d :: r => if p d then i else idxE p (i + 1) r
theorem eOverF (a : Ed) (b : De) (cb : List Value) (ad : Addr) (R : RO) (ha : ∀ j u, a.cells[j]? = some u → R (ad.add j) u) (hb : EdV R cb b) : CallsR Tryz.prog 58 [.agg cb.toArray, .pointer (some ad)] R fun _ r => r = .bool (overE a (b.ed none 0 0)) := by
 obtain ⟨ra, rn, rc, rfl, _⟩ := hb.form
 have hO := eOverrules a (b.ed ra rn rc) R
 have e : overE a (b.ed none 0 0) = overE a (b.ed ra rn rc) := rfl
 rw [e]
 simp only [Ed.val, Ed.cells] at *
 refine callsT mix Tryz.func58 comp58 (by simp [Tryz.ntmps58]) ?_; simp only [go_sem, ↓reduceIte, nQ1, nQ2, nQ3, nQ4, nQ5, nQ6, reduceCtorEq, vc58, rs58]
 refine vloadn _ rfl ha ?_
 try simp only [go_sem, ↓reduceIte, nQ1, nQ2, nQ3, nQ4, nQ5, nQ6, reduceCtorEq]
 refine vcall hO ?_
 rintro R1 v h1 rfl
 try simp only [go_sem, ↓reduceIte, nQ1, nQ2, nQ3, nQ4, nQ5, nQ6, reduceCtorEq]
theorem eIndexFunc (g : FuncId) (caps : List Value) (hb : hasBody Tryz.prog g = true) (p : De → Bool) (ds : List De) (v : Value) (R : RO) (h : EdsV R v ds)
  (hcl : ∀ d cs R', RO.le R R' → EdV R' cs d → CallsR Tryz.prog g (.agg cs.toArray :: caps) R' fun _ r => r = .bool (p d)) : CallsR Tryz.prog 57 [v, .func (.func g) #[] caps.toArray] R fun _ r => r = .int .i64 (idxE p 0 ds) := by
 have hdl : ds.length ≤ 1000000000 := by obtain ⟨_, _, _, _, h⟩ := h; exact h
 obtain ⟨a, cap, rfl, hc, hf⟩ := h.form
 refine callsT mix Tryz.func57 comp57 (by simp [Tryz.ntmps57]) ?_; simp only [go_sem, ↓reduceIte, nQ1, nQ2, nQ3, nQ4, nQ5, nQ6, reduceCtorEq, vc57, rs57]
 refine vcLoop Nat (fun i => [(8, .val (.int .i64 i)), (7, .val (.int .i64 ds.length)), (0, .val (.slice a ds.length cap)), (1, .val (.func (.func g) #[] caps.toArray))]) (fun _ => []) (fun i _ => i ≤ ds.length ∧ idxE p 0 ds = idxE p i (ds.drop i)) (fun i => ds.length - i) 0 ?_ rfl ?_ ?_
 ·(try simp only [go_sem, ↓reduceIte, nQ1, nQ2, nQ3, nQ4, nQ5, nQ6, reduceCtorEq]) <;> (repeat' (first | rfl | trivial | constructor | (intro h; exact absurd rfl h)))
 ·exact ⟨Nat.zero_le _, rfl⟩
 rintro i env R1 hle hE ⟨hi, hp⟩
 (simp only [go_sem] at hE; obtain ⟨e8, e7, e0, e1⟩ := hE; simp only [go_sem, ↓reduceIte, nQ1, nQ2, nQ3, nQ4, nQ5, nQ6, reduceCtorEq, e8, e7, e0, e1]; dsimp only at *)
 refine ⟨fun hlt => ⟨hlt, ?_⟩, fun hge => ?_⟩
 ·have hlt' : i < ds.length := by omega
  obtain ⟨ad, ra, rn, rc, had, hR, hdr⟩ := hf i hlt'
  obtain ⟨d, hd⟩ : ∃ d, d = ds[i] := ⟨_, rfl⟩
  rw [List.drop_eq_getElem_cons hlt'] at hp
  rw [← hd] at hR hdr hp
  have hE : EdV R1 (d.ed ra rn rc).cells d := ⟨ra, rn, rc, rfl, hdr.mono hle⟩
  have hcd := hcl d _ R1 hle hE
  refine vat ad had ?_
  try simp only [go_sem, ↓reduceIte, nQ1, nQ2, nQ3, nQ4, nQ5, nQ6, reduceCtorEq]
  refine vloadn (d.ed ra rn rc).cells rfl (fun j u hj => hle _ _ (hR j u hj)) ?_
  simp only [go_sem, ↓reduceIte, nQ1, nQ2, nQ3, nQ4, nQ5, nQ6, reduceCtorEq, e8, e7, e0, e1]
  refine ⟨hb, vcall hcd ?_⟩
  rintro R2 w h2 rfl
  simp only [go_sem, ↓reduceIte, nQ1, nQ2, nQ3, nQ4, nQ5, nQ6, reduceCtorEq, e8, e7, e0, e1]
  refine ⟨fun ht => ?_, fun hn => ⟨_, W.in64 (by omega), i + 1, by omega, by constructor, by omega, ?_⟩⟩
  ·rw [hp, idxE, if_pos ht]
  ·rw [hp, idxE, if_neg (by simp [hn])]
 ·obtain rfl : i = ds.length := by omega
  rw [hp, List.drop_length]; rfl
end Go.Proofs.YtcjdbfnnbejmeaaGreat
namespace Go.Proofs.YtcjdbfnnbejmeaaGreat
set_option linter.unusedSimpArgs false
set_option linter.unusedVariables false
open Go.Proofs.YtcjdbfnnbejmeaaGreat.Vc
theorem eSameInts (xs ys : List Int) (v u : Value) (R : RO) (h : Ints R v xs) (k : Ints R u ys) (hl : xs.length ≤ 17592186044416) : CallsR Tryz.prog 55 [v, u] R fun _ r => r = .bool (decide (xs = ys)) := by
 obtain ⟨a, cap, rfl, hc, hf⟩ := h.form
 obtain ⟨b, cap', rfl, hc', hf'⟩ := k.form
 refine callsT mix Tryz.func55 comp55 (by simp [Tryz.ntmps55]) ?_; simp only [go_sem, ↓reduceIte, nQ1, nQ2, nQ3, nQ4, nQ5, nQ6, reduceCtorEq, vc55, rs55]
 refine ⟨fun hne => ?_, fun he => ?_⟩
 ·rw [decide_eq_false]; rintro rfl; exact hne rfl
 have he' : xs.length = ys.length := by omega
 refine vcLoop Nat (fun i => [(5, .val (.int .i64 i)), (0, .val (.slice a xs.length cap)), (1, .val (.slice b ys.length cap'))]) (fun _ => []) (fun i _ => i ≤ xs.length ∧ xs.take i = ys.take i) (fun i => xs.length - i) 0 ?_ rfl ?_ ?_
 ·(try simp only [go_sem, ↓reduceIte, nQ1, nQ2, nQ3, nQ4, nQ5, nQ6, reduceCtorEq]) <;> (repeat' (first | rfl | trivial | constructor | (intro h; exact absurd rfl h)))
 ·exact ⟨Nat.zero_le _, rfl⟩
 rintro i env R1 hle hE ⟨hi, hp⟩
 (simp only [go_sem] at hE; obtain ⟨e5, e0, e1⟩ := hE; simp only [go_sem, ↓reduceIte, nQ1, nQ2, nQ3, nQ4, nQ5, nQ6, reduceCtorEq, e5, e0, e1]; dsimp only at *)
 refine ⟨fun hlt => ⟨hlt, ?_⟩, fun hge => ?_⟩
 ·have hlt' : i < xs.length := by omega
  obtain ⟨ad, had, hR⟩ := hf i hlt'
  obtain ⟨ad', had', hR'⟩ := hf' i (by omega)
  refine vat ad had ?_
  try simp only [go_sem, ↓reduceIte, nQ1, nQ2, nQ3, nQ4, nQ5, nQ6, reduceCtorEq]
  refine vload _ (hle _ _ hR) ?_
  simp only [go_sem, ↓reduceIte, nQ1, nQ2, nQ3, nQ4, nQ5, nQ6, reduceCtorEq, e5, e0, e1]
  refine ⟨by omega, vat ad' had' ?_⟩
  try simp only [go_sem, ↓reduceIte, nQ1, nQ2, nQ3, nQ4, nQ5, nQ6, reduceCtorEq]
  refine vload _ (hle _ _ hR') ?_
  simp only [go_sem, ↓reduceIte, nQ1, nQ2, nQ3, nQ4, nQ5, nQ6, reduceCtorEq, e5, e0, e1]
  refine ⟨fun hne => ?_, fun heq => ?_⟩
  ·rw [decide_eq_false]; rintro rfl; exact hne rfl
  ·refine ⟨_, W.in64 (by omega), i + 1, by omega, by constructor, by omega, ?_⟩
   rw [List.take_succ_eq_append_getElem hlt', List.take_succ_eq_append_getElem (by omega : i < ys.length), hp, heq]
 ·obtain rfl : i = xs.length := by omega
  rw [List.take_length, he', List.take_length] at hp
  simp [hp]
end Go.Proofs.YtcjdbfnnbejmeaaGreat
namespace Go.Proofs.YtcjdbfnnbejmeaaGreat
set_option linter.unusedSimpArgs false
set_option linter.unusedVariables false
open Go.Proofs.YtcjdbfnnbejmeaaGreat.Vc
set_option maxRecDepth 8000 in
theorem eSameRuleR (xs ys : List Nd) (v u : Value) (R : RO) (h : RuleV R v xs) (k : RuleV R u ys) : CallsR Tryz.prog 46 [v, u] R fun _ r => r = .bool (decide (xs = ys)) := by
 obtain ⟨cs, h1, h2, h3, h4⟩ := h
 obtain ⟨ds, k1, k2, k3, k4⟩ := k
 obtain ⟨a, cap, rfl, hc, hf⟩ := SlK.form h1
 obtain ⟨b, cap', rfl, hc', hf'⟩ := SlK.form k1
 refine callsT mix Tryz.func46 comp46 (by simp [Tryz.ntmps46]) ?_; simp only [go_sem, ↓reduceIte, nQ1, nQ2, nQ3, nQ4, nQ5, nQ6, reduceCtorEq, vc46, rs46]
 refine ⟨fun hne => ?_, fun he => ?_⟩
 ·rw [decide_eq_false]; rintro rfl; exact hne (by omega)
 have he' : xs.length = ys.length := by omega
 refine vcLoop Nat (fun i => [(5, .val (.int .i64 i)), (0, .val (.slice a cs.length cap)), (1, .val (.slice b ds.length cap'))]) (fun _ => []) (fun i _ => i ≤ cs.length ∧ xs.take i = ys.take i) (fun i => cs.length - i) 0 ?_ rfl ?_ ?_
 ·(try simp only [go_sem, ↓reduceIte, nQ1, nQ2, nQ3, nQ4, nQ5, nQ6, reduceCtorEq]) <;> (repeat' (first | rfl | trivial | constructor | (intro h; exact absurd rfl h)))
 ·exact ⟨Nat.zero_le _, rfl⟩
 rintro i env R1 hle hE ⟨hi, hp⟩
 (simp only [go_sem] at hE; obtain ⟨e5, e0, e1⟩ := hE; simp only [go_sem, ↓reduceIte, nQ1, nQ2, nQ3, nQ4, nQ5, nQ6, reduceCtorEq, e5, e0, e1]; dsimp only at *)
 refine ⟨fun hlt => ⟨hlt, ?_⟩, fun hge => ?_⟩
 ·have hlt' : i < cs.length := by omega
  obtain ⟨hl, ad, had, hR⟩ := hf i hlt'
  obtain ⟨hl', ad', had', hR'⟩ := hf' i (by omega)
  have hx := h3 i _ _ (List.getElem?_eq_getElem hlt') (List.getElem?_eq_getElem (by omega))
  have hy := k3 i _ _ (List.getElem?_eq_getElem (by omega : i < ds.length)) (List.getElem?_eq_getElem (by omega : i < ys.length))
  obtain ⟨x, hxe⟩ : ∃ x, x = xs[i]'(by omega) := ⟨_, rfl⟩
  obtain ⟨y, hye⟩ : ∃ y, y = ys[i]'(by omega) := ⟨_, rfl⟩
  rw [← hxe] at hx
  rw [← hye] at hy
  obtain ⟨lv, hcx, hI, hIl⟩ := hx
  obtain ⟨lu, hcy, hI', hIl'⟩ := hy
  have ho : lv.oneCell' = true := by obtain ⟨_, _, rfl, _⟩ := hI.form; rfl
  have ho' : lu.oneCell' = true := by obtain ⟨_, _, rfl, _⟩ := hI'.form; rfl
  rw [hcx] at hR
  rw [hcy] at hR'
  refine vat ad had ?_
  try simp only [go_sem, ↓reduceIte, nQ1, nQ2, nQ3, nQ4, nQ5, nQ6, reduceCtorEq]
  refine vloadn (x.cells lv) rfl (fun j u hj => hle _ _ (hR j u hj)) ?_
  simp only [go_sem, ↓reduceIte, nQ1, nQ2, nQ3, nQ4, nQ5, nQ6, reduceCtorEq, Nd.cells, e5, e0, e1]
  refine ⟨by omega, vat ad' had' ?_⟩
  try simp only [go_sem, ↓reduceIte, nQ1, nQ2, nQ3, nQ4, nQ5, nQ6, reduceCtorEq]
  have hne : x ≠ y → decide (xs = ys) = false := fun h => by
   rw [decide_eq_false]; rintro rfl; exact h (by rw [hxe, hye])
  have hfin : x.list = y.list → x.kind = y.kind → x.cal = y.cal → x.l = y.l → x.r = y.r → x.n = y.n → x.m = y.m → (x.name != y.name) = false →
    ∃ r, W .i64 ((i : Int) + 1) r ∧ ∃ x', cs.length - x' < cs.length - i ∧ SV.val (.int .i64 r) = SV.val (.int .i64 (x' : Int)) ∧ x' ≤ cs.length ∧ List.take x' xs = List.take x' ys := fun q1 q2 q3 q4 q5 q6 q7 q8 => by
   have q9 : x.name = y.name := bytes_eq (by simpa [bne] using q8)
   have heq : x = y := by
    obtain ⟨_, _, _, _, _, _, _, _⟩ := x
    obtain ⟨_, _, _, _, _, _, _, _⟩ := y
    simp only at q1 q2 q3 q4 q5 q6 q7 q9
    subst q1 q2 q3 q4 q5 q6 q7 q9
    rfl
   refine ⟨_, W.in64 (by omega), i + 1, by omega, rfl, by omega, ?_⟩
   rw [List.take_succ_eq_append_getElem (by omega : i < xs.length), List.take_succ_eq_append_getElem (by omega : i < ys.length), hp, ← hxe, ← hye, heq]
  have hld : ∀ {b : List Blk} {kv : Value → Prop} {t : Tok kv}, kv (.agg (y.cells lu).toArray) → LoadPn (allR b R1) (ad'.add (i * 8)) 8 kv t := fun hk => vloadn (y.cells lu) rfl (fun j u hj => hle _ _ (hR' j u hj)) hk
  repeat' (with_reducible first | refine And.intro ?_ ?_ | intro _)
  all_goals (try (refine hld ?_; simp only [go_sem, ↓reduceIte, nQ1, nQ2, nQ3, nQ4, nQ5, nQ6, reduceCtorEq, Nd.cells, e5, e0, e1]))
  all_goals repeat' (with_reducible first | refine And.intro ?_ ?_ | intro _)
  all_goals (try (refine hld ?_; simp only [go_sem, ↓reduceIte, nQ1, nQ2, nQ3, nQ4, nQ5, nQ6, reduceCtorEq, Nd.cells, e5, e0, e1]))
  all_goals repeat' (with_reducible first | refine And.intro ?_ ?_ | intro _)
  all_goals (try (refine hld ?_; simp only [go_sem, ↓reduceIte, nQ1, nQ2, nQ3, nQ4, nQ5, nQ6, reduceCtorEq, Nd.cells, e5, e0, e1]))
  all_goals repeat' (with_reducible first | refine And.intro ?_ ?_ | intro _)
  all_goals (try first | exact ho | exact ho')
  all_goals (refine vcall (eSameInts x.list y.list lv lu R1 (hI.mono hle) (hI'.mono hle) (by omega)) ?_; rintro R2 w h6 rfl; generalize hl : decide (x.list = y.list) = l; simp only [go_sem, ↓reduceIte, nQ1, nQ2, nQ3, nQ4, nQ5, nQ6, reduceCtorEq, e5, e0, e1])
  all_goals
   refine ⟨fun g0 => ⟨fun g1 => ⟨fun g2 => ⟨fun g3 => ⟨fun g4 => ⟨fun g5 => ⟨fun g6 => ⟨fun g7 => ?_, fun g7 => ?_⟩, fun g6 => ?_⟩, fun g5 => ?_⟩, fun g4 => ?_⟩, fun g3 => ?_⟩, fun g2 => ?_⟩, fun g1 => ?_⟩, fun g0 => ?_⟩
   ·rw [hne (fun e => by rw [e, bne, bytes_beq] at g7; cases g7)]
   ·exact hfin (of_decide_eq_true (hl.trans g0)) g1 g2 g3 g4 g5 g6 g7
   ·rw [hne (fun e => g6 (by rw [e]))]
   ·rw [hne (fun e => g5 (by rw [e]))]
   ·rw [hne (fun e => g4 (by rw [e]))]
   ·rw [hne (fun e => g3 (by rw [e]))]
   ·rw [hne (fun e => g2 (by rw [e]))]
   ·rw [hne (fun e => g1 (by rw [e]))]
   ·rw [hne (fun e => of_decide_eq_false (hl.trans g0) (by rw [e]))]
 ·obtain rfl : i = cs.length := by omega
  rw [h2, List.take_length, he', List.take_length] at hp
  simp [hp]
end Go.Proofs.YtcjdbfnnbejmeaaGreat
namespace Go.Proofs.YtcjdbfnnbejmeaaGreat
set_option linter.unusedSimpArgs false
set_option linter.unusedVariables false
open Go.Proofs.YtcjdbfnnbejmeaaGreat.Vc
theorem eSameR (x y : De) (cx cy : List Value) (R : RO) (hx : EdV R cx x) (hy : EdV R cy y) : CallsR Tryz.prog 33 [.agg cx.toArray, .agg cy.toArray] R fun _ r => r = .bool (decide (x = y)) := by
 obtain ⟨a, n, c, e, h⟩ := hx
 obtain ⟨a', n', c', e', h'⟩ := hy
 rw [e, e']
 clear e e'
 obtain ⟨kind, day, device, seq, mv, minute, length, rule, zone⟩ := x
 obtain ⟨kind', day', device', seq', mv', minute', length', rule', zone'⟩ := y
 obtain ⟨md, mr, mt, mm, ml⟩ := mv
 obtain ⟨md', mr', mt', mm', ml'⟩ := mv'
 simp only [De.ed, Ed.val] at *
 have hb : (zone == zone') = decide (zone = zone') := by
  by_cases e : zone = zone'
  ·subst e
   simp only [decide_true]
   exact bytes_beq zone
  ·rw [decide_eq_false e]
   cases hq : (zone == zone') with
   | false => rfl
   | true => exact absurd (bytes_eq hq) e
 refine callsT mix Tryz.func33 comp33 (by simp [Tryz.ntmps33]) ?_; simp only [go_sem, ↓reduceIte, nQ1, nQ2, nQ3, nQ4, nQ5, nQ6, reduceCtorEq, vc33, rs33]
 refine vcall (eSameRuleR rule rule' _ _ R h h') ?_
 clear h h'
 rintro R1 v h1 rfl
 try simp only [go_sem, ↓reduceIte, nQ1, nQ2, nQ3, nQ4, nQ5, nQ6, reduceCtorEq]
 rw [hb]
 clear hb
 simp only [De.mk.injEq, Mv.mk.injEq]
 repeat' (with_reducible first | refine And.intro ?_ ?_ | intro _)
 all_goals simp_all
end Go.Proofs.YtcjdbfnnbejmeaaGreat
namespace Go.Proofs.YtcjdbfnnbejmeaaGreat
set_option linter.unusedSimpArgs false
set_option linter.unusedVariables false
open Go.Proofs.YtcjdbfnnbejmeaaGreat.Vc
theorem eSameList (xs ys : List De) (v u : Value) (R : RO) (h : EdsV R v xs) (k : EdsV R u ys) : CallsR Tryz.prog 15 [v, u] R fun _ r => r = .bool (decide (xs = ys)) := by
 have hxl : xs.length ≤ 1000000000 := by obtain ⟨_, _, _, _, h⟩ := h; exact h
 obtain ⟨a, cap, rfl, hc, hf⟩ := h.form
 obtain ⟨b, cap', rfl, hc', hf'⟩ := k.form
 refine callsT mix Tryz.func15 comp15 (by simp [Tryz.ntmps15]) ?_; simp only [go_sem, ↓reduceIte, nQ1, nQ2, nQ3, nQ4, nQ5, nQ6, reduceCtorEq, vc15, rs15]
 refine ⟨fun hne => ?_, fun he => ?_⟩
 ·rw [decide_eq_false]; rintro rfl; exact hne (by omega)
 have he' : xs.length = ys.length := by omega
 refine vcLoop Nat (fun i => [(5, .val (.int .i64 i)), (0, .val (.slice a xs.length cap)), (1, .val (.slice b ys.length cap'))]) (fun _ => []) (fun i _ => i ≤ xs.length ∧ xs.take i = ys.take i) (fun i => xs.length - i) 0 ?_ rfl ?_ ?_
 ·(try simp only [go_sem, ↓reduceIte, nQ1, nQ2, nQ3, nQ4, nQ5, nQ6, reduceCtorEq]) <;> (repeat' (first | rfl | trivial | constructor | (intro h; exact absurd rfl h)))
 ·exact ⟨Nat.zero_le _, rfl⟩
 rintro i env R1 hle hE ⟨hi, hp⟩
 (simp only [go_sem] at hE; obtain ⟨e5, e0, e1⟩ := hE; simp only [go_sem, ↓reduceIte, nQ1, nQ2, nQ3, nQ4, nQ5, nQ6, reduceCtorEq, e5, e0, e1]; dsimp only at *)
 refine ⟨fun hlt => ⟨hlt, ?_⟩, fun hge => ?_⟩
 ·have hlt' : i < xs.length := by omega
  obtain ⟨ad, ra, rn, rc, had, hR, hdr⟩ := hf i hlt'
  obtain ⟨ad', ra', rn', rc', had', hR', hdr'⟩ := hf' i (by omega)
  obtain ⟨x, hxe⟩ : ∃ x, x = xs[i]'(by omega) := ⟨_, rfl⟩
  obtain ⟨y, hye⟩ : ∃ y, y = ys[i]'(by omega) := ⟨_, rfl⟩
  rw [← hxe] at hR hdr
  rw [← hye] at hR' hdr'
  have hS := eSameR x y (x.ed ra rn rc).cells (y.ed ra' rn' rc').cells R1 ⟨ra, rn, rc, rfl, hdr.mono hle⟩ ⟨ra', rn', rc', rfl, hdr'.mono hle⟩
  refine vat ad had ?_
  try simp only [go_sem, ↓reduceIte, nQ1, nQ2, nQ3, nQ4, nQ5, nQ6, reduceCtorEq]
  refine vloadn (x.ed ra rn rc).cells rfl (fun j u hj => hle _ _ (hR j u hj)) ?_
  simp only [go_sem, ↓reduceIte, nQ1, nQ2, nQ3, nQ4, nQ5, nQ6, reduceCtorEq, e5, e0, e1]
  refine ⟨by omega, vat ad' had' ?_⟩
  try simp only [go_sem, ↓reduceIte, nQ1, nQ2, nQ3, nQ4, nQ5, nQ6, reduceCtorEq]
  refine vloadn (y.ed ra' rn' rc').cells rfl (fun j u hj => hle _ _ (hR' j u hj)) ?_
  simp only [go_sem, ↓reduceIte, nQ1, nQ2, nQ3, nQ4, nQ5, nQ6, reduceCtorEq, e5, e0, e1]
  refine vcall hS ?_
  rintro R2 w h6 rfl
  simp only [go_sem, ↓reduceIte, nQ1, nQ2, nQ3, nQ4, nQ5, nQ6, reduceCtorEq, e5, e0, e1]
  refine ⟨fun hne => ?_, fun heq => ?_⟩
  ·rw [decide_eq_false]; rintro rfl; exact hne (by rw [hxe, hye])
  ·refine ⟨_, W.in64 (by omega), i + 1, by omega, by constructor, by omega, ?_⟩
   rw [List.take_succ_eq_append_getElem (by omega : i < xs.length), List.take_succ_eq_append_getElem (by omega : i < ys.length), hp, ← hxe, ← hye, heq]
 ·obtain rfl : i = xs.length := by omega
  rw [List.take_length, he', List.take_length] at hp
  simp [hp]
end Go.Proofs.YtcjdbfnnbejmeaaGreat
namespace Go.Proofs.YtcjdbfnnbejmeaaGreat
set_option linter.unusedSimpArgs false
set_option linter.unusedVariables false
open Go.Proofs.YtcjdbfnnbejmeaaGreat.Vc
def EncV {α : Type} (enc : α → List Value) (k : Nat) (R : RO) (v : Value) (xs : List α) : Prop := SlK R v k (xs.map enc) ∧ xs.length ≤ 1000000000
theorem EncV.mono {α : Type} {enc : α → List Value} {k : Nat} {R R' : RO} {v : Value} {xs : List α} (h : EncV enc k R v xs) (hle : RO.le R R') : EncV enc k R' v xs := ⟨h.1.mono hle, h.2⟩
theorem EncV.form {α : Type} {enc : α → List Value} {k : Nat} {R : RO} {v : Value} {xs : List α} (h : EncV enc k R v xs) : ∃ a cap, v = .slice a xs.length cap ∧ xs.length ≤ cap ∧ ∀ i (hi : i < xs.length), ∃ ad, a = some ad ∧ ∀ j u, (enc xs[i])[j]? = some u → R ((ad.add (i * k)).add j) u := by
 obtain ⟨a, cap, rfl, hc, hf⟩ := SlK.form h.1
 rw [List.length_map] at hc
 refine ⟨a, cap, by rw [List.length_map], hc, fun i hi => ?_⟩
 obtain ⟨_, ad, ha, hR⟩ := hf i (by rw [List.length_map]; exact hi)
 rw [List.getElem_map] at hR
 exact ⟨ad, ha, hR⟩
theorem RowIn.enc {α : Type} {enc : α → List Value} {k : Nat} {R : RO} {b cap : Nat} {xs : List α} (hk : ∀ x, (enc x).length = k) (h0 : 0 < k) (h : RowIn R b (xs.map enc).flatten) (hc : (xs.map enc).flatten.length ≤ cap * k) (hl : xs.length ≤ 1000000000) : EncV enc k R (.slice (some ⟨b, 0, none⟩) xs.length cap) xs := by
 have h1 := RowIn.slK h (fun us hus => by obtain ⟨x, _, rfl⟩ := List.mem_map.1 hus; exact hk x) h0 hc
 rw [List.length_map] at h1
 exact ⟨h1, hl⟩
theorem EncV.nil {α : Type} (enc : α → List Value) (k : Nat) (R : RO) : EncV enc k R (.slice none 0 0) [] := ⟨⟨none, 0, rfl, Nat.le_refl _, by simp⟩, by simp⟩
structure Ov where
 device : Int
 seq : Int
 byDevice : Int
 bySeq : Int
 deriving DecidableEq
def Ov.cells (x : Ov) : List Value := [.int .i64 x.device, .int .i64 x.seq, .int .i64 x.byDevice, .int .i64 x.bySeq]
end Go.Proofs.YtcjdbfnnbejmeaaGreat
namespace Go.Proofs.YtcjdbfnnbejmeaaGreat
set_option linter.unusedSimpArgs false
set_option linter.unusedVariables false
open Go.Proofs.YtcjdbfnnbejmeaaGreat.Vc
end Go.Proofs.YtcjdbfnnbejmeaaGreat
namespace Go.Proofs.YtcjdbfnnbejmeaaGreat
set_option linter.unusedSimpArgs false
set_option linter.unusedVariables false
open Go.Proofs.YtcjdbfnnbejmeaaGreat.Vc
structure Ti where
 rule : List Nd
 minute : Int
 length : Int
 zone : ByteArray
 gap : Int
 fold : Int
 deriving DecidableEq
def Se.ti (s : Se) (rl : List Nd) : Ti := ⟨rl, s.minute, s.length, s.zone, s.gap, s.fold⟩
end Go.Proofs.YtcjdbfnnbejmeaaGreat
namespace Go.Proofs.YtcjdbfnnbejmeaaGreat
set_option linter.unusedSimpArgs false
set_option linter.unusedVariables false
open Go.Proofs.YtcjdbfnnbejmeaaGreat.Vc
theorem RuleV.nil (R : RO) : RuleV R (.slice none 0 0) [] := ⟨[], ⟨none, 0, rfl, Nat.le_refl _, by simp⟩, rfl, by simp, by simp⟩
end Go.Proofs.YtcjdbfnnbejmeaaGreat
namespace Go.Proofs.YtcjdbfnnbejmeaaGreat
set_option linter.unusedSimpArgs false
set_option linter.unusedVariables false
open Go.Proofs.YtcjdbfnnbejmeaaGreat.Vc
def lessD (a b : De) : Bool := decide (a.seq < b.seq ∨ a.seq = b.seq ∧ a.device < b.device)
def overD (a b : De) : Bool := overE (a.ed none 0 0) (b.ed none 0 0)
def validD (d : De) : Bool := validE (d.ed none d.rule.length 0)
def keyEq (a b : De) : Bool := decide (a.device = b.device ∧ a.seq = b.seq)
def addD (out : List De) (d : De) : Option (List De) :=
 if validD d = true then
  match out.find? (keyEq d) with
  | some old => if old = d then some out else none
  | none => some (out ++ [d])
 else none
def distD : List De → List De → Option (List De)
 | out, [] => some out
 | out, d :: r => match addD out d with
  | some o => distD o r
  | none => none
def sortD (l : List De) : List De := l.mergeSort fun a b => !lessD b a
def okD : Option (List De) → Except Int (List De)
 | none => .error 1
 | some o => .ok (sortD o)
def allD (l : List De) : Except Int (List De) := if 4096 < l.length then .error 2 else okD (distD [] l)
def KeysD (l : List De) : Prop := l.Pairwise fun a b => keyEq a b = false
def SortedD (l : List De) : Prop := l.Pairwise fun a b => lessD a b = true
theorem keyEq_iff (a b : De) : keyEq a b = true ↔ a.device = b.device ∧ a.seq = b.seq := by simp [keyEq]
theorem keyEq_symm (a b : De) : keyEq a b = keyEq b a := by
 unfold keyEq; congr 1; apply propext; constructor <;> rintro ⟨h, k⟩ <;> exact ⟨h.symm, k.symm⟩
theorem lessD_iff (a b : De) : lessD a b = true ↔ a.seq < b.seq ∨ a.seq = b.seq ∧ a.device < b.device := by simp [lessD]
theorem lessD_false (a b : De) : lessD a b = false ↔ ¬ (a.seq < b.seq ∨ a.seq = b.seq ∧ a.device < b.device) := by simp [lessD]
theorem lessD_irrefl (a : De) : lessD a a = false := by rw [lessD_false]; omega
theorem lessD_trans {a b c : De} (h : lessD a b = true) (k : lessD b c = true) : lessD a c = true := by
 rw [lessD_iff] at *; omega
theorem lessD_total {a b : De} (h : lessD a b = false) (k : lessD b a = false) : keyEq a b = true := by
 rw [lessD_false] at *; rw [keyEq_iff]; omega
theorem lessD_asymm {a b : De} (h : lessD a b = true) : lessD b a = false := by
 rw [lessD_false]; rw [lessD_iff] at h; omega
theorem lessD_key {a b : De} (h : lessD a b = true) : keyEq a b = false := by
 rw [lessD_iff] at h
 cases hk : keyEq a b with
 | false => rfl
 | true => rw [keyEq_iff] at hk; omega
theorem SortedD.ext : ∀ {a b : List De}, SortedD a → SortedD b → (∀ d, d ∈ a ↔ d ∈ b) → a = b
 | [], [], _, _, _ => rfl
 | [], y :: b, _, _, h => by have := (h y).2 (by simp); simp at this
 | x :: a, [], _, _, h => by have := (h x).1 (by simp); simp at this
 | x :: a, y :: b, ha, hb, h => by
  have ha' := List.pairwise_cons.1 ha
  have hb' := List.pairwise_cons.1 hb
  have hxy : x = y := by
   have h1 := (h x).1 (by simp)
   have h2 := (h y).2 (by simp)
   rcases List.mem_cons.1 h1 with e | h1
   ·exact e
   rcases List.mem_cons.1 h2 with e | h2
   ·exact e.symm
   have l1 := hb'.1 x h1
   have l2 := ha'.1 y h2
   rw [lessD_asymm l1] at l2; cases l2
  subst hxy
  congr 1
  refine SortedD.ext ha'.2 hb'.2 fun d => ⟨fun hd => ?_, fun hd => ?_⟩
  ·rcases List.mem_cons.1 ((h d).1 (by simp [hd])) with e | hd'
   ·subst e; have := ha'.1 d hd; rw [lessD_irrefl] at this; cases this
   ·exact hd'
  ·rcases List.mem_cons.1 ((h d).2 (by simp [hd])) with e | hd'
   ·subst e; have := hb'.1 d hd; rw [lessD_irrefl] at this; cases this
   ·exact hd'
theorem keysD_perm {a b : List De} (h : a.Perm b) (hk : KeysD a) : KeysD b := List.Perm.pairwise h hk fun {x y} hxy => by rw [keyEq_symm]; exact hxy
theorem sortedD_of {ys : List De} (hk : KeysD ys) (hs : ys.Pairwise fun x y => lessD y x = false) : SortedD ys := by
 refine List.Pairwise.imp₂ (fun x y h1 h2 => ?_) hk hs
 cases hl : lessD x y with
 | true => rfl
 | false => rw [lessD_total hl h2] at h1; cases h1
theorem sortD_perm (l : List De) : (sortD l).Perm l := List.mergeSort_perm _ _
theorem sortD_sorted {l : List De} (hk : KeysD l) : SortedD (sortD l) := by
 refine sortedD_of (keysD_perm (sortD_perm l).symm hk) ?_
 have := List.pairwise_mergeSort (le := fun a b : De => !lessD b a) (fun a b c h1 h2 => ?_) (fun a b => ?_) l
 ·exact this.imp fun h => by simpa using h
 ·simp only [Bool.not_eq_true'] at *
  rw [lessD_false] at *; omega
 ·cases h : lessD b a with
  | false => simp
  | true => simp [lessD_asymm h]
theorem sortD_eq {l ys : List De} (hk : KeysD l) (hp : ys.Perm l) (hs : ys.Pairwise fun x y => lessD y x = false) : ys = sortD l :=
 SortedD.ext (sortedD_of (keysD_perm hp.symm hk) hs) (sortD_sorted hk) fun d => (hp.mem_iff).trans (sortD_perm l).mem_iff.symm
theorem addD_keys {out o : List De} {d : De} (h : addD out d = some o) (hk : KeysD out) : KeysD o := by
 unfold addD at h
 split at h
 ·split at h
  ·split at h
   ·cases h; exact hk
   ·cases h
  ·rename_i hf
   cases h
   refine List.pairwise_append.2 ⟨hk, by simp, fun x hx y hy => ?_⟩
   simp only [List.mem_cons, List.not_mem_nil, or_false] at hy
   subst hy
   have := List.find?_eq_none.1 hf x hx
   rw [keyEq_symm]; simpa using this
 ·cases h
theorem distD_keys : ∀ {l out o : List De}, distD out l = some o → KeysD out → KeysD o
 | [], out, o, h, hk => by simp only [distD, Option.some.injEq] at h; subst h; exact hk
 | d :: r, out, o, h, hk => by
  unfold distD at h
  split at h
  ·rename_i o' ho'
   exact distD_keys h (addD_keys ho' hk)
  ·cases h
theorem distD_snoc : ∀ (l out : List De) (d : De), distD out (l ++ [d]) = (distD out l).bind fun o => addD o d
 | [], out, d => by
  simp only [List.nil_append, distD, Option.bind_some]
  cases addD out d <;> rfl
 | x :: l, out, d => by
  simp only [List.cons_append, distD]
  cases addD out x with
  | none => rfl
  | some o => exact distD_snoc l o d
theorem distD_none_append : ∀ (l out r : List De), distD out l = none → distD out (l ++ r) = none
 | [], out, r, h => by simp [distD] at h
 | x :: l, out, r, h => by
  simp only [List.cons_append, distD] at h ⊢
  cases hx : addD out x with
  | none => rfl
  | some o => rw [hx] at h; exact distD_none_append l o r h
abbrev Pl := De × Option Addr × Nat × Nat
def Pl.ed (p : Pl) : Ed := p.1.ed p.2.1 p.2.2.1 p.2.2.2
def PlOK (R : RO) (p : Pl) : Prop := RuleV R (.slice p.2.1 p.2.2.1 p.2.2.2) p.1.rule
theorem PlOK.mono {R R' : RO} {p : Pl} (h : PlOK R p) (hle : RO.le R R') : PlOK R' p := RuleV.mono h hle
theorem PlOK.edV {R : RO} {p : Pl} (h : PlOK R p) : EdV R p.ed.cells p.1 := ⟨_, _, _, rfl, h⟩
instance : Inhabited Pl := ⟨(⟨0, 0, 0, 0, ⟨0, false, 0, 0, 0⟩, 0, 0, [], ⟨#[]⟩⟩, none, 0, 0)⟩
theorem edcells_one (e : Ed) : ∀ v ∈ e.cells, v.oneCell' = true := by
 intro v hv
 simp only [Ed.cells, List.mem_cons, List.not_mem_nil, or_false] at hv
 rcases hv with rfl | rfl | rfl | rfl | rfl | rfl | rfl | rfl | rfl | rfl | rfl | rfl | rfl <;> rfl
def keyV (d : De) : Value := .agg #[.int .i64 d.device, .int .i64 d.seq]
def ents : Nat → List Pl → List MapEntry
 | _, [] => []
 | i, q :: r => ⟨keyV q.1, q.ed.val, i⟩ :: ents (i + 1) r
theorem ents_snoc : ∀ (l : List Pl) (i : Nat) (q : Pl), ents i (l ++ [q]) = ents i l ++ [⟨keyV q.1, q.ed.val, i + l.length⟩]
 | [], i, q => rfl
 | x :: l, i, q => by
  simp only [List.cons_append, ents, ents_snoc l (i + 1) q, List.length_cons]
  rw [show i + 1 + l.length = i + (l.length + 1) by omega]
theorem mEq_key (a b : De) : mEq (some [0, 0]) (keyV a) (keyV b) = some (keyEq a b) := by
 simp [mEq, keyV, eqCells, keyEq]
theorem mfind_none (d : De) : ∀ (l : List Pl) (c i : Nat), (∀ q ∈ l, keyEq d q.1 = false) → mfind (some [0, 0]) (keyV d) (ents c l) i = some none
 | [], c, i, _ => rfl
 | q :: l, c, i, h => by
  rw [ents, mfind, mEq_key, h q (by simp)]
  exact mfind_none d l (c + 1) (i + 1) fun q hq => h q (by simp [hq])
theorem mfind_some (d : De) (q : Pl) : ∀ (l : List Pl) (c i : Nat), l.find? (fun q => keyEq d q.1) = some q → ∃ j, mfind (some [0, 0]) (keyV d) (ents c l) i = some (some (j, q.ed.val))
 | [], c, i, h => by simp at h
 | x :: l, c, i, h => by
  rw [ents, mfind, mEq_key]
  rw [List.find?_cons] at h
  cases hx : keyEq d x.1 with
  | true => rw [hx] at h; simp only [Option.some.injEq] at h; subst h; exact ⟨i, rfl⟩
  | false => rw [hx] at h; exact mfind_some d q l (c + 1) (i + 1) h
theorem distD_bad {ds o : List De} {i : Nat} (hi : i < ds.length) (h : distD [] (ds.take i) = some o) (hb : addD o ds[i] = none) : distD [] ds = none := by
 have h1 : distD [] (ds.take (i + 1)) = none := by
  rw [List.take_succ_eq_append_getElem hi, distD_snoc, h]; exact hb
 have := distD_none_append _ _ (ds.drop (i + 1)) h1
 rwa [List.take_append_drop] at this
theorem distD_step {ds o : List De} {i : Nat} (hi : i < ds.length) (h : distD [] (ds.take i) = some o) : distD [] (ds.take (i + 1)) = addD o ds[i] := by
 rw [List.take_succ_eq_append_getElem hi, distD_snoc, h]; rfl
theorem find_fst (qs : List Pl) (d : De) : (qs.map (·.1)).find? (keyEq d) = (qs.find? fun q => keyEq d q.1).map (·.1) := by
 rw [List.find?_map]; rfl
theorem addD_invalid {o : List De} {d : De} (h : validD d = false) : addD o d = none := by unfold addD; simp [h]
theorem addD_new {o : List De} {d : De} (h : validD d = true) (k : o.find? (keyEq d) = none) : addD o d = some (o ++ [d]) := by unfold addD; simp [h, k]
theorem addD_old {o : List De} {d x : De} (h : validD d = true) (k : o.find? (keyEq d) = some x) : addD o d = if x = d then some o else none := by unfold addD; simp [h, k]
def rowP (ps : List Pl) : List Value := (ps.map fun p => p.ed.cells).flatten
theorem rowP_nil : rowP [] = [] := rfl
theorem rowP_snoc (ps : List Pl) (q : Pl) : rowP (ps ++ [q]) = rowP ps ++ q.ed.cells := by simp [rowP]
theorem cellsP_len (ps : List Pl) : ∀ c ∈ ps.map fun p => p.ed.cells, c.length = 13 := fun c hc => by
 obtain ⟨p, _, rfl⟩ := List.mem_map.1 hc
 rfl
theorem rowP_len (ps : List Pl) : (rowP ps).length = ps.length * 13 := by
 unfold rowP
 rw [length_flattenK (cellsP_len ps)]
 simp
theorem rowP_app (ps qs : List Pl) : rowP (ps ++ qs) = rowP ps ++ rowP qs := by simp [rowP]
theorem allD_error {l : List De} {k : Int} (h : allD l = .error k) : k = 2 ∨ k = 1 := by
 unfold allD at h
 split at h
 ·simp only [Except.error.injEq] at h; exact .inl h.symm
 ·cases hd : distD [] l with
  | none => rw [hd] at h; simp only [okD, Except.error.injEq] at h; exact .inr h.symm
  | some o => rw [hd] at h; simp [okD] at h
end Go.Proofs.YtcjdbfnnbejmeaaGreat
namespace Go.Proofs.YtcjdbfnnbejmeaaGreat.Vc
set_option linter.unusedSimpArgs false
set_option linter.unusedVariables false
open Go.RowKit Go.Shelf Go.Sort
theorem putCells_map {α : Type} [Inhabited α] (enc : α → Value) (off : Nat) (d : Array α) (c : Array Value) : putCells enc off d c = putCells id off (d.map enc) c := by
 apply Array.ext_getElem?
 intro k
 simp only [putCells, Array.getElem?_mapIdx, Array.size_map, id_eq]
 cases c[k]? with
 | none => rfl
 | some x =>
  simp only [Option.map_some]
  split
  ·rename_i h
   have h1 : k - off < d.size := by omega
   rw [getElem!_pos d (k - off) h1, getElem!_pos (d.map enc) (k - off) (by simpa using h1), Array.getElem_map]
  ·rfl
theorem putRow_map {α : Type} [Inhabited α] (enc : α → Value) (w : World) (b off : Nat) (d : Array α) : putRow enc w b off d = putRow id w b off (d.map enc) := by
 unfold putRow
 congr 1
 funext c
 exact putCells_map enc off d c
theorem putCells_toList {cs' : List Value} {arr : Array Value} (h : cs'.length ≤ arr.size) : cs' <+: (putCells id 0 cs'.toArray arr).toList := by
 rw [List.prefix_iff_eq_take]
 apply List.ext_getElem?
 intro i
 rw [List.getElem?_take]
 by_cases hi : i < cs'.length
 ·rw [if_pos hi, Array.getElem?_toList]
  simp [putCells, hi, show i < arr.size by omega]
 ·rw [if_neg hi, List.getElem?_eq_none (by omega)]
theorem flatK_toList {α : Type} [Inhabited α] (enc : α → List Value) (k : Nat) (hk : ∀ x, (enc x).length = k) (d : Array α) : flatK enc k d = ((d.toList.map enc).flatten).toArray := by
 have hl : ∀ us ∈ d.toList.map enc, us.length = k := fun us hus => by
  obtain ⟨x, _, rfl⟩ := List.mem_map.1 hus
  exact hk x
 apply Array.ext_getElem?
 intro t
 by_cases ht : t < d.size * k
 ·have h1 : t < (flatK enc k d).size := by rw [size_flatK]; exact ht
  have hk0 : 0 < k := by
   rcases Nat.eq_zero_or_pos k with h | h
   ·subst h; simp at ht
   ·exact h
  have hq : t / k < d.size := (Nat.div_lt_iff_lt_mul hk0).2 ht
  rw [Array.getElem?_eq_getElem h1, ← getElem!_pos (flatK enc k d) t h1, get_flatK _ _ _ t ht, List.getElem?_toArray]
  have h2 := getElem?_flatten hl (t / k) (t % k) (enc d[t / k]) (by simp [hq]) (Nat.mod_lt _ hk0)
  rw [Nat.mul_comm, Nat.div_add_mod] at h2
  rw [h2, getElem!_pos d (t / k) hq]
  have h3 : t % k < (enc d[t / k]).length := by rw [hk]; exact Nat.mod_lt _ hk0
  rw [getElem!_pos (enc d[t / k]) (t % k) h3, List.getElem?_eq_getElem h3]
 ·rw [Array.getElem?_eq_none (by rw [size_flatK]; omega), List.getElem?_toArray, List.getElem?_eq_none (by rw [length_flattenK hl]; simp; omega)]
theorem rowS {P : Program} {f : FuncId} {vs : List Value} {n T sz : Nat} {cs : List Value} {R : RO} {Q : List Value → SV → Prop}
  (h : ∀ (w : World) (β κ : Nat → Nat) (arr : Array Value), w.heap[β 0]? = some (.cells arr T (0, 0)) → cs <+: arr.toList → κ 0 * sz = arr.size → κ 0 ≤ maxLen →
   Calls P f (Value.slice (some ⟨β 0, 0, none⟩) n (κ 0) :: vs).toArray w fun e w' => ∃ r cs' m os, e = .returned (den β κ r) ∧ SV.ok 1 r = true ∧ cs'.length = cs.length ∧ Q cs' r ∧ w' = grow (putRow id (Sort.ahead w m) (β 0) 0 cs'.toArray) os) :
  CallsS P f (.sl 0 n :: vs.map .val) [.row T sz cs] R fun R' bs r => R' = R ∧ ∃ cs', bs = [.row T sz cs'] ∧ cs'.length = cs.length ∧ Q cs' r := by
 intro w β κ hG
 obtain ⟨_, arr, hb, hp, hs, hcl, hm⟩ := hG.blk 0 _ rfl
 have hv : (vs.map SV.val).map (den β κ) = vs := by
  rw [List.map_map]
  conv => rhs; rw [← List.map_id vs]
  exact List.map_congr_left fun _ _ => rfl
 simp only [List.map_cons, hv, den]
 refine (h w β κ arr hb hp hs hm).mono ?_
 rintro e w' ⟨r, cs', m, os, rfl, hr, hl, hQ, rfl⟩
 have hlt : β 0 < w.heap.size := (Array.getElem?_eq_some_iff.1 hb).1
 have hb' : (grow (putRow id (Sort.ahead w m) (β 0) 0 cs'.toArray) os).heap[β 0]? = some (.cells (putCells id 0 cs'.toArray arr) T (0, 0)) := by
  rw [heap_grow_old _ _ (by simpa [putRow, mapBlock, Sort.ahead] using hlt)]
  simp [putRow, mapBlock, Sort.ahead, Array.getElem?_modify, hb, onCells]
 have ho : ∀ k, k < w.heap.size → k ≠ β 0 → (grow (putRow id (Sort.ahead w m) (β 0) 0 cs'.toArray) os).heap[k]? = w.heap[k]? := fun k hk hne => by
  rw [heap_grow_old _ _ (by simpa [putRow, mapBlock, Sort.ahead] using hk)]
  simp [putRow, mapBlock, Sort.ahead, Array.getElem?_modify, Ne.symm hne]
 have harr : cs'.length ≤ arr.size := by rw [hl, ← hs]; exact hcl
 refine ⟨β, κ, [.row T sz cs'], r, R, rfl, fun _ _ h => h, ⟨?_, ?_, ?_⟩, hr, by simp, by simp [Blk.noShr], fun _ _ => ⟨rfl, rfl⟩, ?_, fun a v h => .inl h, ⟨rfl, rfl, rfl, ?_, ?_, ?_⟩, rfl, cs', rfl, hl, hQ⟩
 ·intro j b hj
  cases j with
  | zero =>
   simp only [List.getElem?_cons_zero, Option.some.injEq] at hj
   subst hj
   exact ⟨trivial, _, hb', putCells_toList harr, by rw [hs]; simp [putCells], by rw [hl]; exact hcl, hm⟩
  | succ j => simp at hj
 ·intro i j b b' hi hj _ _ _
  have h1 := (List.getElem?_eq_some_iff.1 hi).1
  have h2 := (List.getElem?_eq_some_iff.1 hj).1
  simp only [List.length_cons, List.length_nil] at h1 h2
  omega
 ·intro a v ha
  obtain ⟨h1, h2⟩ := hG.ro a v ha
  have h3 := h2 0 _ rfl rfl
  refine ⟨?_, ?_⟩
  ·rw [World.cell?_of_block (ho a.block (World.block_lt_of_cell? w a h1) h3)]
   exact h1
  ·intro j b hj hb
   cases j with
   | zero => exact h3
   | succ j => simp at hj
 ·intro j b hj hb
  cases j with
  | zero => exact .inr ⟨0, _, rfl, rfl, rfl⟩
  | succ j => simp at hj
 ·simp [putRow, mapBlock, Sort.ahead]
 ·intro k hk hg
  refine ho k hk fun e => hg ⟨0, _, rfl, rfl, e⟩
 ·simp [grow, putRow, mapBlock, Sort.ahead]
variable {P : Program} {ρ : Ren} {α : Type} [Inhabited α]
theorem pairwise_sortedIn {lt : α → α → Bool} {d : Array α} (h : SortedIn lt 0 d.size d) : d.toList.Pairwise fun x y => lt y x = false := by
 rw [List.pairwise_iff_getElem]
 intro i j hi hj hij
 have := h i j (Nat.zero_le _) hij (by simpa using hj)
 rw [getElem!_pos d i (by simpa using hi), getElem!_pos d j (by simpa using hj)] at this
 simpa using this
theorem permIn_perm {d d' : Array α} (h : PermIn 0 d.size d d') : d'.toList.Perm d.toList := by
 have h3 := h.2.2
 have e1 : d.extract 0 d.size = d := by simp
 have e2 : d'.extract 0 d.size = d' := by rw [← h.1]; simp
 rw [e1, e2] at h3
 exact h3
theorem callsR_still {f : FuncId} {args : List Value} {r : Value} (h : ∀ w, Calls P f args.toArray w fun e w' => e = .returned r ∧ w' = w) (R : RO) : CallsR P f args R fun _ v => v = r := by
 intro w hR
 refine (h w).mono ?_
 rintro e w' ⟨rfl, rfl⟩
 exact ⟨_, R, rfl, fun _ _ h => h, fun a v ha => ⟨hR a v ha, .inl ha⟩, Ext.refl _, rfl⟩
theorem sortFuncNil (L : SlLaysF0.n6 P ρ) (fv : Value) (R : RO) : CallsR P (ρ.f 6) [.slice none 0 0, fv] R fun _ v => v = .tuple #[] :=
 callsR_still (fun w => AnyF.slices_SortFunc_none L none 0 fv w) R
theorem sortIntsS (L : SlLaysM.n5 P ρ) (T : Nat) (xs : List Int) (hl : xs.length < 4611686018427387904) (R : RO) :
  CallsS P (ρ.f 5) [.sl 0 xs.length] [.row T 1 (xs.map (.int .i64))] R fun R' bs r => R' = R ∧ bs = [.row T 1 ((xs.mergeSort fun x y => decide (x ≤ y)).map (.int .i64))] ∧ r = .val (.tuple #[]) := by
 have key := rowS (P := P) (f := ρ.f 5) (vs := []) (n := xs.length) (T := T) (sz := 1) (cs := xs.map (.int .i64)) (R := R)
  (Q := fun cs' r => cs' = (xs.mergeSort fun x y => decide (x ≤ y)).map (.int .i64) ∧ r = .val (.tuple #[])) ?_
 ·intro w β κ hG
  refine (key w β κ hG).mono ?_
  rintro e w' ⟨β', κ', bs', r, R', h1, h2, h3, h4, h5, h6, h7, h8, h9, h10, h11, cs', h12, _, h13, h14⟩
  exact ⟨β', κ', bs', r, R', h1, h2, h3, h4, h5, h6, h7, h8, h9, h10, h11, by rw [h12, h13], h14⟩
 ·intro w β κ arr hb hp hs hm
  have hlt : β 0 < w.heap.size := (Array.getElem?_eq_some_iff.1 hb).1
  have hH : Holds (Value.int .i64) w (β 0) 0 xs.toArray := holds_of_blockI hb (by
   rw [List.prefix_iff_eq_take] at hp
   rw [List.length_map] at hp
   exact hp.symm)
  refine (AnyM.slices_Sort_int L (β 0) 0 (κ 0) xs w hH hlt hl).mono ?_
  rintro e w' ⟨rfl, n, os, rfl⟩
  refine ⟨.val (.tuple #[]), (xs.mergeSort fun x y => decide (x ≤ y)).map (.int .i64), n, os, rfl, rfl, by simp, ⟨rfl, rfl⟩, ?_⟩
  rw [putRow_map]
  simp
theorem compactIntsS (L : SlLaysN.n43 P ρ) (T : Nat) (xs : List Int) (hl : xs.length ≤ 9223372036854775807) (R : RO) :
  CallsS P (ρ.f 43) [.sl 0 xs.length] [.row T 1 (xs.map (.int .i64))] R fun R' bs r => R' = R ∧ bs = [.row T 1 ((Lib.compact xs ++ List.replicate (xs.length - (Lib.compact xs).length) 0).map (.int .i64))] ∧ r = .sl 0 (Lib.compact xs).length := by
 have key := rowS (P := P) (f := ρ.f 43) (vs := []) (n := xs.length) (T := T) (sz := 1) (cs := xs.map (.int .i64)) (R := R)
  (Q := fun cs' r => cs' = (Lib.compact xs ++ List.replicate (xs.length - (Lib.compact xs).length) 0).map (.int .i64) ∧ r = .sl 0 (Lib.compact xs).length) ?_
 ·intro w β κ hG
  refine (key w β κ hG).mono ?_
  rintro e w' ⟨β', κ', bs', r, R', h1, h2, h3, h4, h5, h6, h7, h8, h9, h10, h11, cs', h12, _, h13, h14⟩
  exact ⟨β', κ', bs', r, R', h1, h2, h3, h4, h5, h6, h7, h8, h9, h10, h11, by rw [h12, h13], h14⟩
 ·intro w β κ arr hb hp hs hm
  have hH : Holds (Value.int .i64) w (β 0) 0 xs.toArray := holds_of_blockI hb (by
   rw [List.prefix_iff_eq_take] at hp
   rw [List.length_map] at hp
   exact hp.symm)
  have hcap : xs.length ≤ κ 0 := by
   have := hp.length_le
   simp at this
   omega
  have hle : (Lib.compact xs).length ≤ xs.length := by
   unfold Lib.compact
   unfold Lib.compactUpTo
   rw [List.length_map]
   refine Nat.le_trans (List.length_filter_le _ _) ?_
   simp
  refine (AnyG.slices_Compact_int L (β 0) 0 (κ 0) xs w hH hl hcap).mono ?_
  rintro e w' ⟨rfl, q, rfl⟩
  refine ⟨.sl 0 (Lib.compact xs).length, (Lib.compact xs ++ List.replicate (xs.length - (Lib.compact xs).length) 0).map (.int .i64), q, #[], rfl, rfl, by simp; omega, ⟨rfl, rfl⟩, ?_⟩
  rw [putRow_map, grow_empty]
  simp
end Go.Proofs.YtcjdbfnnbejmeaaGreat.Vc
namespace Go.Proofs.YtcjdbfnnbejmeaaGreat.Vc
set_option linter.unusedSimpArgs false
set_option linter.unusedVariables false
theorem ext_grow {w w' : World} (h : Ext w w') : ∃ (q : Nat) (os : Array Obj), w' = Go.Sort.grow (w.drewN q) os := by
 refine ⟨w'.drawn - w.drawn, w'.heap.extract w.heap.size w'.heap.size, ?_⟩
 obtain ⟨heap, tape, drawn, os, output⟩ := w
 obtain ⟨heap', tape', drawn', os', output'⟩ := w'
 obtain ⟨h1, h2, h3, h4, h5, h6⟩ := h
 simp only at h1 h2 h3 h4 h5 h6
 subst h1 h2 h3
 have hd : drawn + (drawn' - drawn) = drawn' := by omega
 have hh : heap ++ heap'.extract heap.size heap'.size = heap' := by
  apply Array.ext_getElem?
  intro i
  rcases Nat.lt_or_ge i heap.size with hi | hi
  ·rw [Array.getElem?_append_left hi, h5 i hi]
  ·rw [Array.getElem?_append_right hi, Array.getElem?_extract]
   rcases Nat.lt_or_ge i heap'.size with hj | hj
   ·rw [if_pos (by omega)]
    congr 1; omega
   ·rw [if_neg (by omega), Array.getElem?_eq_none hj]
 simp only [Go.Sort.grow, Go.World.drewN, hd, hh]
end Go.Proofs.YtcjdbfnnbejmeaaGreat.Vc
namespace Go.Proofs.YtcjdbfnnbejmeaaGreat.Vc
set_option linter.unusedSimpArgs false
set_option linter.unusedVariables false
open Go.RowKit Go.Shelf Go.Sort
variable {P : Program} {ρ : Ren} {α : Type} [Inhabited α]
theorem sortFuncS (L : SlLaysF0.n6 P ρ) (k : Nat) (aE : ∀ w, (isAgg (ρ.t 24)).run P w = .ok true w) (zE : ∀ w, (Go.sizeOf (ρ.t 24)).run P w = .ok k w) (enc : α → List Value) (hk : ∀ x, (enc x).length = k) (h1 : ∀ x, ∀ v ∈ enc x, v.oneCell' = true) (cf : α → α → Int) (hO : SWO (ltOf cf)) (g : Nat) (T : Nat)
  (eg : ∀ args w, (callFunc g args).run P w = .ok (.enter g args) w) (hg : ∀ x y, CallsR P g [.agg (enc x).toArray, .agg (enc y).toArray] (fun _ _ => False) fun _ v => v = .int .i64 (cf x y)) (xs : List α) (hl : xs.length < 4611686018427387904) (R : RO) :
  CallsS P (ρ.f 6) [.sl 0 xs.length, .val (.func (.func g) #[] #[])] [.row T k (xs.map enc).flatten] R fun R' bs r => R' = R ∧ ∃ ys : List α, ys.Perm xs ∧ (ys.Pairwise fun x y => ltOf cf y x = false) ∧ bs = [.row T k (ys.map enc).flatten] ∧ r = .val (.tuple #[]) := by
 have hfl : ∀ zs : List α, (zs.map enc).flatten.length = zs.length * k := fun zs => by
  rw [length_flattenK (k := k) (fun us hus => by obtain ⟨x, _, rfl⟩ := List.mem_map.1 hus; exact hk x)]
  simp
 have key := rowS (P := P) (f := ρ.f 6) (vs := [.func (.func g) #[] #[]]) (n := xs.length) (T := T) (sz := k) (cs := (xs.map enc).flatten) (R := R)
  (Q := fun cs' r => ∃ ys : List α, ys.Perm xs ∧ (ys.Pairwise fun x y => ltOf cf y x = false) ∧ cs' = (ys.map enc).flatten ∧ r = .val (.tuple #[])) ?_
 ·intro w β κ hG
  refine (key w β κ hG).mono ?_
  rintro e w' ⟨β', κ', bs', r, R', h1, h2, h3, h4, h5, h6, h7, h8, h9, h10, h11, cs', h12, _, ys, h13, h14, h15, h16⟩
  exact ⟨β', κ', bs', r, R', h1, h2, h3, h4, h5, h6, h7, h8, h9, h10, h11, ys, h13, h14, by rw [h12, h15], h16⟩
 ·intro w β κ arr hb hp hs hm
  have hlt : β 0 < w.heap.size := (Array.getElem?_eq_some_iff.1 hb).1
  have hH : HoldsK enc k w (β 0) 0 xs.toArray := by
   intro j hj
   have hj' : j < (xs.map enc).flatten.length := by rw [hfl]; simpa using hj
   have hget : (flatK enc k xs.toArray)[j]! = (xs.map enc).flatten[j] := by
    rw [flatK_toList enc k hk]
    rw [getElem!_pos _ j (by simpa using hj')]
    simp
   refine ⟨?_, by simp [World.frozen?, hb]⟩
   rw [hget]
   simp only [World.cell?, hb, Nat.zero_add, Option.isSome_none, Bool.false_eq_true, if_false]
   rw [← Array.getElem?_toList, id_eq]
   obtain ⟨tl, ht⟩ := hp
   rw [← ht, List.getElem?_append_left hj', List.getElem?_eq_getElem hj']
  have hcmp : CmpLays P g #[] enc k cf (β 0) 0 xs.toArray.size w := by
   intro m os dk _ x y
   refine (hg x y (sortWorldK enc k w (β 0) 0 m dk os) (fun _ _ h => h.elim)).mono ?_
   rintro e w' ⟨v, R', rfl, _, _, hext, rfl⟩
   exact ⟨rfl, ext_grow hext⟩
  have := AnyQ.slices_SortFunc L k aE zE enc hk h1 cf hO g #[] (β 0) 0 (κ 0) xs.toArray w eg hcmp hH hlt (by simpa using hl)
  simp only [List.size_toArray] at this
  refine this.mono ?_
  rintro e w' ⟨rfl, d', n, os, hperm, hsort, rfl⟩
  have hsz : d'.size = xs.length := by simpa using hperm.1
  refine ⟨.val (.tuple #[]), (d'.toList.map enc).flatten, n, os, rfl, rfl, by rw [hfl, hfl]; simp [hsz], ⟨d'.toList, ?_, ?_, rfl, rfl⟩, ?_⟩
  ·have := permIn_perm (d := xs.toArray) (d' := d') hperm
   simpa using this
  ·exact pairwise_sortedIn (by rw [hsz]; exact hsort)
  ·unfold sortWorldK putRowK
   rw [flatK_toList enc k hk]
end Go.Proofs.YtcjdbfnnbejmeaaGreat.Vc
namespace Go.Proofs.YtcjdbfnnbejmeaaGreat.Vc
set_option linter.unusedSimpArgs false
set_option linter.unusedVariables false
section
variable {K : Type} [DecidableEq K] (ks : Option (List Nat)) (kenc : K → Value)
def entOf (x : K × Value × Nat) : MapEntry := ⟨kenc x.1, x.2.1, x.2.2⟩
def MapOf (es : List MapEntry) (f : K → Option Value) : Prop :=
 ∃ l : List (K × Value × Nat), es = l.map (entOf kenc) ∧ (l.map (·.1)).Nodup ∧ ∀ k, f k = (l.find? fun x => decide (x.1 = k)).map (·.2.1)
theorem MapOf.nil : MapOf kenc [] (fun _ => none) := ⟨[], rfl, List.nodup_nil, fun _ => rfl⟩
variable (hks : ∀ a b : K, mEq ks (kenc a) (kenc b) = some (decide (a = b)))
include hks
theorem mfind_list (k : K) : ∀ (l : List (K × Value × Nat)) (i : Nat), ∃ r, mfind ks (kenc k) (l.map (entOf kenc)) i = some r ∧ r.map (·.2) = (l.find? fun x => decide (x.1 = k)).map (·.2.1) ∧
  ((r = none ∧ ∀ x ∈ l, x.1 ≠ k) ∨ ∃ (j : Nat) (x : K × Value × Nat), r = some (i + j, x.2.1) ∧ l[j]? = some x ∧ x.1 = k)
 | [], i => ⟨none, rfl, rfl, .inl ⟨rfl, by simp⟩⟩
 | x :: l, i => by
  rw [List.map_cons, mfind]
  simp only [entOf, hks]
  by_cases h : k = x.1
  ·rw [decide_eq_true h]
   exact ⟨_, rfl, by simp [h], .inr ⟨0, x, rfl, rfl, h.symm⟩⟩
  ·rw [decide_eq_false h]
   obtain ⟨r, h1, h2, h3⟩ := mfind_list k l (i + 1)
   refine ⟨r, h1, ?_, ?_⟩
   ·rw [h2, List.find?_cons, decide_eq_false (fun e => h e.symm)]
   ·rcases h3 with ⟨h3, h4⟩ | ⟨j, y, h3, h4, h5⟩
    ·exact .inl ⟨h3, fun y hy => by
      rcases List.mem_cons.1 hy with rfl | hy
      ·exact fun e => h e.symm
      ·exact h4 y hy⟩
    ·exact .inr ⟨j + 1, y, by rw [h3]; congr 2; omega, by simpa using h4, h5⟩
theorem MapOf.get {es : List MapEntry} {f : K → Option Value} (h : MapOf kenc es f) (k : K) : ∃ r, mfind ks (kenc k) es 0 = some r ∧ r.map (·.2) = f k := by
 obtain ⟨l, rfl, _, hf⟩ := h
 obtain ⟨r, h1, h2, _⟩ := mfind_list ks kenc hks k l 0
 exact ⟨r, h1, by rw [h2, hf]⟩
theorem MapOf.put {es : List MapEntry} {f : K → Option Value} (h : MapOf kenc es f) (k : K) (v : Value) (clock : Nat) : ∃ r es' clock', mfind ks (kenc k) es 0 = some r ∧ mset (kenc k) v es clock r = .mp es' clock' ∧ MapOf kenc es' (fun k' => if k' = k then some v else f k') := by
 obtain ⟨l, rfl, hnd, hf⟩ := h
 obtain ⟨r, h1, h2, h3⟩ := mfind_list ks kenc hks k l 0
 refine ⟨r, ?_⟩
 rcases h3 with ⟨rfl, h4⟩ | ⟨j, x, rfl, h4, h5⟩
 ·refine ⟨_, _, h1, rfl, l ++ [(k, v, clock)], by simp [entOf], ?_, fun k' => ?_⟩
  ·rw [List.map_append, List.nodup_append]
   refine ⟨hnd, by simp, fun a ha b hb e => ?_⟩
   simp only [List.map_cons, List.map_nil, List.mem_cons, List.not_mem_nil, or_false] at hb
   obtain ⟨x, hx, rfl⟩ := List.mem_map.1 ha
   exact h4 x hx (e.trans hb)
  ·show (if k' = k then some v else f k') = _
   rw [List.find?_append, hf]
   by_cases he : k' = k
   ·subst he
    rw [if_pos rfl]
    have : l.find? (fun x => decide (x.1 = k')) = none := List.find?_eq_none.2 fun x hx => by simpa using h4 x hx
    rw [this]
    simp
   ·rw [if_neg he]
    cases hq : l.find? (fun x => decide (x.1 = k')) with
    | some y => rfl
    | none => simp [Ne.symm he]
 ·subst h5
  have hj := (List.getElem?_eq_some_iff.1 h4).1
  have hx : l[j] = x := (List.getElem?_eq_some_iff.1 h4).2
  refine ⟨_, _, h1, rfl, l.set j (x.1, v, x.2.2), ?_, ?_, fun k' => ?_⟩
  ·apply List.ext_getElem?
   intro i
   rw [List.getElem?_modify, List.getElem?_map, List.getElem?_map, List.getElem?_set]
   by_cases hi : 0 + j = i
   ·have hi' : j = i := by omega
    subst hi'
    subst hx
    simp [hj, entOf]
   ·have hne : ¬ j = i := by omega
    cases l[i]? <;> simp [hne]
  ·have : (l.set j (x.1, v, x.2.2)).map (·.1) = l.map (·.1) := by
    apply List.ext_getElem?
    intro i
    rw [List.getElem?_map, List.getElem?_map, List.getElem?_set]
    by_cases hi : j = i
    ·subst hi; subst hx; simp [hj]
    ·rw [if_neg hi]
   rw [this]; exact hnd
  ·show (if k' = x.1 then some v else f k') = _
   rw [hf]
   -- the list around j
   have hsplit : l = l.take j ++ x :: l.drop (j + 1) := by
    rw [← hx, ← List.drop_eq_getElem_cons hj, List.take_append_drop]
   have hset : l.set j (x.1, v, x.2.2) = l.take j ++ (x.1, v, x.2.2) :: l.drop (j + 1) := List.set_eq_take_append_cons_drop.trans (by rw [if_pos hj])
   have hpre : ∀ y ∈ l.take j, y.1 ≠ x.1 := by
    intro y hy e
    rw [hsplit, List.map_append, List.nodup_append] at hnd
    exact hnd.2.2 y.1 (List.mem_map_of_mem (f := (·.1)) hy) x.1 (by simp) e
   by_cases he : k' = x.1
   ·subst he
    rw [if_pos rfl, hset, List.find?_append]
    have : (l.take j).find? (fun y => decide (y.1 = x.1)) = none := List.find?_eq_none.2 fun y hy => by simpa using hpre y hy
    rw [this]
    simp
   ·rw [if_neg he, hset]
    conv => lhs; rw [hsplit]
    rw [List.find?_append, List.find?_append, List.find?_cons, List.find?_cons, decide_eq_false (fun e => he e.symm)]
end
theorem mEq_int (a b : Int) : mEq none (.int .i64 a) (.int .i64 b) = some (decide (a = b)) := by
 by_cases h : a = b <;> simp [mEq, h]
end Go.Proofs.YtcjdbfnnbejmeaaGreat.Vc
namespace Go.Proofs.YtcjdbfnnbejmeaaGreat
set_option linter.unusedSimpArgs false
set_option linter.unusedVariables false
def Inc (l : List Int) : Prop := l.Pairwise (· < ·)
theorem Inc.ext : ∀ {a b : List Int}, Inc a → Inc b → (∀ x, x ∈ a ↔ x ∈ b) → a = b
 | [], [], _, _, _ => rfl
 | [], y :: ys, _, _, h => absurd ((h y).2 (by simp)) (by simp)
 | x :: xs, [], _, _, h => absurd ((h x).1 (by simp)) (by simp)
 | x :: xs, y :: ys, ha, hb, h => by
  have ha' := List.pairwise_cons.1 ha
  have hb' := List.pairwise_cons.1 hb
  have hxy : x = y := by
   rcases Int.lt_trichotomy x y with hlt | he | hlt
   ·rcases List.mem_cons.1 ((h x).1 (by simp)) with e | m
    ·exact e
    ·have := hb'.1 x m; omega
   ·exact he
   ·rcases List.mem_cons.1 ((h y).2 (by simp)) with e | m
    ·exact e.symm
    ·have := ha'.1 y m; omega
  subst hxy
  congr 1
  refine Inc.ext ha'.2 hb'.2 fun z => ⟨fun hz => ?_, fun hz => ?_⟩
  ·have hlt := ha'.1 z hz
   rcases List.mem_cons.1 ((h z).1 (by simp [hz])) with e | m
   ·omega
   ·exact m
  ·have hlt := hb'.1 z hz
   rcases List.mem_cons.1 ((h z).2 (by simp [hz])) with e | m
   ·omega
   ·exact m
def ins (x : Int) : List Int → List Int
 | [] => [x]
 | y :: ys => if x < y then x :: y :: ys else if x = y then y :: ys else y :: ins x ys
theorem mem_ins {x z : Int} : ∀ {l : List Int}, z ∈ ins x l ↔ z = x ∨ z ∈ l
 | [] => by simp [ins]
 | y :: ys => by
  unfold ins
  split
  ·simp
  ·split
   ·rename_i h; subst h; simp
   ·simp only [List.mem_cons, mem_ins (l := ys)]
    constructor
    ·rintro (h | h | h) <;> simp [h]
    ·rintro (h | h | h) <;> simp [h]
theorem ins_inc {x : Int} : ∀ {l : List Int}, Inc l → Inc (ins x l)
 | [], _ => by simp [ins, Inc]
 | y :: ys, h => by
  have h' := List.pairwise_cons.1 h
  unfold ins
  split
  ·rename_i hlt
   exact List.pairwise_cons.2 ⟨fun z hz => by rcases List.mem_cons.1 hz with e | m; omega; have := h'.1 z m; omega, h⟩
  ·split
   ·exact h
   ·refine List.pairwise_cons.2 ⟨fun z hz => ?_, ins_inc h'.2⟩
    rcases mem_ins.1 hz with e | m
    ·omega
    ·exact h'.1 z m
def rising : List Int → List Int
 | [] => []
 | x :: xs => ins x (rising xs)
theorem rising_inc : ∀ l : List Int, Inc (rising l)
 | [] => List.Pairwise.nil
 | _ :: xs => ins_inc (rising_inc xs)
theorem mem_rising {z : Int} : ∀ {l : List Int}, z ∈ rising l ↔ z ∈ l
 | [] => by simp [rising]
 | x :: xs => by simp [rising, mem_ins, mem_rising (l := xs)]
theorem rising_eq {l r : List Int} (h : Inc r) (hm : ∀ x, x ∈ r ↔ x ∈ l) : r = rising l := Inc.ext h (rising_inc l) fun x => (hm x).trans mem_rising.symm
theorem Inc.nodup {l : List Int} (h : Inc l) : l.Nodup := List.Pairwise.imp (fun hlt => by omega) h
theorem nodup_length_le {α : Type} [DecidableEq α] : ∀ {a b : List α}, a.Nodup → (∀ x ∈ a, x ∈ b) → a.length ≤ b.length
 | [], b, _, _ => by simp
 | x :: xs, b, h, hm => by
  have h' := List.nodup_cons.1 h
  have hx := hm x (by simp)
  have := nodup_length_le (a := xs) (b := b.erase x) h'.2 fun y hy => by
   have hne : y ≠ x := fun e => h'.1 (e ▸ hy)
   exact (List.mem_erase_of_ne hne).2 (hm y (by simp [hy]))
  rw [List.length_erase_of_mem hx] at this
  have := List.length_pos_of_mem hx
  simp only [List.length_cons]
  omega
theorem rising_len (l : List Int) : (rising l).length ≤ l.length := nodup_length_le (rising_inc l).nodup fun x hx => mem_rising.1 hx
/-! ### slices.Compact of a sorted list -/
theorem compact_inc (d : Array Int) (hs : ∀ i j, i ≤ j → j < d.size → d[i]! ≤ d[j]!) : ∀ m, m ≤ d.size → Inc (Lib.compactUpTo d m) ∧ (∀ x, x ∈ Lib.compactUpTo d m ↔ ∃ j, j < m ∧ d[j]! = x)
 | 0, _ => by simp [Lib.compactUpTo, Inc]
 | m + 1, hm => by
  obtain ⟨h1, h2⟩ := compact_inc d hs m (by omega)
  rw [Lib.compactUpTo_succ]
  by_cases hk : Lib.keeps d m = true
  ·rw [if_pos hk]
   refine ⟨List.pairwise_append.2 ⟨h1, List.pairwise_singleton _ _, fun a ha b hb => ?_⟩, fun x => ?_⟩
   ·obtain ⟨j, hj, rfl⟩ := (h2 a).1 ha
    rw [List.mem_singleton.1 hb]
    have h3 := hs j (m - 1) (by omega) (by omega)
    have h4 := hs (m - 1) m (by omega) (by omega)
    simp only [Lib.keeps, decide_eq_true_eq] at hk
    rcases hk with h0 | hne
    ·omega
    ·have : d[m]! ≠ d[m - 1]! := hne
     omega
   ·rw [List.mem_append, h2, List.mem_singleton]
    constructor
    ·rintro (⟨j, hj, e⟩ | rfl)
     ·exact ⟨j, by omega, e⟩
     ·exact ⟨m, by omega, rfl⟩
    ·rintro ⟨j, hj, e⟩
     by_cases hjm : j = m
     ·subst hjm; exact .inr e.symm
     ·exact .inl ⟨j, by omega, e⟩
  ·rw [if_neg hk, List.append_nil]
   refine ⟨h1, fun x => ?_⟩
   rw [h2]
   simp only [Lib.keeps, decide_eq_true_eq, not_or] at hk
   have he : d[m]! = d[m - 1]! := Classical.not_not.1 hk.2
   constructor
   ·rintro ⟨j, hj, e⟩; exact ⟨j, by omega, e⟩
   ·rintro ⟨j, hj, e⟩
    by_cases hjm : j = m
    ·subst hjm; exact ⟨j - 1, by omega, by rw [← he]; exact e⟩
    ·exact ⟨j, by omega, e⟩
theorem compact_rising (xs : List Int) : Lib.compactUpTo (xs.mergeSort fun x y => decide (x ≤ y)).toArray (xs.mergeSort fun x y => decide (x ≤ y)).toArray.size = rising xs := by
 have hp : (xs.mergeSort fun x y => decide (x ≤ y)).Pairwise (· ≤ ·) := by
  have := List.pairwise_mergeSort (le := fun x y : Int => decide (x ≤ y)) (fun a b c h1 h2 => by simp at *; omega) (fun a b => by simp; omega) xs
  simpa using this
 have hm : ∀ x, x ∈ (xs.mergeSort fun x y => decide (x ≤ y)) ↔ x ∈ xs := fun x => List.mem_mergeSort
 generalize (xs.mergeSort fun x y => decide (x ≤ y)) = ys at hp hm
 obtain ⟨h1, h2⟩ := compact_inc ys.toArray (fun i j hij hj => by
  have hj' : j < ys.length := by simpa using hj
  rcases Nat.lt_or_eq_of_le hij with h | rfl
  ·have := List.pairwise_iff_getElem.1 hp i j (by omega) hj' h
   simpa [getElem!_pos, hj', show i < ys.length by omega] using this
  ·omega) ys.toArray.size (Nat.le_refl _)
 refine rising_eq h1 fun x => ?_
 rw [h2, ← hm]
 constructor
 ·rintro ⟨j, hj, rfl⟩
  have hj' : j < ys.length := by simpa using hj
  simp [getElem!_pos, hj']
 ·intro hx
  obtain ⟨j, hj, rfl⟩ := List.getElem_of_mem hx
  exact ⟨j, by simpa using hj, by simp [getElem!_pos, hj]⟩
theorem Inc.get_lt {l : List Int} (h : Inc l) {i j : Nat} (hij : i < j) (hj : j < l.length) : l[i] < l[j] := List.pairwise_iff_getElem.1 h i j (by omega) hj hij
end Go.Proofs.YtcjdbfnnbejmeaaGreat
namespace Go.Proofs.YtcjdbfnnbejmeaaGreat
set_option linter.unusedSimpArgs false
set_option linter.unusedVariables false
open Go.Proofs.YtcjdbfnnbejmeaaGreat.Vc Go.Shelf Go.Sort
def Tryz.sortEd_ren : Go.Shelf.Ren := ⟨fun | 6 => 71 | 15 => 75 | 14 => 78 | 28 => 88 | 29 => 89 | 20 => 98 | 21 => 99 | 22 => 100 | 23 => 101 | 24 => 102 | 25 => 103 | 26 => 104 | 27 => 105 | 46 => 114 | 47 => 107 | 48 => 108 | 49 => 115 | 50 => 116 | 57 => 119 | n => n, fun | 22 => 22 | 24 => 31 | 25 => 66 | 3 => 3 | 39 => 109 | 0 => 0 | 53 => 122 | 55 => 124 | 4 => 4 | 46 => 114 | 45 => 113 | 50 => 119 | 5 => 5 | 9 => 9 | 66 => 135 | 70 => 139 | 76 => 145 | 77 => 146 | n => n, fun | n => n⟩
theorem Tryz.sortEd : Go.Proofs.SlLaysF0.n6 Tryz.prog Tryz.sortEd_ren := {
 mixed := by kernel_rfl
 f6 := ⟨Tryz.f71.name, by decide, Tryz.func71.trans (congrArg some (by kernel_rfl))⟩
 f14 := ⟨Tryz.f78.name, by decide, Tryz.func78.trans (congrArg some (by kernel_rfl))⟩
 f15 := Tryz.func75.trans (congrArg some (by kernel_rfl))
 f20 := ⟨Tryz.f98.name, by decide, Tryz.func98.trans (congrArg some (by kernel_rfl))⟩
 f21 := ⟨Tryz.f99.name, by decide, Tryz.func99.trans (congrArg some (by kernel_rfl))⟩
 f22 := ⟨Tryz.f100.name, by decide, Tryz.func100.trans (congrArg some (by kernel_rfl))⟩
 f23 := ⟨Tryz.f101.name, by decide, Tryz.func101.trans (congrArg some (by kernel_rfl))⟩
 f24 := ⟨Tryz.f102.name, by decide, Tryz.func102.trans (congrArg some (by kernel_rfl))⟩
 f25 := ⟨Tryz.f103.name, by decide, Tryz.func103.trans (congrArg some (by kernel_rfl))⟩
 f26 := ⟨Tryz.f104.name, by decide, Tryz.func104.trans (congrArg some (by kernel_rfl))⟩
 f27 := ⟨Tryz.f105.name, by decide, Tryz.func105.trans (congrArg some (by kernel_rfl))⟩
 f28 := Tryz.func88.trans (congrArg some (by kernel_rfl))
 f29 := Tryz.func89.trans (congrArg some (by kernel_rfl))
 f46 := ⟨Tryz.f114.name, by decide, Tryz.func114.trans (congrArg some (by kernel_rfl))⟩
 f47 := Tryz.func107.trans (congrArg some (by kernel_rfl))
 f48 := Tryz.func108.trans (congrArg some (by kernel_rfl))
 f49 := ⟨Tryz.f115.name, by decide, Tryz.func115.trans (congrArg some (by kernel_rfl))⟩
 f50 := ⟨Tryz.f116.name, by decide, Tryz.func116.trans (congrArg some (by kernel_rfl))⟩
 f57 := ⟨Tryz.f119.name, by decide, Tryz.func119.trans (congrArg some (by kernel_rfl))⟩
 t0 := Tryz.underlying0
 a0 := Tryz.isAgg0
 z0 := Tryz.sizeOf0
 v0 := Tryz.zeroValue0
 t3 := Tryz.underlying3
 a3 := Tryz.isAgg3
 z3 := Tryz.sizeOf3
 v3 := Tryz.zeroValue3
 t4 := Tryz.underlying4
 a4 := Tryz.isAgg4
 z4 := Tryz.sizeOf4
 v4 := Tryz.zeroValue4
 t5 := Tryz.underlying5
 a5 := Tryz.isAgg5
 z5 := Tryz.sizeOf5
 v5 := Tryz.zeroValue5
 t9 := Tryz.underlying9
 a9 := Tryz.isAgg9
 z9 := Tryz.sizeOf9
 v9 := Tryz.zeroValue9
 t22 := Tryz.underlying22
 a22 := Tryz.isAgg22
 z22 := Tryz.sizeOf22
 v22 := Tryz.zeroValue22
 t25 := Tryz.underlying66
 a25 := Tryz.isAgg66
 z25 := Tryz.sizeOf66
 v25 := Tryz.zeroValue66
 t39 := Tryz.underlying109
 a39 := Tryz.isAgg109
 z39 := Tryz.sizeOf109
 v39 := Tryz.zeroValue109
 t45 := Tryz.underlying113
 a45 := Tryz.isAgg113
 z45 := Tryz.sizeOf113
 v45 := Tryz.zeroValue113
 t46 := Tryz.underlying114
 a46 := Tryz.isAgg114
 z46 := Tryz.sizeOf114
 v46 := Tryz.zeroValue114
 t50 := Tryz.underlying119
 a50 := Tryz.isAgg119
 z50 := Tryz.sizeOf119
 v50 := Tryz.zeroValue119
 t53 := Tryz.underlying122
 a53 := Tryz.isAgg122
 z53 := Tryz.sizeOf122
 v53 := Tryz.zeroValue122
 t55 := Tryz.underlying124
 a55 := Tryz.isAgg124
 z55 := Tryz.sizeOf124
 v55 := Tryz.zeroValue124
 t66 := Tryz.underlying135
 a66 := Tryz.isAgg135
 z66 := Tryz.sizeOf135
 v66 := Tryz.zeroValue135
 t70 := Tryz.underlying139
 a70 := Tryz.isAgg139
 z70 := Tryz.sizeOf139
 v70 := Tryz.zeroValue139
 t76 := Tryz.underlying145
 a76 := Tryz.isAgg145
 z76 := Tryz.sizeOf145
 v76 := Tryz.zeroValue145
 t77 := Tryz.underlying146
 a77 := Tryz.isAgg146
 z77 := Tryz.sizeOf146
 v77 := Tryz.zeroValue146 }
def Tryz.sortMv_ren : Go.Shelf.Ren := ⟨fun | 6 => 67 | 15 => 75 | 14 => 77 | 28 => 88 | 29 => 89 | 20 => 90 | 21 => 91 | 22 => 92 | 23 => 93 | 24 => 94 | 25 => 95 | 26 => 96 | 27 => 97 | 46 => 111 | 47 => 107 | 48 => 108 | 49 => 112 | 50 => 113 | 57 => 118 | n => n, fun | 22 => 51 | 24 => 27 | 25 => 100 | 3 => 3 | 39 => 109 | 0 => 0 | 53 => 122 | 55 => 124 | 4 => 4 | 46 => 114 | 45 => 113 | 50 => 119 | 5 => 5 | 9 => 9 | 66 => 135 | 70 => 139 | 76 => 145 | 77 => 146 | n => n, fun | n => n⟩
theorem Tryz.sortMv : Go.Proofs.SlLaysF0.n6 Tryz.prog Tryz.sortMv_ren := {
 mixed := by kernel_rfl
 f6 := ⟨Tryz.f67.name, by decide, Tryz.func67.trans (congrArg some (by kernel_rfl))⟩
 f14 := ⟨Tryz.f77.name, by decide, Tryz.func77.trans (congrArg some (by kernel_rfl))⟩
 f15 := Tryz.func75.trans (congrArg some (by kernel_rfl))
 f20 := ⟨Tryz.f90.name, by decide, Tryz.func90.trans (congrArg some (by kernel_rfl))⟩
 f21 := ⟨Tryz.f91.name, by decide, Tryz.func91.trans (congrArg some (by kernel_rfl))⟩
 f22 := ⟨Tryz.f92.name, by decide, Tryz.func92.trans (congrArg some (by kernel_rfl))⟩
 f23 := ⟨Tryz.f93.name, by decide, Tryz.func93.trans (congrArg some (by kernel_rfl))⟩
 f24 := ⟨Tryz.f94.name, by decide, Tryz.func94.trans (congrArg some (by kernel_rfl))⟩
 f25 := ⟨Tryz.f95.name, by decide, Tryz.func95.trans (congrArg some (by kernel_rfl))⟩
 f26 := ⟨Tryz.f96.name, by decide, Tryz.func96.trans (congrArg some (by kernel_rfl))⟩
 f27 := ⟨Tryz.f97.name, by decide, Tryz.func97.trans (congrArg some (by kernel_rfl))⟩
 f28 := Tryz.func88.trans (congrArg some (by kernel_rfl))
 f29 := Tryz.func89.trans (congrArg some (by kernel_rfl))
 f46 := ⟨Tryz.f111.name, by decide, Tryz.func111.trans (congrArg some (by kernel_rfl))⟩
 f47 := Tryz.func107.trans (congrArg some (by kernel_rfl))
 f48 := Tryz.func108.trans (congrArg some (by kernel_rfl))
 f49 := ⟨Tryz.f112.name, by decide, Tryz.func112.trans (congrArg some (by kernel_rfl))⟩
 f50 := ⟨Tryz.f113.name, by decide, Tryz.func113.trans (congrArg some (by kernel_rfl))⟩
 f57 := ⟨Tryz.f118.name, by decide, Tryz.func118.trans (congrArg some (by kernel_rfl))⟩
 t0 := Tryz.underlying0
 a0 := Tryz.isAgg0
 z0 := Tryz.sizeOf0
 v0 := Tryz.zeroValue0
 t3 := Tryz.underlying3
 a3 := Tryz.isAgg3
 z3 := Tryz.sizeOf3
 v3 := Tryz.zeroValue3
 t4 := Tryz.underlying4
 a4 := Tryz.isAgg4
 z4 := Tryz.sizeOf4
 v4 := Tryz.zeroValue4
 t5 := Tryz.underlying5
 a5 := Tryz.isAgg5
 z5 := Tryz.sizeOf5
 v5 := Tryz.zeroValue5
 t9 := Tryz.underlying9
 a9 := Tryz.isAgg9
 z9 := Tryz.sizeOf9
 v9 := Tryz.zeroValue9
 t22 := Tryz.underlying51
 a22 := Tryz.isAgg51
 z22 := Tryz.sizeOf51
 v22 := Tryz.zeroValue51
 t25 := Tryz.underlying100
 a25 := Tryz.isAgg100
 z25 := Tryz.sizeOf100
 v25 := Tryz.zeroValue100
 t39 := Tryz.underlying109
 a39 := Tryz.isAgg109
 z39 := Tryz.sizeOf109
 v39 := Tryz.zeroValue109
 t45 := Tryz.underlying113
 a45 := Tryz.isAgg113
 z45 := Tryz.sizeOf113
 v45 := Tryz.zeroValue113
 t46 := Tryz.underlying114
 a46 := Tryz.isAgg114
 z46 := Tryz.sizeOf114
 v46 := Tryz.zeroValue114
 t50 := Tryz.underlying119
 a50 := Tryz.isAgg119
 z50 := Tryz.sizeOf119
 v50 := Tryz.zeroValue119
 t53 := Tryz.underlying122
 a53 := Tryz.isAgg122
 z53 := Tryz.sizeOf122
 v53 := Tryz.zeroValue122
 t55 := Tryz.underlying124
 a55 := Tryz.isAgg124
 z55 := Tryz.sizeOf124
 v55 := Tryz.zeroValue124
 t66 := Tryz.underlying135
 a66 := Tryz.isAgg135
 z66 := Tryz.sizeOf135
 v66 := Tryz.zeroValue135
 t70 := Tryz.underlying139
 a70 := Tryz.isAgg139
 z70 := Tryz.sizeOf139
 v70 := Tryz.zeroValue139
 t76 := Tryz.underlying145
 a76 := Tryz.isAgg145
 z76 := Tryz.sizeOf145
 v76 := Tryz.zeroValue145
 t77 := Tryz.underlying146
 a77 := Tryz.isAgg146
 z77 := Tryz.sizeOf146
 v77 := Tryz.zeroValue146 }
def Tryz.sortA_ren : Go.Shelf.Ren := ⟨fun | 5 => 60 | 8 => 75 | 7 => 74 | 19 => 88 | 20 => 89 | 10 => 79 | 11 => 80 | 12 => 81 | 13 => 82 | 14 => 83 | 15 => 84 | 16 => 85 | 17 => 86 | 18 => 87 | 30 => 106 | 31 => 107 | 32 => 108 | 33 => 109 | 34 => 110 | 35 => 53 | 40 => 117 | n => n, fun | 23 => 46 | 25 => 3 | 3 => 3 | 32 => 109 | 22 => 46 | 0 => 0 | 44 => 122 | 46 => 124 | 4 => 4 | 36 => 114 | 35 => 113 | 41 => 119 | 5 => 5 | 9 => 9 | 53 => 135 | 57 => 139 | 63 => 145 | 64 => 146 | n => n, fun | n => n⟩
theorem Tryz.sortA : Go.Proofs.SlLaysM.n5 Tryz.prog Tryz.sortA_ren := {
 mixed := by kernel_rfl
 f5 := ⟨Tryz.f60.name, by decide, Tryz.func60.trans (congrArg some (by kernel_rfl))⟩
 f7 := ⟨Tryz.f74.name, by decide, Tryz.func74.trans (congrArg some (by kernel_rfl))⟩
 f8 := Tryz.func75.trans (congrArg some (by kernel_rfl))
 f10 := ⟨Tryz.f79.name, by decide, Tryz.func79.trans (congrArg some (by kernel_rfl))⟩
 f11 := ⟨Tryz.f80.name, by decide, Tryz.func80.trans (congrArg some (by kernel_rfl))⟩
 f12 := ⟨Tryz.f81.name, by decide, Tryz.func81.trans (congrArg some (by kernel_rfl))⟩
 f13 := ⟨Tryz.f82.name, by decide, Tryz.func82.trans (congrArg some (by kernel_rfl))⟩
 f14 := ⟨Tryz.f83.name, by decide, Tryz.func83.trans (congrArg some (by kernel_rfl))⟩
 f15 := ⟨Tryz.f84.name, by decide, Tryz.func84.trans (congrArg some (by kernel_rfl))⟩
 f16 := ⟨Tryz.f85.name, by decide, Tryz.func85.trans (congrArg some (by kernel_rfl))⟩
 f17 := ⟨Tryz.f86.name, by decide, Tryz.func86.trans (congrArg some (by kernel_rfl))⟩
 f18 := ⟨Tryz.f87.name, by decide, Tryz.func87.trans (congrArg some (by kernel_rfl))⟩
 f19 := Tryz.func88.trans (congrArg some (by kernel_rfl))
 f20 := Tryz.func89.trans (congrArg some (by kernel_rfl))
 f30 := ⟨Tryz.f106.name, by decide, Tryz.func106.trans (congrArg some (by kernel_rfl))⟩
 f31 := Tryz.func107.trans (congrArg some (by kernel_rfl))
 f32 := Tryz.func108.trans (congrArg some (by kernel_rfl))
 f33 := ⟨Tryz.f109.name, by decide, Tryz.func109.trans (congrArg some (by kernel_rfl))⟩
 f34 := ⟨Tryz.f110.name, by decide, Tryz.func110.trans (congrArg some (by kernel_rfl))⟩
 f35 := ⟨Tryz.f53.name, by decide, Tryz.func53.trans (congrArg some (by kernel_rfl))⟩
 f40 := ⟨Tryz.f117.name, by decide, Tryz.func117.trans (congrArg some (by kernel_rfl))⟩
 t0 := Tryz.underlying0
 a0 := Tryz.isAgg0
 z0 := Tryz.sizeOf0
 v0 := Tryz.zeroValue0
 t3 := Tryz.underlying3
 a3 := Tryz.isAgg3
 z3 := Tryz.sizeOf3
 v3 := Tryz.zeroValue3
 t4 := Tryz.underlying4
 a4 := Tryz.isAgg4
 z4 := Tryz.sizeOf4
 v4 := Tryz.zeroValue4
 t5 := Tryz.underlying5
 a5 := Tryz.isAgg5
 z5 := Tryz.sizeOf5
 v5 := Tryz.zeroValue5
 t9 := Tryz.underlying9
 a9 := Tryz.isAgg9
 z9 := Tryz.sizeOf9
 v9 := Tryz.zeroValue9
 t22 := Tryz.underlying46
 a22 := Tryz.isAgg46
 z22 := Tryz.sizeOf46
 v22 := Tryz.zeroValue46
 t23 := Tryz.underlying46
 a23 := Tryz.isAgg46
 z23 := Tryz.sizeOf46
 v23 := Tryz.zeroValue46
 t25 := Tryz.underlying3
 a25 := Tryz.isAgg3
 z25 := Tryz.sizeOf3
 v25 := Tryz.zeroValue3
 t32 := Tryz.underlying109
 a32 := Tryz.isAgg109
 z32 := Tryz.sizeOf109
 v32 := Tryz.zeroValue109
 t35 := Tryz.underlying113
 a35 := Tryz.isAgg113
 z35 := Tryz.sizeOf113
 v35 := Tryz.zeroValue113
 t36 := Tryz.underlying114
 a36 := Tryz.isAgg114
 z36 := Tryz.sizeOf114
 v36 := Tryz.zeroValue114
 t41 := Tryz.underlying119
 a41 := Tryz.isAgg119
 z41 := Tryz.sizeOf119
 v41 := Tryz.zeroValue119
 t44 := Tryz.underlying122
 a44 := Tryz.isAgg122
 z44 := Tryz.sizeOf122
 v44 := Tryz.zeroValue122
 t46 := Tryz.underlying124
 a46 := Tryz.isAgg124
 z46 := Tryz.sizeOf124
 v46 := Tryz.zeroValue124
 t53 := Tryz.underlying135
 a53 := Tryz.isAgg135
 z53 := Tryz.sizeOf135
 v53 := Tryz.zeroValue135
 t57 := Tryz.underlying139
 a57 := Tryz.isAgg139
 z57 := Tryz.sizeOf139
 v57 := Tryz.zeroValue139
 t63 := Tryz.underlying145
 a63 := Tryz.isAgg145
 z63 := Tryz.sizeOf145
 v63 := Tryz.zeroValue145
 t64 := Tryz.underlying146
 a64 := Tryz.isAgg146
 z64 := Tryz.sizeOf146
 v64 := Tryz.zeroValue146 }
def Tryz.compactA_ren : Go.Shelf.Ren := ⟨fun | 43 => 61 | n => n, fun | 22 => 46 | 23 => 3 | 3 => 3 | 4 => 4 | 0 => 0 | n => n, fun | n => n⟩
theorem Tryz.compactA : Go.Proofs.SlLaysN.n43 Tryz.prog Tryz.compactA_ren := {
 mixed := by kernel_rfl
 f43 := ⟨Tryz.f61.name, by decide, Tryz.func61.trans (congrArg some (by kernel_rfl))⟩
 t0 := Tryz.underlying0
 a0 := Tryz.isAgg0
 z0 := Tryz.sizeOf0
 v0 := Tryz.zeroValue0
 t3 := Tryz.underlying3
 a3 := Tryz.isAgg3
 z3 := Tryz.sizeOf3
 v3 := Tryz.zeroValue3
 t4 := Tryz.underlying4
 a4 := Tryz.isAgg4
 z4 := Tryz.sizeOf4
 v4 := Tryz.zeroValue4
 t22 := Tryz.underlying46
 a22 := Tryz.isAgg46
 z22 := Tryz.sizeOf46
 v22 := Tryz.zeroValue46
 t23 := Tryz.underlying3
 a23 := Tryz.isAgg3
 z23 := Tryz.sizeOf3
 v23 := Tryz.zeroValue3
 i23 := by kernel_rfl }
def cmpP (p q : Pl) : Int := cmpE p.ed q.ed
theorem ltP (p q : Pl) : ltOf cmpP p q = lessD p.1 q.1 := by
 unfold ltOf lessD cmpP
 simp only [cmpE_neg]
 rfl
theorem cmpP_swo : SWO (ltOf cmpP) := by
 refine ⟨fun x => ?_, fun x y z h k => ?_, fun x y z h k => ?_⟩
 ·rw [ltP]; exact lessD_irrefl _
 ·rw [ltP] at *; exact lessD_trans h k
 ·rw [ltP] at *
  rw [lessD_false] at *; omega
theorem eSortEd (ps : List Pl) (hl : ps.length ≤ 1000000000) (R : RO) :
  CallsS Tryz.prog 71 [.sl 0 ps.length, .val (.func (.func 72) #[] #[])] [.row 31 13 (rowP ps)] R fun R' bs r =>
   R' = R ∧ ∃ qs : List Pl, qs.Perm ps ∧ (qs.Pairwise fun x y => lessD y.1 x.1 = false) ∧ bs = [.row 31 13 (rowP qs)] ∧ r = .val (.tuple #[]) := by
 have h := sortFuncS Tryz.sortEd 13 Tryz.isAgg31 Tryz.sizeOf31 (fun p : Pl => p.ed.cells) (fun _ => rfl) (fun p => edcells_one _) cmpP cmpP_swo 72 31
  (enters_of Tryz.func72 (by kernel_rfl) rfl) (fun x y => eCompareE x.ed y.ed _) ps (by omega) R
 simp only [ltP] at h
 exact h
theorem eSortEdNil (fv : Value) (R : RO) : CallsR Tryz.prog 71 [.slice none 0 0, fv] R fun _ r => r = .tuple #[] := sortFuncNil Tryz.sortEd fv R
theorem eMovesCmp (a b : Mv) (R : RO) : CallsR Tryz.prog 68 [a.val, b.val] R fun _ v => v = .int .i64 (cmpI a.day b.day) := by
 simp only [Mv.val]
 refine callsT mix Tryz.func68 comp68 (by simp [Tryz.ntmps68]) ?_; simp only [go_sem, ↓reduceIte, nQ1, nQ2, nQ3, nQ4, nQ5, nQ6, reduceCtorEq, vc68, rs68]
 refine vcall (eCompare a.day b.day R) ?_
 rintro R1 v h1 rfl
 try simp only [go_sem, ↓reduceIte, nQ1, nQ2, nQ3, nQ4, nQ5, nQ6, reduceCtorEq]
def rowM (ms : List Mv) : List Value := (ms.map Mv.cells).flatten
theorem rowM_len (os : List Mv) : (rowM os).length = os.length * 5 := by
 unfold rowM
 rw [length_flattenK (k := 5) (fun us hus => by obtain ⟨x, _, rfl⟩ := List.mem_map.1 hus; rfl)]
 simp
theorem rowM_snoc (os : List Mv) (o : Mv) : rowM (os ++ [o]) = rowM os ++ o.cells := by simp [rowM]
def cmpM (a b : Mv) : Int := cmpI a.day b.day
theorem mvcells_one (e : Mv) : ∀ v ∈ e.cells, v.oneCell' = true := by
 intro v hv
 simp only [Mv.cells, List.mem_cons, List.not_mem_nil, or_false] at hv
 rcases hv with rfl | rfl | rfl | rfl | rfl <;> rfl
instance : Inhabited Mv := ⟨⟨0, false, 0, 0, 0⟩⟩
theorem ltM (p q : Mv) : ltOf cmpM p q = decide (p.day < q.day) := by
 unfold ltOf cmpM cmpI
 split
 ·simp [*]
 ·split <;> simp <;> omega
theorem cmpM_swo : SWO (ltOf cmpM) := by
 refine ⟨fun x => ?_, fun x y z h k => ?_, fun x y z h k => ?_⟩
 ·rw [ltM]; simp
 ·rw [ltM] at *; simp at *; omega
 ·rw [ltM] at *; simp at *; omega
theorem eSortMv (ms : List Mv) (hl : ms.length ≤ 1000000000) (R : RO) :
  CallsS Tryz.prog 67 [.sl 0 ms.length, .val (.func (.func 68) #[] #[])] [.row 27 5 (rowM ms)] R fun R' bs r =>
   R' = R ∧ ∃ qs : List Mv, qs.Perm ms ∧ (qs.Pairwise fun x y => x.day ≤ y.day) ∧ bs = [.row 27 5 (rowM qs)] ∧ r = .val (.tuple #[]) := by
 have h := sortFuncS Tryz.sortMv 5 Tryz.isAgg27 Tryz.sizeOf27 Mv.cells (fun _ => rfl) mvcells_one cmpM cmpM_swo 68 27
  (enters_of Tryz.func68 (by kernel_rfl) rfl) (fun x y => eMovesCmp x y _) ms (by omega) R
 simp only [ltM, decide_eq_false_iff_not, Int.not_lt] at h
 exact h
theorem eSortMvNil (fv : Value) (R : RO) : CallsR Tryz.prog 67 [.slice none 0 0, fv] R fun _ r => r = .tuple #[] := sortFuncNil Tryz.sortMv fv R
theorem eSortInts (xs : List Int) (hl : xs.length ≤ 1000000000) (R : RO) : CallsS Tryz.prog 60 [.sl 0 xs.length] [.row 3 1 (xs.map (.int .i64))] R fun R' bs r => R' = R ∧ bs = [.row 3 1 ((xs.mergeSort fun x y => decide (x ≤ y)).map (.int .i64))] ∧ r = .val (.tuple #[]) := sortIntsS Tryz.sortA 3 xs (by omega) R
theorem eCompactInts (xs : List Int) (hl : xs.length ≤ 1000000000) (R : RO) : CallsS Tryz.prog 61 [.sl 0 xs.length] [.row 3 1 (xs.map (.int .i64))] R fun R' bs r => R' = R ∧ bs = [.row 3 1 ((Lib.compact xs ++ List.replicate (xs.length - (Lib.compact xs).length) 0).map (.int .i64))] ∧ r = .sl 0 (Lib.compact xs).length := compactIntsS Tryz.compactA 3 xs (by omega) R
end Go.Proofs.YtcjdbfnnbejmeaaGreat
namespace Go.Proofs.YtcjdbfnnbejmeaaGreat
set_option linter.unusedSimpArgs false
set_option linter.unusedVariables false
open Go.Proofs.YtcjdbfnnbejmeaaGreat.Vc
theorem PlOK.of {R : RO} {ds : List De} {v : Value} (h : EdsV R v ds) : ∃ a cap, v = .slice a ds.length cap ∧ ds.length ≤ cap ∧ ∀ i (hi : i < ds.length), ∃ ad p, a = some ad ∧ p.1 = ds[i] ∧ (∀ j u, (p.ed.cells)[j]? = some u → R ((ad.add (i * 13)).add j) u) ∧ PlOK R p := by
 obtain ⟨a, cap, rfl, hc, hf⟩ := h.form
 refine ⟨a, cap, rfl, hc, fun i hi => ?_⟩
 obtain ⟨ad, ra, rn, rc, had, hR, hr⟩ := hf i hi
 exact ⟨ad, (ds[i], ra, rn, rc), had, rfl, hR, hr⟩
theorem EdsV.row {R : RO} {b cap : Nat} {ps : List Pl} (h : RowIn R b (rowP ps)) (hc : (rowP ps).length ≤ cap * 13) (hp : ∀ p ∈ ps, PlOK R p) (hl : ps.length ≤ 1000000000) : EdsV R (.slice (some ⟨b, 0, none⟩) ps.length cap) (ps.map (·.1)) := by
 have h1 := RowIn.slK h (cellsP_len ps) (by omega) hc
 rw [List.length_map] at h1
 refine ⟨_, h1, by simp, fun i c d hi hd => ?_, by simpa using hl⟩
 rw [List.getElem?_map] at hi hd
 obtain ⟨p, hp', rfl⟩ := Option.map_eq_some_iff.1 hi
 rw [hp'] at hd
 simp only [Option.map_some, Option.some.injEq] at hd
 subst hd
 exact (hp p (List.mem_of_getElem? hp')).edV
theorem EdsV.pls {R : RO} {v : Value} {ds : List De} (h : EdsV R v ds) : ∃ (a : Option Addr) (cap : Nat) (ps : List Pl), v = .slice a ds.length cap ∧ ds.length ≤ cap ∧ ps.map (·.1) = ds ∧ (∀ p ∈ ps, PlOK R p) ∧ (rowP ps ≠ [] → ∃ ad, a = some ad ∧ ∀ i v, (rowP ps)[i]? = some v → R (ad.add i) v) := by
 obtain ⟨a, cap, rfl, hc, hf⟩ := PlOK.of h
 let f : Nat → Pl := fun i => if h : i < ds.length then (hf i h).choose_spec.choose else default
 have hfi : ∀ i (hi : i < ds.length), ∃ ad, a = some ad ∧ (f i).1 = ds[i] ∧ (∀ j u, ((f i).ed.cells)[j]? = some u → R ((ad.add (i * 13)).add j) u) ∧ PlOK R (f i) := fun i hi => by
  refine ⟨(hf i hi).choose, ?_⟩
  have hs := (hf i hi).choose_spec.choose_spec
  simp only [f, hi, dif_pos]
  exact hs
 refine ⟨a, cap, (List.range ds.length).map f, rfl, hc, ?_, fun p hp => ?_, fun hne => ?_⟩
 ·apply List.ext_getElem
  ·simp
  ·intro i h1 h2
   obtain ⟨_, _, h3, _⟩ := hfi i h2
   simpa using h3
 ·obtain ⟨i, hi, rfl⟩ := List.mem_map.1 hp
  obtain ⟨_, _, _, _, h4⟩ := hfi i (List.mem_range.1 hi)
  exact h4
 ·have hl : 0 < ds.length := by
   have h1 := rowP_len ((List.range ds.length).map f)
   have h2 := List.length_pos_iff.2 hne
   simp at h1
   omega
  obtain ⟨ad, ha, _⟩ := hfi 0 hl
  refine ⟨ad, ha, fun i v hi => ?_⟩
  obtain ⟨us, hus, hu⟩ := flat_get (k := 13) (cellsP_len _) (by omega) hi
  rw [List.getElem?_map, List.getElem?_map] at hus
  obtain ⟨p, hp, rfl⟩ := Option.map_eq_some_iff.1 hus
  obtain ⟨q, hq, rfl⟩ := Option.map_eq_some_iff.1 hp
  have hqq := List.getElem?_eq_some_iff.1 hq
  simp only [List.length_range, List.getElem_range] at hqq
  obtain ⟨hlt, rfl⟩ := hqq
  obtain ⟨ad', ha', _, hR, _⟩ := hfi (i / 13) hlt
  rw [ha] at ha'
  simp only [Option.some.injEq] at ha'
  subst ha'
  have := hR _ _ hu
  rw [add_add, Nat.mul_comm, Nat.div_add_mod] at this
  exact this
theorem EdsV.src {R : RO} {v : Value} {ds : List De} (h : EdsV R v ds) : ∃ (a : Option Addr) (cap : Nat) (ps : List Pl), v = .slice a ds.length cap ∧ ps.map (·.1) = ds ∧ (∀ p ∈ ps, PlOK R p) ∧ ∀ {b : List Blk} {kk : List Value → Prop} {t : Tok kk}, kk (rowP ps) → SrcP (allR b R) 13 a ds.length kk t := by
 obtain ⟨a, cap, ps, rfl, _, h1, h2, h3⟩ := h.pls
 refine ⟨a, cap, ps, rfl, h1, h2, fun hk => vsrc (rowP ps) (by rw [rowP_len, ← h1]; simp) (fun u hu => ?_) h3 hk⟩
 unfold rowP at hu
 obtain ⟨c, hc, hu'⟩ := List.mem_flatten.1 hu
 obtain ⟨q, _, rfl⟩ := List.mem_map.1 hc
 exact edcells_one _ u hu'
theorem EdsV.nil (R : RO) : EdsV R (.slice none 0 0) [] := ⟨[], ⟨none, 0, rfl, Nat.le_refl _, by simp⟩, rfl, by simp, by simp⟩
theorem validE_ed (p : Pl) (h : p.2.2.1 = p.1.rule.length) : validE p.ed = validD p.1 := by
 unfold validD Pl.ed
 rw [h]
 rfl
set_option maxRecDepth 8000 in
theorem eSorted (ds : List De) (v : Value) (R : RO) (h : EdsV R v ds) : CallsR Tryz.prog 56 [v] R fun R' r => match allD ds with
  | .error k => r = .tuple #[.slice none 0 0, .int .i64 k]
  | .ok o => ∃ u, r = .tuple #[u, .int .i64 0] ∧ EdsV R' u o := by
 have hdl : ds.length ≤ 1000000000 := by obtain ⟨_, _, _, _, h⟩ := h; exact h
 obtain ⟨a, cap, rfl, hc, hf⟩ := PlOK.of h
 refine callsT mix Tryz.func56 comp56 (by simp [Tryz.ntmps56]) ?_; simp only [go_sem, ↓reduceIte, nQ1, nQ2, nQ3, nQ4, nQ5, nQ6, reduceCtorEq, vc56, rs56]
 refine ⟨fun hgt => ?_, fun hle => ?_⟩
 ·have : allD ds = .error 2 := by unfold allD; rw [if_pos (by omega)]
  rw [this]
 have hall : allD ds = okD (distD [] ds) := by unfold allD; rw [if_neg (by omega)]
 refine vcLoopR (Nat × List Pl × List Pl) (fun x => [(17, .val (.int .i64 x.1)), (16, .val (.int .i64 ds.length)), (15, .val (.slice a ds.length cap)), (4, .mp 0), (5, gs 1 x.2.2.length)])
  (fun x => [.mp (ents 0 x.2.1) x.2.1.length, gb 31 13 (rowP x.2.2)])
  (fun x R => x.1 ≤ ds.length ∧ x.2.1.map (·.1) = x.2.2.map (·.1) ∧ distD [] (ds.take x.1) = some (x.2.1.map (·.1)) ∧ x.2.2.length ≤ x.1 ∧ (∀ p ∈ x.2.1, PlOK R p) ∧ ∀ p ∈ x.2.2, PlOK R p) (fun x => ds.length - x.1) (0, [], []) [] ?_ ?_ ?_ ?_
 ·(try simp only [go_sem, ↓reduceIte, nQ1, nQ2, nQ3, nQ4, nQ5, nQ6, reduceCtorEq]) <;> (repeat' (first | rfl | trivial | constructor | (intro h; exact absurd rfl h)))
 ·try simp only [go_sem, ↓reduceIte, nQ1, nQ2, nQ3, nQ4, nQ5, nQ6, reduceCtorEq]
 ·exact ⟨Nat.zero_le _, rfl, rfl, Nat.le_refl _, by simp, by simp⟩
 rintro ⟨i, qs, ps⟩ env R1 hle1 hE ⟨hi, hqp, hd, hpl, hqo, hpo⟩
 (simp only [go_sem] at hE; obtain ⟨e17, e16, e15, e4, e5⟩ := hE; simp only [go_sem, ↓reduceIte, nQ1, nQ2, nQ3, nQ4, nQ5, nQ6, reduceCtorEq, e17, e16, e15, e4, e5]; dsimp only at *)
 refine ⟨fun hlt => ⟨hlt, ?_⟩, fun hge => ?_⟩
 ·have hlt' : i < ds.length := by omega
  obtain ⟨ad, p, had, hp1, hR, hpok⟩ := hf i hlt'
  have hcells : ∀ j u, (p.ed.cells)[j]? = some u → R1 ((ad.add (i * 13)).add j) u := fun j u hj => hle1 _ _ (hR j u hj)
  refine vat ad had ?_
  try simp only [go_sem, ↓reduceIte, nQ1, nQ2, nQ3, nQ4, nQ5, nQ6, reduceCtorEq]
  refine vloadn p.ed.cells rfl hcells ?_
  simp only [go_sem, ↓reduceIte, nQ1, nQ2, nQ3, nQ4, nQ5, nQ6, reduceCtorEq, Ed.cells, Pl.ed, De.ed, e17, e16, e15, e4, e5]
  refine vcall (eValid p.ed R1) ?_
  rintro R2 v hle2 rfl
  try simp only [go_sem, ↓reduceIte, nQ1, nQ2, nQ3, nQ4, nQ5, nQ6, reduceCtorEq]
  rw [validE_ed p hpok.len]
  refine ⟨fun hv => ?_, fun hv => ?_⟩
  ·have hb := distD_bad hlt' hd (addD_invalid (by rw [← hp1]; simpa using hv))
   rw [hall, hb]
   rfl
  simp only [go_sem, ↓reduceIte, nQ1, nQ2, nQ3, nQ4, nQ5, nQ6, reduceCtorEq, e17, e16, e15, e4, e5]
  have hpk : PlOK R2 p := hpok.mono (RO.le_trans hle1 hle2)
  have hstep := distD_step hlt' hd
  rw [← hp1] at hstep
  cases hfind : qs.find? (fun q => keyEq p.1 q.1) with
  | some q =>
   obtain ⟨j, hj⟩ := mfind_some p.1 q qs 0 0 hfind
   have hq := List.find?_some hfind
   have hqm := List.mem_of_find?_eq_some hfind
   rw [addD_old hv (by rw [find_fst, hfind]; rfl)] at hstep
   refine vmget (ents 0 qs) qs.length (some (j, q.ed.val)) (by rw [show Value.agg #[Value.int .i64 p.1.device, .int .i64 p.1.seq] = keyV p.1 from rfl, mEq_key]; simp [keyEq]) rfl hj ?_
   simp only [go_sem, ↓reduceIte, nQ1, nQ2, nQ3, nQ4, nQ5, nQ6, reduceCtorEq, mres, Ed.val, Pl.ed, De.ed, e17, e16, e15, e4, e5]
   refine vcall (eSame q.1 p.1 q.ed.cells p.ed.cells R2 ((hqo q hqm).mono hle2).edV hpk.edV) ?_
   rintro R3 v hle3 rfl
   simp only [go_sem, ↓reduceIte, nQ1, nQ2, nQ3, nQ4, nQ5, nQ6, reduceCtorEq, e17, e16, e15, e4, e5]
   refine ⟨fun hne => ?_, fun heq => ?_⟩
   ·rw [if_neg hne] at hstep
    have hb := distD_none_append _ _ (ds.drop (i + 1)) hstep
    rw [List.take_append_drop] at hb
    rw [hall, hb]
    rfl
   ·rw [if_pos heq] at hstep
    refine ⟨_, W.in64 (by omega), (i + 1, qs, ps), [], ?_⟩
    try simp only [go_sem, ↓reduceIte, nQ1, nQ2, nQ3, nQ4, nQ5, nQ6, reduceCtorEq]
    refine ⟨by omega, ⟨rfl, fun h => gb_ne h⟩, by decide, by omega, hqp, hstep, by omega, fun p hp => (hqo p hp).mono (RO.le_trans hle2 hle3), fun p hp => (hpo p hp).mono (RO.le_trans hle2 hle3)⟩
  | none =>
   have hn := mfind_none p.1 qs 0 0 (fun q hq => by have := List.find?_eq_none.1 hfind q hq; simpa using this)
   rw [addD_new hv (by rw [find_fst, hfind]; rfl)] at hstep
   refine vmget (ents 0 qs) qs.length none (by rw [show Value.agg #[Value.int .i64 p.1.device, .int .i64 p.1.seq] = keyV p.1 from rfl, mEq_key]; simp [keyEq]) rfl hn ?_
   simp only [go_sem, ↓reduceIte, nQ1, nQ2, nQ3, nQ4, nQ5, nQ6, reduceCtorEq, mres, e17, e16, e15, e4, e5]
   refine ⟨by rw [show Value.agg #[Value.int .i64 p.1.device, .int .i64 p.1.seq] = keyV p.1 from rfl, mEq_key]; simp [keyEq], vmput (ents 0 qs) qs.length none rfl hn ?_⟩
   simp only [go_sem, ↓reduceIte, nQ1, nQ2, nQ3, nQ4, nQ5, nQ6, reduceCtorEq, mset, e17, e16, e15, e4, e5]
   refine vcall (eCopied p.1.rule _ R2 hpk) ?_
   intro R3 u hle3 hu
   obtain ⟨ua, un, uc, rfl⟩ := hu.form
   simp only [go_sem, ↓reduceIte, nQ1, nQ2, nQ3, nQ4, nQ5, nQ6, reduceCtorEq, e17, e16, e15, e4, e5]
   refine vgrow (rowP ps) (fun _ => rfl) (fun h0 => by rw [h0, gb_nil]; rfl) (by rw [rowP_len]) (by omega) (by omega) (by omega) ?_
   simp only [go_sem, ↓reduceIte, nQ1, nQ2, nQ3, nQ4, nQ5, nQ6, reduceCtorEq, e17, e16, e15, e4, e5]
   refine ⟨_, W.in64 (by omega), (i + 1, qs ++ [p], ps ++ [(p.1, ua, un, uc)]), [0, 6], ?_⟩
   try simp only [go_sem, ↓reduceIte, nQ1, nQ2, nQ3, nQ4, nQ5, nQ6, reduceCtorEq]
   refine ⟨by omega, ⟨rfl, by rw [ents_snoc, Nat.zero_add]; rfl, fun _ => by rw [rowP_snoc]; rfl⟩, by decide, by omega, by simp [hqp], by rw [hstep]; simp, by omega, fun q hq => ?_, fun q hq => ?_⟩
   ·rcases List.mem_append.1 hq with hq | hq
    ·exact (hqo q hq).mono (RO.le_trans hle2 hle3)
    ·simp only [List.mem_cons, List.not_mem_nil, or_false] at hq; subst hq; exact hpk.mono hle3
   ·rcases List.mem_append.1 hq with hq | hq
    ·exact (hpo q hq).mono (RO.le_trans hle2 hle3)
    ·simp only [List.mem_cons, List.not_mem_nil, or_false] at hq; subst hq; exact hu
 ·obtain rfl : i = ds.length := by omega
  rw [List.take_length] at hd
  rw [hall, hd]
  simp only [okD]
  by_cases h0 : ps.length = 0
  ·rw [h0]
   try simp only [go_sem, ↓reduceIte, nQ1, nQ2, nQ3, nQ4, nQ5, nQ6, reduceCtorEq]
   refine vcall (eSortEdNil _ R1) ?_
   rintro R2 v hle2 rfl
   simp only [go_sem, ↓reduceIte, nQ1, nQ2, nQ3, nQ4, nQ5, nQ6, reduceCtorEq, e17, e16, e15, e4, e5]
   rw [h0]
   try simp only [go_sem, ↓reduceIte, nQ1, nQ2, nQ3, nQ4, nQ5, nQ6, reduceCtorEq]
   obtain rfl : ps = [] := List.eq_nil_of_length_eq_zero h0
   have hqs : qs = [] := by simpa using hqp
   subst hqs
   exact ⟨_, rfl, by simpa [sortD] using EdsV.nil R2⟩
  ·rw [gs_pos h0]
   try simp only [go_sem, ↓reduceIte, nQ1, nQ2, nQ3, nQ4, nQ5, nQ6, reduceCtorEq]
   refine vhand [1] [.sl 0 ps.length, .val (.func (.func 72) #[] #[])] [.row 31 13 (rowP ps)] (eSortEd ps (by omega) R1) rfl rfl rfl ?_ (by simp) rfl rfl ?_
   ·try simp only [go_sem, ↓reduceIte, nQ1, nQ2, nQ3, nQ4, nQ5, nQ6, reduceCtorEq]
    exact gb_ne (fun e => h0 (by have := rowP_len ps; rw [e] at this; simp at this; omega))
   rintro R2 bs r hle2 ⟨rfl, rs, hperm, hpw, rfl, rfl⟩ _
   simp only [go_sem, ↓reduceIte, nQ1, nQ2, nQ3, nQ4, nQ5, nQ6, reduceCtorEq, e17, e16, e15, e4, e5]
   rw [gs_pos h0]
   simp only [go_sem, ↓reduceIte, nQ1, nQ2, nQ3, nQ4, nQ5, nQ6, reduceCtorEq, setG, rn]
   intro b cap' R3 hle3 hrow hcap hfr
   have hk : KeysD (qs.map (·.1)) := distD_keys hd List.Pairwise.nil
   have hperm1 : (rs.map (·.1)).Perm (qs.map (·.1)) := by rw [hqp]; exact hperm.map _
   have hs : rs.map (·.1) = sortD (qs.map (·.1)) := sortD_eq hk hperm1 (List.pairwise_map.2 hpw)
   refine ⟨_, rfl, ?_⟩
   rw [← hs, show ps.length = rs.length from hperm.length_eq.symm]
   exact EdsV.row hrow hcap (fun p hp => (hpo p (hperm.mem_iff.1 hp)).mono hle3) (by rw [hperm.length_eq]; omega)
end Go.Proofs.YtcjdbfnnbejmeaaGreat
namespace Go.Proofs.YtcjdbfnnbejmeaaGreat
set_option linter.unusedSimpArgs false
set_option linter.unusedVariables false
open Go.Proofs.YtcjdbfnnbejmeaaGreat.Vc
theorem cutT {P : PG} {c : VCode} {s : St} {kn : St → Prop} {ke : Nat → St → Prop} {kr : St → Prop} {tn : Tok kn} {te : Tok ke} {tr : Tok kr} (Q : St → Prop) (h : CodeT P c s Q ke kr .mk .mk .mk) (hk : ∀ s', Q s' → kn s') : CodeT P c s kn ke kr tn te tr :=
 vcCode_mono c hk (fun _ _ h => h) (fun _ h => h) h
theorem cutR {P : PG} {a b : VCode} {s : St} {kn : St → Prop} {ke : Nat → St → Prop} {kr : St → Prop} {tn : Tok kn} {te : Tok ke} {tr : Tok kr} (s1 : St) (h : CodeT P a s (fun s' => s' = s1) ke kr .mk .mk .mk) (hk : CodeT P b s1 kn ke kr .mk .mk .mk) : CodeT P (.seq a b) s kn ke kr tn te tr :=
 vcCode_mono a (fun s' e => by subst e; exact hk) (fun _ _ h => h) (fun _ h => h) h
theorem cutL {P : PG} {b : VCode} {s : St} {kn kn1 : St → Prop} {ke0 : Nat → St → Prop} {kr : St → Prop} {n : Nat} {t1 : Tok kn} {t2 : Tok (fun (i : Nat) (s' : St) => if i = n then kn1 s' else ke0 i s')} {t3 : Tok kr} {t4 : Tok b} (Q : St → Prop)
  (h : VLoop P b s kn (fun i s' => if i = n then Q s' else ke0 i s') kr .mk .mk .mk .mk) (hk : ∀ s', Q s' → kn1 s') : VLoop P b s kn (fun i s' => if i = n then kn1 s' else ke0 i s') kr t1 t2 t3 t4 :=
 vcCode_mono (.loop b) (fun _ h => h) (fun i s' h => by
  revert h
  by_cases e : i = n
  ·rw [if_pos e, if_pos e]; exact hk s'
  ·rw [if_neg e, if_neg e]; exact id) (fun _ h => h) h
theorem inScope_one (ρ : List Nat) (vals : List (Nat × SV)) (blks : List Blk) : inScope 1 ρ vals blks = (keysOK vals && (vals.all fun p => p.2.ok blks.length) && blks.all (scB blks.length) && rnInj ρ blks.length && decide (1 ≤ blks.length) && (rn ρ 0 == 0)) := by
 simp [inScope, List.range_succ]
theorem setG_no (l x : List Blk) : setG l [] x = l ++ x := by cases x <;> rfl
end Go.Proofs.YtcjdbfnnbejmeaaGreat
