/- Lemmas of our own, no statement of the seat; the last one of the claim's texts proves the law. -/
import Derived.Sort.Grow
import Derived.Deep.Draws
import Derived.Sort.OwnSortedInts
import Derived.Shelf.SlSortCmp.WholeK
import Derived.Shelf.SlSortCmp.NoneTotal
import Derived.Shelf.SortM.Plain
import Derived.Shelf.SlicesG.CompactI
import Derived.Ground.SlsfProg
import Derived.Ground.SlgmProg
import Derived.Test.YtclkibjonbhldaaGreatDoorBsb
import Derived.Test.YtclkibjonbhldaaGreatDoorVcI
open Nat renaming reduceEqDiff → nQ1, reduceAdd → nQ2, reduceMul → nQ3, reduceLeDiff → nQ4, reduceLT → nQ5, reduceBNe → nQ6
open Int renaming reduceLE → iQ1, reduceLT → iQ2, reduceToNat → iQ3, cast_ofNat_Int → iQ4, reduceEq → iQ5, reduceNe → iQ6
/- Plain lemmas of our own, no statement of the seat: valid elements of Spent. -/
namespace Go.Proofs.YtclkibjonbhldaaGreatDoor
set_option linter.unusedSimpArgs false
set_option linter.unusedVariables false
open Go.Proofs.YtclkibjonbhldaaGreatDoor.Vc
def I64 (n : Int) : Prop := -9223372036854775808 ≤ n ∧ n ≤ 9223372036854775807
structure OkS (gs : List (List Int)) (s : Se) : Prop where
 grain : 1 ≤ s.grain ∧ s.grain ≤ 4
 ne : s.cells ≠ []
 group : s.group < gs.length
 alone : s.group < 0 → personB (-1 - s.group) = true ∧ grpOf gs (-1 - s.group) = s.group
 nor : validS s.cells = true
 ali : (s.cells.all fun c => alignedB c (sizeI s.grain)) = true
def keyLt (a b : Se) : Prop := a.group < b.group ∨ (a.group = b.group ∧ a.grain < b.grain)
structure OkB (b : Bu) : Prop where
 lim : 0 ≤ b.limit ∧ b.limit ≤ 2251799813685248
 groups : ValidG b.groups
 each : ∀ s ∈ b.spent, OkS b.groups s
 ord : b.spent.Pairwise keyLt
theorem sizeI_pos (g : Int) : 0 < sizeI g := by
 unfold sizeI
 split
 ·decide
 ·split <;> decide
noncomputable def okS (gs : List (List Int)) (s : Se) : Bool := @decide (OkS gs s) (Classical.propDecidable _)
theorem okS_iff {gs : List (List Int)} {s : Se} : okS gs s = true ↔ OkS gs s := @decide_eq_true_iff _ (Classical.propDecidable _)
theorem okS_false {gs : List (List Int)} {s : Se} (h : ¬ OkS gs s) : okS gs s = false := @decide_eq_false _ (Classical.propDecidable _) h
set_option maxHeartbeats 1000000 in
theorem rValidSpent (gs : List (List Int)) (s : Se) (hi : I64 s.group) (v u : Value) (R : RO) (h : GV R v gs) (h' : SpV R u s.cells) : CallsR Tryz.prog 63 [v, .agg #[.int .i64 s.group, .int .i64 s.grain, u]] R fun _ r => r = .bool (okS gs s) := by
 have hV := fun R' hle => rValidS s.cells u R' (EncV.mono (R' := R') h' hle)
 have hA := fun R' hle => rAligned s.cells (sizeI s.grain) (sizeI_pos _) u R' (EncV.mono (R' := R') h' hle)
 have hG := fun (p : Int) hp R' hle => rGroupOf gs p hp v R' (GV.mono (R' := R') h hle)
 have hbad : ¬ OkS gs s → Value.bool false = Value.bool (okS gs s) := fun hn => by rw [okS_false hn]
 obtain ⟨hxl, a, cap, rfl, hc, hf⟩ := h.form
 obtain ⟨b, bcap, rfl, hbc, hbf⟩ := h'.form
 unfold I64 at hi
 refine callsT mix Tryz.func63 comp63 (by simp [Tryz.ntmps63]) ?_; simp only [go_sem, ↓reduceIte, nQ1, nQ2, nQ3, nQ4, nQ5, nQ6, reduceCtorEq, vc63, rs63]
 refine ⟨fun h1 => ⟨fun h2 => ⟨fun h3 => ⟨fun h4 => hbad fun hO => by have := hO.group; omega, fun h4 => ?_⟩, fun h3 => hbad fun hO => hO.ne (List.eq_nil_of_length_eq_zero (by omega))⟩, fun h2 => hbad fun hO => by have := hO.grain; omega⟩, fun h1 => hbad fun hO => by have := hO.grain; omega⟩
 have htail : ∀ (R2 : RO), RO.le R R2 → (s.group < 0 → personB (-1 - s.group) = true ∧ grpOf gs (-1 - s.group) = s.group) → okS gs s = ((validS s.cells) && (s.cells.all fun c => alignedB c (sizeI s.grain))) := fun R2 hle ha => by
  rw [Bool.eq_iff_iff, okS_iff, Bool.and_eq_true]
  exact ⟨fun hO => ⟨hO.nor, hO.ali⟩, fun ⟨h5, h6⟩ => ⟨by omega, fun e => h3 (by rw [e]; rfl), by omega, ha, h5, h6⟩⟩
 refine ⟨fun h5 => ⟨_, W.in64 (by omega), ?_⟩, fun h5 => ?_⟩
 ·refine vcall (rPerson _ R) ?_
  rintro R1 r hle1 rfl
  try simp only [go_sem, ↓reduceIte, nQ1, nQ2, nQ3, nQ4, nQ5, nQ6, reduceCtorEq]
  have hpb : personB (-1 - s.group) = true → -1000000 ≤ -1 - s.group ∧ -1 - s.group ≤ 1000000 := fun h => by
   unfold personB at h
   simp only [Bool.and_eq_true, decide_eq_true_eq] at h
   omega
  refine ⟨fun hp => ?_, fun hp => hbad fun hO => by have := (hO.alone h5).1; rw [hp] at this; cases this⟩
  refine vcall (hG _ (hpb hp) R1 hle1) ?_
  rintro R2 r hle2 rfl
  try simp only [go_sem, ↓reduceIte, nQ1, nQ2, nQ3, nQ4, nQ5, nQ6, reduceCtorEq]
  refine ⟨fun hne => hbad fun hO => hne (hO.alone h5).2, fun he => ?_⟩
  have HX := RO.le_trans hle1 hle2
  have HA : s.group < 0 → personB (-1 - s.group) = true ∧ grpOf gs (-1 - s.group) = s.group := fun _ => ⟨hp, he⟩
  refine vcall (hV R2 HX) ?_
  rintro R5 r hle5 rfl
  try simp only [go_sem, ↓reduceIte, nQ1, nQ2, nQ3, nQ4, nQ5, nQ6, reduceCtorEq]
  refine ⟨fun h6 => ?_, fun h6 => ?_⟩
  ·refine vcall (rSize s.grain R5) ?_
   rintro R6 r hle6 rfl
   try simp only [go_sem, ↓reduceIte, nQ1, nQ2, nQ3, nQ4, nQ5, nQ6, reduceCtorEq]
   refine vcall (hA R6 (RO.le_trans HX (RO.le_trans hle5 hle6))) ?_
   rintro R7 r hle7 rfl
   try simp only [go_sem, ↓reduceIte, nQ1, nQ2, nQ3, nQ4, nQ5, nQ6, reduceCtorEq]
   rw [htail _ HX HA, h6, Bool.true_and]
  ·rw [htail _ HX HA, h6, Bool.false_and]
 ·have HX := RO.le_refl R
  have HA : s.group < 0 → personB (-1 - s.group) = true ∧ grpOf gs (-1 - s.group) = s.group := fun e => absurd e h5
  refine vcall (hV R HX) ?_
  rintro R5 r hle5 rfl
  try simp only [go_sem, ↓reduceIte, nQ1, nQ2, nQ3, nQ4, nQ5, nQ6, reduceCtorEq]
  refine ⟨fun h6 => ?_, fun h6 => ?_⟩
  ·refine vcall (rSize s.grain R5) ?_
   rintro R6 r hle6 rfl
   try simp only [go_sem, ↓reduceIte, nQ1, nQ2, nQ3, nQ4, nQ5, nQ6, reduceCtorEq]
   refine vcall (hA R6 (RO.le_trans HX (RO.le_trans hle5 hle6))) ?_
   rintro R7 r hle7 rfl
   try simp only [go_sem, ↓reduceIte, nQ1, nQ2, nQ3, nQ4, nQ5, nQ6, reduceCtorEq]
   rw [htail _ HX HA, h6, Bool.true_and]
  ·rw [htail _ HX HA, h6, Bool.false_and]
structure RawS (s : Se) : Prop where
 group : I64 s.group
 len : s.cells.length ≤ 1000
structure RawB (b : Bu) : Prop where
 spent : ∀ s ∈ b.spent, RawS s
 len : b.spent.length ≤ 1000
noncomputable def okB (b : Bu) : Bool := @decide (OkB b) (Classical.propDecidable _)
theorem okB_iff {b : Bu} : okB b = true ↔ OkB b := @decide_eq_true_iff _ (Classical.propDecidable _)
theorem okB_false {b : Bu} (h : ¬ OkB b) : okB b = false := @decide_eq_false _ (Classical.propDecidable _) h
theorem keyLt_trans {a b c : Se} (h : keyLt a b) (k : keyLt b c) : keyLt a c := by unfold keyLt at *; omega
theorem keys_take {l : List Se} {i : Nat} (hi : i < l.length) (h : (l.take i).Pairwise keyLt) (h1 : 0 < i → keyLt (l[i - 1]'(by omega)) l[i]) : (l.take (i + 1)).Pairwise keyLt := by
 rw [List.take_succ_eq_append_getElem hi]
 refine List.pairwise_append.2 ⟨h, List.pairwise_singleton _ _, fun x hx y hy => ?_⟩
 simp only [List.mem_cons, List.not_mem_nil, or_false] at hy
 subst hy
 obtain ⟨j, hj, rfl⟩ := List.mem_take_iff_getElem.1 hx
 by_cases hji : j = i - 1
 ·subst hji; exact h1 (by omega)
 ·have h3 := List.pairwise_iff_getElem.1 h j (i - 1) (by simp; omega) (by simp; omega) (by omega)
  rw [List.getElem_take, List.getElem_take] at h3
  exact keyLt_trans h3 (h1 (by omega))
set_option maxHeartbeats 1000000 in
theorem rValid (b : Bu) (hr : RawB b) (v : Value) (R : RO) (h : BuV R v b) : CallsR Tryz.prog 29 [v] R fun _ r => r = .bool (okB b) := by
 obtain ⟨gv, sv, rfl, hg, hs⟩ := h
 have hG := fun R' hle => rValidGroups b.groups gv R' (GV.mono (R' := R') hg hle)
 have hS := fun (s : Se) hi u R' hle hu => rValidSpent b.groups s hi gv u R' (GV.mono (R' := R') hg hle) hu
 obtain ⟨hsl, a, cap, rfl, hc, hf⟩ := hs.form
 have hbad : ¬ OkB b → Value.bool false = Value.bool (okB b) := fun hn => by rw [okB_false hn]
 refine callsT mix Tryz.func29 comp29 (by simp [Tryz.ntmps29]) ?_; simp only [go_sem, ↓reduceIte, nQ1, nQ2, nQ3, nQ4, nQ5, nQ6, reduceCtorEq, vc29, rs29]
 refine vcall (hG R (RO.le_refl _)) ?_
 rintro R1 r hle1 rfl
 try simp only [go_sem, ↓reduceIte, nQ1, nQ2, nQ3, nQ4, nQ5, nQ6, reduceCtorEq]
 refine ⟨fun hV => ⟨fun hl1 => ⟨fun hl2 => hbad fun hO => by have := hO.lim; omega, fun hl2 => ?_⟩, fun hl1 => hbad fun hO => by have := hO.lim; omega⟩, fun hV => hbad fun hO => by rw [validG_iff.2 hO.groups] at hV; cases hV⟩
 refine vcLoop Nat (fun i => [(4, .val (.int .i64 i)), (1, .loc 0 0)]) (fun _ => [.box [.val (.int .i64 b.limit), .val gv, .val (.slice a b.spent.length cap)]]) (fun i _ => i ≤ b.spent.length ∧ (∀ s ∈ b.spent.take i, OkS b.groups s) ∧ (b.spent.take i).Pairwise keyLt) (fun i => b.spent.length - i) 0 ?_ ?_ ?_ ?_
 ·(try simp only [go_sem, ↓reduceIte, nQ1, nQ2, nQ3, nQ4, nQ5, nQ6, reduceCtorEq]) <;> (repeat' (first | rfl | trivial | constructor | (intro h; exact absurd rfl h)))
 ·try simp only [go_sem, ↓reduceIte, nQ1, nQ2, nQ3, nQ4, nQ5, nQ6, reduceCtorEq]
 ·exact ⟨Nat.zero_le _, by simp, by simp⟩
 rintro i env R2 hle2 hE ⟨hi, hok, hord⟩
 (simp only [go_sem] at hE; obtain ⟨e4, e1⟩ := hE; simp only [go_sem, ↓reduceIte, nQ1, nQ2, nQ3, nQ4, nQ5, nQ6, reduceCtorEq, e4, e1]; dsimp only at *)
 refine ⟨fun hlt => ?_, fun hge => ?_⟩
 ·have hlt' : i < b.spent.length := by omega
  obtain ⟨ad, u, had, hR, hu⟩ := hf i hlt'
  obtain ⟨ua, ucap, rfl, -, -⟩ := hu.form
  have hle12 := RO.le_trans hle1 hle2
  refine ⟨by omega, vat ad had ?_⟩
  try simp only [go_sem, ↓reduceIte, nQ1, nQ2, nQ3, nQ4, nQ5, nQ6, reduceCtorEq]
  refine vloadn (seCells (b.spent[i], _)) rfl (fun j w hj => hle12 _ _ (hR j w hj)) ?_
  simp only [go_sem, ↓reduceIte, nQ1, nQ2, nQ3, nQ4, nQ5, nQ6, reduceCtorEq, seCells, e4, e1]
  refine vcall (hS b.spent[i] (hr.spent _ (List.getElem_mem hlt')).group _ R2 hle12 (hu.mono hle12)) ?_
  rintro R3 r hle3 rfl
  simp only [go_sem, ↓reduceIte, nQ1, nQ2, nQ3, nQ4, nQ5, nQ6, reduceCtorEq, e4, e1]
  refine ⟨fun hs1 => hbad fun hO => (by rw [okS_iff.2 (hO.each _ (List.getElem_mem hlt'))] at hs1; cases hs1), fun hs1 => ?_⟩
  have hs1 := okS_iff.1 hs1
  have hstep : (0 < i → keyLt (b.spent[i - 1]'(by omega)) b.spent[i]) → (∀ s ∈ b.spent.take (i + 1), OkS b.groups s) ∧ (b.spent.take (i + 1)).Pairwise keyLt := fun hk => ⟨fun s hs => by
   rw [List.take_succ_eq_append_getElem hlt'] at hs
   rcases List.mem_append.1 hs with hs | hs
   ·exact hok s hs
   ·simp only [List.mem_cons, List.not_mem_nil, or_false] at hs
    subst hs; exact hs1, keys_take hlt' hord hk⟩
  refine ⟨fun hi0 => ?_, fun hi0 => ⟨_, W.in64 (by omega), i + 1, by omega, rfl, by omega, hstep fun h => by omega⟩⟩
  obtain ⟨ad2, u2, had2, hR2, hu2⟩ := hf (i - 1) (by omega)
  have hno : ¬ keyLt (b.spent[i - 1]'(by omega)) b.spent[i] → Value.bool false = Value.bool (okB b) := fun hn => hbad fun hO => hn (List.pairwise_iff_getElem.1 hO.ord (i - 1) i (by omega) hlt' (by omega))
  refine ⟨_, W.in64 (by omega), by omega, by omega, ?_⟩
  rw [show ((i : Int) - 1).toNat = i - 1 by omega]
  refine vat ad2 had2 ?_
  try simp only [go_sem, ↓reduceIte, nQ1, nQ2, nQ3, nQ4, nQ5, nQ6, reduceCtorEq]
  refine vload (.int .i64 (b.spent[i - 1]'(by omega)).group) (hle3 _ _ (hle12 _ _ (hR2 0 _ rfl))) ?_
  simp only [go_sem, ↓reduceIte, nQ1, nQ2, nQ3, nQ4, nQ5, nQ6, reduceCtorEq, e4, e1]
  refine ⟨fun hgt => ?_, fun hgt => hno fun hk => by unfold keyLt at hk; omega⟩
  refine ⟨_, W.in64 (by omega), by omega, by omega, ?_⟩
  rw [show ((i : Int) - 1).toNat = i - 1 by omega]
  refine vat ad2 had2 ?_
  try simp only [go_sem, ↓reduceIte, nQ1, nQ2, nQ3, nQ4, nQ5, nQ6, reduceCtorEq]
  refine vload (.int .i64 (b.spent[i - 1]'(by omega)).group) (hle3 _ _ (hle12 _ _ (hR2 0 _ rfl))) ?_
  simp only [go_sem, ↓reduceIte, nQ1, nQ2, nQ3, nQ4, nQ5, nQ6, reduceCtorEq, e4, e1]
  refine ⟨fun heq => ?_, fun heq => ⟨_, W.in64 (by omega), i + 1, by omega, rfl, by omega, hstep fun h => by unfold keyLt; omega⟩⟩
  refine ⟨_, W.in64 (by omega), by omega, by omega, ?_⟩
  rw [show ((i : Int) - 1).toNat = i - 1 by omega]
  refine vat ad2 had2 ?_
  try simp only [go_sem, ↓reduceIte, nQ1, nQ2, nQ3, nQ4, nQ5, nQ6, reduceCtorEq]
  refine vload (.int .i64 (b.spent[i - 1]'(by omega)).grain) (hle3 _ _ (hle12 _ _ (hR2 1 _ rfl))) ?_
  simp only [go_sem, ↓reduceIte, nQ1, nQ2, nQ3, nQ4, nQ5, nQ6, reduceCtorEq, e4, e1]
  refine ⟨fun hge => hno fun hk => by unfold keyLt at hk; omega, fun hge => ⟨_, W.in64 (by omega), i + 1, by omega, rfl, by omega, hstep fun h => by unfold keyLt; omega⟩⟩
 ·obtain rfl : i = b.spent.length := by omega
  rw [List.take_length] at hok hord
  congr 1
  symm
  rw [okB_iff]
  exact ⟨by omega, validG_iff.1 hV, hok, hord⟩
def grpB (b : Bu) (p : Int) (ok : Bool) : Int := if ok = true ∧ personB p = true then grpOf b.groups p else 0
end Go.Proofs.YtclkibjonbhldaaGreatDoor
/- Plain lemmas of our own, no statement of the seat: budget.validGroups. -/
namespace Go.Proofs.YtclkibjonbhldaaGreatDoor
set_option linter.unusedSimpArgs false
set_option linter.unusedVariables false
open Go.Proofs.YtclkibjonbhldaaGreatDoor.Vc
def SeenP (gs : List (List Int)) (i : Nat) (g : List Int) (p : Int) : Prop := (∃ (j : Nat) (hj : j < gs.length), j < i ∧ p ∈ gs[j]) ∨ p ∈ g
structure FineG (gs : List (List Int)) (i : Nat) : Prop where
 ne : ∀ j (hj : j < gs.length), j < i → gs[j] ≠ []
 inc : ∀ j (hj : j < gs.length), j < i → Inc gs[j]
 per : ∀ j (hj : j < gs.length), j < i → ∀ p ∈ gs[j], personB p = true
 apart : ∀ j (hj : j < gs.length), j < i → ∀ p ∈ gs[j], ∀ j' (hj' : j' < gs.length), j' < j → p ∉ gs[j']
theorem FineG.step {gs : List (List Int)} {i : Nat} (h : FineG gs i) (hi : i < gs.length) (h1 : gs[i] ≠ []) (h2 : Inc gs[i]) (h3 : ∀ p ∈ gs[i], personB p = true ∧ ¬ SeenP gs i [] p) : FineG gs (i + 1) := by
 refine ⟨fun j hj hji => ?_, fun j hj hji => ?_, fun j hj hji p hp => ?_, fun j hj hji p hp j' hj' hjj => ?_⟩
 ·by_cases e : j = i
  ·subst e; exact h1
  ·exact h.ne j hj (by omega)
 ·by_cases e : j = i
  ·subst e; exact h2
  ·exact h.inc j hj (by omega)
 ·by_cases e : j = i
  ·subst e; exact (h3 p hp).1
  ·exact h.per j hj (by omega) p hp
 ·by_cases e : j = i
  ·subst e; exact fun hm => (h3 p hp).2 (.inl ⟨j', hj', hjj, hm⟩)
  ·exact h.apart j hj (by omega) p hp j' hj' hjj
theorem FineG.grp {gs : List (List Int)} {i : Nat} (h : FineG gs i) {j : Nat} (hj : j < gs.length) (hji : j < i) {p : Int} (hp : p ∈ gs[j]) : grpOf gs p = j := by
 refine grpOf_here hj (List.contains_iff_mem.2 hp) fun j' hj' hjj => ?_
 rw [← Bool.not_eq_true, List.contains_iff_mem]
 exact h.apart j hj hji p hp j' hj' hjj
theorem FineG.valid {gs : List (List Int)} (h : FineG gs gs.length) (hl : gs.length ≤ 512) : ValidG gs :=
 ⟨fun i hi => ⟨h.ne i hi hi, h.inc i hi hi, fun p hp => ⟨h.per i hi hi p hp, h.grp hi hi hp⟩⟩, hl⟩
theorem ValidG.seen {gs : List (List Int)} (h : ValidG gs) {i : Nat} (hi : i < gs.length) {p : Int} (hp : p ∈ gs[i]) {j : Nat} (hj : j < gs.length) (hji : j < i) : p ∉ gs[j] := fun hm => by
 have h1 := ((h.all i hi).mem p hp).2
 have h2 := ((h.all j hj).mem p hm).2
 omega
def seenMap (f : Int → Option Value) (S : Int → Prop) : Prop := ∀ p, (f p = some (.bool true) ∧ S p) ∨ (f p = none ∧ ¬ S p)
theorem seenMap.put {f : Int → Option Value} {S : Int → Prop} (h : seenMap f S) (q : Int) : seenMap (fun k' => if k' = q then some (.bool true) else f k') (fun p => p = q ∨ S p) := fun p => by
 by_cases e : p = q
 ·subst e; exact .inl ⟨if_pos rfl, .inl rfl⟩
 ·rcases h p with ⟨h1, h2⟩ | ⟨h1, h2⟩
  ·exact .inl ⟨by simp only [if_neg e]; exact h1, .inr h2⟩
  ·exact .inr ⟨by simp only [if_neg e]; exact h1, fun hh => hh.elim e h2⟩
theorem seenMap.congr {f : Int → Option Value} {S S' : Int → Prop} (h : seenMap f S) (hS : ∀ p, S p ↔ S' p) : seenMap f S' := fun p => (h p).imp (fun ⟨a, b⟩ => ⟨a, (hS p).1 b⟩) (fun ⟨a, b⟩ => ⟨a, fun hh => b ((hS p).2 hh)⟩)
set_option maxHeartbeats 1000000 in
theorem bValidGroups (gs : List (List Int)) (v : Value) (R : RO) (h : GV R v gs) : CallsR Tryz.prog 53 [v] R fun _ r => r = .bool (validG gs) := by
 obtain ⟨hxl, a, cap, rfl, hc, hg⟩ := h.form
 refine callsT mix Tryz.func53 comp53 (by simp [Tryz.ntmps53]) ?_; simp only [go_sem, ↓reduceIte, nQ1, nQ2, nQ3, nQ4, nQ5, nQ6, reduceCtorEq, vc53, rs53]
 have hbad : ¬ ValidG gs → Value.bool false = Value.bool (validG gs) := fun hn => by rw [validG_false hn]
 refine vcLoop (Nat × List MapEntry × Nat) (fun x => [(11, .val (.int .i64 x.1)), (10, .val (.int .i64 gs.length)), (9, .val (.slice a gs.length cap)), (0, .val (.slice a gs.length cap)), (3, .mp 0)]) (fun x => [.mp x.2.1 x.2.2]) (fun x _ => x.1 ≤ gs.length ∧ FineG gs x.1 ∧ ∃ f, MapOf (Value.int .i64) x.2.1 f ∧ seenMap f (SeenP gs x.1 [])) (fun x => gs.length - x.1) (0, [], 0) ?_ ?_ ?_ ?_
 ·(try simp only [go_sem, ↓reduceIte, nQ1, nQ2, nQ3, nQ4, nQ5, nQ6, reduceCtorEq]) <;> (repeat' (first | rfl | trivial | constructor | (intro h; exact absurd rfl h)))
 ·try simp only [go_sem, ↓reduceIte, nQ1, nQ2, nQ3, nQ4, nQ5, nQ6, reduceCtorEq]
 ·refine ⟨Nat.zero_le _, ⟨fun j _ hj => absurd hj (by omega), fun j _ hj => absurd hj (by omega), fun j _ hj => absurd hj (by omega), fun j _ hj => absurd hj (by omega)⟩, _, MapOf.nil _, fun p => .inr ⟨rfl, ?_⟩⟩
  rintro (⟨j, _, hj, _⟩ | hm)
  ·omega
  ·simp at hm
 rintro ⟨i, es, clock⟩ env R1 hle1 hE ⟨hi, hF, f, hmap, hseen⟩
 (simp only [go_sem] at hE; obtain ⟨e11, e10, e9, e0, e3⟩ := hE; simp only [go_sem, ↓reduceIte, nQ1, nQ2, nQ3, nQ4, nQ5, nQ6, reduceCtorEq, e11, e10, e9, e0, e3]; dsimp only at *)
 refine ⟨fun hlt => ?_, fun hge => ?_⟩
 ·have hlt' : i < gs.length := by omega
  obtain ⟨ad, u, had, hR, hu⟩ := hg i hlt'
  obtain ⟨hgl, b, bcap, rfl, hbc, hgb⟩ := hu.form
  refine ⟨by omega, vat ad had ?_⟩
  try simp only [go_sem, ↓reduceIte, nQ1, nQ2, nQ3, nQ4, nQ5, nQ6, reduceCtorEq]
  refine vload _ (hle1 _ _ hR) ?_
  simp only [go_sem, ↓reduceIte, nQ1, nQ2, nQ3, nQ4, nQ5, nQ6, reduceCtorEq, e11, e10, e9, e0, e3]
  have hbi : ¬ OkG gs i gs[i] → Value.bool false = Value.bool (validG gs) := fun hn => hbad fun hV => hn (hV.all i hlt')
  refine vcLoop (Nat × List MapEntry × Nat) (fun x => [(17, .val (.int .i64 x.1)), (16, .val (.int .i64 gs[i].length)), (15, .val (.slice b gs[i].length bcap)), (5, .val (.slice b gs[i].length bcap)), (11, .val (.int .i64 i)), (10, .val (.int .i64 gs.length)), (9, .val (.slice a gs.length cap)), (0, .val (.slice a gs.length cap)), (3, .mp 0)]) (fun x => [.mp x.2.1 x.2.2])
   (fun x _ => x.1 ≤ gs[i].length ∧ Inc (gs[i].take x.1) ∧ (∀ p ∈ gs[i].take x.1, personB p = true ∧ ¬ SeenP gs i [] p) ∧ ∃ f, MapOf (Value.int .i64) x.2.1 f ∧ seenMap f (SeenP gs i (gs[i].take x.1))) (fun x => gs[i].length - x.1) (0, es, clock) ?_ ?_ ?_ ?_
  ·(try simp only [go_sem, ↓reduceIte, nQ1, nQ2, nQ3, nQ4, nQ5, nQ6, reduceCtorEq]) <;> (repeat' (first | rfl | trivial | constructor | (intro h; exact absurd rfl h)))
  ·try simp only [go_sem, ↓reduceIte, nQ1, nQ2, nQ3, nQ4, nQ5, nQ6, reduceCtorEq]
  ·exact ⟨Nat.zero_le _, by simp [Inc], by simp, f, hmap, by simpa using hseen⟩
  rintro ⟨k, es2, clock2⟩ env R2 hle2 hE ⟨hk, hinc, hmem, f2, hmap2, hseen2⟩
  (simp only [go_sem] at hE; obtain ⟨e17, e16, e15, e5, e11', e10', e9', e0', e3'⟩ := hE; simp only [go_sem, ↓reduceIte, nQ1, nQ2, nQ3, nQ4, nQ5, nQ6, reduceCtorEq, e17, e16, e15, e5, e11', e10', e9', e0', e3']; dsimp only at *)
  refine ⟨fun hlt2 => ?_, fun hge2 => ?_⟩
  ·have hlt3 : k < gs[i].length := by omega
   obtain ⟨ad2, had2, hR2⟩ := hgb k hlt3
   have hle2' := RO.le_trans hle1 hle2
   have hin : gs[i][k] ∈ gs[i] := List.getElem_mem hlt3
   refine ⟨by omega, vat ad2 had2 ?_⟩
   try simp only [go_sem, ↓reduceIte, nQ1, nQ2, nQ3, nQ4, nQ5, nQ6, reduceCtorEq]
   refine vload _ (hle2' _ _ hR2) ?_
   simp only [go_sem, ↓reduceIte, nQ1, nQ2, nQ3, nQ4, nQ5, nQ6, reduceCtorEq, e17, e16, e15, e5, e11', e10', e9', e0', e3']
   refine vcall (bPerson gs[i][k] R2) ?_
   rintro R3 r hle3 rfl
   simp only [go_sem, ↓reduceIte, nQ1, nQ2, nQ3, nQ4, nQ5, nQ6, reduceCtorEq, e17, e16, e15, e5, e11', e10', e9', e0', e3']
   obtain ⟨r, g1, g2⟩ := MapOf.get none (Value.int .i64) mEq_int hmap2 gs[i][k]
   refine ⟨fun hp => vmget es2 clock2 r (by rw [mEq_int]; simp) rfl g1 ?_, fun hp => hbi fun hO => by have := (hO.mem _ hin).1; rw [hp] at this; cases this⟩
   obtain ⟨sb, hres, hsb⟩ : ∃ sb : Bool, mres (.bool false) false r = .bool sb ∧ (sb = true ↔ SeenP gs i (gs[i].take k) gs[i][k]) := by
    rcases hseen2 gs[i][k] with ⟨h1, h2⟩ | ⟨h1, h2⟩
    ·rw [h1] at g2
     cases r with
     | none => simp at g2
     | some r => simp only [Option.map_some, Option.some.injEq] at g2; exact ⟨true, by simp [mres, g2], by simp [h2]⟩
    ·rw [h1] at g2
     cases r with
     | none => exact ⟨false, by simp [mres], by simp [h2]⟩
     | some r => simp at g2
   rw [hres]
   simp only [go_sem, ↓reduceIte, nQ1, nQ2, nQ3, nQ4, nQ5, nQ6, reduceCtorEq, e17, e16, e15, e5, e11', e10', e9', e0', e3']
   have hseenV : ValidG gs → SeenP gs i (gs[i].take k) gs[i][k] → False := fun hV hS => by
    rcases hS with ⟨j, hj, hji, hm⟩ | hm
    ·exact hV.seen hlt' hin hj hji hm
    ·obtain ⟨q, hq, e⟩ := List.mem_take_iff_getElem.1 hm
     have := (hV.all i hlt').inc.get_lt (show q < k by omega) hlt3
     omega
   have hfin : (∀ x ∈ gs[i].take k, x < gs[i][k]) → sb = false → (Inc (gs[i].take (k + 1)) ∧ (∀ p ∈ gs[i].take (k + 1), personB p = true ∧ ¬ SeenP gs i [] p)) ∧ ∃ r es' clock', mfind none (Value.int .i64 gs[i][k]) es2 0 = some r ∧ mset (Value.int .i64 gs[i][k]) (.bool true) es2 clock2 r = .mp es' clock' ∧ ∃ f, MapOf (Value.int .i64) es' f ∧ seenMap f (SeenP gs i (gs[i].take (k + 1))) := fun h2 hs => by
    have hns : ¬ SeenP gs i (gs[i].take k) gs[i][k] := fun h => by rw [← hsb, hs] at h; cases h
    obtain ⟨r', es', clock', q1, q2, q3⟩ := MapOf.put none (Value.int .i64) mEq_int hmap2 gs[i][k] (.bool true) clock2
    rw [List.take_succ_eq_append_getElem hlt3]
    refine ⟨⟨List.pairwise_append.2 ⟨hinc, List.pairwise_singleton _ _, fun x hx y hy => ?_⟩, fun p hp' => ?_⟩, r', es', clock', q1, q2, _, q3, (hseen2.put gs[i][k]).congr fun p => ?_⟩
    ·simp only [List.mem_cons, List.not_mem_nil, or_false] at hy
     subst hy; exact h2 x hx
    ·rcases List.mem_append.1 hp' with hp' | hp'
     ·exact hmem p hp'
     ·simp only [List.mem_cons, List.not_mem_nil, or_false] at hp'
      subst hp'; exact ⟨hp, fun hS => hns (hS.imp id fun h => by simp at h)⟩
    ·unfold SeenP
     rw [List.mem_append, List.mem_singleton]
     exact ⟨fun h => h.elim (fun e => .inr (.inr e)) fun h => h.imp id .inl, fun h => h.elim (fun h => .inr (.inl h)) fun h => h.elim (fun h => .inr (.inr h)) .inl⟩
   refine ⟨fun hs0 => ⟨fun hk0 => ?_, fun hk0 => ?_⟩, fun hs1 => hbad fun hV => hseenV hV (hsb.1 hs1)⟩
   ·obtain ⟨ad3, had3, hR3⟩ := hgb (k - 1) (by omega)
    refine ⟨_, W.in64 (by omega), by omega, by omega, ?_⟩
    rw [show ((k : Int) - 1).toNat = k - 1 by omega]
    refine vat ad3 had3 ?_
    try simp only [go_sem, ↓reduceIte, nQ1, nQ2, nQ3, nQ4, nQ5, nQ6, reduceCtorEq]
    refine vload _ (hle3 _ _ (hle2' _ _ hR3)) ?_
    simp only [go_sem, ↓reduceIte, nQ1, nQ2, nQ3, nQ4, nQ5, nQ6, reduceCtorEq, e17, e16, e15, e5, e11', e10', e9', e0', e3']
    refine ⟨fun hge4 => hbi fun hO => ?_, fun hlt4 => ?_⟩
    ·have := hO.inc.get_lt (show k - 1 < k by omega) hlt3
     omega
    ·obtain ⟨⟨f1, f2⟩, r', es', clock', q1, q2, q3⟩ := hfin (fun x hx => by
      obtain ⟨j, hj, rfl⟩ := List.mem_take_iff_getElem.1 hx
      by_cases hjk : j = k - 1
      ·subst hjk; omega
      ·have h7 := List.pairwise_iff_getElem.1 hinc j (k - 1) (by rw [List.length_take]; omega) (by rw [List.length_take]; omega) (by omega)
       rw [List.getElem_take, List.getElem_take] at h7
       omega) hs0
     refine ⟨by rw [mEq_int]; simp, vmput es2 clock2 r' rfl q1 ?_⟩
     rw [q2]
     simp only [go_sem, ↓reduceIte, nQ1, nQ2, nQ3, nQ4, nQ5, nQ6, reduceCtorEq, e17, e16, e15, e5, e11', e10', e9', e0', e3']
     exact ⟨_, W.in64 (by omega), (k + 1, es', clock'), by show _ - (k + 1) < _ - k; omega, ⟨rfl, rfl⟩, by show k + 1 ≤ _; omega, f1, f2, q3⟩
   ·obtain ⟨⟨f1, f2⟩, r', es', clock', q1, q2, q3⟩ := hfin (fun x hx => by
     rw [show k = 0 by omega] at hx
     simp at hx) hs0
    refine ⟨by rw [mEq_int]; simp, vmput es2 clock2 r' rfl q1 ?_⟩
    rw [q2]
    simp only [go_sem, ↓reduceIte, nQ1, nQ2, nQ3, nQ4, nQ5, nQ6, reduceCtorEq, e17, e16, e15, e5, e11', e10', e9', e0', e3']
    exact ⟨_, W.in64 (by omega), (k + 1, es', clock'), by show _ - (k + 1) < _ - k; omega, ⟨rfl, rfl⟩, by show k + 1 ≤ _; omega, f1, f2, q3⟩
  ·obtain rfl : k = gs[i].length := by omega
   rw [List.take_length] at hinc hmem hseen2
   refine ⟨fun h0 => hbi fun hO => hO.ne (List.eq_nil_of_length_eq_zero (by omega)), fun h0 => ⟨_, W.in64 (by omega), (i + 1, es2, clock2), by show _ - (i + 1) < _ - i; omega, ⟨rfl, rfl⟩, by show i + 1 ≤ _; omega, hF.step hlt' (fun e => h0 (by rw [e]; rfl)) hinc hmem, f2, hmap2, hseen2.congr fun p => ?_⟩⟩
   unfold SeenP
   constructor
   ·rintro (⟨j, hj, hji, hm⟩ | hm)
    ·exact .inl ⟨j, hj, by omega, hm⟩
    ·exact .inl ⟨i, hlt', by omega, hm⟩
   ·rintro (⟨j, hj, hji, hm⟩ | hm)
    ·by_cases e : j = i
     ·subst e; exact .inr hm
     ·exact .inl ⟨j, hj, by omega, hm⟩
    ·simp at hm
 ·obtain rfl : i = gs.length := by omega
  congr 1
  rw [Bool.eq_iff_iff, decide_eq_true_eq, validG_iff]
  exact ⟨fun h => hF.valid (by omega), fun h => by have := h.len; omega⟩
end Go.Proofs.YtclkibjonbhldaaGreatDoor
/- Plain lemmas of our own, no statement of the seat: budget.Valid, budget.Group. -/
namespace Go.Proofs.YtclkibjonbhldaaGreatDoor
set_option linter.unusedSimpArgs false
set_option linter.unusedVariables false
open Go.Proofs.YtclkibjonbhldaaGreatDoor.Vc
def orI : List Int → Int
 | [] => 0
 | x :: r => if x = 0 then orI r else x
theorem eOr (xs : List Int) (v : Value) (R : RO) (h : Ints R v xs) (hl : xs.length ≤ 1099511627776) : CallsR Tryz.prog 88 [v] R fun _ r => r = .int .i64 (orI xs) := by
 obtain ⟨a, cap, rfl, hc, hf⟩ := h.form
 refine callsT mix Tryz.func88 comp88 (by simp [Tryz.ntmps88]) ?_; simp only [go_sem, ↓reduceIte, nQ1, nQ2, nQ3, nQ4, nQ5, nQ6, reduceCtorEq, vc88, rs88]
 refine vcLoop Nat (fun i => [(8, .val (.int .i64 i)), (6, .val (.slice a xs.length cap)), (7, .val (.int .i64 xs.length)), (3, .val (.int .i64 0))]) (fun _ => []) (fun i _ => i ≤ xs.length ∧ orI xs = orI (xs.drop i)) (fun i => xs.length - i) 0 ?_ rfl ?_ ?_
 ·(try simp only [go_sem, ↓reduceIte, nQ1, nQ2, nQ3, nQ4, nQ5, nQ6, reduceCtorEq]) <;> (repeat' (first | rfl | trivial | constructor | (intro h; exact absurd rfl h)))
 ·exact ⟨Nat.zero_le _, by simp⟩
 rintro i env R1 hle hE ⟨hi, hp⟩
 (simp only [go_sem] at hE; obtain ⟨e8, e6, e7, e3⟩ := hE; simp only [go_sem, ↓reduceIte, nQ1, nQ2, nQ3, nQ4, nQ5, nQ6, reduceCtorEq, e8, e6, e7, e3]; dsimp only at *)
 refine ⟨fun hlt => ⟨hlt, ?_⟩, fun hge => ?_⟩
 ·have hlt' : i < xs.length := by omega
  obtain ⟨ad, had, hR⟩ := hf i hlt'
  refine vat ad had ?_
  try simp only [go_sem, ↓reduceIte, nQ1, nQ2, nQ3, nQ4, nQ5, nQ6, reduceCtorEq]
  refine vload _ (hle _ _ hR) ?_
  simp only [go_sem, ↓reduceIte, nQ1, nQ2, nQ3, nQ4, nQ5, nQ6, reduceCtorEq, e8, e6, e7, e3]
  rw [List.drop_eq_getElem_cons hlt'] at hp
  refine ⟨fun hne => ?_, fun heq => ?_⟩
  ·rw [hp, orI, if_neg hne]
  ·refine ⟨_, W.in64 (by omega), i + 1, by omega, by constructor, by omega, ?_⟩
   rw [hp, orI, if_pos heq]
 ·obtain rfl : i = xs.length := by omega
  rw [hp, List.drop_length]; rfl
abbrev accV (g k : Int) : Value := .agg #[.int .i64 g, .int .i64 k]
def cmpK (g k g' k' : Int) : Int := if cmpI g g' = 0 then cmpI k k' else cmpI g g'
theorem bCompareA (g k g' k' : Int) (R : RO) : CallsR Tryz.prog 59 [accV g k, accV g' k'] R fun _ v => v = .int .i64 (cmpK g k g' k') := by
 refine callsT mix Tryz.func59 comp59 (by simp [Tryz.ntmps59]) ?_; simp only [go_sem, ↓reduceIte, nQ1, nQ2, nQ3, nQ4, nQ5, nQ6, reduceCtorEq, vc59, rs59]
 refine vcall (bCompare g g' R) ?_
 rintro R1 v h1 rfl
 try simp only [go_sem, ↓reduceIte, nQ1, nQ2, nQ3, nQ4, nQ5, nQ6, reduceCtorEq]
 refine vcall (bCompare k k' R1) ?_
 rintro R2 v h2 rfl
 try simp only [go_sem, ↓reduceIte, nQ1, nQ2, nQ3, nQ4, nQ5, nQ6, reduceCtorEq]
 refine vfreeze ?_
 try simp only [go_sem, ↓reduceIte, nQ1, nQ2, nQ3, nQ4, nQ5, nQ6, reduceCtorEq]
 intro bb cap R3 hle hrow hcap hfr
 have hI : Ints R3 (.slice (some ⟨bb, 0, none⟩) 2 cap) [cmpI g g', cmpI k k'] := RowIn.ints (xs := [cmpI g g', cmpI k k']) hrow (by simpa using hcap)
 refine vcall (eOr _ _ R3 hI (by simp)) ?_
 rintro R4 v h4 rfl
 try simp only [go_sem, ↓reduceIte, nQ1, nQ2, nQ3, nQ4, nQ5, nQ6, reduceCtorEq]
 unfold cmpK
 simp only [orI]
 by_cases h1 : cmpI g g' = 0
 ·by_cases h2 : cmpI k k' = 0 <;> simp [h1, h2]
 ·simp [h1]
theorem cmpK_neg (g k g' k' : Int) : cmpK g k g' k' < 0 ↔ g < g' ∨ (g = g' ∧ k < k') := by
 unfold cmpK cmpI
 split <;> split <;> (repeat' split) <;> omega
/-! ### The sizes of the cells: a variable of the package -/
def SzR (R : RO) : Prop := ∀ i, i < 5 → R ⟨0, i, none⟩ (.int .i64 ([0, 1440, 30, 30, 1].getD i 0))
theorem SzR.mono {R R' : RO} (h : SzR R) (hle : RO.le R R') : SzR R' := fun i hi => hle _ _ (h i hi)
theorem SzR.get {R : RO} (h : SzR R) {g : Int} (hg : 1 ≤ g ∧ g ≤ 4) : R ⟨0, g.toNat, none⟩ (.int .i64 (sizeI g)) := by
 have h1 := h g.toNat (by omega)
 have h2 : g = 1 ∨ g = 2 ∨ g = 3 ∨ g = 4 := by omega
 rcases h2 with rfl | rfl | rfl | rfl <;> exact h1
theorem bValid1 (s : Sp) (x : Se) (u : Value) (ad : Addr) (R : RO) (hz : SzR R) (hg : 1 ≤ x.grain ∧ x.grain ≤ 4) (hx : R (ad.add 1) (.int .i64 x.grain)) : CallsR Tryz.prog 57 [.agg s.cells.toArray, .pointer (some ad)] R fun _ r => r = .bool (!alignedB s (sizeI x.grain)) := by
 have hA := bAligned s (sizeI x.grain) (sizeI_pos _) R
 simp only [Sp.cells] at hA ⊢
 refine callsT mix Tryz.func57 comp57 (by simp [Tryz.ntmps57]) ?_; simp only [go_sem, ↓reduceIte, nQ1, nQ2, nQ3, nQ4, nQ5, nQ6, reduceCtorEq, vc57, rs57]
 refine vload _ hx ?_
 try simp only [go_sem, ↓reduceIte, nQ1, nQ2, nQ3, nQ4, nQ5, nQ6, reduceCtorEq]
 refine ⟨by omega, by omega, vload _ (hz.get hg) ?_⟩
 try simp only [go_sem, ↓reduceIte, nQ1, nQ2, nQ3, nQ4, nQ5, nQ6, reduceCtorEq]
 refine vcall hA ?_
 rintro R1 r hle1 rfl
 try simp only [go_sem, ↓reduceIte, nQ1, nQ2, nQ3, nQ4, nQ5, nQ6, reduceCtorEq]
theorem bContainsS (f : FuncId) (caps : List Value) (hb : hasBody Tryz.prog f = true) (p : Sp → Bool) (l : List Sp) (v : Value) (R : RO) (h : SpV R v l)
  (hf : ∀ (s : Sp) (R' : RO), RO.le R R' → CallsR Tryz.prog f ([.agg s.cells.toArray] ++ caps) R' fun _ u => u = .bool (p s)) : CallsR Tryz.prog 56 [v, .func (.func f) #[] caps.toArray] R fun _ r => r = .bool (l.any p) := by
 have hI := bIndexFunc f caps hb p l v R h hf
 refine callsT mix Tryz.func56 comp56 (by simp [Tryz.ntmps56]) ?_; simp only [go_sem, ↓reduceIte, nQ1, nQ2, nQ3, nQ4, nQ5, nQ6, reduceCtorEq, vc56, rs56]
 refine vcall hI ?_
 rintro R1 u h1 ⟨k, rfl, hk⟩
 try simp only [go_sem, ↓reduceIte, nQ1, nQ2, nQ3, nQ4, nQ5, nQ6, reduceCtorEq]
 refine congrArg Value.bool ?_
 rw [Bool.eq_iff_iff, decide_eq_true_eq]
 exact hk
theorem grpOf_neg {gs : List (List Int)} {p : Int} : 0 ≤ grpOf gs p ∨ grpOf gs p = -1 - p := by
 unfold grpOf
 split
 ·exact .inl (by omega)
 ·exact .inr rfl
set_option maxHeartbeats 2000000 in
set_option maxRecDepth 4000 in
theorem bValid (b : Bu) (hr : RawB b) (v : Value) (R : RO) (hz : SzR R) (h : BuV R v b) : CallsR Tryz.prog 21 [v] R fun _ r => r = .bool (okB b) := by
 obtain ⟨gv, sv, rfl, hg, hs⟩ := h
 have hG := fun R' hle => bValidGroups b.groups gv R' (GV.mono (R' := R') hg hle)
 have hO := fun (p : Int) hp R' hle => bGroupOf b.groups p hp gv R' (GV.mono (R' := R') hg hle)
 obtain ⟨hgl, ga, gcap, rfl, hgc, -⟩ := hg.form
 obtain ⟨hsl, a, cap, rfl, hc, hf⟩ := hs.form
 have hbad : ¬ OkB b → Value.bool false = Value.bool (okB b) := fun hn => by rw [okB_false hn]
 refine callsT mix Tryz.func21 comp21 (by simp [Tryz.ntmps21]) ?_; simp only [go_sem, ↓reduceIte, nQ1, nQ2, nQ3, nQ4, nQ5, nQ6, reduceCtorEq, vc21, rs21]
 refine ⟨fun hl1 => ⟨fun hl2 => ?_, fun hl2 => hbad fun hO => by have := hO.lim; omega⟩, fun hl1 => hbad fun hO => by have := hO.lim; omega⟩
 refine vcall (hG R (RO.le_refl _)) ?_
 rintro R1 r hle1 rfl
 try simp only [go_sem, ↓reduceIte, nQ1, nQ2, nQ3, nQ4, nQ5, nQ6, reduceCtorEq]
 refine ⟨fun hV => hbad fun hO => (by rw [validG_iff.2 hO.groups] at hV; cases hV), fun hV => ?_⟩
 refine vcLoop Nat (fun i => [(22, .val (.int .i64 i)), (21, .val (.int .i64 b.spent.length)), (20, .val (.slice a b.spent.length cap)), (1, .loc 0 0)]) (fun _ => [.box [.val (.int .i64 b.limit), .val (.slice ga b.groups.length gcap), .val (.slice a b.spent.length cap)]]) (fun i _ => i ≤ b.spent.length ∧ (∀ s ∈ b.spent.take i, OkS b.groups s) ∧ (b.spent.take i).Pairwise keyLt) (fun i => b.spent.length - i) 0 ?_ ?_ ?_ ?_
 ·(try simp only [go_sem, ↓reduceIte, nQ1, nQ2, nQ3, nQ4, nQ5, nQ6, reduceCtorEq]) <;> (repeat' (first | rfl | trivial | constructor | (intro h; exact absurd rfl h)))
 ·try simp only [go_sem, ↓reduceIte, nQ1, nQ2, nQ3, nQ4, nQ5, nQ6, reduceCtorEq]
 ·exact ⟨Nat.zero_le _, by simp, by simp⟩
 rintro i env R2 hle2 hE ⟨hi, hok, hord⟩
 (simp only [go_sem] at hE; obtain ⟨e22, e21, e20, e1⟩ := hE; simp only [go_sem, ↓reduceIte, nQ1, nQ2, nQ3, nQ4, nQ5, nQ6, reduceCtorEq, e22, e21, e20, e1]; dsimp only at *)
 refine ⟨fun hlt => ?_, fun hge => ?_⟩
 ·have hlt' : i < b.spent.length := by omega
  obtain ⟨ad, u, had, hR, hu⟩ := hf i hlt'
  obtain ⟨ua, ucap, rfl, -, -⟩ := hu.form
  have hle12 := RO.le_trans hle1 hle2
  have hmem : b.spent[i] ∈ b.spent := List.getElem_mem hlt'
  have hi64 := (hr.spent _ hmem).group
  unfold I64 at hi64
  have hbi : ¬ OkS b.groups b.spent[i] → Value.bool false = Value.bool (okB b) := fun hn => hbad fun hO => hn (hO.each _ hmem)
  refine ⟨by omega, vat ad had ?_⟩
  try simp only [go_sem, ↓reduceIte, nQ1, nQ2, nQ3, nQ4, nQ5, nQ6, reduceCtorEq]
  refine vloadn (seCells (b.spent[i], _)) rfl (fun j w hj => hle12 _ _ (hR j w hj)) ?_
  simp only [go_sem, ↓reduceIte, nQ1, nQ2, nQ3, nQ4, nQ5, nQ6, reduceCtorEq, seCells, e22, e21, e20, e1]
  refine vcall (bGrain b.spent[i].grain R2) ?_
  rintro R3 r hle3 rfl
  simp only [go_sem, ↓reduceIte, nQ1, nQ2, nQ3, nQ4, nQ5, nQ6, reduceCtorEq, e22, e21, e20, e1]
  have hbGr : ¬ (1 ≤ b.spent[i].grain ∧ b.spent[i].grain ≤ 4) → Value.bool false = Value.bool (okB b) := fun hn => hbi fun hO => hn hO.grain
  have hgi : grainB b.spent[i].grain = true ↔ (1 ≤ b.spent[i].grain ∧ b.spent[i].grain ≤ 4) := by unfold grainB; simp
  refine ⟨fun q1 => ⟨fun q2 => ⟨fun q3 => ?_, fun q3 => hbi fun hO => hO.ne (List.eq_nil_of_length_eq_zero (by omega))⟩, fun q2 => hbi fun hO => by have := hO.group; omega⟩, fun q1 => hbGr fun h => by rw [hgi.2 h] at q1; cases q1⟩
  have q1 := hgi.1 q1
  have hle13 := RO.le_trans hle12 hle3
  refine vcall (bValidS b.spent[i].cells _ R3 (hu.mono hle13)) ?_
  rintro R4 r hle4 rfl
  simp only [go_sem, ↓reduceIte, nQ1, nQ2, nQ3, nQ4, nQ5, nQ6, reduceCtorEq, e22, e21, e20, e1]
  have hle14 := RO.le_trans hle13 hle4
  refine ⟨fun q4 => hbi fun hO => (by rw [hO.nor] at q4; cases q4), fun q4 => ?_⟩
  refine ⟨fun q5 => ⟨_, W.in64 (by omega), ?_⟩, fun q5 => ?_⟩
  ·refine vcall (bPerson _ R4) ?_
   rintro R4' r hle4' rfl
   simp only [go_sem, ↓reduceIte, nQ1, nQ2, nQ3, nQ4, nQ5, nQ6, reduceCtorEq, e22, e21, e20, e1]
   have hpb : personB (-1 - b.spent[i].group) = true → -1000000 ≤ -1 - b.spent[i].group ∧ -1 - b.spent[i].group ≤ 1000000 := fun h => by
    unfold personB at h
    simp only [Bool.and_eq_true, decide_eq_true_eq] at h
    omega
   refine ⟨fun q6 => ⟨_, W.in64 (by omega), ?_⟩, fun q6 => hbi fun hO => by have := (hO.alone q5).1; rw [q6] at this; cases this⟩
   refine vcall (hO _ (hpb q6) R4' (RO.le_trans hle1 (RO.le_trans hle2 (RO.le_trans hle3 (RO.le_trans hle4 hle4'))))) ?_
   rintro R4'' r hle4'' rfl
   simp only [go_sem, ↓reduceIte, nQ1, nQ2, nQ3, nQ4, nQ5, nQ6, reduceCtorEq, e22, e21, e20, e1]
   have hgn := grpOf_neg (gs := b.groups) (p := -1 - b.spent[i].group)
   refine ⟨fun q7 => hbi fun hO => by have := (hO.alone q5).2; omega, fun q7 => ?_⟩
   have HX := RO.le_trans hle14 (RO.le_trans hle4' hle4'')
   have HA : b.spent[i].group < 0 → personB (-1 - b.spent[i].group) = true ∧ grpOf b.groups (-1 - b.spent[i].group) = b.spent[i].group := fun _ => ⟨q6, by omega⟩
   refine vlend ?_
   intro β κ R5 hL
   have hbox := hL.2 1 _ rfl
   have hx : R5 ((⟨β 1, 0, none⟩ : Addr).add 1) (.int .i64 b.spent[i].grain) := by rw [Addr.add_lit]; exact hbox 1 _ rfl
   have hleL := RO.le_trans HX hL.1
   refine ⟨_, bContainsS 57 [.pointer (some ⟨β 1, 0, none⟩)] (by kernel_rfl) (fun c => !alignedB c (sizeI b.spent[i].grain)) b.spent[i].cells _ R5 (hu.mono hleL) (fun s R6 hle6 => bValid1 s b.spent[i] (.int .i64 0) ⟨β 1, 0, none⟩ R6 (hz.mono (RO.le_trans hleL hle6)) q1 (hle6 _ _ hx)), ?_⟩
   rintro R6 r R7 hle6 rfl hle7 _
   simp only [go_sem, ↓reduceIte, nQ1, nQ2, nQ3, nQ4, nQ5, nQ6, reduceCtorEq, e22, e21, e20, e1]
   refine ⟨fun hc => hbi fun hO => ?_, fun hc => ?_⟩
   ·have h1 := hO.ali
    rw [List.any_eq_true] at hc
    obtain ⟨c, hc1, hc2⟩ := hc
    rw [List.all_eq_true] at h1
    rw [h1 c hc1] at hc2
    cases hc2
   have hali : (b.spent[i].cells.all fun c => alignedB c (sizeI b.spent[i].grain)) = true := by
    rw [List.all_eq_true]
    intro c hc1
    rw [List.any_eq_false] at hc
    have := hc c hc1
    simpa using this
   have hs1 : OkS b.groups b.spent[i] := ⟨q1, fun e => q3 (by rw [e]; rfl), by omega, HA, q4, hali⟩
   have hstep : (0 < i → keyLt (b.spent[i - 1]'(by omega)) b.spent[i]) → (∀ s ∈ b.spent.take (i + 1), OkS b.groups s) ∧ (b.spent.take (i + 1)).Pairwise keyLt := fun hk => ⟨fun s hs => by
    rw [List.take_succ_eq_append_getElem hlt'] at hs
    rcases List.mem_append.1 hs with hs | hs
    ·exact hok s hs
    ·simp only [List.mem_cons, List.not_mem_nil, or_false] at hs
     subst hs; exact hs1, keys_take hlt' hord hk⟩
   refine ⟨fun hi0 => ?_, fun hi0 => ⟨_, W.in64 (by omega), i + 1, by omega, rfl, by omega, hstep fun h => by omega⟩⟩
   obtain ⟨ad2, u2, had2, hR2, hu2⟩ := hf (i - 1) (by omega)
   have hle17 := RO.le_trans HX hle7
   refine ⟨_, W.in64 (by omega), by omega, by omega, ?_⟩
   rw [show ((i : Int) - 1).toNat = i - 1 by omega]
   refine vat ad2 had2 ?_
   try simp only [go_sem, ↓reduceIte, nQ1, nQ2, nQ3, nQ4, nQ5, nQ6, reduceCtorEq]
   refine vload (.int .i64 (b.spent[i - 1]'(by omega)).group) (hle17 _ _ (hR2 0 _ rfl)) ?_
   simp only [go_sem, ↓reduceIte, nQ1, nQ2, nQ3, nQ4, nQ5, nQ6, reduceCtorEq, e22, e21, e20, e1]
   refine ⟨_, W.in64 (by omega), by omega, by omega, ?_⟩
   rw [show ((i : Int) - 1).toNat = i - 1 by omega]
   refine vat ad2 had2 ?_
   try simp only [go_sem, ↓reduceIte, nQ1, nQ2, nQ3, nQ4, nQ5, nQ6, reduceCtorEq]
   refine vload (.int .i64 (b.spent[i - 1]'(by omega)).grain) (hle17 _ _ (hR2 1 _ rfl)) ?_
   simp only [go_sem, ↓reduceIte, nQ1, nQ2, nQ3, nQ4, nQ5, nQ6, reduceCtorEq, e22, e21, e20, e1]
   refine vcall (bCompareA _ _ _ _ R7) ?_
   rintro R8 r hle8 rfl
   simp only [go_sem, ↓reduceIte, nQ1, nQ2, nQ3, nQ4, nQ5, nQ6, reduceCtorEq, e22, e21, e20, e1]
   have hcmp := cmpK_neg (b.spent[i - 1]'(by omega)).group (b.spent[i - 1]'(by omega)).grain b.spent[i].group b.spent[i].grain
   refine ⟨fun hge => hbad fun hO => ?_, fun hlt => ⟨_, W.in64 (by omega), i + 1, by omega, rfl, by omega, hstep fun h => ?_⟩⟩
   ·have := List.pairwise_iff_getElem.1 hO.ord (i - 1) i (by omega) hlt' (by omega)
    have := hcmp.2 this
    omega
   ·exact hcmp.1 (by omega)
  ·have HX := hle14
   have HA : b.spent[i].group < 0 → personB (-1 - b.spent[i].group) = true ∧ grpOf b.groups (-1 - b.spent[i].group) = b.spent[i].group := fun h => absurd h q5
   refine vlend ?_
   intro β κ R5 hL
   have hbox := hL.2 1 _ rfl
   have hx : R5 ((⟨β 1, 0, none⟩ : Addr).add 1) (.int .i64 b.spent[i].grain) := by rw [Addr.add_lit]; exact hbox 1 _ rfl
   have hleL := RO.le_trans HX hL.1
   refine ⟨_, bContainsS 57 [.pointer (some ⟨β 1, 0, none⟩)] (by kernel_rfl) (fun c => !alignedB c (sizeI b.spent[i].grain)) b.spent[i].cells _ R5 (hu.mono hleL) (fun s R6 hle6 => bValid1 s b.spent[i] (.int .i64 0) ⟨β 1, 0, none⟩ R6 (hz.mono (RO.le_trans hleL hle6)) q1 (hle6 _ _ hx)), ?_⟩
   rintro R6 r R7 hle6 rfl hle7 _
   simp only [go_sem, ↓reduceIte, nQ1, nQ2, nQ3, nQ4, nQ5, nQ6, reduceCtorEq, e22, e21, e20, e1]
   refine ⟨fun hc => hbi fun hO => ?_, fun hc => ?_⟩
   ·have h1 := hO.ali
    rw [List.any_eq_true] at hc
    obtain ⟨c, hc1, hc2⟩ := hc
    rw [List.all_eq_true] at h1
    rw [h1 c hc1] at hc2
    cases hc2
   have hali : (b.spent[i].cells.all fun c => alignedB c (sizeI b.spent[i].grain)) = true := by
    rw [List.all_eq_true]
    intro c hc1
    rw [List.any_eq_false] at hc
    have := hc c hc1
    simpa using this
   have hs1 : OkS b.groups b.spent[i] := ⟨q1, fun e => q3 (by rw [e]; rfl), by omega, HA, q4, hali⟩
   have hstep : (0 < i → keyLt (b.spent[i - 1]'(by omega)) b.spent[i]) → (∀ s ∈ b.spent.take (i + 1), OkS b.groups s) ∧ (b.spent.take (i + 1)).Pairwise keyLt := fun hk => ⟨fun s hs => by
    rw [List.take_succ_eq_append_getElem hlt'] at hs
    rcases List.mem_append.1 hs with hs | hs
    ·exact hok s hs
    ·simp only [List.mem_cons, List.not_mem_nil, or_false] at hs
     subst hs; exact hs1, keys_take hlt' hord hk⟩
   refine ⟨fun hi0 => ?_, fun hi0 => ⟨_, W.in64 (by omega), i + 1, by omega, rfl, by omega, hstep fun h => by omega⟩⟩
   obtain ⟨ad2, u2, had2, hR2, hu2⟩ := hf (i - 1) (by omega)
   have hle17 := RO.le_trans HX hle7
   refine ⟨_, W.in64 (by omega), by omega, by omega, ?_⟩
   rw [show ((i : Int) - 1).toNat = i - 1 by omega]
   refine vat ad2 had2 ?_
   try simp only [go_sem, ↓reduceIte, nQ1, nQ2, nQ3, nQ4, nQ5, nQ6, reduceCtorEq]
   refine vload (.int .i64 (b.spent[i - 1]'(by omega)).group) (hle17 _ _ (hR2 0 _ rfl)) ?_
   simp only [go_sem, ↓reduceIte, nQ1, nQ2, nQ3, nQ4, nQ5, nQ6, reduceCtorEq, e22, e21, e20, e1]
   refine ⟨_, W.in64 (by omega), by omega, by omega, ?_⟩
   rw [show ((i : Int) - 1).toNat = i - 1 by omega]
   refine vat ad2 had2 ?_
   try simp only [go_sem, ↓reduceIte, nQ1, nQ2, nQ3, nQ4, nQ5, nQ6, reduceCtorEq]
   refine vload (.int .i64 (b.spent[i - 1]'(by omega)).grain) (hle17 _ _ (hR2 1 _ rfl)) ?_
   simp only [go_sem, ↓reduceIte, nQ1, nQ2, nQ3, nQ4, nQ5, nQ6, reduceCtorEq, e22, e21, e20, e1]
   refine vcall (bCompareA _ _ _ _ R7) ?_
   rintro R8 r hle8 rfl
   simp only [go_sem, ↓reduceIte, nQ1, nQ2, nQ3, nQ4, nQ5, nQ6, reduceCtorEq, e22, e21, e20, e1]
   have hcmp := cmpK_neg (b.spent[i - 1]'(by omega)).group (b.spent[i - 1]'(by omega)).grain b.spent[i].group b.spent[i].grain
   refine ⟨fun hge => hbad fun hO => ?_, fun hlt => ⟨_, W.in64 (by omega), i + 1, by omega, rfl, by omega, hstep fun h => ?_⟩⟩
   ·have := List.pairwise_iff_getElem.1 hO.ord (i - 1) i (by omega) hlt' (by omega)
    have := hcmp.2 this
    omega
   ·exact hcmp.1 (by omega)
 ·obtain rfl : i = b.spent.length := by omega
  rw [List.take_length] at hok hord
  congr 1
  symm
  rw [okB_iff]
  exact ⟨by omega, validG_iff.1 hV, hok, hord⟩
theorem bGroup (b : Bu) (hr : RawB b) (p : Int) (v : Value) (R : RO) (hz : SzR R) (h : BuV R v b) : CallsR Tryz.prog 23 [v, .int .i64 p] R fun _ r => r = .int .i64 (grpB b p (okB b)) := by
 have hV := fun R' hle => bValid b hr v R' (SzR.mono (R' := R') hz hle) (BuV.mono (R' := R') h hle)
 obtain ⟨gv, sv, rfl, hg, hs⟩ := h
 refine callsT mix Tryz.func23 comp23 (by simp [Tryz.ntmps23]) ?_; simp only [go_sem, ↓reduceIte, nQ1, nQ2, nQ3, nQ4, nQ5, nQ6, reduceCtorEq, vc23, rs23]
 refine vcall (hV R (RO.le_refl _)) ?_
 rintro R1 r hle1 rfl
 try simp only [go_sem, ↓reduceIte, nQ1, nQ2, nQ3, nQ4, nQ5, nQ6, reduceCtorEq]
 unfold grpB
 refine ⟨fun h1 => ?_, fun h1 => by simp [h1]⟩
 refine vcall (bPerson p R1) ?_
 rintro R2 r hle2 rfl
 try simp only [go_sem, ↓reduceIte, nQ1, nQ2, nQ3, nQ4, nQ5, nQ6, reduceCtorEq]
 refine ⟨fun h2 => by simp [h2], fun h2 => ?_⟩
 rw [if_pos ⟨h1, h2⟩]
 have hpp : -1000000 ≤ p ∧ p ≤ 1000000 := by
  unfold personB at h2
  simp only [Bool.and_eq_true, decide_eq_true_eq] at h2
  omega
 refine vcall (bGroupOf b.groups p hpp gv R2 (hg.mono (RO.le_trans hle1 hle2))) ?_
 rintro R3 r hle3 rfl
 try simp only [go_sem, ↓reduceIte, nQ1, nQ2, nQ3, nQ4, nQ5, nQ6, reduceCtorEq]
end Go.Proofs.YtclkibjonbhldaaGreatDoor
namespace Go.Proofs.YtclkibjonbhldaaGreatDoor.Vc
set_option linter.unusedSimpArgs false
set_option linter.unusedVariables false
theorem ext_grow {w w' : World} (h : Ext w w') : ∃ (q : Nat) (os : Array Obj), w' = Go.Sort.grow (w.drewN q) os := by
 refine ⟨w'.drawn - w.drawn, w'.heap.extract w.heap.size w'.heap.size, ?_⟩
 obtain ⟨heap, tape, drawn, os, output⟩ := w
 obtain ⟨heap', tape', drawn', os', output'⟩ := w'
 obtain ⟨h1, h2, h3, h4, h5, h6⟩ := h
 simp only at h1 h2 h3 h4 h5 h6
 subst h1 h2 h3
 have hd : drawn + (drawn' - drawn) = drawn' := by omega
 have hh : heap ++ heap'.extract heap.size heap'.size = heap' := by
  apply Array.ext_getElem?
  intro i
  rcases Nat.lt_or_ge i heap.size with hi | hi
  ·rw [Array.getElem?_append_left hi, h5 i hi]
  ·rw [Array.getElem?_append_right hi, Array.getElem?_extract]
   rcases Nat.lt_or_ge i heap'.size with hj | hj
   ·rw [if_pos (by omega)]
    congr 1; omega
   ·rw [if_neg (by omega), Array.getElem?_eq_none hj]
 simp only [Go.Sort.grow, Go.World.drewN, hd, hh]
end Go.Proofs.YtclkibjonbhldaaGreatDoor.Vc
namespace Go.Proofs.YtclkibjonbhldaaGreatDoor.Vc
set_option linter.unusedSimpArgs false
set_option linter.unusedVariables false
open Go.RowKit Go.Shelf Go.Sort
theorem putCells_map {α : Type} [Inhabited α] (enc : α → Value) (off : Nat) (d : Array α) (c : Array Value) : putCells enc off d c = putCells id off (d.map enc) c := by
 apply Array.ext_getElem?
 intro k
 simp only [putCells, Array.getElem?_mapIdx, Array.size_map, id_eq]
 cases c[k]? with
 | none => rfl
 | some x =>
  simp only [Option.map_some]
  split
  ·rename_i h
   have h1 : k - off < d.size := by omega
   rw [getElem!_pos d (k - off) h1, getElem!_pos (d.map enc) (k - off) (by simpa using h1), Array.getElem_map]
  ·rfl
theorem putRow_map {α : Type} [Inhabited α] (enc : α → Value) (w : World) (b off : Nat) (d : Array α) : putRow enc w b off d = putRow id w b off (d.map enc) := by
 unfold putRow
 congr 1
 funext c
 exact putCells_map enc off d c
theorem putCells_toList {cs' : List Value} {arr : Array Value} (h : cs'.length ≤ arr.size) : cs' <+: (putCells id 0 cs'.toArray arr).toList := by
 rw [List.prefix_iff_eq_take]
 apply List.ext_getElem?
 intro i
 rw [List.getElem?_take]
 by_cases hi : i < cs'.length
 ·rw [if_pos hi, Array.getElem?_toList]
  simp [putCells, hi, show i < arr.size by omega]
 ·rw [if_neg hi, List.getElem?_eq_none (by omega)]
theorem flatK_toList {α : Type} [Inhabited α] (enc : α → List Value) (k : Nat) (hk : ∀ x, (enc x).length = k) (d : Array α) : flatK enc k d = ((d.toList.map enc).flatten).toArray := by
 have hl : ∀ us ∈ d.toList.map enc, us.length = k := fun us hus => by
  obtain ⟨x, _, rfl⟩ := List.mem_map.1 hus
  exact hk x
 apply Array.ext_getElem?
 intro t
 by_cases ht : t < d.size * k
 ·have h1 : t < (flatK enc k d).size := by rw [size_flatK]; exact ht
  have hk0 : 0 < k := by
   rcases Nat.eq_zero_or_pos k with h | h
   ·subst h; simp at ht
   ·exact h
  have hq : t / k < d.size := (Nat.div_lt_iff_lt_mul hk0).2 ht
  rw [Array.getElem?_eq_getElem h1, ← getElem!_pos (flatK enc k d) t h1, get_flatK _ _ _ t ht, List.getElem?_toArray]
  have h2 := getElem?_flatten hl (t / k) (t % k) (enc d[t / k]) (by simp [hq]) (Nat.mod_lt _ hk0)
  rw [Nat.mul_comm, Nat.div_add_mod] at h2
  rw [h2, getElem!_pos d (t / k) hq]
  have h3 : t % k < (enc d[t / k]).length := by rw [hk]; exact Nat.mod_lt _ hk0
  rw [getElem!_pos (enc d[t / k]) (t % k) h3, List.getElem?_eq_getElem h3]
 ·rw [Array.getElem?_eq_none (by rw [size_flatK]; omega), List.getElem?_toArray, List.getElem?_eq_none (by rw [length_flattenK hl]; simp; omega)]
theorem rowS {P : Program} {f : FuncId} {vs : List Value} {n T sz : Nat} {cs : List Value} {R : RO} {Q : List Value → SV → Prop}
  (h : ∀ (w : World) (β κ : Nat → Nat) (arr : Array Value), w.heap[β 0]? = some (.cells arr T (0, 0)) → cs <+: arr.toList → κ 0 * sz = arr.size → κ 0 ≤ maxLen →
   Calls P f (Value.slice (some ⟨β 0, 0, none⟩) n (κ 0) :: vs).toArray w fun e w' => ∃ r cs' m os, e = .returned (den β κ r) ∧ SV.ok 1 r = true ∧ cs'.length = cs.length ∧ Q cs' r ∧ w' = grow (putRow id (Sort.ahead w m) (β 0) 0 cs'.toArray) os) :
  CallsS P f (.sl 0 n :: vs.map .val) [.row T sz cs] R fun R' bs r => R' = R ∧ ∃ cs', bs = [.row T sz cs'] ∧ cs'.length = cs.length ∧ Q cs' r := by
 intro w β κ hG
 obtain ⟨_, arr, hb, hp, hs, hcl, hm⟩ := hG.blk 0 _ rfl
 have hv : (vs.map SV.val).map (den β κ) = vs := by
  rw [List.map_map]
  conv => rhs; rw [← List.map_id vs]
  exact List.map_congr_left fun _ _ => rfl
 simp only [List.map_cons, hv, den]
 refine (h w β κ arr hb hp hs hm).mono ?_
 rintro e w' ⟨r, cs', m, os, rfl, hr, hl, hQ, rfl⟩
 have hlt : β 0 < w.heap.size := (Array.getElem?_eq_some_iff.1 hb).1
 have hb' : (grow (putRow id (Sort.ahead w m) (β 0) 0 cs'.toArray) os).heap[β 0]? = some (.cells (putCells id 0 cs'.toArray arr) T (0, 0)) := by
  rw [heap_grow_old _ _ (by simpa [putRow, mapBlock, Sort.ahead] using hlt)]
  simp [putRow, mapBlock, Sort.ahead, Array.getElem?_modify, hb, onCells]
 have ho : ∀ k, k < w.heap.size → k ≠ β 0 → (grow (putRow id (Sort.ahead w m) (β 0) 0 cs'.toArray) os).heap[k]? = w.heap[k]? := fun k hk hne => by
  rw [heap_grow_old _ _ (by simpa [putRow, mapBlock, Sort.ahead] using hk)]
  simp [putRow, mapBlock, Sort.ahead, Array.getElem?_modify, Ne.symm hne]
 have harr : cs'.length ≤ arr.size := by rw [hl, ← hs]; exact hcl
 refine ⟨β, κ, [.row T sz cs'], r, R, rfl, fun _ _ h => h, ⟨?_, ?_, ?_⟩, hr, by simp, by simp [Blk.noShr], fun _ _ => ⟨rfl, rfl⟩, ?_, fun a v h => .inl h, ⟨rfl, rfl, rfl, ?_, ?_, ?_⟩, rfl, cs', rfl, hl, hQ⟩
 ·intro j b hj
  cases j with
  | zero =>
   simp only [List.getElem?_cons_zero, Option.some.injEq] at hj
   subst hj
   exact ⟨trivial, _, hb', putCells_toList harr, by rw [hs]; simp [putCells], by rw [hl]; exact hcl, hm⟩
  | succ j => simp at hj
 ·intro i j b b' hi hj _ _ _
  have h1 := (List.getElem?_eq_some_iff.1 hi).1
  have h2 := (List.getElem?_eq_some_iff.1 hj).1
  simp only [List.length_cons, List.length_nil] at h1 h2
  omega
 ·intro a v ha
  obtain ⟨h1, h2⟩ := hG.ro a v ha
  have h3 := h2 0 _ rfl rfl
  refine ⟨?_, ?_⟩
  ·rw [World.cell?_of_block (ho a.block (World.block_lt_of_cell? w a h1) h3)]
   exact h1
  ·intro j b hj hb
   cases j with
   | zero => exact h3
   | succ j => simp at hj
 ·intro j b hj hb
  cases j with
  | zero => exact .inr ⟨0, _, rfl, rfl, rfl⟩
  | succ j => simp at hj
 ·simp [putRow, mapBlock, Sort.ahead]
 ·intro k hk hg
  refine ho k hk fun e => hg ⟨0, _, rfl, rfl, e⟩
 ·simp [grow, putRow, mapBlock, Sort.ahead]
variable {P : Program} {ρ : Ren} {α : Type} [Inhabited α]
theorem pairwise_sortedIn {lt : α → α → Bool} {d : Array α} (h : SortedIn lt 0 d.size d) : d.toList.Pairwise fun x y => lt y x = false := by
 rw [List.pairwise_iff_getElem]
 intro i j hi hj hij
 have := h i j (Nat.zero_le _) hij (by simpa using hj)
 rw [getElem!_pos d i (by simpa using hi), getElem!_pos d j (by simpa using hj)] at this
 simpa using this
theorem permIn_perm {d d' : Array α} (h : PermIn 0 d.size d d') : d'.toList.Perm d.toList := by
 have h3 := h.2.2
 have e1 : d.extract 0 d.size = d := by simp
 have e2 : d'.extract 0 d.size = d' := by rw [← h.1]; simp
 rw [e1, e2] at h3
 exact h3
theorem sortFuncS (L : SlLaysF0.n6 P ρ) (k : Nat) (aE : ∀ w, (isAgg (ρ.t 24)).run P w = .ok true w) (zE : ∀ w, (Go.sizeOf (ρ.t 24)).run P w = .ok k w) (enc : α → List Value) (hk : ∀ x, (enc x).length = k) (h1 : ∀ x, ∀ v ∈ enc x, v.oneCell' = true) (cf : α → α → Int) (hO : SWO (ltOf cf)) (g : Nat) (T : Nat)
  (eg : ∀ args w, (callFunc g args).run P w = .ok (.enter g args) w) (hg : ∀ x y, CallsR P g [.agg (enc x).toArray, .agg (enc y).toArray] (fun _ _ => False) fun _ v => v = .int .i64 (cf x y)) (xs : List α) (hl : xs.length < 4611686018427387904) (R : RO) :
  CallsS P (ρ.f 6) [.sl 0 xs.length, .val (.func (.func g) #[] #[])] [.row T k (xs.map enc).flatten] R fun R' bs r => R' = R ∧ ∃ ys : List α, ys.Perm xs ∧ (ys.Pairwise fun x y => ltOf cf y x = false) ∧ bs = [.row T k (ys.map enc).flatten] ∧ r = .val (.tuple #[]) := by
 have hfl : ∀ zs : List α, (zs.map enc).flatten.length = zs.length * k := fun zs => by
  rw [length_flattenK (k := k) (fun us hus => by obtain ⟨x, _, rfl⟩ := List.mem_map.1 hus; exact hk x)]
  simp
 have key := rowS (P := P) (f := ρ.f 6) (vs := [.func (.func g) #[] #[]]) (n := xs.length) (T := T) (sz := k) (cs := (xs.map enc).flatten) (R := R)
  (Q := fun cs' r => ∃ ys : List α, ys.Perm xs ∧ (ys.Pairwise fun x y => ltOf cf y x = false) ∧ cs' = (ys.map enc).flatten ∧ r = .val (.tuple #[])) ?_
 ·intro w β κ hG
  refine (key w β κ hG).mono ?_
  rintro e w' ⟨β', κ', bs', r, R', h1, h2, h3, h4, h5, h6, h7, h8, h9, h10, h11, cs', h12, _, ys, h13, h14, h15, h16⟩
  exact ⟨β', κ', bs', r, R', h1, h2, h3, h4, h5, h6, h7, h8, h9, h10, h11, ys, h13, h14, by rw [h12, h15], h16⟩
 ·intro w β κ arr hb hp hs hm
  have hlt : β 0 < w.heap.size := (Array.getElem?_eq_some_iff.1 hb).1
  have hH : HoldsK enc k w (β 0) 0 xs.toArray := by
   intro j hj
   have hj' : j < (xs.map enc).flatten.length := by rw [hfl]; simpa using hj
   have hget : (flatK enc k xs.toArray)[j]! = (xs.map enc).flatten[j] := by
    rw [flatK_toList enc k hk]
    rw [getElem!_pos _ j (by simpa using hj')]
    simp
   refine ⟨?_, by simp [World.frozen?, hb]⟩
   rw [hget]
   simp only [World.cell?, hb, Nat.zero_add, Option.isSome_none, Bool.false_eq_true, if_false]
   rw [← Array.getElem?_toList, id_eq]
   obtain ⟨tl, ht⟩ := hp
   rw [← ht, List.getElem?_append_left hj', List.getElem?_eq_getElem hj']
  have hcmp : CmpLays P g #[] enc k cf (β 0) 0 xs.toArray.size w := by
   intro m os dk _ x y
   refine (hg x y (sortWorldK enc k w (β 0) 0 m dk os) (fun _ _ h => h.elim)).mono ?_
   rintro e w' ⟨v, R', rfl, _, _, hext, rfl⟩
   exact ⟨rfl, ext_grow hext⟩
  have := AnyQ.slices_SortFunc L k aE zE enc hk h1 cf hO g #[] (β 0) 0 (κ 0) xs.toArray w eg hcmp hH hlt (by simpa using hl)
  simp only [List.size_toArray] at this
  refine this.mono ?_
  rintro e w' ⟨rfl, d', n, os, hperm, hsort, rfl⟩
  have hsz : d'.size = xs.length := by simpa using hperm.1
  refine ⟨.val (.tuple #[]), (d'.toList.map enc).flatten, n, os, rfl, rfl, by rw [hfl, hfl]; simp [hsz], ⟨d'.toList, ?_, ?_, rfl, rfl⟩, ?_⟩
  ·have := permIn_perm (d := xs.toArray) (d' := d') hperm
   simpa using this
  ·exact pairwise_sortedIn (by rw [hsz]; exact hsort)
  ·unfold sortWorldK putRowK
   rw [flatK_toList enc k hk]
theorem callsR_still {f : FuncId} {args : List Value} {r : Value} (h : ∀ w, Calls P f args.toArray w fun e w' => e = .returned r ∧ w' = w) (R : RO) : CallsR P f args R fun _ v => v = r := by
 intro w hR
 refine (h w).mono ?_
 rintro e w' ⟨rfl, rfl⟩
 exact ⟨_, R, rfl, fun _ _ h => h, fun a v ha => ⟨hR a v ha, .inl ha⟩, Ext.refl _, rfl⟩
theorem sortFuncNil (L : SlLaysF0.n6 P ρ) (fv : Value) (R : RO) : CallsR P (ρ.f 6) [.slice none 0 0, fv] R fun _ v => v = .tuple #[] :=
 callsR_still (fun w => AnyF.slices_SortFunc_none L none 0 fv w) R
theorem sortIntsS (L : SlLaysM.n5 P ρ) (T : Nat) (xs : List Int) (hl : xs.length < 4611686018427387904) (R : RO) :
  CallsS P (ρ.f 5) [.sl 0 xs.length] [.row T 1 (xs.map (.int .i64))] R fun R' bs r => R' = R ∧ bs = [.row T 1 ((xs.mergeSort fun x y => decide (x ≤ y)).map (.int .i64))] ∧ r = .val (.tuple #[]) := by
 have key := rowS (P := P) (f := ρ.f 5) (vs := []) (n := xs.length) (T := T) (sz := 1) (cs := xs.map (.int .i64)) (R := R)
  (Q := fun cs' r => cs' = (xs.mergeSort fun x y => decide (x ≤ y)).map (.int .i64) ∧ r = .val (.tuple #[])) ?_
 ·intro w β κ hG
  refine (key w β κ hG).mono ?_
  rintro e w' ⟨β', κ', bs', r, R', h1, h2, h3, h4, h5, h6, h7, h8, h9, h10, h11, cs', h12, _, h13, h14⟩
  exact ⟨β', κ', bs', r, R', h1, h2, h3, h4, h5, h6, h7, h8, h9, h10, h11, by rw [h12, h13], h14⟩
 ·intro w β κ arr hb hp hs hm
  have hlt : β 0 < w.heap.size := (Array.getElem?_eq_some_iff.1 hb).1
  have hH : Holds (Value.int .i64) w (β 0) 0 xs.toArray := holds_of_blockI hb (by
   rw [List.prefix_iff_eq_take] at hp
   rw [List.length_map] at hp
   exact hp.symm)
  refine (AnyM.slices_Sort_int L (β 0) 0 (κ 0) xs w hH hlt hl).mono ?_
  rintro e w' ⟨rfl, n, os, rfl⟩
  refine ⟨.val (.tuple #[]), (xs.mergeSort fun x y => decide (x ≤ y)).map (.int .i64), n, os, rfl, rfl, by simp, ⟨rfl, rfl⟩, ?_⟩
  rw [putRow_map]
  simp
end Go.Proofs.YtclkibjonbhldaaGreatDoor.Vc
/- Plain lemmas of our own, no statement of the seat: the bounds of two lists, sorted. -/
namespace Go.Proofs.YtclkibjonbhldaaGreatDoor
set_option linter.unusedSimpArgs false
set_option linter.unusedVariables false
open Go.Proofs.YtclkibjonbhldaaGreatDoor.Vc Go.Shelf Go.Sort
def Tryz.sortBd_ren : Go.Shelf.Ren := ⟨fun | 6 => 129 | 15 => 84 | 14 => 135 | 28 => 108 | 29 => 109 | 20 => 137 | 21 => 138 | 22 => 139 | 23 => 140 | 24 => 141 | 25 => 142 | 26 => 143 | 27 => 144 | 46 => 145 | 47 => 125 | 48 => 126 | 49 => 146 | 50 => 147 | 57 => 148 | n => n, fun | 22 => 137 | 24 => 141 | 25 => 154 | 3 => 3 | 39 => 113 | 0 => 0 | 53 => 134 | 55 => 136 | 4 => 4 | 46 => 126 | 45 => 125 | 50 => 131 | 5 => 5 | 9 => 9 | 66 => 147 | 70 => 151 | 76 => 157 | 77 => 158 | n => n, fun | n => n⟩
theorem Tryz.sortBd : Go.Proofs.SlLaysF0.n6 Tryz.prog Tryz.sortBd_ren := {
 mixed := by kernel_rfl
 f6 := ⟨Tryz.f129.name, by decide, Tryz.func129.trans (congrArg some (by kernel_rfl))⟩
 f14 := ⟨Tryz.f135.name, by decide, Tryz.func135.trans (congrArg some (by kernel_rfl))⟩
 f15 := Tryz.func84.trans (congrArg some (by kernel_rfl))
 f20 := ⟨Tryz.f137.name, by decide, Tryz.func137.trans (congrArg some (by kernel_rfl))⟩
 f21 := ⟨Tryz.f138.name, by decide, Tryz.func138.trans (congrArg some (by kernel_rfl))⟩
 f22 := ⟨Tryz.f139.name, by decide, Tryz.func139.trans (congrArg some (by kernel_rfl))⟩
 f23 := ⟨Tryz.f140.name, by decide, Tryz.func140.trans (congrArg some (by kernel_rfl))⟩
 f24 := ⟨Tryz.f141.name, by decide, Tryz.func141.trans (congrArg some (by kernel_rfl))⟩
 f25 := ⟨Tryz.f142.name, by decide, Tryz.func142.trans (congrArg some (by kernel_rfl))⟩
 f26 := ⟨Tryz.f143.name, by decide, Tryz.func143.trans (congrArg some (by kernel_rfl))⟩
 f27 := ⟨Tryz.f144.name, by decide, Tryz.func144.trans (congrArg some (by kernel_rfl))⟩
 f28 := Tryz.func108.trans (congrArg some (by kernel_rfl))
 f29 := Tryz.func109.trans (congrArg some (by kernel_rfl))
 f46 := ⟨Tryz.f145.name, by decide, Tryz.func145.trans (congrArg some (by kernel_rfl))⟩
 f47 := Tryz.func125.trans (congrArg some (by kernel_rfl))
 f48 := Tryz.func126.trans (congrArg some (by kernel_rfl))
 f49 := ⟨Tryz.f146.name, by decide, Tryz.func146.trans (congrArg some (by kernel_rfl))⟩
 f50 := ⟨Tryz.f147.name, by decide, Tryz.func147.trans (congrArg some (by kernel_rfl))⟩
 f57 := ⟨Tryz.f148.name, by decide, Tryz.func148.trans (congrArg some (by kernel_rfl))⟩
 t0 := Tryz.underlying0
 a0 := Tryz.isAgg0
 z0 := Tryz.sizeOf0
 v0 := Tryz.zeroValue0
 t3 := Tryz.underlying3
 a3 := Tryz.isAgg3
 z3 := Tryz.sizeOf3
 v3 := Tryz.zeroValue3
 t4 := Tryz.underlying4
 a4 := Tryz.isAgg4
 z4 := Tryz.sizeOf4
 v4 := Tryz.zeroValue4
 t5 := Tryz.underlying5
 a5 := Tryz.isAgg5
 z5 := Tryz.sizeOf5
 v5 := Tryz.zeroValue5
 t9 := Tryz.underlying9
 a9 := Tryz.isAgg9
 z9 := Tryz.sizeOf9
 v9 := Tryz.zeroValue9
 t22 := Tryz.underlying137
 a22 := Tryz.isAgg137
 z22 := Tryz.sizeOf137
 v22 := Tryz.zeroValue137
 t25 := Tryz.underlying154
 a25 := Tryz.isAgg154
 z25 := Tryz.sizeOf154
 v25 := Tryz.zeroValue154
 t39 := Tryz.underlying113
 a39 := Tryz.isAgg113
 z39 := Tryz.sizeOf113
 v39 := Tryz.zeroValue113
 t45 := Tryz.underlying125
 a45 := Tryz.isAgg125
 z45 := Tryz.sizeOf125
 v45 := Tryz.zeroValue125
 t46 := Tryz.underlying126
 a46 := Tryz.isAgg126
 z46 := Tryz.sizeOf126
 v46 := Tryz.zeroValue126
 t50 := Tryz.underlying131
 a50 := Tryz.isAgg131
 z50 := Tryz.sizeOf131
 v50 := Tryz.zeroValue131
 t53 := Tryz.underlying134
 a53 := Tryz.isAgg134
 z53 := Tryz.sizeOf134
 v53 := Tryz.zeroValue134
 t55 := Tryz.underlying136
 a55 := Tryz.isAgg136
 z55 := Tryz.sizeOf136
 v55 := Tryz.zeroValue136
 t66 := Tryz.underlying147
 a66 := Tryz.isAgg147
 z66 := Tryz.sizeOf147
 v66 := Tryz.zeroValue147
 t70 := Tryz.underlying151
 a70 := Tryz.isAgg151
 z70 := Tryz.sizeOf151
 v70 := Tryz.zeroValue151
 t76 := Tryz.underlying157
 a76 := Tryz.isAgg157
 z76 := Tryz.sizeOf157
 v76 := Tryz.zeroValue157
 t77 := Tryz.underlying158
 a77 := Tryz.isAgg158
 z77 := Tryz.sizeOf158
 v77 := Tryz.zeroValue158 }
structure Bd where
 at' : Int
 list : Int
 by' : Int
instance : Inhabited Bd := ⟨⟨0, 0, 0⟩⟩
def Bd.cells (b : Bd) : List Value := [.int .i64 b.at', .int .i64 b.list, .int .i64 b.by']
abbrev rowB (l : List Bd) : List Value := (l.map Bd.cells).flatten
theorem rowB_len (l : List Bd) : (rowB l).length = l.length * 3 := rowE_len (enc := Bd.cells) (k := 3) (fun _ => rfl) l
theorem Bd.one (s : Bd) : ∀ u ∈ s.cells, u.oneCell' = true := by simp [Bd.cells, Value.oneCell']
def bndOf (list : Int) (l : List Sp) : List Bd := l.flatMap fun s => if s.f < s.t then [⟨s.f, list, 1⟩, ⟨s.t, list, -1⟩] else []
theorem bndOf_len (k : Int) (l : List Sp) : (bndOf k l).length ≤ 2 * l.length := by
 induction l with
 | nil => simp [bndOf]
 | cons s l ih =>
  unfold bndOf at ih ⊢
  rw [List.flatMap_cons, List.length_append, List.length_cons]
  split <;> simp only [List.length_cons, List.length_nil] <;> omega
def cmpB (a b : Bd) : Int := cmpI a.at' b.at'
theorem bBoundCmp (a b : Bd) (R : RO) : CallsR Tryz.prog 130 [.agg a.cells.toArray, .agg b.cells.toArray] R fun _ v => v = .int .i64 (cmpB a b) := by
 simp only [Bd.cells]
 refine callsT mix Tryz.func130 comp130 (by simp [Tryz.ntmps130]) ?_; simp only [go_sem, ↓reduceIte, nQ1, nQ2, nQ3, nQ4, nQ5, nQ6, reduceCtorEq, vc130, rs130]
 refine vcall (bCompare a.at' b.at' R) ?_
 rintro R1 v h1 rfl
 try simp only [go_sem, ↓reduceIte, nQ1, nQ2, nQ3, nQ4, nQ5, nQ6, reduceCtorEq]
 rfl
theorem ltB (p q : Bd) : ltOf cmpB p q = decide (p.at' < q.at') := by
 unfold ltOf cmpB cmpI
 split
 ·simp [*]
 ·split <;> simp <;> omega
theorem cmpB_swo : SWO (ltOf cmpB) := by
 refine ⟨fun x => ?_, fun x y z h k => ?_, fun x y z h k => ?_⟩
 ·rw [ltB]; simp
 ·rw [ltB] at *; simp only [decide_eq_true_eq] at *; omega
 ·rw [ltB] at *; simp only [decide_eq_false_iff_not] at *; omega
theorem bSortBd (ps : List Bd) (hl : ps.length ≤ 1000000000) (R : RO) :
  CallsS Tryz.prog 129 [.sl 0 ps.length, .val (.func (.func 130) #[] #[])] [.row 141 3 (rowB ps)] R fun R' bs r =>
   R' = R ∧ ∃ qs : List Bd, qs.Perm ps ∧ (qs.Pairwise fun x y => x.at' ≤ y.at') ∧ bs = [.row 141 3 (rowB qs)] ∧ r = .val (.tuple #[]) := by
 have h := sortFuncS Tryz.sortBd 3 Tryz.isAgg141 Tryz.sizeOf141 Bd.cells (fun _ => rfl) Bd.one cmpB cmpB_swo 130 141
  (enters_of Tryz.func130 (by kernel_rfl) rfl) (fun x y => bBoundCmp x y _) ps (by omega) R
 simp only [ltB, decide_eq_false_iff_not, Int.not_lt] at h
 exact h
theorem bSortBdNil (fv : Value) (R : RO) : CallsR Tryz.prog 129 [.slice none 0 0, fv] R fun _ r => r = .tuple #[] := sortFuncNil Tryz.sortBd fv R
end Go.Proofs.YtclkibjonbhldaaGreatDoor
/- Plain lemmas of our own, no statement of the seat: span.bounds. -/
namespace Go.Proofs.YtclkibjonbhldaaGreatDoor
set_option linter.unusedSimpArgs false
set_option linter.unusedVariables false
open Go.Proofs.YtclkibjonbhldaaGreatDoor.Vc
abbrev BdV := EncV Bd.cells 3
theorem rowB_app (a b : List Bd) : rowB a ++ rowB b = rowB (a ++ b) := by unfold rowB; rw [List.map_append, List.flatten_append]
theorem bndOf_snoc (k : Int) (l : List Sp) (i : Nat) (hi : i < l.length) : bndOf k (l.take (i + 1)) = bndOf k (l.take i) ++ (if l[i].f < l[i].t then [⟨l[i].f, k, 1⟩, ⟨l[i].t, k, -1⟩] else []) := by
 rw [List.take_succ_eq_append_getElem hi]
 unfold bndOf
 rw [List.flatMap_append, List.flatMap_cons, List.flatMap_nil, List.append_nil]
set_option maxHeartbeats 1000000 in
theorem bBounds (xs ys : List Sp) (v u : Value) (R : RO) (h : SpV R v xs) (h' : SpV R u ys) (hl : xs.length + ys.length ≤ 10000000) : CallsR Tryz.prog 114 [v, u] R fun R' r => ∃ l, BdV R' r l ∧ l.Perm (bndOf 0 xs ++ bndOf 1 ys) ∧ (l.Pairwise fun x y => x.at' ≤ y.at') := by
 obtain ⟨a, cap, rfl, hc, hf⟩ := h.form
 obtain ⟨b, cap', rfl, hc', hf'⟩ := h'.form
 refine callsT mix Tryz.func114 comp114 (by simp [Tryz.ntmps114]) ?_; simp only [go_sem, ↓reduceIte, nQ1, nQ2, nQ3, nQ4, nQ5, nQ6, reduceCtorEq, vc114, rs114]
 obtain ⟨O, hO⟩ : ∃ O : Nat → List Bd, O = fun i => if i = 0 then [] else if i = 1 then bndOf 0 xs else bndOf 0 xs ++ bndOf 1 ys := ⟨_, rfl⟩
 have hOl : ∀ i, (O i).length ≤ 2 * (xs.length + ys.length) := fun i => by
  have h1 := bndOf_len 0 xs
  have h2 := bndOf_len 1 ys
  rw [hO]
  dsimp only
  split
  ·simp
  ·split
   ·omega
   ·rw [List.length_append]; omega
 refine vcLoopR Nat (fun i => [(14, .val (.int .i64 i)), (13, .val (.int .i64 2)), (12, .sl 0 2), (5, gs 1 (O i).length)]) (fun i => [.row 54 1 [.slice a xs.length cap, .slice b ys.length cap'], gb 141 3 (rowB (O i))]) (fun i _ => i ≤ 2) (fun i => 2 - i) 0 [] ?_ ?_ ?_ ?_
 ·rw [hO]
  (try simp only [go_sem, ↓reduceIte, nQ1, nQ2, nQ3, nQ4, nQ5, nQ6, reduceCtorEq]) <;> (repeat' (first | rfl | trivial | constructor | (intro h; exact absurd rfl h)))
 ·try simp only [go_sem, ↓reduceIte, nQ1, nQ2, nQ3, nQ4, nQ5, nQ6, reduceCtorEq]
 ·exact Nat.zero_le _
 rintro i env R1 hle1 hE hi
 (simp only [go_sem] at hE; obtain ⟨e14, e13, e12, e5⟩ := hE; simp only [go_sem, ↓reduceIte, nQ1, nQ2, nQ3, nQ4, nQ5, nQ6, reduceCtorEq, e14, e13, e12, e5]; dsimp only at *)
 refine ⟨fun hlt => ?_, fun hge => ?_⟩
 ·have hi2 : i < 2 := by omega
  obtain ⟨l, al, cl, hgl, hR, hOn, hll⟩ : ∃ (l : List Sp) (al : Option Addr) (cl : Nat), [Value.slice a xs.length cap, Value.slice b ys.length cap'][i]? = some (.slice al l.length cl) ∧ (∀ j (hj : j < l.length), ∃ ad, al = some ad ∧ ∀ k u, (l[j].cells)[k]? = some u → R ((ad.add (j * 2)).add k) u) ∧ O (i + 1) = O i ++ bndOf i l ∧ l.length ≤ 10000000 := by
   rcases (show i = 0 ∨ i = 1 by omega) with rfl | rfl
   ·exact ⟨xs, a, cap, rfl, hf, by rw [hO]; rfl, by omega⟩
   ·exact ⟨ys, b, cap', rfl, hf', by rw [hO]; rfl, by omega⟩
  refine ⟨by omega, _, hgl, ?_⟩
  simp only [go_sem, ↓reduceIte, nQ1, nQ2, nQ3, nQ4, nQ5, nQ6, reduceCtorEq, e14, e13, e12, e5]
  obtain ⟨D, hD⟩ : ∃ D : Nat → List Bd, D = fun j => O i ++ bndOf i (l.take j) := ⟨_, rfl⟩
  have hD0 : D 0 = O i := by rw [hD]; simp [bndOf]
  have hDl : ∀ j, (D j).length ≤ 40000000 := fun j => by
   have h1 := hOl i
   have h2 := bndOf_len i (l.take j)
   rw [hD]
   simp only [List.length_append, List.length_take] at h2 ⊢
   omega
  rw [← hD0]
  refine vcLoopR Nat (fun j => [(21, .val (.int .i64 j)), (20, .val (.int .i64 l.length)), (19, .val (.slice al l.length cl)), (6, .val (.int .i64 i)), (14, .val (.int .i64 i)), (13, .val (.int .i64 2)), (12, .sl 0 2), (5, gs 1 (D j).length)]) (fun j => [.row 54 1 [.slice a xs.length cap, .slice b ys.length cap'], gb 141 3 (rowB (D j))]) (fun j _ => j ≤ l.length) (fun j => l.length - j) 0 [] ?_ ?_ ?_ ?_
  ·(try simp only [go_sem, ↓reduceIte, nQ1, nQ2, nQ3, nQ4, nQ5, nQ6, reduceCtorEq]) <;> (repeat' (first | rfl | trivial | constructor | (intro h; exact absurd rfl h)))
   all_goals first
    | (rw [hD0]; exact e5)
    | (intro h; exact gb_ne h)
  ·try simp only [go_sem, ↓reduceIte, nQ1, nQ2, nQ3, nQ4, nQ5, nQ6, reduceCtorEq]
  ·exact Nat.zero_le _
  rintro j env R2 hle2 hE hj
  (simp only [go_sem] at hE; obtain ⟨e21, e20, e19, e6, e14', e13', e12', e5'⟩ := hE; simp only [go_sem, ↓reduceIte, nQ1, nQ2, nQ3, nQ4, nQ5, nQ6, reduceCtorEq, e21, e20, e19, e6, e14', e13', e12', e5']; dsimp only at *)
  refine ⟨fun hlt2 => ?_, fun hge2 => ?_⟩
  ·have hj' : j < l.length := by omega
   have hDs : D (j + 1) = D j ++ (if l[j].f < l[j].t then [⟨l[j].f, i, 1⟩, ⟨l[j].t, i, -1⟩] else []) := by
    rw [hD]
    dsimp only
    rw [bndOf_snoc _ _ _ hj', List.append_assoc]
   obtain ⟨ad, had, hRj⟩ := hR j hj'
   refine ⟨hlt2, vat ad had ?_⟩
   try simp only [go_sem, ↓reduceIte, nQ1, nQ2, nQ3, nQ4, nQ5, nQ6, reduceCtorEq]
   refine vloadn (l[j]).cells rfl (fun k u hk => hle2 _ _ (hle1 _ _ (hRj k u hk))) ?_
   simp only [go_sem, ↓reduceIte, nQ1, nQ2, nQ3, nQ4, nQ5, nQ6, reduceCtorEq, Sp.cells, e21, e20, e19, e6, e14', e13', e12', e5']
   have hDj := hDl j
   refine ⟨fun h1 => ?_, fun h1 => ?_⟩
   ·rw [if_pos h1] at hDs
    refine vgrow (rowB (D j)) (fun h0 => by rw [gb_ne h0]; rfl) (fun h0 => by rw [h0, gb_nil]; rfl) (rowB_len (D j)) (by omega) (by omega) (by omega) ?_
    simp only [go_sem, ↓reduceIte, nQ1, nQ2, nQ3, nQ4, nQ5, nQ6, reduceCtorEq, e21, e20, e19, e6, e14', e13', e12', e5']
    refine ⟨_, W.in64 (by omega), j + 1, [0, 4], ?_⟩
    rw [hDs]
    have hDn : (D j ++ [⟨l[j].f, (i : Int), 1⟩, ⟨l[j].t, (i : Int), -1⟩] : List Bd).length = (D j).length + 2 := by simp
    rw [hDn, gs_pos (by omega)]
    try simp only [go_sem, ↓reduceIte, nQ1, nQ2, nQ3, nQ4, nQ5, nQ6, reduceCtorEq]
    refine ⟨by omega, ⟨rfl, fun _ => by rw [← rowB_app]; rfl⟩, by decide, by omega⟩
   ·rw [if_neg h1, List.append_nil] at hDs
    refine ⟨_, W.in64 (by omega), j + 1, [], ?_⟩
    rw [hDs]
    try simp only [go_sem, ↓reduceIte, nQ1, nQ2, nQ3, nQ4, nQ5, nQ6, reduceCtorEq]
    exact ⟨by omega, ⟨rfl, fun h => gb_ne h⟩, by decide, by omega⟩
  ·obtain rfl : j = l.length := by omega
   have hDe : D l.length = O (i + 1) := by rw [hOn, hD]; simp
   rw [hDe]
   refine ⟨_, W.in64 (by omega), i + 1, [], ?_⟩
   try simp only [go_sem, ↓reduceIte, nQ1, nQ2, nQ3, nQ4, nQ5, nQ6, reduceCtorEq]
   exact ⟨by omega, ⟨rfl, fun h => gb_ne h⟩, by decide, by omega⟩
 ·obtain rfl : i = 2 := by omega
  have hO2 : O 2 = bndOf 0 xs ++ bndOf 1 ys := by rw [hO]; rfl
  by_cases h0 : (O 2).length = 0
  ·rw [h0, gs_zero]
   try simp only [go_sem, ↓reduceIte, nQ1, nQ2, nQ3, nQ4, nQ5, nQ6, reduceCtorEq, allVal]
   refine vcall (bSortBdNil _ R1) ?_
   rintro R2 r hle2 rfl
   try simp only [go_sem, ↓reduceIte, nQ1, nQ2, nQ3, nQ4, nQ5, nQ6, reduceCtorEq, e14, e13, e12, e5, h0, gs_zero]
   rw [hO2] at h0
   exact ⟨[], EncV.nil _ _ _, by rw [List.eq_nil_of_length_eq_zero h0], List.Pairwise.nil⟩
  ·rw [gs_pos h0, gb_ne (fun e => h0 (by have := rowB_len (O 2); rw [e] at this; simp at this; omega))]
   try simp only [go_sem, ↓reduceIte, nQ1, nQ2, nQ3, nQ4, nQ5, nQ6, reduceCtorEq, e14, e13, e12, e5]
   have hOl2 := hOl 2
   refine vhand [1] [.sl 0 (O 2).length, .val (.func (.func 130) #[] #[])] [.row 141 3 (rowB (O 2))] (bSortBd (O 2) (by omega) R1) rfl rfl rfl ?_ (by simp) rfl rfl ?_
   ·try simp only [go_sem, ↓reduceIte, nQ1, nQ2, nQ3, nQ4, nQ5, nQ6, reduceCtorEq]
   rintro R2 bs r hle2 ⟨rfl, qs, hp, hs, rfl, rfl⟩ _
   simp only [go_sem, ↓reduceIte, nQ1, nQ2, nQ3, nQ4, nQ5, nQ6, reduceCtorEq, setG, rn, e14, e13, e12, e5]
   rw [gs_pos h0]
   try simp only [go_sem, ↓reduceIte, nQ1, nQ2, nQ3, nQ4, nQ5, nQ6, reduceCtorEq]
   have hql := hp.length_eq
   intro b2 cap2 R3 hle hrow hcap hfr
   rw [← hql]
   exact ⟨qs, RowIn.enc (fun _ => rfl) (by omega) hrow hcap (by omega), by rw [← hO2]; exact hp, hs⟩
end Go.Proofs.YtclkibjonbhldaaGreatDoor
/- Plain lemmas of our own, no statement of the seat: what a sweep over sorted bounds counts. -/
namespace Go.Proofs.YtclkibjonbhldaaGreatDoor
set_option linter.unusedSimpArgs false
set_option linter.unusedVariables false
open Go.Proofs.YtclkibjonbhldaaGreatDoor.Vc
def sumB (p : Bd → Int) : List Bd → Int
 | [] => 0
 | b :: l => p b + sumB p l
theorem sumB_app (p : Bd → Int) (a b : List Bd) : sumB p (a ++ b) = sumB p a + sumB p b := by
 induction a with
 | nil => simp [sumB]
 | cons x a ih => rw [List.cons_append, sumB, sumB, ih]; omega
theorem sumB_perm (p : Bd → Int) {a b : List Bd} (h : a.Perm b) : sumB p a = sumB p b := by
 induction h with
 | nil => rfl
 | cons x _ ih => rw [sumB, sumB, ih]
 | swap x y l => simp only [sumB]; omega
 | trans _ _ h1 h2 => rw [h1, h2]
theorem sumB_congr {p q : Bd → Int} : ∀ {l : List Bd}, (∀ b ∈ l, p b = q b) → sumB p l = sumB q l
 | [], _ => rfl
 | x :: l, h => by rw [sumB, sumB, h x (by simp), sumB_congr fun b hb => h b (by simp [hb])]
theorem sumB_zero {p : Bd → Int} {l : List Bd} (h : ∀ b ∈ l, p b = 0) : sumB p l = 0 := by
 induction l with
 | nil => rfl
 | cons x l ih => rw [sumB, h x (by simp), ih fun b hb => h b (by simp [hb])]; rfl
def byOf (k : Int) (b : Bd) : Int := if b.list = k then b.by' else 0
def byTo (k t : Int) (b : Bd) : Int := if b.at' ≤ t then byOf k b else 0
theorem sumB_bndOf (k t : Int) (l : List Sp) : sumB (byTo k t) (bndOf k l) = (l.countP fun s => decide (s.f ≤ t) && decide (t < s.t) : Nat) := by
 induction l with
 | nil => rfl
 | cons s l ih =>
  unfold bndOf at ih ⊢
  rw [List.flatMap_cons, sumB_app, ih, List.countP_cons]
  by_cases h : s.f < s.t
  ·rw [if_pos h]
   simp only [sumB, byTo, byOf, if_true]
   by_cases h1 : s.f ≤ t
   ·by_cases h2 : t < s.t
    ·rw [if_pos h1, if_neg (by omega), if_pos (by simp [h1, h2])]; omega
    ·rw [if_pos h1, if_pos (by omega), if_neg (by simp [h2])]; omega
   ·rw [if_neg h1, if_neg (by omega), if_neg (by simp [h1])]; omega
  ·rw [if_neg h, if_neg (by simp; omega)]
   simp only [sumB]; omega
theorem sumB_bndOf_no (k k' t : Int) (l : List Sp) (h : k' ≠ k) : sumB (byTo k t) (bndOf k' l) = 0 := by
 refine sumB_zero fun b hb => ?_
 unfold bndOf at hb
 obtain ⟨s, _, hs⟩ := List.mem_flatMap.1 hb
 split at hs
 ·simp only [List.mem_cons, List.not_mem_nil, or_false] at hs
  rcases hs with rfl | rfl <;> simp [byTo, byOf, h]
 ·cases hs
theorem memS_count (l : List Sp) (t : Int) : memS l t = decide (0 < ((l.countP fun s => decide (s.f ≤ t) && decide (t < s.t) : Nat) : Int)) := by
 rw [Bool.eq_iff_iff, decide_eq_true_eq, memS_iff]
 rw [show (0 < ((l.countP fun s => decide (s.f ≤ t) && decide (t < s.t) : Nat) : Int)) ↔ 0 < l.countP fun s => decide (s.f ≤ t) && decide (t < s.t) by omega, List.countP_pos_iff]
 simp
structure BdsOf (all : List Bd) (a b : List Sp) : Prop where
 perm : all.Perm (bndOf 0 a ++ bndOf 1 b)
 ord : all.Pairwise fun x y => x.at' ≤ y.at'
theorem BdsOf.get_le {all : List Bd} {a b : List Sp} (h : BdsOf all a b) {i j : Nat} (hij : i ≤ j) (hj : j < all.length) : (all[i]'(by omega)).at' ≤ all[j].at' := by
 rcases Nat.eq_or_lt_of_le hij with rfl | hij
 ·exact Int.le_refl _
 ·exact List.pairwise_iff_getElem.1 h.ord i j (by omega) hj hij
theorem BdsOf.mem {all : List Bd} {a b : List Sp} (h : BdsOf all a b) {x : Bd} (hx : x ∈ all) : (x.list = 0 ∨ x.list = 1) ∧ (x.by' = 1 ∨ x.by' = -1) ∧ ∃ s ∈ a ++ b, s.f < s.t ∧ (x.at' = s.f ∨ x.at' = s.t) := by
 have hk : ∀ (k : Int) (l : List Sp), x ∈ bndOf k l → x.list = k ∧ (x.by' = 1 ∨ x.by' = -1) ∧ ∃ s ∈ l, s.f < s.t ∧ (x.at' = s.f ∨ x.at' = s.t) := fun k l hx => by
  unfold bndOf at hx
  obtain ⟨s, hs, hx⟩ := List.mem_flatMap.1 hx
  split at hx
  ·rename_i hlt
   simp only [List.mem_cons, List.not_mem_nil, or_false] at hx
   rcases hx with rfl | rfl
   ·exact ⟨rfl, .inl rfl, s, hs, hlt, .inl rfl⟩
   ·exact ⟨rfl, .inr rfl, s, hs, hlt, .inr rfl⟩
  ·cases hx
 rcases List.mem_append.1 (h.perm.mem_iff.1 hx) with hx | hx
 ·obtain ⟨h1, h2, s, hs, h3⟩ := hk _ _ hx
  exact ⟨.inl h1, h2, s, by simp [hs], h3⟩
 ·obtain ⟨h1, h2, s, hs, h3⟩ := hk _ _ hx
  exact ⟨.inr h1, h2, s, by simp [hs], h3⟩
theorem BdsOf.has {all : List Bd} {a b : List Sp} (h : BdsOf all a b) {s : Sp} (hs : s ∈ a ++ b) (hlt : s.f < s.t) : (∃ x ∈ all, x.at' = s.f) ∧ ∃ x ∈ all, x.at' = s.t := by
 have hk : ∀ (k : Int) (l : List Sp), s ∈ l → (⟨s.f, k, 1⟩ : Bd) ∈ bndOf k l ∧ (⟨s.t, k, -1⟩ : Bd) ∈ bndOf k l := fun k l hs => by
  unfold bndOf
  constructor <;> exact List.mem_flatMap.2 ⟨s, hs, by rw [if_pos hlt]; simp⟩
 rcases List.mem_append.1 hs with hs | hs
 ·exact ⟨⟨_, h.perm.mem_iff.2 (List.mem_append.2 (.inl (hk 0 a hs).1)), rfl⟩, ⟨_, h.perm.mem_iff.2 (List.mem_append.2 (.inl (hk 0 a hs).2)), rfl⟩⟩
 ·exact ⟨⟨_, h.perm.mem_iff.2 (List.mem_append.2 (.inr (hk 1 b hs).1)), rfl⟩, ⟨_, h.perm.mem_iff.2 (List.mem_append.2 (.inr (hk 1 b hs).2)), rfl⟩⟩
theorem BdsOf.len {all : List Bd} {a b : List Sp} (h : BdsOf all a b) : all.length ≤ 2 * (a.length + b.length) := by
 have h1 := h.perm.length_eq
 have h2 := bndOf_len 0 a
 have h3 := bndOf_len 1 b
 rw [List.length_append] at h1
 omega
theorem BdsOf.opened {all : List Bd} {a b : List Sp} (h : BdsOf all a b) {i : Nat} (hi : i + 1 < all.length) (hlt : (all[i]'(by omega)).at' < all[i + 1].at') :
  decide (0 < sumB (byOf 0) (all.take (i + 1))) = memS a (all[i]'(by omega)).at' ∧ decide (0 < sumB (byOf 1) (all.take (i + 1))) = memS b (all[i]'(by omega)).at' := by
 obtain ⟨t, ht⟩ : ∃ t, t = (all[i]'(by omega)).at' := ⟨_, rfl⟩
 rw [← ht] at hlt ⊢
 have hs : ∀ k, sumB (byOf k) (all.take (i + 1)) = sumB (byTo k t) (bndOf 0 a) + sumB (byTo k t) (bndOf 1 b) := fun k => by
  rw [← sumB_app, ← sumB_perm _ h.perm]
  conv => rhs; rw [← List.take_append_drop (i + 1) all]
  rw [sumB_app, sumB_zero (l := all.drop (i + 1)), Int.add_zero]
  ·refine sumB_congr fun x hx => ?_
   obtain ⟨j, hj, rfl⟩ := List.mem_take_iff_getElem.1 hx
   have := h.get_le (show j ≤ i by omega) (by omega)
   unfold byTo
   rw [if_pos (by rw [ht]; exact this)]
  ·intro x hx
   obtain ⟨j, hj, rfl⟩ := List.mem_drop_iff_getElem.1 hx
   have := h.get_le (show i + 1 ≤ i + 1 + j by omega) (by omega)
   unfold byTo
   rw [if_neg (by omega)]
 rw [hs 0, hs 1, sumB_bndOf 0, sumB_bndOf 1, sumB_bndOf_no 0 1 _ _ (by decide), sumB_bndOf_no 1 0 _ _ (by decide), Int.add_zero, Int.zero_add, memS_count, memS_count]
 exact ⟨rfl, rfl⟩
theorem memS_const' {l : List Sp} {x0 x : Int} (h : x0 ≤ x) (hn : ∀ s ∈ l, s.f < s.t → (s.f ≤ x0 ∨ x < s.f) ∧ (s.t ≤ x0 ∨ x < s.t)) : memS l x = memS l x0 := by
 rw [Bool.eq_iff_iff, memS_iff, memS_iff]
 constructor
 ·rintro ⟨s, hs, h1, h2⟩
  obtain ⟨h3, h4⟩ := hn s hs (by omega)
  exact ⟨s, hs, by omega, by omega⟩
 ·rintro ⟨s, hs, h1, h2⟩
  obtain ⟨h3, h4⟩ := hn s hs (by omega)
  exact ⟨s, hs, by omega, by omega⟩
structure CutB (all : List Bd) (P : Int → Bool) : Prop where
 const : ∀ i (hi : i + 1 < all.length) x, all[i].at' ≤ x → x < all[i + 1].at' → P x = P all[i].at'
 lo : ∀ x, (∀ y ∈ all, x < y.at') → P x = false
 hi : ∀ x, (∀ y ∈ all, y.at' ≤ x) → P x = false
theorem BdsOf.cut {all : List Bd} {a b : List Sp} (h : BdsOf all a b) (op : Bool → Bool → Bool) (h0 : op false false = false) : CutB all fun x => op (memS a x) (memS b x) := by
 have ha : ∀ s ∈ a, s ∈ a ++ b := fun s hs => by simp [hs]
 have hb : ∀ s ∈ b, s ∈ a ++ b := fun s hs => by simp [hs]
 have hlo : ∀ l : List Sp, (∀ s ∈ l, s ∈ a ++ b) → ∀ x, (∀ y ∈ all, x < y.at') → memS l x = false := fun l hl x hh => by
  cases hx : memS l x with
  | false => rfl
  | true =>
   obtain ⟨s, hs, h1, h2⟩ := memS_iff.1 hx
   obtain ⟨y, hy, e⟩ := (h.has (hl s hs) (by omega)).1
   have := hh y hy
   omega
 have hhi : ∀ l : List Sp, (∀ s ∈ l, s ∈ a ++ b) → ∀ x, (∀ y ∈ all, y.at' ≤ x) → memS l x = false := fun l hl x hh => by
  cases hx : memS l x with
  | false => rfl
  | true =>
   obtain ⟨s, hs, h1, h2⟩ := memS_iff.1 hx
   obtain ⟨y, hy, e⟩ := (h.has (hl s hs) (by omega)).2
   have := hh y hy
   omega
 refine ⟨fun i hi x h1 h2 => ?_, fun x hh => ?_, fun x hh => ?_⟩
 ·have hno : ∀ y ∈ all, y.at' ≤ all[i].at' ∨ x < y.at' := fun y hy => by
   obtain ⟨j, hj, rfl⟩ := List.mem_iff_getElem.1 hy
   rcases Nat.lt_or_ge i j with hij | hij
   ·have := h.get_le (show i + 1 ≤ j by omega) hj; omega
   ·exact .inl (h.get_le hij (by omega))
  have hc : ∀ l : List Sp, (∀ s ∈ l, s ∈ a ++ b) → memS l x = memS l all[i].at' := fun l hl => memS_const' h1 fun s hs hlt => by
   obtain ⟨⟨y, hy, e⟩, z, hz, e'⟩ := h.has (hl s hs) hlt
   rw [← e, ← e']
   exact ⟨hno y hy, hno z hz⟩
  show op _ _ = op _ _
  rw [hc a ha, hc b hb]
 ·show op _ _ = _
  rw [hlo a ha x hh, hlo b hb x hh, h0]
 ·show op _ _ = _
  rw [hhi a ha x hh, hhi b hb x hh, h0]
theorem UpTo.startB {all : List Bd} {a b : List Sp} {P : Int → Bool} (h : BdsOf all a b) (hC : CutB all P) (hl : 0 < all.length) : UpTo P [] all[0].at' :=
 ⟨Normal.nil, by simp, fun x => by
  rw [memS_nil]
  by_cases h1 : x < all[0].at'
  ·rw [hC.lo x fun y hy => ?_, Bool.and_false]
   obtain ⟨j, hj, rfl⟩ := List.mem_iff_getElem.1 hy
   have := h.get_le (Nat.zero_le j) hj
   omega
  ·rw [decide_eq_false h1, Bool.false_and]⟩
theorem UpTo.finB {all : List Bd} {a b : List Sp} {P : Int → Bool} (h : BdsOf all a b) (hC : CutB all P) {out : List Sp} {i : Nat} (hi : i + 1 = all.length) (hU : UpTo P out (all[i]'(by omega)).at') : ∀ x, memS out x = P x := by
 intro x
 rw [hU.mem]
 by_cases h1 : x < (all[i]'(by omega)).at'
 ·rw [decide_eq_true h1, Bool.true_and]
 ·rw [decide_eq_false h1, Bool.false_and]
  symm
  refine hC.hi x fun y hy => ?_
  obtain ⟨j, hj, rfl⟩ := List.mem_iff_getElem.1 hy
  have := h.get_le (show j ≤ i by omega) (by omega)
  omega
end Go.Proofs.YtclkibjonbhldaaGreatDoor
/- Plain lemmas of our own, no statement of the seat: span.sweep. -/
namespace Go.Proofs.YtclkibjonbhldaaGreatDoor
set_option linter.unusedSimpArgs false
set_option linter.unusedVariables false
open Go.Proofs.YtclkibjonbhldaaGreatDoor.Vc
theorem sumB_snoc (p : Bd → Int) (all : List Bd) (i : Nat) (hi : i < all.length) : sumB p (all.take (i + 1)) = sumB p (all.take i) + p all[i] := by
 rw [List.take_succ_eq_append_getElem hi, sumB_app]
 simp only [sumB]; omega
theorem sumB_le {all : List Bd} {a b : List Sp} (h : BdsOf all a b) (k : Int) : ∀ i, i ≤ all.length → -(i : Int) ≤ sumB (byOf k) (all.take i) ∧ sumB (byOf k) (all.take i) ≤ i := by
 intro i
 induction i with
 | zero => intro _; exact ⟨Int.le_refl _, Int.le_refl _⟩
 | succ i ih =>
  intro hi
  obtain ⟨h1, h2⟩ := ih (by omega)
  rw [sumB_snoc _ _ _ (by omega)]
  have h3 := (h.mem (List.getElem_mem (show i < all.length by omega))).2.1
  unfold byOf at h1 h2 ⊢
  split <;> omega
set_option maxHeartbeats 1000000 in
theorem bSweep (f : FuncId) (hb : hasBody Tryz.prog f = true) (op : Bool → Bool → Bool) (h0 : op false false = false) (hop : ∀ (x y : Bool) (R' : RO), CallsR Tryz.prog f [.bool x, .bool y] R' fun _ u => u = .bool (op x y))
  (xs ys : List Sp) (v u : Value) (R : RO) (h : SpV R v xs) (h' : SpV R u ys) (hl : xs.length + ys.length ≤ 10000000) : CallsR Tryz.prog 92 [v, u, .func (.func f) #[] #[]] R fun R' r => ∃ zs, SpV (newR R R') r zs ∧ Normal zs ∧ (∀ t, memS zs t = op (memS xs t) (memS ys t)) ∧ zs.length ≤ 2 * (xs.length + ys.length) := by
 have hB := bBounds xs ys v u R h h' hl
 obtain ⟨a, cap, rfl, hc, hf⟩ := h.form
 obtain ⟨b, cap', rfl, hc', hf'⟩ := h'.form
 refine callsT mix Tryz.func92 comp92 (by simp [Tryz.ntmps92]) ?_; simp only [go_sem, ↓reduceIte, nQ1, nQ2, nQ3, nQ4, nQ5, nQ6, reduceCtorEq, vc92, rs92]
 refine vcall hB ?_
 rintro R1 r hle1 ⟨all, hall, hperm, hord⟩
 have hD : BdsOf all xs ys := ⟨hperm, hord⟩
 have hC := hD.cut op h0
 have hlen := hD.len
 obtain ⟨g, gcap, rfl, hgc, hg⟩ := hall.form
 obtain ⟨P, hP⟩ : ∃ P : Int → Bool, P = fun x => op (memS xs x) (memS ys x) := ⟨_, rfl⟩
 rw [← hP] at hC
 try simp only [go_sem, ↓reduceIte, nQ1, nQ2, nQ3, nQ4, nQ5, nQ6, reduceCtorEq]
 refine ⟨Int.le_refl _, by omega, ?_⟩
 refine vcLoopR (Nat × List Sp) (fun x => [(21, .val (.int .i64 x.1)), (20, .val (.int .i64 all.length)), (19, .val (.slice g all.length gcap)), (7, .val (.slice g all.length gcap)), (8, .sl 0 x.2.length), (9, .loc 1 0), (2, .val (.func (.func f) #[] #[]))]) (fun x => [.row 32 2 (rowS x.2), .box [.val (.int .i64 (sumB (byOf 0) (all.take x.1))), .val (.int .i64 (sumB (byOf 1) (all.take x.1)))]])
  (fun x _ => x.2.length ≤ x.1 ∧ x.1 ≤ all.length ∧ (∀ hi : x.1 < all.length, UpTo P x.2 (all[x.1]).at') ∧ (x.1 = all.length → Normal x.2 ∧ ∀ t, memS x.2 t = P t)) (fun x => all.length - x.1) (0, []) [] ?_ ?_ ?_ ?_
 ·have hz : ∀ k, sumB (byOf k) (all.take 0) = 0 := fun k => by rw [List.take_zero]; rfl
  simp only [hz]
  try simp only [go_sem, ↓reduceIte, nQ1, nQ2, nQ3, nQ4, nQ5, nQ6, reduceCtorEq]
  exact ⟨⟨rfl, rfl⟩, rfl⟩
 ·try simp only [go_sem, ↓reduceIte, nQ1, nQ2, nQ3, nQ4, nQ5, nQ6, reduceCtorEq]
 ·refine ⟨Nat.le_refl _, Nat.zero_le _, fun hi => UpTo.startB hD hC hi, fun hi => ⟨Normal.nil, fun t => ?_⟩⟩
  rw [memS_nil, hC.lo t (by rw [List.eq_nil_of_length_eq_zero hi.symm]; simp)]
 rintro ⟨i, out⟩ env R2 hle2 hE ⟨hol, hi, hU, hF⟩
 (simp only [go_sem] at hE; obtain ⟨e21, e20, e19, e7, e8, e9, e2⟩ := hE; simp only [go_sem, ↓reduceIte, nQ1, nQ2, nQ3, nQ4, nQ5, nQ6, reduceCtorEq, e21, e20, e19, e7, e8, e9, e2]; dsimp only at *)
 refine ⟨fun hlt => ?_, fun hge => ?_⟩
 ·have hlt' : i < all.length := by omega
  obtain ⟨ad, had, hR⟩ := hg i hlt'
  have hU := hU hlt'
  refine ⟨hlt, vat ad had ?_⟩
  try simp only [go_sem, ↓reduceIte, nQ1, nQ2, nQ3, nQ4, nQ5, nQ6, reduceCtorEq]
  refine vloadn (all[i]).cells rfl (fun k u hk => hle2 _ _ (hR k u hk)) ?_
  simp only [go_sem, ↓reduceIte, nQ1, nQ2, nQ3, nQ4, nQ5, nQ6, reduceCtorEq, Bd.cells, e21, e20, e19, e7, e8, e9, e2]
  have hm := hD.mem (List.getElem_mem hlt')
  obtain ⟨hb0l, hb0u⟩ := sumB_le hD 0 i hi
  obtain ⟨hb1l, hb1u⟩ := sumB_le hD 1 i hi
  have hs0 := sumB_snoc (byOf 0) all i hlt'
  have hs1 := sumB_snoc (byOf 1) all i hlt'
  refine ⟨by omega, by omega, ?_⟩
  obtain ⟨o0, ho0⟩ : ∃ o, o = sumB (byOf 0) (all.take (i + 1)) := ⟨_, rfl⟩
  obtain ⟨o1, ho1⟩ : ∃ o, o = sumB (byOf 1) (all.take (i + 1)) := ⟨_, rfl⟩
  obtain ⟨o, ho⟩ : ∃ o, o = if all[i].list = 0 then sumB (byOf 0) (all.take i) else sumB (byOf 1) (all.take i) := ⟨_, rfl⟩
  have hob : -(i : Int) ≤ o ∧ o ≤ i := by rw [ho]; split <;> exact ⟨by assumption, by assumption⟩
  have hget : [SV.val (.int .i64 (sumB (byOf 0) (all.take i))), SV.val (.int .i64 (sumB (byOf 1) (all.take i)))][all[i].list.toNat]? = some (.val (.int .i64 o)) := by
   rw [ho]
   rcases hm.1 with e | e <;> rw [e] <;> rfl
  have hset : [SV.val (.int .i64 (sumB (byOf 0) (all.take i))), SV.val (.int .i64 (sumB (byOf 1) (all.take i)))].set all[i].list.toNat (.val (.int .i64 (o + all[i].by'))) = [SV.val (.int .i64 o0), SV.val (.int .i64 o1)] := by
   rw [ho, ho0, ho1, hs0, hs1]
   unfold byOf
   rcases hm.1 with e | e
   ·rw [e]; simp
   ·rw [e]; simp
  rw [hget]
  simp only [go_sem, ↓reduceIte, nQ1, nQ2, nQ3, nQ4, nQ5, nQ6, reduceCtorEq, e21, e20, e19, e7, e8, e9, e2]
  have hob2 : -(i : Int) - 1 ≤ o + all[i].by' ∧ o + all[i].by' ≤ i + 1 := by omega
  refine ⟨_, W.in64 (by omega), by omega, by omega, by omega, _, W.in64 (by omega), ?_⟩
  rw [hset]
  refine ⟨fun hne => ?_, fun he => ?_⟩
  ·have hlt1 : i + 1 < all.length := by omega
   obtain ⟨ad', had', hR'⟩ := hg (i + 1) hlt1
   refine ⟨_, W.in64 (by omega), by omega, by omega, ?_⟩
   rw [show ((i : Int) + 1).toNat = i + 1 by omega]
   refine vat ad' had' ?_
   try simp only [go_sem, ↓reduceIte, nQ1, nQ2, nQ3, nQ4, nQ5, nQ6, reduceCtorEq]
   refine vload _ (hle2 _ _ (hR' 0 _ rfl)) ?_
   simp only [go_sem, ↓reduceIte, nQ1, nQ2, nQ3, nQ4, nQ5, nQ6, reduceCtorEq, e21, e20, e19, e7, e8, e9, e2]
   have hend : ∀ (o : List Sp) (h1 : i + 1 < all.length), UpTo P o (all[i + 1]'h1).at' → o.length ≤ i + 1 → (o.length ≤ i + 1 ∧ i + 1 ≤ all.length ∧ (∀ hi : i + 1 < all.length, UpTo P o (all[i + 1]'hi).at') ∧ (i + 1 = all.length → Normal o ∧ ∀ t, memS o t = P t)) := fun o h1 h2 h3 => ⟨h3, by omega, fun _ => h2, fun e => by omega⟩
   have hnext : ∀ (o : List Sp), UpTo P o (all[i + 1]'hlt1).at' → o.length ≤ i + 1 → (o.length ≤ i + 1 ∧ i + 1 ≤ all.length ∧ (∀ hi : i + 1 < all.length, UpTo P o (all[i + 1]'hi).at') ∧ (i + 1 = all.length → Normal o ∧ ∀ t, memS o t = P t)) := fun o h2 h3 => hend o hlt1 h2 h3
   refine ⟨fun hne2 => ?_, fun heq => ?_⟩
   ·have hltt : all[i].at' < all[i + 1].at' := by have := hD.get_le (show i ≤ i + 1 by omega) hlt1; omega
    obtain ⟨hop0, hop1⟩ := hD.opened hlt1 hltt
    rw [← ho0] at hop0
    rw [← ho1] at hop1
    have hcst := hC.const i hlt1
    have hPt : op (memS xs all[i].at') (memS ys all[i].at') = P all[i].at' := by rw [hP]
    refine ⟨by omega, by omega, ?_⟩
    try simp only [go_sem, ↓reduceIte, nQ1, nQ2, nQ3, nQ4, nQ5, nQ6, reduceCtorEq, iQ1, iQ2, iQ3, iQ4, iQ5, iQ6, e21, e20, e19, e7, e8, e9, e2]
    refine ⟨hb, vcall (hop _ _ _) ?_⟩
    rintro R3 r hle3 rfl
    rw [hop0, hop1, hPt]
    try simp only [go_sem, ↓reduceIte, nQ1, nQ2, nQ3, nQ4, nQ5, nQ6, reduceCtorEq, e21, e20, e19, e7, e8, e9, e2]
    obtain ⟨t, ht⟩ : ∃ t, t = all[i].at' := ⟨_, rfl⟩
    obtain ⟨t2, ht2⟩ : ∃ t, t = (all[i + 1]'hlt1).at' := ⟨_, rfl⟩
    have hUt : UpTo P out t := by rw [ht]; exact hU
    rw [← ht, ← ht2] at hltt hcst
    rw [← ht2] at hnext
    rw [← ht]
    have hld : R3 ((ad'.add ((i + 1) * 3)).add 0) (.int .i64 t2) := by rw [ht2]; exact hle3 _ _ (hle2 _ _ (hR' 0 _ rfl))
    refine ⟨fun hp => ?_, fun hp => ⟨fun hpos => ?_, fun hneg => ?_⟩⟩
    ·refine ⟨_, W.in64 (by omega), (i + 1, out), [], ?_⟩
     try simp only [go_sem, ↓reduceIte, nQ1, nQ2, nQ3, nQ4, nQ5, nQ6, reduceCtorEq]
     rw [ho0, ho1]
     exact ⟨by omega, ⟨rfl, rfl, rfl⟩, by decide, hnext out (hUt.no hltt hcst hp) (by omega)⟩
    ·have hn : out.length - 1 < out.length := by omega
     refine ⟨_, W.in64 (by omega), by omega, by omega, ?_⟩
     rw [show ((out.length : Int) - 1).toNat = out.length - 1 by omega]
     refine ⟨_, (rowS_get out (out.length - 1) 1 hn (by omega)).trans rfl, ?_⟩
     try simp only [go_sem, ↓reduceIte, nQ1, nQ2, nQ3, nQ4, nQ5, nQ6, reduceCtorEq, e21, e20, e19, e7, e8, e9, e2]
     refine ⟨fun hst => ?_, fun hst => ?_⟩
     ·obtain ⟨o, s, hos⟩ : ∃ o s, out = o ++ [s] := ⟨_, _, split_last out hn⟩
      have hs : out[out.length - 1] = s := by subst hos; simp
      rw [hs] at hst
      refine ⟨_, W.in64 (by omega), _, W.in64 (by omega), by omega, by omega, ?_⟩
      rw [show ((i : Int) + 1).toNat = i + 1 by omega]
      refine vat ad' had' ?_
      try simp only [go_sem, ↓reduceIte, nQ1, nQ2, nQ3, nQ4, nQ5, nQ6, reduceCtorEq]
      refine vload _ hld ?_
      simp only [go_sem, ↓reduceIte, nQ1, nQ2, nQ3, nQ4, nQ5, nQ6, reduceCtorEq, e21, e20, e19, e7, e8, e9, e2]
      refine ⟨by omega, by omega, by rw [rowS_len]; omega, _, W.in64 (by omega), (i + 1, o ++ [⟨s.f, t2⟩]), [], ?_⟩
      subst hos
      have hlo : (o ++ [(⟨s.f, t2⟩ : Sp)]).length = (o ++ [s]).length := by rw [List.length_append, List.length_append]; rfl
      try simp only [go_sem, ↓reduceIte, nQ1, nQ2, nQ3, nQ4, nQ5, nQ6, reduceCtorEq]
      rw [ho0, ho1]
      have hol2 : o.length + 1 ≤ i := by rw [List.length_append] at hol; exact hol
      refine ⟨by omega, ⟨rfl, ?_, rfl, rfl⟩, by decide, by omega, (hnext _ (hUt.grow hltt hcst hp hst) (by rw [hlo, List.length_append]; show o.length + 1 ≤ _; omega)).2⟩
      have h7 := rowS_grow o s t2
      rw [List.length_append, show o.length + [s].length - 1 = (((o.length + 1 : Nat) : Int) - 1).toNat by simp] at h7
      exact h7
     ·refine ⟨_, W.in64 (by omega), by omega, by omega, ?_⟩
      rw [show ((i : Int) + 1).toNat = i + 1 by omega]
      refine vat ad' had' ?_
      try simp only [go_sem, ↓reduceIte, nQ1, nQ2, nQ3, nQ4, nQ5, nQ6, reduceCtorEq]
      refine vload _ hld ?_
      simp only [go_sem, ↓reduceIte, nQ1, nQ2, nQ3, nQ4, nQ5, nQ6, reduceCtorEq, e21, e20, e19, e7, e8, e9, e2]
      refine vappO (rowS out) rfl (rowS_len out) (by omega) ?_
      simp only [go_sem, ↓reduceIte, nQ1, nQ2, nQ3, nQ4, nQ5, nQ6, reduceCtorEq, e21, e20, e19, e7, e8, e9, e2]
      refine ⟨_, W.in64 (by omega), (i + 1, out ++ [⟨t, t2⟩]), [4, 1], ?_⟩
      have hlo : (out ++ [(⟨t, t2⟩ : Sp)]).length = out.length + 1 := by rw [List.length_append]; rfl
      try simp only [go_sem, ↓reduceIte, nQ1, nQ2, nQ3, nQ4, nQ5, nQ6, reduceCtorEq]
      rw [ho0, ho1]
      exact ⟨by omega, ⟨rfl, by rw [← rowS_app]; rfl, rfl, rfl⟩, by decide, by omega, (hnext _ (hUt.new hltt hcst hp (hUt.last_ne fun _ => hst)) (by omega)).2⟩
    ·have h0 : out = [] := List.eq_nil_of_length_eq_zero (by omega)
     subst h0
     refine ⟨_, W.in64 (by omega), by omega, by omega, ?_⟩
     rw [show ((i : Int) + 1).toNat = i + 1 by omega]
     refine vat ad' had' ?_
     try simp only [go_sem, ↓reduceIte, nQ1, nQ2, nQ3, nQ4, nQ5, nQ6, reduceCtorEq]
     refine vload _ hld ?_
     simp only [go_sem, ↓reduceIte, nQ1, nQ2, nQ3, nQ4, nQ5, nQ6, reduceCtorEq, e21, e20, e19, e7, e8, e9, e2]
     refine vappO (rowS []) rfl (rowS_len []) (by omega) ?_
     simp only [go_sem, ↓reduceIte, nQ1, nQ2, nQ3, nQ4, nQ5, nQ6, reduceCtorEq, e21, e20, e19, e7, e8, e9, e2]
     refine ⟨_, W.in64 (by omega), (i + 1, [⟨t, t2⟩]), [4, 1], ?_⟩
     try simp only [go_sem, ↓reduceIte, nQ1, nQ2, nQ3, nQ4, nQ5, nQ6, reduceCtorEq]
     rw [ho0, ho1]
     exact ⟨by omega, ⟨rfl, rfl, rfl, rfl⟩, by decide, (hnext [⟨t, t2⟩] (hUt.new hltt hcst hp (by simp)) (by simp)).2⟩
   ·refine ⟨_, W.in64 (by omega), (i + 1, out), [], ?_⟩
    try simp only [go_sem, ↓reduceIte, nQ1, nQ2, nQ3, nQ4, nQ5, nQ6, reduceCtorEq]
    rw [ho0, ho1]
    exact ⟨by omega, ⟨rfl, rfl, rfl⟩, by decide, hnext out (by rw [heq]; exact hU) (by omega)⟩
  ·refine ⟨_, W.in64 (by omega), (i + 1, out), [], ?_⟩
   try simp only [go_sem, ↓reduceIte, nQ1, nQ2, nQ3, nQ4, nQ5, nQ6, reduceCtorEq]
   rw [ho0, ho1]
   exact ⟨by omega, ⟨rfl, rfl, rfl⟩, by decide, by omega, by omega, fun h1 => by omega, fun _ => ⟨hU.nor, UpTo.finB hD hC (by omega) hU⟩⟩
 ·obtain rfl : i = all.length := by omega
  obtain ⟨hn, hm⟩ := hF rfl
  intro b2 cap2 R' hle hrow hcap hfr
  rw [rowS_len] at hcap
  refine ⟨0, out.length, out.length, rfl, rfl, rfl, Nat.zero_le _, Nat.le_refl _, by omega, out, ?_, hn, fun t => by rw [hm, hP], by omega⟩
  have h2 := RowIn.enc (enc := Sp.cells) (k := 2) (cap := out.length) (fun _ => rfl) (by omega) (hrow.new hfr (RO.le_trans hle1 hle2)) (by rw [rowS_len]; omega) (by omega)
  split <;> exact h2
end Go.Proofs.YtclkibjonbhldaaGreatDoor
/- Plain lemmas of our own, no statement of the seat: span.combine, Union, Minus, Norm. -/
namespace Go.Proofs.YtclkibjonbhldaaGreatDoor
set_option linter.unusedSimpArgs false
set_option linter.unusedVariables false
open Go.Proofs.YtclkibjonbhldaaGreatDoor.Vc
def CombV (R : RO) (r : Value) (op : Bool → Bool → Bool) (xs ys : List Sp) : Prop :=
 if rangedB xs = true ∧ rangedB ys = true then ∃ v zs, r = .tuple #[v, .int .i64 0] ∧ SpV R v zs ∧ Normal zs ∧ (∀ t, memS zs t = op (memS xs t) (memS ys t)) ∧ zs.length ≤ 2 * (xs.length + ys.length)
 else r = .tuple #[.slice none 0 0, .int .i64 1]
theorem CombV.mono {R R' : RO} {r : Value} {op : Bool → Bool → Bool} {xs ys : List Sp} (h : CombV R r op xs ys) (hle : RO.le R R') : CombV R' r op xs ys := by
 unfold CombV at h ⊢
 split
 ·rename_i hc
  rw [if_pos hc] at h
  obtain ⟨v, zs, h1, h2, h3⟩ := h
  exact ⟨v, zs, h1, h2.mono hle, h3⟩
 ·rename_i hc
  rw [if_neg hc] at h
  exact h
theorem bCombine (f : FuncId) (hb : hasBody Tryz.prog f = true) (op : Bool → Bool → Bool) (h0 : op false false = false) (hop : ∀ (x y : Bool) (R' : RO), CallsR Tryz.prog f [.bool x, .bool y] R' fun _ u => u = .bool (op x y))
  (xs ys : List Sp) (v u : Value) (R : RO) (h : SpV R v xs) (h' : SpV R u ys) (hl : xs.length + ys.length ≤ 10000000) : CallsR Tryz.prog 66 [v, u, .func (.func f) #[] #[]] R fun R' r => CombV (newR R R') r op xs ys := by
 have hA := fun R' hle => bRanged xs v R' (EncV.mono (R' := R') h hle)
 have hB := fun R' hle => bRanged ys u R' (EncV.mono (R' := R') h' hle)
 have hS := fun R' hle => bSweep f hb op h0 hop xs ys v u R' (EncV.mono (R' := R') h hle) (EncV.mono (R' := R') h' hle) hl
 refine callsT mix Tryz.func66 comp66 (by simp [Tryz.ntmps66]) ?_; simp only [go_sem, ↓reduceIte, nQ1, nQ2, nQ3, nQ4, nQ5, nQ6, reduceCtorEq, vc66, rs66]
 refine vcall (hA R (RO.le_refl _)) ?_
 rintro R1 r hle1 rfl
 try simp only [go_sem, ↓reduceIte, nQ1, nQ2, nQ3, nQ4, nQ5, nQ6, reduceCtorEq]
 unfold CombV
 refine ⟨fun h1 => ?_, fun h1 => ?_⟩
 ·refine vcall (hB R1 hle1) ?_
  rintro R2 r hle2 rfl
  try simp only [go_sem, ↓reduceIte, nQ1, nQ2, nQ3, nQ4, nQ5, nQ6, reduceCtorEq]
  refine ⟨fun h2 => ?_, fun h2 => ?_⟩
  ·rw [if_neg (by simp [h2])]; trivial
  ·refine vcall (hS R2 (RO.le_trans hle1 hle2)) ?_
   rintro R3 r hle3 ⟨zs, hz, hn, hm, hl⟩
   try simp only [go_sem, ↓reduceIte, nQ1, nQ2, nQ3, nQ4, nQ5, nQ6, reduceCtorEq]
   rw [if_pos ⟨h1, h2⟩]
   exact ⟨_, zs, rfl, hz.mono (newR_sub (RO.le_trans hle1 hle2)), hn, hm, hl⟩
 ·rw [if_neg (by simp [h1])]
theorem bMinus1 (x y : Bool) (R : RO) : CallsR Tryz.prog 67 [.bool x, .bool y] R fun _ u => u = .bool (x && !y) := by
 refine callsT mix Tryz.func67 comp67 (by simp [Tryz.ntmps67]) ?_; simp only [go_sem, ↓reduceIte, nQ1, nQ2, nQ3, nQ4, nQ5, nQ6, reduceCtorEq, vc67, rs67]
 refine ⟨fun h => by simp [h], fun h => by simp [h]⟩
theorem bUnion1 (x y : Bool) (R : RO) : CallsR Tryz.prog 68 [.bool x, .bool y] R fun _ u => u = .bool (x || y) := by
 refine callsT mix Tryz.func68 comp68 (by simp [Tryz.ntmps68]) ?_; simp only [go_sem, ↓reduceIte, nQ1, nQ2, nQ3, nQ4, nQ5, nQ6, reduceCtorEq, vc68, rs68]
 refine ⟨fun h => by simp [h], fun h => by simp [h]⟩
theorem bUnion (xs ys : List Sp) (v u : Value) (R : RO) (h : SpV R v xs) (h' : SpV R u ys) (hl : xs.length + ys.length ≤ 10000000) : CallsR Tryz.prog 34 [v, u] R fun R' r => CombV (newR R R') r (fun x y => x || y) xs ys := by
 have hC := bCombine 68 (by kernel_rfl) (fun x y => x || y) rfl bUnion1 xs ys v u R h h' hl
 refine callsT mix Tryz.func34 comp34 (by simp [Tryz.ntmps34]) ?_; simp only [go_sem, ↓reduceIte, nQ1, nQ2, nQ3, nQ4, nQ5, nQ6, reduceCtorEq, vc34, rs34]
 refine vcall hC ?_
 rintro R1 r hle1 hr
 unfold CombV at hr
 split at hr
 ·rename_i hc
  obtain ⟨z, zs, rfl, hz⟩ := hr
  try simp only [go_sem, ↓reduceIte, nQ1, nQ2, nQ3, nQ4, nQ5, nQ6, reduceCtorEq]
  unfold CombV
  rw [if_pos hc]
  exact ⟨_, zs, rfl, hz⟩
 ·rename_i hc
  subst hr
  try simp only [go_sem, ↓reduceIte, nQ1, nQ2, nQ3, nQ4, nQ5, nQ6, reduceCtorEq]
  unfold CombV
  rw [if_neg hc]
theorem bMinus (xs ys : List Sp) (v u : Value) (R : RO) (h : SpV R v xs) (h' : SpV R u ys) (hl : xs.length + ys.length ≤ 10000000) : CallsR Tryz.prog 33 [v, u] R fun R' r => CombV (newR R R') r (fun x y => x && !y) xs ys := by
 have hC := bCombine 67 (by kernel_rfl) (fun x y => x && !y) rfl bMinus1 xs ys v u R h h' hl
 refine callsT mix Tryz.func33 comp33 (by simp [Tryz.ntmps33]) ?_; simp only [go_sem, ↓reduceIte, nQ1, nQ2, nQ3, nQ4, nQ5, nQ6, reduceCtorEq, vc33, rs33]
 refine vcall hC ?_
 rintro R1 r hle1 hr
 unfold CombV at hr
 split at hr
 ·rename_i hc
  obtain ⟨z, zs, rfl, hz⟩ := hr
  try simp only [go_sem, ↓reduceIte, nQ1, nQ2, nQ3, nQ4, nQ5, nQ6, reduceCtorEq]
  unfold CombV
  rw [if_pos hc]
  exact ⟨_, zs, rfl, hz⟩
 ·rename_i hc
  subst hr
  try simp only [go_sem, ↓reduceIte, nQ1, nQ2, nQ3, nQ4, nQ5, nQ6, reduceCtorEq]
  unfold CombV
  rw [if_neg hc]
theorem bNorm (xs : List Sp) (v : Value) (R : RO) (h : SpV R v xs) (hl : xs.length ≤ 10000000) : CallsR Tryz.prog 90 [v] R fun R' r => CombV (newR R R') r (fun x y => x || y) xs [] := by
 have hC := bUnion xs [] v (.slice none 0 0) R h (EncV.nil _ _ _) (by simpa using hl)
 refine callsT mix Tryz.func90 comp90 (by simp [Tryz.ntmps90]) ?_; simp only [go_sem, ↓reduceIte, nQ1, nQ2, nQ3, nQ4, nQ5, nQ6, reduceCtorEq, vc90, rs90]
 refine vcall hC ?_
 rintro R1 r hle1 hr
 unfold CombV at hr
 split at hr
 ·rename_i hc
  obtain ⟨z, zs, rfl, hz⟩ := hr
  try simp only [go_sem, ↓reduceIte, nQ1, nQ2, nQ3, nQ4, nQ5, nQ6, reduceCtorEq]
  unfold CombV
  rw [if_pos hc]
  exact ⟨_, zs, rfl, hz⟩
 ·rename_i hc
  subst hr
  try simp only [go_sem, ↓reduceIte, nQ1, nQ2, nQ3, nQ4, nQ5, nQ6, reduceCtorEq]
  unfold CombV
  rw [if_neg hc]
end Go.Proofs.YtclkibjonbhldaaGreatDoor
