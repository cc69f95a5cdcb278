/- Lemmas of our own, no statement of the seat; the last one of the claim's texts proves the law. -/
import Derived.Ground.SlsfProg
import Derived.Shelf.SortM.Plain
import Derived.Ground.SlgmProg
import Derived.Test.YtdglpgepgmdbdaaGreatDoorByc
open Nat renaming reduceEqDiff → nQ1, reduceAdd → nQ2, reduceMul → nQ3, reduceLeDiff → nQ4, reduceLT → nQ5, reduceBNe → nQ6
open Int renaming reduceLE → iQ1, reduceLT → iQ2, reduceToNat → iQ3, cast_ofNat_Int → iQ4, reduceEq → iQ5, reduceNe → iQ6
/- Plain lemmas of our own, no statement of the seat: the bounds of two lists, sorted. -/
namespace Go.Proofs.YtdglpgepgmdbdaaGreatDoor
set_option linter.unusedSectionVars false
variable [Go.Proofs.YtdglpgepgmdbdaaGreatDoor.Vc.Drew]
set_option linter.unusedSimpArgs false
set_option linter.unusedVariables false
open Go.Proofs.YtdglpgepgmdbdaaGreatDoor.Vc Go.Shelf Go.Sort
def Tryz.sortBd_ren : Go.Shelf.Ren := ⟨fun | 6 => 131 | 15 => 73 | 14 => 144 | 28 => 97 | 29 => 98 | 20 => 147 | 21 => 148 | 22 => 149 | 23 => 150 | 24 => 151 | 25 => 152 | 26 => 153 | 27 => 154 | 46 => 156 | 47 => 115 | 48 => 116 | 49 => 157 | 50 => 158 | 57 => 160 | n => n, fun | 22 => 195 | 24 => 199 | 25 => 227 | 3 => 3 | 39 => 140 | 0 => 0 | 53 => 166 | 55 => 168 | 4 => 4 | 46 => 159 | 45 => 158 | 50 => 163 | 5 => 5 | 9 => 9 | 66 => 200 | 70 => 125 | 76 => 228 | 77 => 169 | n => n, fun | n => n⟩
theorem Tryz.sortBd : Go.Proofs.SlLaysF0.n6 Tryz.prog Tryz.sortBd_ren := {
 mixed := by kernel_rfl
 f6 := ⟨Tryz.f131.name, by decide, Tryz.func131.trans (congrArg some (by kernel_rfl))⟩
 f14 := ⟨Tryz.f144.name, by decide, Tryz.func144.trans (congrArg some (by kernel_rfl))⟩
 f15 := Tryz.func73.trans (congrArg some (by kernel_rfl))
 f20 := ⟨Tryz.f147.name, by decide, Tryz.func147.trans (congrArg some (by kernel_rfl))⟩
 f21 := ⟨Tryz.f148.name, by decide, Tryz.func148.trans (congrArg some (by kernel_rfl))⟩
 f22 := ⟨Tryz.f149.name, by decide, Tryz.func149.trans (congrArg some (by kernel_rfl))⟩
 f23 := ⟨Tryz.f150.name, by decide, Tryz.func150.trans (congrArg some (by kernel_rfl))⟩
 f24 := ⟨Tryz.f151.name, by decide, Tryz.func151.trans (congrArg some (by kernel_rfl))⟩
 f25 := ⟨Tryz.f152.name, by decide, Tryz.func152.trans (congrArg some (by kernel_rfl))⟩
 f26 := ⟨Tryz.f153.name, by decide, Tryz.func153.trans (congrArg some (by kernel_rfl))⟩
 f27 := ⟨Tryz.f154.name, by decide, Tryz.func154.trans (congrArg some (by kernel_rfl))⟩
 f28 := Tryz.func97.trans (congrArg some (by kernel_rfl))
 f29 := Tryz.func98.trans (congrArg some (by kernel_rfl))
 f46 := ⟨Tryz.f156.name, by decide, Tryz.func156.trans (congrArg some (by kernel_rfl))⟩
 f47 := Tryz.func115.trans (congrArg some (by kernel_rfl))
 f48 := Tryz.func116.trans (congrArg some (by kernel_rfl))
 f49 := ⟨Tryz.f157.name, by decide, Tryz.func157.trans (congrArg some (by kernel_rfl))⟩
 f50 := ⟨Tryz.f158.name, by decide, Tryz.func158.trans (congrArg some (by kernel_rfl))⟩
 f57 := ⟨Tryz.f160.name, by decide, Tryz.func160.trans (congrArg some (by kernel_rfl))⟩
 t0 := Tryz.underlying0
 a0 := Tryz.isAgg0
 z0 := Tryz.sizeOf0
 v0 := Tryz.zeroValue0
 t3 := Tryz.underlying3
 a3 := Tryz.isAgg3
 z3 := Tryz.sizeOf3
 v3 := Tryz.zeroValue3
 t4 := Tryz.underlying4
 a4 := Tryz.isAgg4
 z4 := Tryz.sizeOf4
 v4 := Tryz.zeroValue4
 t5 := Tryz.underlying5
 a5 := Tryz.isAgg5
 z5 := Tryz.sizeOf5
 v5 := Tryz.zeroValue5
 t9 := Tryz.underlying9
 a9 := Tryz.isAgg9
 z9 := Tryz.sizeOf9
 v9 := Tryz.zeroValue9
 t22 := Tryz.underlying195
 a22 := Tryz.isAgg195
 z22 := Tryz.sizeOf195
 v22 := Tryz.zeroValue195
 t25 := Tryz.underlying227
 a25 := Tryz.isAgg227
 z25 := Tryz.sizeOf227
 v25 := Tryz.zeroValue227
 t39 := Tryz.underlying140
 a39 := Tryz.isAgg140
 z39 := Tryz.sizeOf140
 v39 := Tryz.zeroValue140
 t45 := Tryz.underlying158
 a45 := Tryz.isAgg158
 z45 := Tryz.sizeOf158
 v45 := Tryz.zeroValue158
 t46 := Tryz.underlying159
 a46 := Tryz.isAgg159
 z46 := Tryz.sizeOf159
 v46 := Tryz.zeroValue159
 t50 := Tryz.underlying163
 a50 := Tryz.isAgg163
 z50 := Tryz.sizeOf163
 v50 := Tryz.zeroValue163
 t53 := Tryz.underlying166
 a53 := Tryz.isAgg166
 z53 := Tryz.sizeOf166
 v53 := Tryz.zeroValue166
 t55 := Tryz.underlying168
 a55 := Tryz.isAgg168
 z55 := Tryz.sizeOf168
 v55 := Tryz.zeroValue168
 t66 := Tryz.underlying200
 a66 := Tryz.isAgg200
 z66 := Tryz.sizeOf200
 v66 := Tryz.zeroValue200
 t70 := Tryz.underlying125
 a70 := Tryz.isAgg125
 z70 := Tryz.sizeOf125
 v70 := Tryz.zeroValue125
 t76 := Tryz.underlying228
 a76 := Tryz.isAgg228
 z76 := Tryz.sizeOf228
 v76 := Tryz.zeroValue228
 t77 := Tryz.underlying169
 a77 := Tryz.isAgg169
 z77 := Tryz.sizeOf169
 v77 := Tryz.zeroValue169 }
structure Bd where
 at' : Int
 list : Int
 by' : Int
instance : Inhabited Bd := ⟨⟨0, 0, 0⟩⟩
def Bd.cells (b : Bd) : List Value := [.int .i64 b.at', .int .i64 b.list, .int .i64 b.by']
abbrev rowB (l : List Bd) : List Value := (l.map Bd.cells).flatten
theorem rowB_len (l : List Bd) : (rowB l).length = l.length * 3 := rowE_len (enc := Bd.cells) (k := 3) (fun _ => rfl) l
theorem Bd.one (s : Bd) : ∀ u ∈ s.cells, u.oneCell' = true := by simp [Bd.cells, Value.oneCell']
def bndOf (list : Int) (l : List Sp) : List Bd := l.flatMap fun s => if s.f < s.t then [⟨s.f, list, 1⟩, ⟨s.t, list, -1⟩] else []
theorem bndOf_len (k : Int) (l : List Sp) : (bndOf k l).length ≤ 2 * l.length := by
 induction l with
 | nil => simp [bndOf]
 | cons s l ih =>
  unfold bndOf at ih ⊢
  rw [List.flatMap_cons, List.length_append, List.length_cons]
  split <;> simp only [List.length_cons, List.length_nil] <;> omega
def cmpB (a b : Bd) : Int := cmpI a.at' b.at'
theorem bBoundCmp (a b : Bd) (R : RO) : CallsR Tryz.prog 132 [.agg a.cells.toArray, .agg b.cells.toArray] R fun _ v => v = .int .i64 (cmpB a b) := by
 simp only [Bd.cells]
 refine callsT mix Tryz.func132 comp132 (by simp [Tryz.ntmps132]) ?_; simp only [go_sem, ↓reduceIte, nQ1, nQ2, nQ3, nQ4, nQ5, nQ6, reduceCtorEq, vc132, rs132]
 refine vcall (bCompare a.at' b.at' R) ?_
 rintro R1 v h1 rfl
 try simp only [go_sem, ↓reduceIte, nQ1, nQ2, nQ3, nQ4, nQ5, nQ6, reduceCtorEq]
 rfl
theorem ltB (p q : Bd) : ltOf cmpB p q = decide (p.at' < q.at') := by
 unfold ltOf cmpB cmpI
 split
 ·simp [*]
 ·split <;> simp <;> omega
theorem cmpB_swo : SWO (ltOf cmpB) := by
 refine ⟨fun x => ?_, fun x y z h k => ?_, fun x y z h k => ?_⟩
 ·rw [ltB]; simp
 ·rw [ltB] at *; simp only [decide_eq_true_eq] at *; omega
 ·rw [ltB] at *; simp only [decide_eq_false_iff_not] at *; omega
theorem bSortBd (ps : List Bd) (hl : ps.length ≤ 1000000000) (R : RO) :
  CallsS Tryz.prog 131 [.sl 0 ps.length, .val (.func (.func 132) #[] #[])] [.row 199 3 (rowB ps)] R fun R' bs r =>
   R' = R ∧ ∃ qs : List Bd, qs.Perm ps ∧ (qs.Pairwise fun x y => x.at' ≤ y.at') ∧ bs = [.row 199 3 (rowB qs)] ∧ r = .val (.tuple #[]) := by
 have h := sortFuncS Tryz.sortBd 3 Tryz.isAgg199 Tryz.sizeOf199 Bd.cells (fun _ => rfl) Bd.one cmpB cmpB_swo 132 199
  (enters_of Tryz.func132 (by kernel_rfl) rfl) (fun x y => @bBoundCmp ⟨1⟩ x y _) ps (by omega) R
 simp only [ltB, decide_eq_false_iff_not, Int.not_lt] at h
 exact h
theorem bSortBdNil (fv : Value) (R : RO) : CallsR Tryz.prog 131 [.slice none 0 0, fv] R fun _ r => r = .tuple #[] := sortFuncNil Tryz.sortBd fv R
end Go.Proofs.YtdglpgepgmdbdaaGreatDoor
/- Plain lemmas of our own, no statement of the seat: span.bounds. -/
namespace Go.Proofs.YtdglpgepgmdbdaaGreatDoor
set_option linter.unusedSectionVars false
variable [Go.Proofs.YtdglpgepgmdbdaaGreatDoor.Vc.Drew]
set_option linter.unusedSimpArgs false
set_option linter.unusedVariables false
open Go.Proofs.YtdglpgepgmdbdaaGreatDoor.Vc
abbrev BdV := EncV Bd.cells 3
theorem rowB_app (a b : List Bd) : rowB a ++ rowB b = rowB (a ++ b) := by unfold rowB; rw [List.map_append, List.flatten_append]
theorem bndOf_snoc (k : Int) (l : List Sp) (i : Nat) (hi : i < l.length) : bndOf k (l.take (i + 1)) = bndOf k (l.take i) ++ (if l[i].f < l[i].t then [⟨l[i].f, k, 1⟩, ⟨l[i].t, k, -1⟩] else []) := by
 rw [List.take_succ_eq_append_getElem hi]
 unfold bndOf
 rw [List.flatMap_append, List.flatMap_cons, List.flatMap_nil, List.append_nil]
set_option maxHeartbeats 1000000 in
theorem bBounds (xs ys : List Sp) (v u : Value) (R : RO) (h : SpV R v xs) (h' : SpV R u ys) (hl : xs.length + ys.length ≤ 10000000) : CallsR Tryz.prog 113 [v, u] R fun R' r => ∃ l, BdV R' r l ∧ l.Perm (bndOf 0 xs ++ bndOf 1 ys) ∧ (l.Pairwise fun x y => x.at' ≤ y.at') := by
 obtain ⟨a, cap, rfl, hc, hf⟩ := h.form
 obtain ⟨b, cap', rfl, hc', hf'⟩ := h'.form
 refine callsT mix Tryz.func113 comp113 (by simp [Tryz.ntmps113]) ?_; simp only [go_sem, ↓reduceIte, nQ1, nQ2, nQ3, nQ4, nQ5, nQ6, reduceCtorEq, vc113, rs113]
 obtain ⟨O, hO⟩ : ∃ O : Nat → List Bd, O = fun i => if i = 0 then [] else if i = 1 then bndOf 0 xs else bndOf 0 xs ++ bndOf 1 ys := ⟨_, rfl⟩
 have hOl : ∀ i, (O i).length ≤ 2 * (xs.length + ys.length) := fun i => by
  have h1 := bndOf_len 0 xs
  have h2 := bndOf_len 1 ys
  rw [hO]
  dsimp only
  split
  ·simp
  ·split
   ·omega
   ·rw [List.length_append]; omega
 refine vcLoopR Nat (fun i => [(14, .val (.int .i64 i)), (13, .val (.int .i64 2)), (12, .sl 0 2), (5, gs 1 (O i).length)]) (fun i => [.row 79 1 [.slice a xs.length cap, .slice b ys.length cap'], gb 199 3 (rowB (O i))]) (fun i _ => i ≤ 2) (fun i => 2 - i) 0 [] ?_ ?_ ?_ ?_
 ·rw [hO]
  (try simp only [go_sem, ↓reduceIte, nQ1, nQ2, nQ3, nQ4, nQ5, nQ6, reduceCtorEq]) <;> (repeat' (first | rfl | trivial | constructor | (intro h; exact absurd rfl h)))
 ·try simp only [go_sem, ↓reduceIte, nQ1, nQ2, nQ3, nQ4, nQ5, nQ6, reduceCtorEq]
 ·exact Nat.zero_le _
 rintro i env R1 hle1 hE hi
 (simp only [go_sem] at hE; obtain ⟨e14, e13, e12, e5⟩ := hE; simp only [go_sem, ↓reduceIte, nQ1, nQ2, nQ3, nQ4, nQ5, nQ6, reduceCtorEq, e14, e13, e12, e5]; dsimp only at *)
 refine ⟨fun hlt => ?_, fun hge => ?_⟩
 ·have hi2 : i < 2 := by omega
  obtain ⟨l, al, cl, hgl, hR, hOn, hll⟩ : ∃ (l : List Sp) (al : Option Addr) (cl : Nat), [Value.slice a xs.length cap, Value.slice b ys.length cap'][i]? = some (.slice al l.length cl) ∧ (∀ j (hj : j < l.length), ∃ ad, al = some ad ∧ ∀ k u, (l[j].cells)[k]? = some u → R ((ad.add (j * 2)).add k) u) ∧ O (i + 1) = O i ++ bndOf i l ∧ l.length ≤ 10000000 := by
   rcases (show i = 0 ∨ i = 1 by omega) with rfl | rfl
   ·exact ⟨xs, a, cap, rfl, hf, by rw [hO]; rfl, by omega⟩
   ·exact ⟨ys, b, cap', rfl, hf', by rw [hO]; rfl, by omega⟩
  refine ⟨by omega, _, hgl, ?_⟩
  simp only [go_sem, ↓reduceIte, nQ1, nQ2, nQ3, nQ4, nQ5, nQ6, reduceCtorEq, e14, e13, e12, e5]
  obtain ⟨D, hD⟩ : ∃ D : Nat → List Bd, D = fun j => O i ++ bndOf i (l.take j) := ⟨_, rfl⟩
  have hD0 : D 0 = O i := by rw [hD]; simp [bndOf]
  have hDl : ∀ j, (D j).length ≤ 40000000 := fun j => by
   have h1 := hOl i
   have h2 := bndOf_len i (l.take j)
   rw [hD]
   simp only [List.length_append, List.length_take] at h2 ⊢
   omega
  rw [← hD0]
  refine vcLoopR Nat (fun j => [(21, .val (.int .i64 j)), (20, .val (.int .i64 l.length)), (19, .val (.slice al l.length cl)), (6, .val (.int .i64 i)), (14, .val (.int .i64 i)), (13, .val (.int .i64 2)), (12, .sl 0 2), (5, gs 1 (D j).length)]) (fun j => [.row 79 1 [.slice a xs.length cap, .slice b ys.length cap'], gb 199 3 (rowB (D j))]) (fun j _ => j ≤ l.length) (fun j => l.length - j) 0 [] ?_ ?_ ?_ ?_
  ·(try simp only [go_sem, ↓reduceIte, nQ1, nQ2, nQ3, nQ4, nQ5, nQ6, reduceCtorEq]) <;> (repeat' (first | rfl | trivial | constructor | (intro h; exact absurd rfl h)))
   all_goals first
    | (rw [hD0]; exact e5)
    | (intro h; exact gb_ne h)
  ·try simp only [go_sem, ↓reduceIte, nQ1, nQ2, nQ3, nQ4, nQ5, nQ6, reduceCtorEq]
  ·exact Nat.zero_le _
  rintro j env R2 hle2 hE hj
  (simp only [go_sem] at hE; obtain ⟨e21, e20, e19, e6, e14', e13', e12', e5'⟩ := hE; simp only [go_sem, ↓reduceIte, nQ1, nQ2, nQ3, nQ4, nQ5, nQ6, reduceCtorEq, e21, e20, e19, e6, e14', e13', e12', e5']; dsimp only at *)
  refine ⟨fun hlt2 => ?_, fun hge2 => ?_⟩
  ·have hj' : j < l.length := by omega
   have hDs : D (j + 1) = D j ++ (if l[j].f < l[j].t then [⟨l[j].f, i, 1⟩, ⟨l[j].t, i, -1⟩] else []) := by
    rw [hD]
    dsimp only
    rw [bndOf_snoc _ _ _ hj', List.append_assoc]
   obtain ⟨ad, had, hRj⟩ := hR j hj'
   refine ⟨hlt2, vat ad had ?_⟩
   try simp only [go_sem, ↓reduceIte, nQ1, nQ2, nQ3, nQ4, nQ5, nQ6, reduceCtorEq]
   refine vloadn (l[j]).cells rfl (fun k u hk => hle2 _ _ (hle1 _ _ (hRj k u hk))) ?_
   simp only [go_sem, ↓reduceIte, nQ1, nQ2, nQ3, nQ4, nQ5, nQ6, reduceCtorEq, Sp.cells, e21, e20, e19, e6, e14', e13', e12', e5']
   have hDj := hDl j
   refine ⟨fun h1 => ?_, fun h1 => ?_⟩
   ·rw [if_pos h1] at hDs
    refine vgrow (rowB (D j)) (fun h0 => by rw [gb_ne h0]; rfl) (fun h0 => by rw [h0, gb_nil]; rfl) (rowB_len (D j)) (by omega) (by omega) (by omega) ?_
    simp only [go_sem, ↓reduceIte, nQ1, nQ2, nQ3, nQ4, nQ5, nQ6, reduceCtorEq, e21, e20, e19, e6, e14', e13', e12', e5']
    refine ⟨_, W.in64 (by omega), j + 1, [0, 4], ?_⟩
    rw [hDs]
    have hDn : (D j ++ [⟨l[j].f, (i : Int), 1⟩, ⟨l[j].t, (i : Int), -1⟩] : List Bd).length = (D j).length + 2 := by simp
    rw [hDn, gs_pos (by omega)]
    try simp only [go_sem, ↓reduceIte, nQ1, nQ2, nQ3, nQ4, nQ5, nQ6, reduceCtorEq]
    refine ⟨by omega, ⟨rfl, fun _ => by rw [← rowB_app]; rfl⟩, by decide, by omega⟩
   ·rw [if_neg h1, List.append_nil] at hDs
    refine ⟨_, W.in64 (by omega), j + 1, [], ?_⟩
    rw [hDs]
    try simp only [go_sem, ↓reduceIte, nQ1, nQ2, nQ3, nQ4, nQ5, nQ6, reduceCtorEq]
    exact ⟨by omega, ⟨rfl, fun h => gb_ne h⟩, by decide, by omega⟩
  ·obtain rfl : j = l.length := by omega
   have hDe : D l.length = O (i + 1) := by rw [hOn, hD]; simp
   rw [hDe]
   refine ⟨_, W.in64 (by omega), i + 1, [], ?_⟩
   try simp only [go_sem, ↓reduceIte, nQ1, nQ2, nQ3, nQ4, nQ5, nQ6, reduceCtorEq]
   exact ⟨by omega, ⟨rfl, fun h => gb_ne h⟩, by decide, by omega⟩
 ·obtain rfl : i = 2 := by omega
  have hO2 : O 2 = bndOf 0 xs ++ bndOf 1 ys := by rw [hO]; rfl
  by_cases h0 : (O 2).length = 0
  ·rw [h0, gs_zero]
   try simp only [go_sem, ↓reduceIte, nQ1, nQ2, nQ3, nQ4, nQ5, nQ6, reduceCtorEq, allVal]
   refine vcall (bSortBdNil _ R1) ?_
   rintro R2 r hle2 rfl
   try simp only [go_sem, ↓reduceIte, nQ1, nQ2, nQ3, nQ4, nQ5, nQ6, reduceCtorEq, e14, e13, e12, e5, h0, gs_zero]
   rw [hO2] at h0
   exact ⟨[], EncV.nil _ _ _, by rw [List.eq_nil_of_length_eq_zero h0], List.Pairwise.nil⟩
  ·rw [gs_pos h0, gb_ne (fun e => h0 (by have := rowB_len (O 2); rw [e] at this; simp at this; omega))]
   try simp only [go_sem, ↓reduceIte, nQ1, nQ2, nQ3, nQ4, nQ5, nQ6, reduceCtorEq, e14, e13, e12, e5]
   have hOl2 := hOl 2
   refine vhand [1] [.sl 0 (O 2).length, .val (.func (.func 132) #[] #[])] [.row 199 3 (rowB (O 2))] (bSortBd (O 2) (by omega) R1) rfl rfl rfl ?_ (by simp) rfl rfl ?_
   ·try simp only [go_sem, ↓reduceIte, nQ1, nQ2, nQ3, nQ4, nQ5, nQ6, reduceCtorEq]
   rintro R2 bs r hle2 ⟨rfl, qs, hp, hs, rfl, rfl⟩ _
   simp only [go_sem, ↓reduceIte, nQ1, nQ2, nQ3, nQ4, nQ5, nQ6, reduceCtorEq, setG, rn, e14, e13, e12, e5]
   rw [gs_pos h0]
   try simp only [go_sem, ↓reduceIte, nQ1, nQ2, nQ3, nQ4, nQ5, nQ6, reduceCtorEq]
   have hql := hp.length_eq
   intro b2 cap2 R3 hle hrow hcap hfr
   rw [← hql]
   exact ⟨qs, RowIn.enc (fun _ => rfl) (by omega) hrow hcap (by omega), by rw [← hO2]; exact hp, hs⟩
end Go.Proofs.YtdglpgepgmdbdaaGreatDoor
/- Plain lemmas of our own, no statement of the seat: what a sweep over sorted bounds counts. -/
namespace Go.Proofs.YtdglpgepgmdbdaaGreatDoor
set_option linter.unusedSectionVars false
variable [Go.Proofs.YtdglpgepgmdbdaaGreatDoor.Vc.Drew]
set_option linter.unusedSimpArgs false
set_option linter.unusedVariables false
open Go.Proofs.YtdglpgepgmdbdaaGreatDoor.Vc
def sumB (p : Bd → Int) : List Bd → Int
 | [] => 0
 | b :: l => p b + sumB p l
theorem sumB_app (p : Bd → Int) (a b : List Bd) : sumB p (a ++ b) = sumB p a + sumB p b := by
 induction a with
 | nil => simp [sumB]
 | cons x a ih => rw [List.cons_append, sumB, sumB, ih]; omega
theorem sumB_perm (p : Bd → Int) {a b : List Bd} (h : a.Perm b) : sumB p a = sumB p b := by
 induction h with
 | nil => rfl
 | cons x _ ih => rw [sumB, sumB, ih]
 | swap x y l => simp only [sumB]; omega
 | trans _ _ h1 h2 => rw [h1, h2]
theorem sumB_congr {p q : Bd → Int} : ∀ {l : List Bd}, (∀ b ∈ l, p b = q b) → sumB p l = sumB q l
 | [], _ => rfl
 | x :: l, h => by rw [sumB, sumB, h x (by simp), sumB_congr fun b hb => h b (by simp [hb])]
theorem sumB_zero {p : Bd → Int} {l : List Bd} (h : ∀ b ∈ l, p b = 0) : sumB p l = 0 := by
 induction l with
 | nil => rfl
 | cons x l ih => rw [sumB, h x (by simp), ih fun b hb => h b (by simp [hb])]; rfl
def byOf (k : Int) (b : Bd) : Int := if b.list = k then b.by' else 0
def byTo (k t : Int) (b : Bd) : Int := if b.at' ≤ t then byOf k b else 0
theorem sumB_bndOf (k t : Int) (l : List Sp) : sumB (byTo k t) (bndOf k l) = (l.countP fun s => decide (s.f ≤ t) && decide (t < s.t) : Nat) := by
 induction l with
 | nil => rfl
 | cons s l ih =>
  unfold bndOf at ih ⊢
  rw [List.flatMap_cons, sumB_app, ih, List.countP_cons]
  by_cases h : s.f < s.t
  ·rw [if_pos h]
   simp only [sumB, byTo, byOf, if_true]
   by_cases h1 : s.f ≤ t
   ·by_cases h2 : t < s.t
    ·rw [if_pos h1, if_neg (by omega), if_pos (by simp [h1, h2])]; omega
    ·rw [if_pos h1, if_pos (by omega), if_neg (by simp [h2])]; omega
   ·rw [if_neg h1, if_neg (by omega), if_neg (by simp [h1])]; omega
  ·rw [if_neg h, if_neg (by simp; omega)]
   simp only [sumB]; omega
theorem sumB_bndOf_no (k k' t : Int) (l : List Sp) (h : k' ≠ k) : sumB (byTo k t) (bndOf k' l) = 0 := by
 refine sumB_zero fun b hb => ?_
 unfold bndOf at hb
 obtain ⟨s, _, hs⟩ := List.mem_flatMap.1 hb
 split at hs
 ·simp only [List.mem_cons, List.not_mem_nil, or_false] at hs
  rcases hs with rfl | rfl <;> simp [byTo, byOf, h]
 ·cases hs
theorem memS_count (l : List Sp) (t : Int) : memS l t = decide (0 < ((l.countP fun s => decide (s.f ≤ t) && decide (t < s.t) : Nat) : Int)) := by
 rw [Bool.eq_iff_iff, decide_eq_true_eq, memS_iff]
 rw [show (0 < ((l.countP fun s => decide (s.f ≤ t) && decide (t < s.t) : Nat) : Int)) ↔ 0 < l.countP fun s => decide (s.f ≤ t) && decide (t < s.t) by omega, List.countP_pos_iff]
 simp
structure BdsOf (all : List Bd) (a b : List Sp) : Prop where
 perm : all.Perm (bndOf 0 a ++ bndOf 1 b)
 ord : all.Pairwise fun x y => x.at' ≤ y.at'
theorem BdsOf.get_le {all : List Bd} {a b : List Sp} (h : BdsOf all a b) {i j : Nat} (hij : i ≤ j) (hj : j < all.length) : (all[i]'(by omega)).at' ≤ all[j].at' := by
 rcases Nat.eq_or_lt_of_le hij with rfl | hij
 ·exact Int.le_refl _
 ·exact List.pairwise_iff_getElem.1 h.ord i j (by omega) hj hij
theorem BdsOf.mem {all : List Bd} {a b : List Sp} (h : BdsOf all a b) {x : Bd} (hx : x ∈ all) : (x.list = 0 ∨ x.list = 1) ∧ (x.by' = 1 ∨ x.by' = -1) ∧ ∃ s ∈ a ++ b, s.f < s.t ∧ (x.at' = s.f ∨ x.at' = s.t) := by
 have hk : ∀ (k : Int) (l : List Sp), x ∈ bndOf k l → x.list = k ∧ (x.by' = 1 ∨ x.by' = -1) ∧ ∃ s ∈ l, s.f < s.t ∧ (x.at' = s.f ∨ x.at' = s.t) := fun k l hx => by
  unfold bndOf at hx
  obtain ⟨s, hs, hx⟩ := List.mem_flatMap.1 hx
  split at hx
  ·rename_i hlt
   simp only [List.mem_cons, List.not_mem_nil, or_false] at hx
   rcases hx with rfl | rfl
   ·exact ⟨rfl, .inl rfl, s, hs, hlt, .inl rfl⟩
   ·exact ⟨rfl, .inr rfl, s, hs, hlt, .inr rfl⟩
  ·cases hx
 rcases List.mem_append.1 (h.perm.mem_iff.1 hx) with hx | hx
 ·obtain ⟨h1, h2, s, hs, h3⟩ := hk _ _ hx
  exact ⟨.inl h1, h2, s, by simp [hs], h3⟩
 ·obtain ⟨h1, h2, s, hs, h3⟩ := hk _ _ hx
  exact ⟨.inr h1, h2, s, by simp [hs], h3⟩
theorem BdsOf.has {all : List Bd} {a b : List Sp} (h : BdsOf all a b) {s : Sp} (hs : s ∈ a ++ b) (hlt : s.f < s.t) : (∃ x ∈ all, x.at' = s.f) ∧ ∃ x ∈ all, x.at' = s.t := by
 have hk : ∀ (k : Int) (l : List Sp), s ∈ l → (⟨s.f, k, 1⟩ : Bd) ∈ bndOf k l ∧ (⟨s.t, k, -1⟩ : Bd) ∈ bndOf k l := fun k l hs => by
  unfold bndOf
  constructor <;> exact List.mem_flatMap.2 ⟨s, hs, by rw [if_pos hlt]; simp⟩
 rcases List.mem_append.1 hs with hs | hs
 ·exact ⟨⟨_, h.perm.mem_iff.2 (List.mem_append.2 (.inl (hk 0 a hs).1)), rfl⟩, ⟨_, h.perm.mem_iff.2 (List.mem_append.2 (.inl (hk 0 a hs).2)), rfl⟩⟩
 ·exact ⟨⟨_, h.perm.mem_iff.2 (List.mem_append.2 (.inr (hk 1 b hs).1)), rfl⟩, ⟨_, h.perm.mem_iff.2 (List.mem_append.2 (.inr (hk 1 b hs).2)), rfl⟩⟩
theorem BdsOf.len {all : List Bd} {a b : List Sp} (h : BdsOf all a b) : all.length ≤ 2 * (a.length + b.length) := by
 have h1 := h.perm.length_eq
 have h2 := bndOf_len 0 a
 have h3 := bndOf_len 1 b
 rw [List.length_append] at h1
 omega
theorem BdsOf.opened {all : List Bd} {a b : List Sp} (h : BdsOf all a b) {i : Nat} (hi : i + 1 < all.length) (hlt : (all[i]'(by omega)).at' < all[i + 1].at') :
  decide (0 < sumB (byOf 0) (all.take (i + 1))) = memS a (all[i]'(by omega)).at' ∧ decide (0 < sumB (byOf 1) (all.take (i + 1))) = memS b (all[i]'(by omega)).at' := by
 obtain ⟨t, ht⟩ : ∃ t, t = (all[i]'(by omega)).at' := ⟨_, rfl⟩
 rw [← ht] at hlt ⊢
 have hs : ∀ k, sumB (byOf k) (all.take (i + 1)) = sumB (byTo k t) (bndOf 0 a) + sumB (byTo k t) (bndOf 1 b) := fun k => by
  rw [← sumB_app, ← sumB_perm _ h.perm]
  conv => rhs; rw [← List.take_append_drop (i + 1) all]
  rw [sumB_app, sumB_zero (l := all.drop (i + 1)), Int.add_zero]
  ·refine sumB_congr fun x hx => ?_
   obtain ⟨j, hj, rfl⟩ := List.mem_take_iff_getElem.1 hx
   have := h.get_le (show j ≤ i by omega) (by omega)
   unfold byTo
   rw [if_pos (by rw [ht]; exact this)]
  ·intro x hx
   obtain ⟨j, hj, rfl⟩ := List.mem_drop_iff_getElem.1 hx
   have := h.get_le (show i + 1 ≤ i + 1 + j by omega) (by omega)
   unfold byTo
   rw [if_neg (by omega)]
 rw [hs 0, hs 1, sumB_bndOf 0, sumB_bndOf 1, sumB_bndOf_no 0 1 _ _ (by decide), sumB_bndOf_no 1 0 _ _ (by decide), Int.add_zero, Int.zero_add, memS_count, memS_count]
 exact ⟨rfl, rfl⟩
theorem memS_const' {l : List Sp} {x0 x : Int} (h : x0 ≤ x) (hn : ∀ s ∈ l, s.f < s.t → (s.f ≤ x0 ∨ x < s.f) ∧ (s.t ≤ x0 ∨ x < s.t)) : memS l x = memS l x0 := by
 rw [Bool.eq_iff_iff, memS_iff, memS_iff]
 constructor
 ·rintro ⟨s, hs, h1, h2⟩
  obtain ⟨h3, h4⟩ := hn s hs (by omega)
  exact ⟨s, hs, by omega, by omega⟩
 ·rintro ⟨s, hs, h1, h2⟩
  obtain ⟨h3, h4⟩ := hn s hs (by omega)
  exact ⟨s, hs, by omega, by omega⟩
structure CutB (all : List Bd) (P : Int → Bool) : Prop where
 const : ∀ i (hi : i + 1 < all.length) x, all[i].at' ≤ x → x < all[i + 1].at' → P x = P all[i].at'
 lo : ∀ x, (∀ y ∈ all, x < y.at') → P x = false
 hi : ∀ x, (∀ y ∈ all, y.at' ≤ x) → P x = false
theorem BdsOf.cut {all : List Bd} {a b : List Sp} (h : BdsOf all a b) (op : Bool → Bool → Bool) (h0 : op false false = false) : CutB all fun x => op (memS a x) (memS b x) := by
 have ha : ∀ s ∈ a, s ∈ a ++ b := fun s hs => by simp [hs]
 have hb : ∀ s ∈ b, s ∈ a ++ b := fun s hs => by simp [hs]
 have hlo : ∀ l : List Sp, (∀ s ∈ l, s ∈ a ++ b) → ∀ x, (∀ y ∈ all, x < y.at') → memS l x = false := fun l hl x hh => by
  cases hx : memS l x with
  | false => rfl
  | true =>
   obtain ⟨s, hs, h1, h2⟩ := memS_iff.1 hx
   obtain ⟨y, hy, e⟩ := (h.has (hl s hs) (by omega)).1
   have := hh y hy
   omega
 have hhi : ∀ l : List Sp, (∀ s ∈ l, s ∈ a ++ b) → ∀ x, (∀ y ∈ all, y.at' ≤ x) → memS l x = false := fun l hl x hh => by
  cases hx : memS l x with
  | false => rfl
  | true =>
   obtain ⟨s, hs, h1, h2⟩ := memS_iff.1 hx
   obtain ⟨y, hy, e⟩ := (h.has (hl s hs) (by omega)).2
   have := hh y hy
   omega
 refine ⟨fun i hi x h1 h2 => ?_, fun x hh => ?_, fun x hh => ?_⟩
 ·have hno : ∀ y ∈ all, y.at' ≤ all[i].at' ∨ x < y.at' := fun y hy => by
   obtain ⟨j, hj, rfl⟩ := List.mem_iff_getElem.1 hy
   rcases Nat.lt_or_ge i j with hij | hij
   ·have := h.get_le (show i + 1 ≤ j by omega) hj; omega
   ·exact .inl (h.get_le hij (by omega))
  have hc : ∀ l : List Sp, (∀ s ∈ l, s ∈ a ++ b) → memS l x = memS l all[i].at' := fun l hl => memS_const' h1 fun s hs hlt => by
   obtain ⟨⟨y, hy, e⟩, z, hz, e'⟩ := h.has (hl s hs) hlt
   rw [← e, ← e']
   exact ⟨hno y hy, hno z hz⟩
  show op _ _ = op _ _
  rw [hc a ha, hc b hb]
 ·show op _ _ = _
  rw [hlo a ha x hh, hlo b hb x hh, h0]
 ·show op _ _ = _
  rw [hhi a ha x hh, hhi b hb x hh, h0]
theorem UpTo.startB {all : List Bd} {a b : List Sp} {P : Int → Bool} (h : BdsOf all a b) (hC : CutB all P) (hl : 0 < all.length) : UpTo P [] all[0].at' :=
 ⟨Normal.nil, by simp, fun x => by
  rw [memS_nil]
  by_cases h1 : x < all[0].at'
  ·rw [hC.lo x fun y hy => ?_, Bool.and_false]
   obtain ⟨j, hj, rfl⟩ := List.mem_iff_getElem.1 hy
   have := h.get_le (Nat.zero_le j) hj
   omega
  ·rw [decide_eq_false h1, Bool.false_and]⟩
theorem UpTo.finB {all : List Bd} {a b : List Sp} {P : Int → Bool} (h : BdsOf all a b) (hC : CutB all P) {out : List Sp} {i : Nat} (hi : i + 1 = all.length) (hU : UpTo P out (all[i]'(by omega)).at') : ∀ x, memS out x = P x := by
 intro x
 rw [hU.mem]
 by_cases h1 : x < (all[i]'(by omega)).at'
 ·rw [decide_eq_true h1, Bool.true_and]
 ·rw [decide_eq_false h1, Bool.false_and]
  symm
  refine hC.hi x fun y hy => ?_
  obtain ⟨j, hj, rfl⟩ := List.mem_iff_getElem.1 hy
  have := h.get_le (show j ≤ i by omega) (by omega)
  omega
end Go.Proofs.YtdglpgepgmdbdaaGreatDoor
/- Plain lemmas of our own, no statement of the seat: span.sweep. -/
namespace Go.Proofs.YtdglpgepgmdbdaaGreatDoor
set_option linter.unusedSectionVars false
variable [Go.Proofs.YtdglpgepgmdbdaaGreatDoor.Vc.Drew]
set_option linter.unusedSimpArgs false
set_option linter.unusedVariables false
open Go.Proofs.YtdglpgepgmdbdaaGreatDoor.Vc
theorem sumB_snoc (p : Bd → Int) (all : List Bd) (i : Nat) (hi : i < all.length) : sumB p (all.take (i + 1)) = sumB p (all.take i) + p all[i] := by
 rw [List.take_succ_eq_append_getElem hi, sumB_app]
 simp only [sumB]; omega
theorem sumB_le {all : List Bd} {a b : List Sp} (h : BdsOf all a b) (k : Int) : ∀ i, i ≤ all.length → -(i : Int) ≤ sumB (byOf k) (all.take i) ∧ sumB (byOf k) (all.take i) ≤ i := by
 intro i
 induction i with
 | zero => intro _; exact ⟨Int.le_refl _, Int.le_refl _⟩
 | succ i ih =>
  intro hi
  obtain ⟨h1, h2⟩ := ih (by omega)
  rw [sumB_snoc _ _ _ (by omega)]
  have h3 := (h.mem (List.getElem_mem (show i < all.length by omega))).2.1
  unfold byOf at h1 h2 ⊢
  split <;> omega
set_option maxHeartbeats 1000000 in
theorem bSweep (f : FuncId) (hb : hasBody Tryz.prog f = true) (op : Bool → Bool → Bool) (h0 : op false false = false) (hop : ∀ (x y : Bool) (R' : RO), CallsR Tryz.prog f [.bool x, .bool y] R' fun _ u => u = .bool (op x y))
  (xs ys : List Sp) (v u : Value) (R : RO) (h : SpV R v xs) (h' : SpV R u ys) (hl : xs.length + ys.length ≤ 10000000) : CallsR Tryz.prog 88 [v, u, .func (.func f) #[] #[]] R fun R' r => ∃ zs, SpV (newR R R') r zs ∧ Normal zs ∧ (∀ t, memS zs t = op (memS xs t) (memS ys t)) ∧ zs.length ≤ 2 * (xs.length + ys.length) := by
 have hB := bBounds xs ys v u R h h' hl
 obtain ⟨a, cap, rfl, hc, hf⟩ := h.form
 obtain ⟨b, cap', rfl, hc', hf'⟩ := h'.form
 refine callsT mix Tryz.func88 comp88 (by simp [Tryz.ntmps88]) ?_; simp only [go_sem, ↓reduceIte, nQ1, nQ2, nQ3, nQ4, nQ5, nQ6, reduceCtorEq, vc88, rs88]
 refine vcall hB ?_
 rintro R1 r hle1 ⟨all, hall, hperm, hord⟩
 have hD : BdsOf all xs ys := ⟨hperm, hord⟩
 have hC := hD.cut op h0
 have hlen := hD.len
 obtain ⟨g, gcap, rfl, hgc, hg⟩ := hall.form
 obtain ⟨P, hP⟩ : ∃ P : Int → Bool, P = fun x => op (memS xs x) (memS ys x) := ⟨_, rfl⟩
 rw [← hP] at hC
 try simp only [go_sem, ↓reduceIte, nQ1, nQ2, nQ3, nQ4, nQ5, nQ6, reduceCtorEq]
 refine ⟨Int.le_refl _, by omega, ?_⟩
 refine vcLoopR (Nat × List Sp) (fun x => [(21, .val (.int .i64 x.1)), (20, .val (.int .i64 all.length)), (19, .val (.slice g all.length gcap)), (7, .val (.slice g all.length gcap)), (8, .sl 0 x.2.length), (9, .loc 1 0), (2, .val (.func (.func f) #[] #[]))]) (fun x => [.row 36 2 (rowS x.2), .box [.val (.int .i64 (sumB (byOf 0) (all.take x.1))), .val (.int .i64 (sumB (byOf 1) (all.take x.1)))]])
  (fun x _ => x.2.length ≤ x.1 ∧ x.1 ≤ all.length ∧ (∀ hi : x.1 < all.length, UpTo P x.2 (all[x.1]).at') ∧ (x.1 = all.length → Normal x.2 ∧ ∀ t, memS x.2 t = P t)) (fun x => all.length - x.1) (0, []) [] ?_ ?_ ?_ ?_
 ·have hz : ∀ k, sumB (byOf k) (all.take 0) = 0 := fun k => by rw [List.take_zero]; rfl
  simp only [hz]
  try simp only [go_sem, ↓reduceIte, nQ1, nQ2, nQ3, nQ4, nQ5, nQ6, reduceCtorEq]
  exact ⟨⟨rfl, rfl⟩, rfl⟩
 ·try simp only [go_sem, ↓reduceIte, nQ1, nQ2, nQ3, nQ4, nQ5, nQ6, reduceCtorEq]
 ·refine ⟨Nat.le_refl _, Nat.zero_le _, fun hi => UpTo.startB hD hC hi, fun hi => ⟨Normal.nil, fun t => ?_⟩⟩
  rw [memS_nil, hC.lo t (by rw [List.eq_nil_of_length_eq_zero hi.symm]; simp)]
 rintro ⟨i, out⟩ env R2 hle2 hE ⟨hol, hi, hU, hF⟩
 (simp only [go_sem] at hE; obtain ⟨e21, e20, e19, e7, e8, e9, e2⟩ := hE; simp only [go_sem, ↓reduceIte, nQ1, nQ2, nQ3, nQ4, nQ5, nQ6, reduceCtorEq, e21, e20, e19, e7, e8, e9, e2]; dsimp only at *)
 refine ⟨fun hlt => ?_, fun hge => ?_⟩
 ·have hlt' : i < all.length := by omega
  obtain ⟨ad, had, hR⟩ := hg i hlt'
  have hU := hU hlt'
  refine ⟨hlt, vat ad had ?_⟩
  try simp only [go_sem, ↓reduceIte, nQ1, nQ2, nQ3, nQ4, nQ5, nQ6, reduceCtorEq]
  refine vloadn (all[i]).cells rfl (fun k u hk => hle2 _ _ (hR k u hk)) ?_
  simp only [go_sem, ↓reduceIte, nQ1, nQ2, nQ3, nQ4, nQ5, nQ6, reduceCtorEq, Bd.cells, e21, e20, e19, e7, e8, e9, e2]
  have hm := hD.mem (List.getElem_mem hlt')
  obtain ⟨hb0l, hb0u⟩ := sumB_le hD 0 i hi
  obtain ⟨hb1l, hb1u⟩ := sumB_le hD 1 i hi
  have hs0 := sumB_snoc (byOf 0) all i hlt'
  have hs1 := sumB_snoc (byOf 1) all i hlt'
  refine ⟨by omega, by omega, ?_⟩
  obtain ⟨o0, ho0⟩ : ∃ o, o = sumB (byOf 0) (all.take (i + 1)) := ⟨_, rfl⟩
  obtain ⟨o1, ho1⟩ : ∃ o, o = sumB (byOf 1) (all.take (i + 1)) := ⟨_, rfl⟩
  obtain ⟨o, ho⟩ : ∃ o, o = if all[i].list = 0 then sumB (byOf 0) (all.take i) else sumB (byOf 1) (all.take i) := ⟨_, rfl⟩
  have hob : -(i : Int) ≤ o ∧ o ≤ i := by rw [ho]; split <;> exact ⟨by assumption, by assumption⟩
  have hget : [SV.val (.int .i64 (sumB (byOf 0) (all.take i))), SV.val (.int .i64 (sumB (byOf 1) (all.take i)))][all[i].list.toNat]? = some (.val (.int .i64 o)) := by
   rw [ho]
   rcases hm.1 with e | e <;> rw [e] <;> rfl
  have hset : [SV.val (.int .i64 (sumB (byOf 0) (all.take i))), SV.val (.int .i64 (sumB (byOf 1) (all.take i)))].set all[i].list.toNat (.val (.int .i64 (o + all[i].by'))) = [SV.val (.int .i64 o0), SV.val (.int .i64 o1)] := by
   rw [ho, ho0, ho1, hs0, hs1]
   unfold byOf
   rcases hm.1 with e | e
   ·rw [e]; simp
   ·rw [e]; simp
  rw [hget]
  simp only [go_sem, ↓reduceIte, nQ1, nQ2, nQ3, nQ4, nQ5, nQ6, reduceCtorEq, e21, e20, e19, e7, e8, e9, e2]
  have hob2 : -(i : Int) - 1 ≤ o + all[i].by' ∧ o + all[i].by' ≤ i + 1 := by omega
  refine ⟨_, W.in64 (by omega), by omega, by omega, by omega, _, W.in64 (by omega), ?_⟩
  rw [hset]
  refine ⟨fun hne => ?_, fun he => ?_⟩
  ·have hlt1 : i + 1 < all.length := by omega
   obtain ⟨ad', had', hR'⟩ := hg (i + 1) hlt1
   refine ⟨_, W.in64 (by omega), by omega, by omega, ?_⟩
   rw [show ((i : Int) + 1).toNat = i + 1 by omega]
   refine vat ad' had' ?_
   try simp only [go_sem, ↓reduceIte, nQ1, nQ2, nQ3, nQ4, nQ5, nQ6, reduceCtorEq]
   refine vload _ (hle2 _ _ (hR' 0 _ rfl)) ?_
   simp only [go_sem, ↓reduceIte, nQ1, nQ2, nQ3, nQ4, nQ5, nQ6, reduceCtorEq, e21, e20, e19, e7, e8, e9, e2]
   have hend : ∀ (o : List Sp) (h1 : i + 1 < all.length), UpTo P o (all[i + 1]'h1).at' → o.length ≤ i + 1 → (o.length ≤ i + 1 ∧ i + 1 ≤ all.length ∧ (∀ hi : i + 1 < all.length, UpTo P o (all[i + 1]'hi).at') ∧ (i + 1 = all.length → Normal o ∧ ∀ t, memS o t = P t)) := fun o h1 h2 h3 => ⟨h3, by omega, fun _ => h2, fun e => by omega⟩
   have hnext : ∀ (o : List Sp), UpTo P o (all[i + 1]'hlt1).at' → o.length ≤ i + 1 → (o.length ≤ i + 1 ∧ i + 1 ≤ all.length ∧ (∀ hi : i + 1 < all.length, UpTo P o (all[i + 1]'hi).at') ∧ (i + 1 = all.length → Normal o ∧ ∀ t, memS o t = P t)) := fun o h2 h3 => hend o hlt1 h2 h3
   refine ⟨fun hne2 => ?_, fun heq => ?_⟩
   ·have hltt : all[i].at' < all[i + 1].at' := by have := hD.get_le (show i ≤ i + 1 by omega) hlt1; omega
    obtain ⟨hop0, hop1⟩ := hD.opened hlt1 hltt
    rw [← ho0] at hop0
    rw [← ho1] at hop1
    have hcst := hC.const i hlt1
    have hPt : op (memS xs all[i].at') (memS ys all[i].at') = P all[i].at' := by rw [hP]
    refine ⟨by omega, by omega, ?_⟩
    try simp only [go_sem, ↓reduceIte, nQ1, nQ2, nQ3, nQ4, nQ5, nQ6, reduceCtorEq, iQ1, iQ2, iQ3, iQ4, iQ5, iQ6, e21, e20, e19, e7, e8, e9, e2]
    refine ⟨hb, vcall (hop _ _ _) ?_⟩
    rintro R3 r hle3 rfl
    rw [hop0, hop1, hPt]
    try simp only [go_sem, ↓reduceIte, nQ1, nQ2, nQ3, nQ4, nQ5, nQ6, reduceCtorEq, e21, e20, e19, e7, e8, e9, e2]
    obtain ⟨t, ht⟩ : ∃ t, t = all[i].at' := ⟨_, rfl⟩
    obtain ⟨t2, ht2⟩ : ∃ t, t = (all[i + 1]'hlt1).at' := ⟨_, rfl⟩
    have hUt : UpTo P out t := by rw [ht]; exact hU
    rw [← ht, ← ht2] at hltt hcst
    rw [← ht2] at hnext
    rw [← ht]
    have hld : R3 ((ad'.add ((i + 1) * 3)).add 0) (.int .i64 t2) := by rw [ht2]; exact hle3 _ _ (hle2 _ _ (hR' 0 _ rfl))
    refine ⟨fun hp => ?_, fun hp => ⟨fun hpos => ?_, fun hneg => ?_⟩⟩
    ·refine ⟨_, W.in64 (by omega), (i + 1, out), [], ?_⟩
     try simp only [go_sem, ↓reduceIte, nQ1, nQ2, nQ3, nQ4, nQ5, nQ6, reduceCtorEq]
     rw [ho0, ho1]
     exact ⟨by omega, ⟨rfl, rfl, rfl⟩, by decide, hnext out (hUt.no hltt hcst hp) (by omega)⟩
    ·have hn : out.length - 1 < out.length := by omega
     refine ⟨_, W.in64 (by omega), by omega, by omega, ?_⟩
     rw [show ((out.length : Int) - 1).toNat = out.length - 1 by omega]
     refine ⟨_, (rowS_get out (out.length - 1) 1 hn (by omega)).trans rfl, ?_⟩
     try simp only [go_sem, ↓reduceIte, nQ1, nQ2, nQ3, nQ4, nQ5, nQ6, reduceCtorEq, e21, e20, e19, e7, e8, e9, e2]
     refine ⟨fun hst => ?_, fun hst => ?_⟩
     ·obtain ⟨o, s, hos⟩ : ∃ o s, out = o ++ [s] := ⟨_, _, split_last out hn⟩
      have hs : out[out.length - 1] = s := by subst hos; simp
      rw [hs] at hst
      refine ⟨_, W.in64 (by omega), _, W.in64 (by omega), by omega, by omega, ?_⟩
      rw [show ((i : Int) + 1).toNat = i + 1 by omega]
      refine vat ad' had' ?_
      try simp only [go_sem, ↓reduceIte, nQ1, nQ2, nQ3, nQ4, nQ5, nQ6, reduceCtorEq]
      refine vload _ hld ?_
      simp only [go_sem, ↓reduceIte, nQ1, nQ2, nQ3, nQ4, nQ5, nQ6, reduceCtorEq, e21, e20, e19, e7, e8, e9, e2]
      refine ⟨by omega, by omega, by rw [rowS_len]; omega, _, W.in64 (by omega), (i + 1, o ++ [⟨s.f, t2⟩]), [], ?_⟩
      subst hos
      have hlo : (o ++ [(⟨s.f, t2⟩ : Sp)]).length = (o ++ [s]).length := by rw [List.length_append, List.length_append]; rfl
      try simp only [go_sem, ↓reduceIte, nQ1, nQ2, nQ3, nQ4, nQ5, nQ6, reduceCtorEq]
      rw [ho0, ho1]
      have hol2 : o.length + 1 ≤ i := by rw [List.length_append] at hol; exact hol
      refine ⟨by omega, ⟨rfl, ?_, rfl, rfl⟩, by decide, by omega, (hnext _ (hUt.grow hltt hcst hp hst) (by rw [hlo, List.length_append]; show o.length + 1 ≤ _; omega)).2⟩
      have h7 := rowS_grow o s t2
      rw [List.length_append, show o.length + [s].length - 1 = (((o.length + 1 : Nat) : Int) - 1).toNat by simp] at h7
      exact h7
     ·refine ⟨_, W.in64 (by omega), by omega, by omega, ?_⟩
      rw [show ((i : Int) + 1).toNat = i + 1 by omega]
      refine vat ad' had' ?_
      try simp only [go_sem, ↓reduceIte, nQ1, nQ2, nQ3, nQ4, nQ5, nQ6, reduceCtorEq]
      refine vload _ hld ?_
      simp only [go_sem, ↓reduceIte, nQ1, nQ2, nQ3, nQ4, nQ5, nQ6, reduceCtorEq, e21, e20, e19, e7, e8, e9, e2]
      refine vappO (rowS out) rfl (rowS_len out) (by omega) ?_
      simp only [go_sem, ↓reduceIte, nQ1, nQ2, nQ3, nQ4, nQ5, nQ6, reduceCtorEq, e21, e20, e19, e7, e8, e9, e2]
      refine ⟨_, W.in64 (by omega), (i + 1, out ++ [⟨t, t2⟩]), [4, 1], ?_⟩
      have hlo : (out ++ [(⟨t, t2⟩ : Sp)]).length = out.length + 1 := by rw [List.length_append]; rfl
      try simp only [go_sem, ↓reduceIte, nQ1, nQ2, nQ3, nQ4, nQ5, nQ6, reduceCtorEq]
      rw [ho0, ho1]
      exact ⟨by omega, ⟨rfl, by rw [← rowS_app]; rfl, rfl, rfl⟩, by decide, by omega, (hnext _ (hUt.new hltt hcst hp (hUt.last_ne fun _ => hst)) (by omega)).2⟩
    ·have h0 : out = [] := List.eq_nil_of_length_eq_zero (by omega)
     subst h0
     refine ⟨_, W.in64 (by omega), by omega, by omega, ?_⟩
     rw [show ((i : Int) + 1).toNat = i + 1 by omega]
     refine vat ad' had' ?_
     try simp only [go_sem, ↓reduceIte, nQ1, nQ2, nQ3, nQ4, nQ5, nQ6, reduceCtorEq]
     refine vload _ hld ?_
     simp only [go_sem, ↓reduceIte, nQ1, nQ2, nQ3, nQ4, nQ5, nQ6, reduceCtorEq, e21, e20, e19, e7, e8, e9, e2]
     refine vappO (rowS []) rfl (rowS_len []) (by omega) ?_
     simp only [go_sem, ↓reduceIte, nQ1, nQ2, nQ3, nQ4, nQ5, nQ6, reduceCtorEq, e21, e20, e19, e7, e8, e9, e2]
     refine ⟨_, W.in64 (by omega), (i + 1, [⟨t, t2⟩]), [4, 1], ?_⟩
     try simp only [go_sem, ↓reduceIte, nQ1, nQ2, nQ3, nQ4, nQ5, nQ6, reduceCtorEq]
     rw [ho0, ho1]
     exact ⟨by omega, ⟨rfl, rfl, rfl, rfl⟩, by decide, (hnext [⟨t, t2⟩] (hUt.new hltt hcst hp (by simp)) (by simp)).2⟩
   ·refine ⟨_, W.in64 (by omega), (i + 1, out), [], ?_⟩
    try simp only [go_sem, ↓reduceIte, nQ1, nQ2, nQ3, nQ4, nQ5, nQ6, reduceCtorEq]
    rw [ho0, ho1]
    exact ⟨by omega, ⟨rfl, rfl, rfl⟩, by decide, hnext out (by rw [heq]; exact hU) (by omega)⟩
  ·refine ⟨_, W.in64 (by omega), (i + 1, out), [], ?_⟩
   try simp only [go_sem, ↓reduceIte, nQ1, nQ2, nQ3, nQ4, nQ5, nQ6, reduceCtorEq]
   rw [ho0, ho1]
   exact ⟨by omega, ⟨rfl, rfl, rfl⟩, by decide, by omega, by omega, fun h1 => by omega, fun _ => ⟨hU.nor, UpTo.finB hD hC (by omega) hU⟩⟩
 ·obtain rfl : i = all.length := by omega
  obtain ⟨hn, hm⟩ := hF rfl
  intro b2 cap2 R' hle hrow hcap hfr
  rw [rowS_len] at hcap
  refine ⟨0, out.length, out.length, rfl, rfl, rfl, Nat.zero_le _, Nat.le_refl _, by omega, out, ?_, hn, fun t => by rw [hm, hP], by omega⟩
  have h2 := RowIn.enc (enc := Sp.cells) (k := 2) (cap := out.length) (fun _ => rfl) (by omega) (hrow.new hfr (RO.le_trans hle1 hle2)) (by rw [rowS_len]; omega) (by omega)
  split <;> exact h2
end Go.Proofs.YtdglpgepgmdbdaaGreatDoor
/- Plain lemmas of our own, no statement of the seat: span.combine, Union, Minus, Norm. -/
namespace Go.Proofs.YtdglpgepgmdbdaaGreatDoor
set_option linter.unusedSectionVars false
variable [Go.Proofs.YtdglpgepgmdbdaaGreatDoor.Vc.Drew]
set_option linter.unusedSimpArgs false
set_option linter.unusedVariables false
open Go.Proofs.YtdglpgepgmdbdaaGreatDoor.Vc
def CombV (R : RO) (r : Value) (op : Bool → Bool → Bool) (xs ys : List Sp) : Prop :=
 if rangedB xs = true ∧ rangedB ys = true then ∃ v zs, r = .tuple #[v, .int .i64 0] ∧ SpV R v zs ∧ Normal zs ∧ (∀ t, memS zs t = op (memS xs t) (memS ys t)) ∧ zs.length ≤ 2 * (xs.length + ys.length)
 else r = .tuple #[.slice none 0 0, .int .i64 1]
theorem CombV.mono {R R' : RO} {r : Value} {op : Bool → Bool → Bool} {xs ys : List Sp} (h : CombV R r op xs ys) (hle : RO.le R R') : CombV R' r op xs ys := by
 unfold CombV at h ⊢
 split
 ·rename_i hc
  rw [if_pos hc] at h
  obtain ⟨v, zs, h1, h2, h3⟩ := h
  exact ⟨v, zs, h1, h2.mono hle, h3⟩
 ·rename_i hc
  rw [if_neg hc] at h
  exact h
theorem bCombine (f : FuncId) (hb : hasBody Tryz.prog f = true) (op : Bool → Bool → Bool) (h0 : op false false = false) (hop : ∀ (x y : Bool) (R' : RO), CallsR Tryz.prog f [.bool x, .bool y] R' fun _ u => u = .bool (op x y))
  (xs ys : List Sp) (v u : Value) (R : RO) (h : SpV R v xs) (h' : SpV R u ys) (hl : xs.length + ys.length ≤ 10000000) : CallsR Tryz.prog 69 [v, u, .func (.func f) #[] #[]] R fun R' r => CombV (newR R R') r op xs ys := by
 have hA := fun R' hle => bRanged xs v R' (EncV.mono (R' := R') h hle)
 have hB := fun R' hle => bRanged ys u R' (EncV.mono (R' := R') h' hle)
 have hS := fun R' hle => bSweep f hb op h0 hop xs ys v u R' (EncV.mono (R' := R') h hle) (EncV.mono (R' := R') h' hle) hl
 refine callsT mix Tryz.func69 comp69 (by simp [Tryz.ntmps69]) ?_; simp only [go_sem, ↓reduceIte, nQ1, nQ2, nQ3, nQ4, nQ5, nQ6, reduceCtorEq, vc69, rs69]
 refine vcall (hA R (RO.le_refl _)) ?_
 rintro R1 r hle1 rfl
 try simp only [go_sem, ↓reduceIte, nQ1, nQ2, nQ3, nQ4, nQ5, nQ6, reduceCtorEq]
 unfold CombV
 refine ⟨fun h1 => ?_, fun h1 => ?_⟩
 ·refine vcall (hB R1 hle1) ?_
  rintro R2 r hle2 rfl
  try simp only [go_sem, ↓reduceIte, nQ1, nQ2, nQ3, nQ4, nQ5, nQ6, reduceCtorEq]
  refine ⟨fun h2 => ?_, fun h2 => ?_⟩
  ·rw [if_neg (by simp [h2])]; trivial
  ·refine vcall (hS R2 (RO.le_trans hle1 hle2)) ?_
   rintro R3 r hle3 ⟨zs, hz, hn, hm, hl⟩
   try simp only [go_sem, ↓reduceIte, nQ1, nQ2, nQ3, nQ4, nQ5, nQ6, reduceCtorEq]
   rw [if_pos ⟨h1, h2⟩]
   exact ⟨_, zs, rfl, hz.mono (newR_sub (RO.le_trans hle1 hle2)), hn, hm, hl⟩
 ·rw [if_neg (by simp [h1])]
theorem bMinus1 (x y : Bool) (R : RO) : CallsR Tryz.prog 70 [.bool x, .bool y] R fun _ u => u = .bool (x && !y) := by
 refine callsT mix Tryz.func70 comp70 (by simp [Tryz.ntmps70]) ?_; simp only [go_sem, ↓reduceIte, nQ1, nQ2, nQ3, nQ4, nQ5, nQ6, reduceCtorEq, vc70, rs70]
 refine ⟨fun h => by simp [h], fun h => by simp [h]⟩
theorem bUnion1 (x y : Bool) (R : RO) : CallsR Tryz.prog 71 [.bool x, .bool y] R fun _ u => u = .bool (x || y) := by
 refine callsT mix Tryz.func71 comp71 (by simp [Tryz.ntmps71]) ?_; simp only [go_sem, ↓reduceIte, nQ1, nQ2, nQ3, nQ4, nQ5, nQ6, reduceCtorEq, vc71, rs71]
 refine ⟨fun h => by simp [h], fun h => by simp [h]⟩
theorem bUnion (xs ys : List Sp) (v u : Value) (R : RO) (h : SpV R v xs) (h' : SpV R u ys) (hl : xs.length + ys.length ≤ 10000000) : CallsR Tryz.prog 43 [v, u] R fun R' r => CombV (newR R R') r (fun x y => x || y) xs ys := by
 have hC := bCombine 71 (by kernel_rfl) (fun x y => x || y) rfl bUnion1 xs ys v u R h h' hl
 refine callsT mix Tryz.func43 comp43 (by simp [Tryz.ntmps43]) ?_; simp only [go_sem, ↓reduceIte, nQ1, nQ2, nQ3, nQ4, nQ5, nQ6, reduceCtorEq, vc43, rs43]
 refine vcall hC ?_
 rintro R1 r hle1 hr
 unfold CombV at hr
 split at hr
 ·rename_i hc
  obtain ⟨z, zs, rfl, hz⟩ := hr
  try simp only [go_sem, ↓reduceIte, nQ1, nQ2, nQ3, nQ4, nQ5, nQ6, reduceCtorEq]
  unfold CombV
  rw [if_pos hc]
  exact ⟨_, zs, rfl, hz⟩
 ·rename_i hc
  subst hr
  try simp only [go_sem, ↓reduceIte, nQ1, nQ2, nQ3, nQ4, nQ5, nQ6, reduceCtorEq]
  unfold CombV
  rw [if_neg hc]
theorem bMinus (xs ys : List Sp) (v u : Value) (R : RO) (h : SpV R v xs) (h' : SpV R u ys) (hl : xs.length + ys.length ≤ 10000000) : CallsR Tryz.prog 39 [v, u] R fun R' r => CombV (newR R R') r (fun x y => x && !y) xs ys := by
 have hC := bCombine 70 (by kernel_rfl) (fun x y => x && !y) rfl bMinus1 xs ys v u R h h' hl
 refine callsT mix Tryz.func39 comp39 (by simp [Tryz.ntmps39]) ?_; simp only [go_sem, ↓reduceIte, nQ1, nQ2, nQ3, nQ4, nQ5, nQ6, reduceCtorEq, vc39, rs39]
 refine vcall hC ?_
 rintro R1 r hle1 hr
 unfold CombV at hr
 split at hr
 ·rename_i hc
  obtain ⟨z, zs, rfl, hz⟩ := hr
  try simp only [go_sem, ↓reduceIte, nQ1, nQ2, nQ3, nQ4, nQ5, nQ6, reduceCtorEq]
  unfold CombV
  rw [if_pos hc]
  exact ⟨_, zs, rfl, hz⟩
 ·rename_i hc
  subst hr
  try simp only [go_sem, ↓reduceIte, nQ1, nQ2, nQ3, nQ4, nQ5, nQ6, reduceCtorEq]
  unfold CombV
  rw [if_neg hc]
theorem bNorm (xs : List Sp) (v : Value) (R : RO) (h : SpV R v xs) (hl : xs.length ≤ 10000000) : CallsR Tryz.prog 42 [v] R fun R' r => CombV (newR R R') r (fun x y => x || y) xs [] := by
 have hC := bUnion xs [] v (.slice none 0 0) R h (EncV.nil _ _ _) (by simpa using hl)
 refine callsT mix Tryz.func42 comp42 (by simp [Tryz.ntmps42]) ?_; simp only [go_sem, ↓reduceIte, nQ1, nQ2, nQ3, nQ4, nQ5, nQ6, reduceCtorEq, vc42, rs42]
 refine vcall hC ?_
 rintro R1 r hle1 hr
 unfold CombV at hr
 split at hr
 ·rename_i hc
  obtain ⟨z, zs, rfl, hz⟩ := hr
  try simp only [go_sem, ↓reduceIte, nQ1, nQ2, nQ3, nQ4, nQ5, nQ6, reduceCtorEq]
  unfold CombV
  rw [if_pos hc]
  exact ⟨_, zs, rfl, hz⟩
 ·rename_i hc
  subst hr
  try simp only [go_sem, ↓reduceIte, nQ1, nQ2, nQ3, nQ4, nQ5, nQ6, reduceCtorEq]
  unfold CombV
  rw [if_neg hc]
end Go.Proofs.YtdglpgepgmdbdaaGreatDoor
/- Plain lemmas of our own, no statement of the seat: sets of instants as normal lists; how many cells a list has. -/
namespace Go.Proofs.YtdglpgepgmdbdaaGreatDoor
set_option linter.unusedSectionVars false
variable [Go.Proofs.YtdglpgepgmdbdaaGreatDoor.Vc.Drew]
set_option linter.unusedSimpArgs false
set_option linter.unusedVariables false
open Go.Proofs.YtdglpgepgmdbdaaGreatDoor.Vc
/-! ### The normal list of a union -/
def insS (s : Sp) : List Sp → List Sp
 | [] => [s]
 | x :: l => if s.t < x.f then s :: x :: l else if x.t < s.f then x :: insS s l else insS ⟨min s.f x.f, max s.t x.t⟩ l
theorem insS_low {b : Int} : ∀ (l : List Sp) (s : Sp), b < s.f → (∀ z ∈ l, b < z.f) → ∀ y ∈ insS s l, b < y.f
 | [], s, hs, _, y, hy => by simp only [insS, List.mem_cons, List.not_mem_nil, or_false] at hy; subst hy; exact hs
 | x :: l, s, hs, hl, y, hy => by
  unfold insS at hy
  have hx := hl x (by simp)
  have hl' : ∀ z ∈ l, b < z.f := fun z hz => hl z (by simp [hz])
  split at hy
  ·rcases List.mem_cons.1 hy with rfl | hy
   ·exact hs
   ·exact hl y hy
  ·split at hy
   ·rcases List.mem_cons.1 hy with rfl | hy
    ·exact hx
    ·exact insS_low l s hs hl' y hy
   ·refine insS_low l _ ?_ hl' y hy
    show b < min s.f x.f
    omega
theorem insS_normal : ∀ (l : List Sp) (s : Sp), Normal l → s.f < s.t → Normal (insS s l)
 | [], s, _, hs => ⟨fun y hy => by simp only [insS, List.mem_cons, List.not_mem_nil, or_false] at hy; subst hy; exact hs, List.pairwise_singleton _ _⟩
 | x :: l, s, h, hs => by
  have hx := h.pos x (by simp)
  have ho := (List.pairwise_cons.1 h.ord).1
  unfold insS
  split
  ·rename_i h1
   refine ⟨fun y hy => ?_, List.pairwise_cons.2 ⟨fun y hy => ?_, h.ord⟩⟩
   ·rcases List.mem_cons.1 hy with rfl | hy
    ·exact hs
    ·exact h.pos y hy
   ·rcases List.mem_cons.1 hy with rfl | hy
    ·exact h1
    ·have := ho y hy; omega
  ·split
   ·rename_i h1 h2
    have ih := insS_normal l s h.tail hs
    refine ⟨fun y hy => ?_, List.pairwise_cons.2 ⟨fun y hy => insS_low l s h2 ho y hy, ih.ord⟩⟩
    rcases List.mem_cons.1 hy with rfl | hy
    ·exact hx
    ·exact ih.pos y hy
   ·exact insS_normal l _ h.tail (by show min s.f x.f < max s.t x.t; omega)
theorem insS_mem : ∀ (l : List Sp) (s : Sp), Normal l → s.f < s.t → ∀ t, memS (insS s l) t = (memS [s] t || memS l t)
 | [], s, _, _, t => by simp [insS, memS_nil]
 | x :: l, s, h, hs, t => by
  have hx := h.pos x (by simp)
  have ho := (List.pairwise_cons.1 h.ord).1
  unfold insS
  split
  ·rw [memS_cons, memS_cons s [], memS_nil, Bool.or_false]
  ·split
   ·rw [memS_cons, insS_mem l s h.tail hs, memS_cons x l]
    cases memS [s] t <;> simp
   ·rename_i h1 h2
    rw [insS_mem l _ h.tail (by show min s.f x.f < max s.t x.t; omega), memS_cons x l, memS_cons s [], memS_cons _ [], memS_nil, Bool.or_false, Bool.or_false, ← Bool.or_assoc]
    congr 1
    rw [Bool.eq_iff_iff]
    simp only [Bool.and_eq_true, Bool.or_eq_true, decide_eq_true_eq]
    show (min s.f x.f ≤ t ∧ t < max s.t x.t) ↔ _
    omega
def normD : List Sp → List Sp
 | [] => []
 | s :: l => if s.f < s.t then insS s (normD l) else normD l
theorem normD_normal : ∀ l : List Sp, Normal (normD l)
 | [] => Normal.nil
 | s :: l => by
  unfold normD
  split
  ·rename_i h; exact insS_normal _ s (normD_normal l) h
  ·exact normD_normal l
theorem normD_mem : ∀ (l : List Sp) (t : Int), memS (normD l) t = memS l t
 | [], _ => rfl
 | s :: l, t => by
  unfold normD
  rw [memS_cons]
  split
  ·rename_i h
   rw [insS_mem _ s (normD_normal l) h, normD_mem l, memS_cons, memS_nil, Bool.or_false]
  ·rename_i h
   rw [normD_mem l]
   have : (decide (s.f ≤ t) && decide (t < s.t)) = false := by
    rw [Bool.eq_false_iff]; simp only [ne_eq, Bool.and_eq_true, decide_eq_true_eq]; omega
   rw [this, Bool.false_or]
theorem Normal.eq_normD {l zs : List Sp} (h : Normal zs) (hm : ∀ t, memS zs t = memS l t) : zs = normD l := h.ext (normD_normal l) fun t => by rw [hm, normD_mem]
def unionD (a b : List Sp) : List Sp := normD (a ++ b)
theorem unionD_normal (a b : List Sp) : Normal (unionD a b) := normD_normal _
theorem unionD_mem (a b : List Sp) (t : Int) : memS (unionD a b) t = (memS a t || memS b t) := by unfold unionD; rw [normD_mem, memS_app]
theorem Normal.eq_unionD {a b zs : List Sp} (h : Normal zs) (hm : ∀ t, memS zs t = (memS a t || memS b t)) : zs = unionD a b := h.ext (unionD_normal a b) fun t => by rw [hm, unionD_mem]
/-! ### Bounds stay in range, and aligned -/
/-- Every bound is a bound of one of the lists. -/
theorem insS_bounds (Q : Int → Prop) : ∀ (l : List Sp) (s : Sp), Q s.f ∧ Q s.t → (∀ z ∈ l, Q z.f ∧ Q z.t) → ∀ y ∈ insS s l, Q y.f ∧ Q y.t
 | [], s, hs, _, y, hy => by simp only [insS, List.mem_cons, List.not_mem_nil, or_false] at hy; subst hy; exact hs
 | x :: l, s, hs, hl, y, hy => by
  unfold insS at hy
  have hx := hl x (by simp)
  have hl' : ∀ z ∈ l, Q z.f ∧ Q z.t := fun z hz => hl z (by simp [hz])
  split at hy
  ·rcases List.mem_cons.1 hy with rfl | hy
   ·exact hs
   ·exact hl y hy
  ·split at hy
   ·rcases List.mem_cons.1 hy with rfl | hy
    ·exact hx
    ·exact insS_bounds Q l s hs hl' y hy
   ·refine insS_bounds Q l _ ⟨?_, ?_⟩ hl' y hy
    ·show Q (min s.f x.f)
     rcases Int.le_total s.f x.f with h | h
     ·rw [Int.min_eq_left h]; exact hs.1
     ·rw [Int.min_eq_right h]; exact hx.1
    ·show Q (max s.t x.t)
     rcases Int.le_total s.t x.t with h | h
     ·rw [Int.max_eq_right h]; exact hx.2
     ·rw [Int.max_eq_left h]; exact hs.2
theorem normD_bounds (Q : Int → Prop) : ∀ (l : List Sp), (∀ z ∈ l, Q z.f ∧ Q z.t) → ∀ y ∈ normD l, Q y.f ∧ Q y.t
 | [], _, y, hy => by simp [normD] at hy
 | s :: l, h, y, hy => by
  unfold normD at hy
  have h' : ∀ z ∈ l, Q z.f ∧ Q z.t := fun z hz => h z (by simp [hz])
  split at hy
  ·exact insS_bounds Q _ s (h s (by simp)) (normD_bounds Q l h') y hy
  ·exact normD_bounds Q l h' y hy
theorem rangedB_iff {l : List Sp} : rangedB l = true ↔ ∀ s ∈ l, (-2251799813685248 ≤ s.f ∧ s.f ≤ 2251799813685248) ∧ (-2251799813685248 ≤ s.t ∧ s.t ≤ 2251799813685248) := by
 unfold rangedB farB
 rw [List.all_eq_true]
 refine ⟨fun h s hs => ?_, fun h s hs => ?_⟩
 ·have := h s hs
  simp only [Bool.not_eq_true', Bool.or_eq_false_iff, decide_eq_false_iff_not] at this
  omega
 ·have := h s hs
  simp only [Bool.not_eq_true', Bool.or_eq_false_iff, decide_eq_false_iff_not]
  omega
theorem alignedB_iff {s : Sp} {n : Int} : alignedB s n = true ↔ s.f % n = 0 ∧ s.t % n = 0 := by unfold alignedB; simp
theorem normD_ranged {l : List Sp} (h : rangedB l = true) : rangedB (normD l) = true := by
 rw [rangedB_iff] at h ⊢
 exact normD_bounds (fun b => -2251799813685248 ≤ b ∧ b ≤ 2251799813685248) l h
theorem normD_aligned {l : List Sp} {n : Int} (h : (l.all fun c => alignedB c n) = true) : ((normD l).all fun c => alignedB c n) = true := by
 rw [List.all_eq_true] at h ⊢
 intro c hc
 exact alignedB_iff.2 (normD_bounds (fun b => b % n = 0) l (fun z hz => alignedB_iff.1 (h z hz)) c hc)
theorem insS_len : ∀ (l : List Sp) (s : Sp), (insS s l).length ≤ l.length + 1
 | [], s => by simp [insS]
 | x :: l, s => by
  unfold insS
  split
  ·simp
  ·split
   ·have := insS_len l s; simp only [List.length_cons]; omega
   ·have := insS_len l ⟨min s.f x.f, max s.t x.t⟩; simp only [List.length_cons]; omega
theorem normD_len : ∀ l : List Sp, (normD l).length ≤ l.length
 | [] => by simp [normD]
 | s :: l => by
  unfold normD
  have h1 := normD_len l
  split
  ·have := insS_len (normD l) s; simp only [List.length_cons]; omega
  ·simp only [List.length_cons]; omega
/-! ### How many cells -/
def countL (n : Int) : List Sp → Int
 | [] => 0
 | s :: l => (s.t - s.f) / n + countL n l
theorem countL_app (n : Int) : ∀ a b : List Sp, countL n (a ++ b) = countL n a + countL n b
 | [], b => by simp [countL]
 | s :: a, b => by simp only [List.cons_append, countL, countL_app n a b]; omega
theorem ediv_le_self' {a n : Int} (ha : 0 ≤ a) (hn : 1 ≤ n) : 0 ≤ a / n ∧ a / n ≤ a := ⟨Int.ediv_nonneg ha (by omega), Int.ediv_le_self n ha⟩
theorem countL_bd {n : Int} (hn : 1 ≤ n) (hi : Int) : ∀ (l : List Sp) (lo : Int), Normal l → lo ≤ hi → (∀ s ∈ l, lo ≤ s.f ∧ s.t ≤ hi) → 0 ≤ countL n l ∧ countL n l ≤ hi - lo
 | [], lo, _, h, _ => by simp only [countL]; omega
 | s :: l, lo, h, _, hb => by
  have hs := h.pos s (by simp)
  have h1 := hb s (by simp)
  have ho := (List.pairwise_cons.1 h.ord).1
  obtain ⟨i1, i2⟩ := countL_bd hn hi l s.t h.tail h1.2 fun y hy => ⟨by have := ho y hy; omega, (hb y (by simp [hy])).2⟩
  have := ediv_le_self' (a := s.t - s.f) (n := n) (by omega) hn
  simp only [countL]
  omega
theorem Normal.take {l : List Sp} (h : Normal l) (i : Nat) : Normal (l.take i) := ⟨fun s hs => h.pos s (List.mem_of_mem_take hs), List.Pairwise.sublist (List.take_sublist i l) h.ord⟩
theorem countL_range {n : Int} (hn : 1 ≤ n) {l : List Sp} (h : Normal l) (hr : rangedB l = true) (i : Nat) : 0 ≤ countL n (l.take i) ∧ countL n (l.take i) ≤ 4503599627370496 := by
 have := countL_bd hn 2251799813685248 (l.take i) (-2251799813685248) (h.take i) (by omega) fun s hs => by
  have := rangedB_iff.1 hr s (List.mem_of_mem_take hs)
  omega
 omega
set_option maxHeartbeats 1000000 in
theorem bCount (n : Int) (hn : 1 ≤ n) (xs : List Sp) (hx : Normal xs) (hr : rangedB xs = true) (u : Value) (ad : Addr) (cap : Nat) (R : RO) (h0 : R ad u) (h : SpV R u xs) : CallsR Tryz.prog 21 [.int .i64 n, .slice (some ad) 1 cap] R fun _ r => r = .int .i64 (countL n xs) := by
 have hxl := h.2
 obtain ⟨a, acap, rfl, hc, hf⟩ := h.form
 refine callsT mix Tryz.func21 comp21 (by simp [Tryz.ntmps21]) ?_; simp only [go_sem, ↓reduceIte, nQ1, nQ2, nQ3, nQ4, nQ5, nQ6, reduceCtorEq, vc21, rs21]
 refine vcLoop Nat (fun i => [(12, .val (.int .i64 i)), (11, .val (.int .i64 1)), (10, .val (.slice (some ad) 1 cap)), (5, .val (.int .i64 (if i = 0 then 0 else countL n xs))), (0, .val (.int .i64 n))]) (fun _ => []) (fun i _ => i ≤ 1) (fun i => 1 - i) 0 ?_ ?_ ?_ ?_
 ·(try simp only [go_sem, ↓reduceIte, nQ1, nQ2, nQ3, nQ4, nQ5, nQ6, reduceCtorEq]) <;> (repeat' (first | rfl | trivial | constructor | (intro h; exact absurd rfl h)))
 ·try simp only [go_sem, ↓reduceIte, nQ1, nQ2, nQ3, nQ4, nQ5, nQ6, reduceCtorEq]
 ·exact Nat.zero_le _
 rintro i env R1 hle1 hE hi
 (simp only [go_sem] at hE; obtain ⟨e12, e11, e10, e5, e0⟩ := hE; simp only [go_sem, ↓reduceIte, nQ1, nQ2, nQ3, nQ4, nQ5, nQ6, reduceCtorEq, e12, e11, e10, e5, e0]; dsimp only at *)
 refine ⟨fun hlt => ?_, fun hge => ?_⟩
 ·obtain rfl : i = 0 := by omega
  refine ⟨by omega, ?_⟩
  refine vload (.slice a xs.length acap) (hle1 _ _ (by simpa [Addr.add] using h0)) ?_
  simp only [go_sem, ↓reduceIte, nQ1, nQ2, nQ3, nQ4, nQ5, nQ6, reduceCtorEq, e12, e11, e10, e5, e0]
  refine vcLoop Nat (fun k => [(18, .val (.int .i64 k)), (17, .val (.int .i64 xs.length)), (16, .val (.slice a xs.length acap)), (12, .val (.int .i64 0)), (11, .val (.int .i64 1)), (10, .val (.slice (some ad) 1 cap)), (5, .val (.int .i64 (countL n (xs.take k)))), (0, .val (.int .i64 n))]) (fun _ => []) (fun k _ => k ≤ xs.length) (fun k => xs.length - k) 0 ?_ ?_ ?_ ?_
  ·(try simp only [go_sem, ↓reduceIte, nQ1, nQ2, nQ3, nQ4, nQ5, nQ6, reduceCtorEq]) <;> (repeat' (first | rfl | trivial | constructor | (intro h; exact absurd rfl h)))
  ·try simp only [go_sem, ↓reduceIte, nQ1, nQ2, nQ3, nQ4, nQ5, nQ6, reduceCtorEq]
  ·exact Nat.zero_le _
  rintro k env R2 hle2 hE hk
  (simp only [go_sem] at hE; obtain ⟨e18, e17, e16, e12', e11', e10', e5', e0'⟩ := hE; simp only [go_sem, ↓reduceIte, nQ1, nQ2, nQ3, nQ4, nQ5, nQ6, reduceCtorEq, e18, e17, e16, e12', e11', e10', e5', e0']; dsimp only at *)
  refine ⟨fun hlt2 => ?_, fun hge2 => ?_⟩
  ·have hlt3 : k < xs.length := by omega
   obtain ⟨ad2, had2, hR2⟩ := hf k hlt3
   have hm : xs[k] ∈ xs := List.getElem_mem hlt3
   have hp := hx.pos _ hm
   have hrg := rangedB_iff.1 hr _ hm
   have c1 := countL_range hn hx hr k
   have c2 := ediv_le_self' (a := xs[k].t - xs[k].f) (n := n) (by omega) hn
   refine ⟨by omega, vat ad2 had2 ?_⟩
   try simp only [go_sem, ↓reduceIte, nQ1, nQ2, nQ3, nQ4, nQ5, nQ6, reduceCtorEq]
   refine vloadn (xs[k]).cells rfl (fun j w hj => hle2 _ _ (hle1 _ _ (hR2 j w hj))) ?_
   simp only [go_sem, ↓reduceIte, nQ1, nQ2, nQ3, nQ4, nQ5, nQ6, reduceCtorEq, Sp.cells, e18, e17, e16, e12', e11', e10', e5', e0']
   refine ⟨_, W.in64 (by omega), by omega, ?_⟩
   rw [tdiv_nonneg' (by omega) (by omega)]
   refine ⟨_, W.in64 (by omega), _, W.in64 (by omega), _, W.in64 (by omega), k + 1, by omega, ?_, by omega⟩
   rw [List.take_succ_eq_append_getElem hlt3, countL_app]
   simp only [countL, Int.add_zero]
   try simp only [go_sem, ↓reduceIte, nQ1, nQ2, nQ3, nQ4, nQ5, nQ6, reduceCtorEq]
   rfl
  ·obtain rfl : k = xs.length := by omega
   refine ⟨_, W.in64 (by omega), 1, by omega, ?_, by omega⟩
   simp only [go_sem, ↓reduceIte, nQ1, nQ2, nQ3, nQ4, nQ5, nQ6, reduceCtorEq, e18, e17, e16, e12', e11', e10', e5', e0']
   exact ⟨rfl, by rw [List.take_length]⟩
 ·obtain rfl : i = 1 := by omega
  rfl
end Go.Proofs.YtdglpgepgmdbdaaGreatDoor
/- Plain lemmas of our own, no statement of the seat: the ledger, a map of accounts. -/
namespace Go.Proofs.YtdglpgepgmdbdaaGreatDoor
set_option linter.unusedSectionVars false
variable [Go.Proofs.YtdglpgepgmdbdaaGreatDoor.Vc.Drew]
set_option linter.unusedSimpArgs false
set_option linter.unusedVariables false
open Go.Proofs.YtdglpgepgmdbdaaGreatDoor.Vc
theorem nodup_inj {α : Type} {l : List α} (h : l.Nodup) {i j : Nat} {hi : i < l.length} {hj : j < l.length} (e : l[i] = l[j]) : i = j := by
 rcases Nat.lt_trichotomy i j with h1 | h1 | h1
 ·exact absurd e (List.pairwise_iff_getElem.1 h i j hi hj h1)
 ·exact h1
 ·exact absurd e.symm (List.pairwise_iff_getElem.1 h j i hj hi h1)
def seKey (s : Se) : Int × Int := (s.group, s.grain)
abbrev Le := Se × Value × Nat
def ledEnt (p : Le) : MapEntry := ⟨accV p.1.group p.1.grain, p.2.1, p.2.2⟩
structure LedOK (R : RO) (ps : List Le) (clock : Nat) : Prop where
 keys : (ps.map fun p => seKey p.1).Nodup
 born : (ps.map fun p => p.2.2).Nodup
 lt : ∀ p ∈ ps, p.2.2 < clock
 val : ∀ p ∈ ps, SpV R p.2.1 p.1.cells
theorem LedOK.mono {R R' : RO} {ps : List Le} {c : Nat} (h : LedOK R ps c) (hle : RO.le R R') : LedOK R' ps c := ⟨h.keys, h.born, h.lt, fun p hp => (h.val p hp).mono hle⟩
abbrev ents (ps : List Le) : List MapEntry := ps.map ledEnt
theorem ents_pair (ps : List Le) : ents ps = (ps.map fun p => (seKey p.1, p.2.1, p.2.2)).map (entOf pairV) := by
 rw [List.map_map]
 exact List.map_congr_left fun p _ => rfl
theorem led_find (ps : List Le) (g k : Int) : ∃ r, mfind (some [0, 0]) (accV g k) (ents ps) 0 = some r ∧ ((r = none ∧ ∀ p ∈ ps, seKey p.1 ≠ (g, k)) ∨ ∃ (j : Nat) (p : Le), r = some (j, p.2.1) ∧ ps[j]? = some p ∧ seKey p.1 = (g, k)) := by
 obtain ⟨r, h1, _, h3⟩ := mfind_list (some [0, 0]) pairV mEq_pair (g, k) (ps.map fun p => (seKey p.1, p.2.1, p.2.2)) 0
 rw [← ents_pair] at h1
 refine ⟨r, h1, ?_⟩
 rcases h3 with ⟨rfl, h4⟩ | ⟨j, x, rfl, h4, h5⟩
 ·exact .inl ⟨rfl, fun p hp => h4 _ (List.mem_map_of_mem (f := fun p : Le => (seKey p.1, p.2.1, p.2.2)) hp)⟩
 ·rw [List.getElem?_map] at h4
  obtain ⟨p, hp, rfl⟩ := Option.map_eq_some_iff.1 h4
  exact .inr ⟨j, p, by rw [Nat.zero_add], hp, h5⟩
/-! ### Plain -/
def lookD (l : List Se) (g k : Int) : List Sp := match l.find? (fun s => decide (seKey s = (g, k))) with
 | some s => s.cells
 | none => []
theorem lookD_mem {l : List Se} {g k : Int} (hn : (l.map seKey).Nodup) {s : Se} (hs : s ∈ l) (hk : seKey s = (g, k)) : lookD l g k = s.cells := by
 unfold lookD
 cases hf : l.find? (fun s => decide (seKey s = (g, k))) with
 | none => have := List.find?_eq_none.1 hf s hs; simp [hk] at this
 | some x =>
  have hx := List.find?_some hf
  have hxm := List.mem_of_find?_eq_some hf
  simp only [decide_eq_true_eq] at hx
  have : x = s := by
   obtain ⟨i, hi, rfl⟩ := List.mem_iff_getElem.1 hxm
   obtain ⟨j, hj, rfl⟩ := List.mem_iff_getElem.1 hs
   have h1 : (l.map seKey)[i]'(by simpa using hi) = (l.map seKey)[j]'(by simpa using hj) := by simp [hx, hk]
   have := nodup_inj hn h1
   subst this; rfl
  rw [this]
theorem lookD_none {l : List Se} {g k : Int} (h : ∀ s ∈ l, seKey s ≠ (g, k)) : lookD l g k = [] := by
 unfold lookD
 rw [List.find?_eq_none.2 fun s hs => by simpa using h s hs]
theorem LedOK.get {R : RO} {ps : List Le} {c : Nat} (h : LedOK R ps c) (g k : Int) : ∃ r v, mfind (some [0, 0]) (accV g k) (ents ps) 0 = some r ∧ mres (.slice none 0 0) false r = v ∧ SpV R v (lookD (ps.map (·.1)) g k) := by
 obtain ⟨r, h1, h2⟩ := led_find ps g k
 refine ⟨r, _, h1, rfl, ?_⟩
 rcases h2 with ⟨rfl, h3⟩ | ⟨j, p, rfl, h3, h4⟩
 ·rw [lookD_none fun s hs => by obtain ⟨p, hp, rfl⟩ := List.mem_map.1 hs; exact h3 p hp]
  exact EncV.nil _ _ _
 ·have hp := List.mem_of_getElem? h3
  rw [lookD_mem (s := p.1) (by rw [List.map_map]; exact h.keys) (List.mem_map_of_mem hp) h4]
  exact h.val p hp
def putD (l : List Se) (g k : Int) (cs : List Sp) : List Se := match l.findIdx? (fun s => decide (seKey s = (g, k))) with
 | some i => l.set i ⟨g, k, cs⟩
 | none => l ++ [⟨g, k, cs⟩]
theorem findIdx?_map {α β : Type} (f : α → β) (p : β → Bool) (l : List α) : (l.map f).findIdx? p = l.findIdx? (fun x => p (f x)) := by
 induction l with
 | nil => rfl
 | cons x l ih => rw [List.map_cons, List.findIdx?_cons, List.findIdx?_cons, ih]
theorem LedOK.put {R : RO} {ps : List Le} {c : Nat} (h : LedOK R ps c) (g k : Int) {u : Value} {cs : List Sp} (hu : SpV R u cs) : ∃ r ps' c', mfind (some [0, 0]) (accV g k) (ents ps) 0 = some r ∧ mset (accV g k) u (ents ps) c r = .mp (ents ps') c' ∧ LedOK R ps' c' ∧ ps'.map (·.1) = putD (ps.map (·.1)) g k cs := by
 obtain ⟨r, h1, h2⟩ := led_find ps g k
 refine ⟨r, ?_⟩
 rcases h2 with ⟨rfl, h3⟩ | ⟨j, p, rfl, h3, h4⟩
 ·refine ⟨ps ++ [(⟨g, k, cs⟩, u, c)], c + 1, h1, by simp [mset, ents, ledEnt], ⟨?_, ?_, ?_, ?_⟩, ?_⟩
  ·rw [List.map_append, List.nodup_append]
   refine ⟨h.keys, by simp, fun a ha b hb e => ?_⟩
   simp only [List.map_cons, List.map_nil, List.mem_cons, List.not_mem_nil, or_false] at hb
   obtain ⟨x, hx, rfl⟩ := List.mem_map.1 ha
   exact h3 x hx (e.trans hb)
  ·rw [List.map_append, List.nodup_append]
   refine ⟨h.born, by simp, fun a ha b hb e => ?_⟩
   simp only [List.map_cons, List.map_nil, List.mem_cons, List.not_mem_nil, or_false] at hb
   obtain ⟨x, hx, rfl⟩ := List.mem_map.1 ha
   have := h.lt x hx
   omega
  ·intro x hx
   rcases List.mem_append.1 hx with hx | hx
   ·have := h.lt x hx; omega
   ·simp only [List.mem_cons, List.not_mem_nil, or_false] at hx; subst hx; exact Nat.lt_succ_self c
  ·intro x hx
   rcases List.mem_append.1 hx with hx | hx
   ·exact h.val x hx
   ·simp only [List.mem_cons, List.not_mem_nil, or_false] at hx; subst hx; exact hu
  ·unfold putD
   rw [findIdx?_map, List.findIdx?_eq_none_iff.2 fun x hx => by simpa using h3 x hx]
   simp
 ·have hj := (List.getElem?_eq_some_iff.1 h3).1
  have hpj : ps[j] = p := (List.getElem?_eq_some_iff.1 h3).2
  have hidx : ps.findIdx? (fun x => decide (seKey x.1 = (g, k))) = some j := by
   rw [List.findIdx?_eq_some_iff_getElem]
   refine ⟨hj, by rw [hpj]; simpa using h4, fun i hi => ?_⟩
   have hne : (ps.map fun p => seKey p.1)[i]'(by simp; omega) ≠ (ps.map fun p => seKey p.1)[j]'(by simpa using hj) := fun e => by
    have := nodup_inj h.keys e
    omega
   simp only [List.getElem_map, hpj, h4] at hne
   simpa using hne
  have hmem : ∀ x ∈ ps.set j (⟨g, k, cs⟩, u, p.2.2), x = (⟨g, k, cs⟩, u, p.2.2) ∨ x ∈ ps := fun x hx => (List.mem_or_eq_of_mem_set hx).symm
  have hpm : p ∈ ps := List.mem_of_getElem? h3
  have hmap : ∀ {α : Type} (f : Le → α), f (⟨g, k, cs⟩, u, p.2.2) = f p → (ps.set j (⟨g, k, cs⟩, u, p.2.2)).map f = ps.map f := fun f hf => by
   apply List.ext_getElem?
   intro i
   rw [List.getElem?_map, List.getElem?_map, List.getElem?_set]
   by_cases hi : j = i
   ·subst hi; simp [hj, hf, hpj]
   ·rw [if_neg hi]
  refine ⟨ps.set j (⟨g, k, cs⟩, u, p.2.2), c, h1, ?_, ⟨?_, ?_, ?_, ?_⟩, ?_⟩
  ·simp only [mset]
   congr 1
   apply List.ext_getElem?
   intro i
   rw [List.getElem?_modify, List.getElem?_map, List.getElem?_map, List.getElem?_set]
   by_cases hi : j = i
   ·subst hi
    simp [hj, hpj, ledEnt]
   ·cases ps[i]? <;> simp [hi]
  ·rw [hmap (fun p => seKey p.1) h4.symm]; exact h.keys
  ·rw [hmap (fun p => p.2.2) rfl]; exact h.born
  ·intro x hx
   rcases hmem x hx with rfl | hx
   ·exact h.lt p hpm
   ·exact h.lt x hx
  ·intro x hx
   rcases hmem x hx with rfl | hx
   ·exact hu
   ·exact h.val x hx
  ·unfold putD
   rw [findIdx?_map, hidx, List.map_set]
theorem putD_keys {l : List Se} {g k : Int} {cs : List Sp} (hn : (l.map seKey).Nodup) : ((putD l g k cs).map seKey).Nodup := by
 unfold putD
 split
 ·rename_i i hi
  obtain ⟨hil, hk, _⟩ := List.findIdx?_eq_some_iff_getElem.1 hi
  simp only [decide_eq_true_eq] at hk
  have : (l.set i ⟨g, k, cs⟩).map seKey = l.map seKey := by
   apply List.ext_getElem?
   intro j
   rw [List.getElem?_map, List.getElem?_map, List.getElem?_set]
   by_cases hj : i = j
   ·subst hj; simp [hil, hk]; rfl
   ·rw [if_neg hj]
  rw [this]; exact hn
 ·rename_i hi
  rw [List.map_append, List.nodup_append]
  refine ⟨hn, by simp, fun a ha b hb e => ?_⟩
  simp only [List.map_cons, List.map_nil, List.mem_cons, List.not_mem_nil, or_false] at hb
  obtain ⟨x, hx, rfl⟩ := List.mem_map.1 ha
  have := List.findIdx?_eq_none_iff.1 hi x hx
  simp only [decide_eq_false_iff_not] at this
  exact this (e.trans hb)
theorem putD_mem {l : List Se} {g k : Int} {cs : List Sp} (hn : (l.map seKey).Nodup) (s : Se) : s ∈ putD l g k cs ↔ s = ⟨g, k, cs⟩ ∨ (s ∈ l ∧ seKey s ≠ (g, k)) := by
 unfold putD
 split
 ·rename_i i hi
  obtain ⟨hil, hk, _⟩ := List.findIdx?_eq_some_iff_getElem.1 hi
  simp only [decide_eq_true_eq] at hk
  have hinj : ∀ j (hj : j < l.length), seKey l[j] = (g, k) → j = i := fun j hj e => by
   have h1 : (l.map seKey)[j]'(by simpa using hj) = (l.map seKey)[i]'(by simpa using hil) := by simp [e, hk]
   exact nodup_inj hn h1
  constructor
  ·intro h
   obtain ⟨j, hj, rfl⟩ := List.mem_iff_getElem.1 h
   rw [List.getElem_set]
   split
   ·exact .inl rfl
   ·rename_i hne
    have hj' : j < l.length := by simpa using hj
    exact .inr ⟨List.getElem_mem hj', fun e => hne (hinj j hj' e).symm⟩
  ·rintro (rfl | ⟨h, hne⟩)
   ·exact List.mem_iff_getElem.2 ⟨i, by simpa using hil, by simp⟩
   ·obtain ⟨j, hj, rfl⟩ := List.mem_iff_getElem.1 h
    refine List.mem_iff_getElem.2 ⟨j, by simpa using hj, ?_⟩
    rw [List.getElem_set, if_neg]
    intro e; subst e; exact hne hk
 ·rename_i hi
  rw [List.mem_append, List.mem_singleton]
  constructor
  ·rintro (h | h)
   ·have := List.findIdx?_eq_none_iff.1 hi s h
    simp only [decide_eq_false_iff_not] at this
    exact .inr ⟨h, this⟩
   ·exact .inl h
  ·rintro (h | h)
   ·exact .inr h
   ·exact .inl h.1
/-! ### open -/
set_option maxHeartbeats 1000000 in
theorem bOpen (b : Bu) (hk : (b.spent.map seKey).Nodup) (v : Value) (R : RO) (h : BuV R v b) : CallsS Tryz.prog 18 [.val v] [] R fun R' bs r =>
  R' = R ∧ ∃ ps c cs, bs = [.box cs, .mp (ents ps) c] ∧ r = .mp 1 ∧ LedOK R ps c ∧ ps.map (·.1) = b.spent := by
 obtain ⟨gv, sv, rfl, hg, hs⟩ := h
 obtain ⟨hgl, ga, gcap, rfl, hgc, -⟩ := hg.form
 obtain ⟨hsl, a, cap, rfl, hc, hf⟩ := hs.form
 refine callsTS mix Tryz.func18 comp18 (by simp [Tryz.ntmps18]) rfl rfl ?_; simp only [go_sem, ↓reduceIte, nQ1, nQ2, nQ3, nQ4, nQ5, nQ6, reduceCtorEq, vc18, rs18]
 refine vcLoop (Nat × List Le × Nat) (fun x => [(10, .val (.int .i64 x.1)), (9, .val (.int .i64 b.spent.length)), (8, .val (.slice a b.spent.length cap)), (3, .mp 1)]) (fun x => [.box [.val (.int .i64 b.limit), .val (.slice ga b.groups.length gcap), .val (.slice a b.spent.length cap)], .mp (ents x.2.1) x.2.2])
  (fun x R' => x.1 ≤ b.spent.length ∧ R' = R ∧ LedOK R x.2.1 x.2.2 ∧ x.2.1.map (·.1) = b.spent.take x.1) (fun x => b.spent.length - x.1) (0, [], 0) ?_ ?_ ?_ ?_
 ·(try simp only [go_sem, ↓reduceIte, nQ1, nQ2, nQ3, nQ4, nQ5, nQ6, reduceCtorEq]) <;> (repeat' (first | rfl | trivial | constructor | (intro h; exact absurd rfl h)))
 ·try simp only [go_sem, ↓reduceIte, nQ1, nQ2, nQ3, nQ4, nQ5, nQ6, reduceCtorEq]
 ·exact ⟨Nat.zero_le _, rfl, ⟨by simp, by simp, by simp, by simp⟩, by simp⟩
 rintro ⟨i, ps, c⟩ env R1 hle1 hE ⟨hi, rfl, hL, hps⟩
 (simp only [go_sem] at hE; obtain ⟨e10, e9, e8, e3⟩ := hE; simp only [go_sem, ↓reduceIte, nQ1, nQ2, nQ3, nQ4, nQ5, nQ6, reduceCtorEq, e10, e9, e8, e3]; dsimp only at *)
 refine ⟨fun hlt => ?_, fun hge => ?_⟩
 ·have hlt' : i < b.spent.length := by omega
  obtain ⟨ad, u, had, hR, hu⟩ := hf i hlt'
  obtain ⟨ua, ucap, rfl, -, -⟩ := hu.form
  refine ⟨by omega, vat ad had ?_⟩
  try simp only [go_sem, ↓reduceIte, nQ1, nQ2, nQ3, nQ4, nQ5, nQ6, reduceCtorEq]
  refine vloadn (seCells (b.spent[i], _)) rfl (fun j w hj => hR j w hj) ?_
  simp only [go_sem, ↓reduceIte, nQ1, nQ2, nQ3, nQ4, nQ5, nQ6, reduceCtorEq, seCells, e10, e9, e8, e3]
  obtain ⟨r, ps', c', q1, q2, q3, q4⟩ := hL.put b.spent[i].group b.spent[i].grain hu
  refine ⟨mEq_pair (b.spent[i].group, b.spent[i].grain) (b.spent[i].group, b.spent[i].grain) |>.trans (by simp), vmput (ents ps) c r rfl q1 ?_⟩
  rw [q2]
  simp only [go_sem, ↓reduceIte, nQ1, nQ2, nQ3, nQ4, nQ5, nQ6, reduceCtorEq, e10, e9, e8, e3]
  refine ⟨_, W.in64 (by omega), (i + 1, ps', c'), by show _ - (i + 1) < _ - i; omega, ⟨rfl, rfl⟩, by show i + 1 ≤ _; omega, q3, ?_⟩
  show ps'.map (·.1) = _
  rw [q4, hps, List.take_succ_eq_append_getElem hlt']
  unfold putD
  rw [List.findIdx?_eq_none_iff.2 fun x hx => ?_]
  obtain ⟨j, hj, rfl⟩ := List.mem_take_iff_getElem.1 hx
  simp only [decide_eq_false_iff_not]
  intro e
  have h1 : (b.spent.map seKey)[j]'(by simp; omega) = (b.spent.map seKey)[i]'(by simpa using hlt') := by simp only [List.getElem_map]; exact e
  have := nodup_inj hk h1
  omega
 ·obtain rfl : i = b.spent.length := by omega
  rw [List.take_length] at hps
  exact ⟨ps, c, _, ⟨rfl, rfl⟩, hL, hps⟩
end Go.Proofs.YtdglpgepgmdbdaaGreatDoor
/- Plain lemmas of our own, no statement of the seat: the ledger's add, known, total. -/
namespace Go.Proofs.YtdglpgepgmdbdaaGreatDoor
set_option linter.unusedSectionVars false
variable [Go.Proofs.YtdglpgepgmdbdaaGreatDoor.Vc.Drew]
set_option linter.unusedSimpArgs false
set_option linter.unusedVariables false
open Go.Proofs.YtdglpgepgmdbdaaGreatDoor.Vc
theorem CombV.or {R : RO} {r : Value} {xs ys : List Sp} (h : CombV R r (fun x y => x || y) xs ys) (hx : rangedB xs = true) (hy : rangedB ys = true) : ∃ v, r = .tuple #[v, .int .i64 0] ∧ SpV R v (unionD xs ys) := by
 unfold CombV at h
 rw [if_pos ⟨hx, hy⟩] at h
 obtain ⟨v, zs, h1, h2, h3, h4, _⟩ := h
 rw [h3.eq_unionD h4] at h2
 exact ⟨v, h1, h2⟩
theorem rangedB_app {a b : List Sp} : rangedB (a ++ b) = (rangedB a && rangedB b) := by unfold rangedB; rw [List.all_append]
theorem unionD_nil (a : List Sp) : unionD a [] = normD a := by unfold unionD; rw [List.append_nil]
def addP (l : List Se) (g k : Int) (cs : List Sp) : List Se := if unionD (lookD l g k) cs = [] then l else putD l g k (unionD (lookD l g k) cs)
theorem bAdd (ps : List Le) (c : Nat) (g k : Int) (cs : List Sp) (u : Value) (R : RO) (hL : LedOK R ps c) (hu : SpV R u cs) (hr1 : rangedB (lookD (ps.map (·.1)) g k) = true) (hr2 : rangedB cs = true) (hl : (lookD (ps.map (·.1)) g k).length + cs.length ≤ 10000000) :
  CallsS Tryz.prog 22 [.mp 0, .val (accV g k), .val u] [.mp (ents ps) c] R fun R' bs r =>
  ∃ ps' c' bx, bs = [.mp (ents ps') c', .box bx] ∧ r = .val (.tuple #[]) ∧ LedOK R' ps' c' ∧ ps'.map (·.1) = addP (ps.map (·.1)) g k cs := by
 obtain ⟨r, v, q1, q2, q3⟩ := hL.get g k
 refine callsTS mix Tryz.func22 comp22 (by simp [Tryz.ntmps22]) rfl rfl ?_; simp only [go_sem, ↓reduceIte, nQ1, nQ2, nQ3, nQ4, nQ5, nQ6, reduceCtorEq, vc22, rs22]
 refine vmget (ents ps) c r (mEq_pair (g, k) (g, k) |>.trans (by simp)) rfl q1 ?_
 rw [q2]
 try simp only [go_sem, ↓reduceIte, nQ1, nQ2, nQ3, nQ4, nQ5, nQ6, reduceCtorEq]
 refine vcall (bUnion _ _ _ _ R q3 hu hl) ?_
 intro R1 w hle1 hw
 obtain ⟨z, rfl, hz⟩ := hw.or hr1 hr2
 have hz1 := hz.mono newR_le
 obtain ⟨za, zcap, rfl, -, -⟩ := hz.form
 try simp only [go_sem, ↓reduceIte, nQ1, nQ2, nQ3, nQ4, nQ5, nQ6, reduceCtorEq]
 unfold addP
 refine ⟨fun h1 => ?_, fun h1 => ?_⟩
 ·obtain ⟨r', ps', c', p1, p2, p3, p4⟩ := (hL.mono hle1).put g k hz1
  refine ⟨mEq_pair (g, k) (g, k) |>.trans (by simp), vmput (ents ps) c r' rfl p1 ?_⟩
  rw [p2]
  try simp only [go_sem, ↓reduceIte, nQ1, nQ2, nQ3, nQ4, nQ5, nQ6, reduceCtorEq]
  rw [if_neg (fun e => by rw [e] at h1; simp at h1)]
  exact ⟨ps', c', _, ⟨rfl, rfl⟩, p3, p4⟩
 ·rw [if_pos (List.eq_nil_of_length_eq_zero (by omega))]
  exact ⟨ps, c, _, ⟨rfl, rfl⟩, hL.mono hle1, rfl⟩
def knownL (l : List Se) (g k : Int) (n : Nat) : List Sp := (List.range n).flatMap fun j : Nat => lookD l g (k + j)
def knownD (l : List Se) (g k : Int) : List Sp := normD (knownL l g k (5 - k).toNat)
theorem knownL_succ (l : List Se) (g k : Int) (n : Nat) : knownL l g k (n + 1) = knownL l g k n ++ lookD l g (k + n) := by
 unfold knownL
 rw [List.range_succ, List.flatMap_append, List.flatMap_singleton]
structure SmallL (l : List Se) : Prop where
 rng : ∀ s ∈ l, rangedB s.cells = true
 len : ∀ s ∈ l, s.cells.length ≤ 100000
theorem SmallL.look {l : List Se} (h : SmallL l) (g k : Int) : rangedB (lookD l g k) = true ∧ (lookD l g k).length ≤ 100000 := by
 unfold lookD
 split
 ·rename_i s hs
  have := List.mem_of_find?_eq_some hs
  exact ⟨h.rng s this, h.len s this⟩
 ·exact ⟨rfl, by simp⟩
theorem SmallL.knownL {l : List Se} (h : SmallL l) (g k : Int) : ∀ n, rangedB (knownL l g k n) = true ∧ (knownL l g k n).length ≤ n * 100000
 | 0 => ⟨rfl, Nat.zero_le _⟩
 | n + 1 => by
  obtain ⟨h1, h2⟩ := SmallL.knownL h g k n
  obtain ⟨h3, h4⟩ := h.look g (k + n)
  rw [knownL_succ, rangedB_app, h1, h3, List.length_append]
  exact ⟨rfl, by omega⟩
set_option maxHeartbeats 1000000 in
theorem bKnown (ps : List Le) (c : Nat) (g k : Int) (hk : 1 ≤ k ∧ k ≤ 4) (R : RO) (hL : LedOK R ps c) (hs : SmallL (ps.map (·.1))) : CallsS Tryz.prog 40 [.mp 0, .val (.int .i64 g), .val (.int .i64 k)] [.mp (ents ps) c] R fun R' bs r =>
  bs = [.mp (ents ps) c, .dead] ∧ ∃ v, r = .val v ∧ SpV (newR R R') v (knownD (ps.map (·.1)) g k) := by
 obtain ⟨l, hl⟩ : ∃ l, l = ps.map (·.1) := ⟨_, rfl⟩
 have hget := fun k' => hL.get g k'
 rw [← hl] at hs ⊢
 simp only [← hl] at hget
 refine callsTS mix Tryz.func40 comp40 (by simp [Tryz.ntmps40]) rfl rfl ?_; simp only [go_sem, ↓reduceIte, nQ1, nQ2, nQ3, nQ4, nQ5, nQ6, reduceCtorEq, vc40, rs40]
 refine vcLoopR Nat (fun i => [(8, .val (.int .i64 (k + i))), (7, gs 1 (knownL l g k i).length), (0, .mp 0), (1, .val (.int .i64 g))]) (fun i => [.mp (ents ps) c, gb 36 2 (rowS (knownL l g k i))]) (fun i _ => k + i ≤ 5) (fun i => 5 - i) 0 [] ?_ ?_ ?_ ?_
 ·have h0 : knownL l g k 0 = [] := rfl
  rw [h0]
  (try simp only [go_sem, ↓reduceIte, nQ1, nQ2, nQ3, nQ4, nQ5, nQ6, reduceCtorEq]) <;> (repeat' (first | rfl | trivial | constructor | (intro h; exact absurd rfl h)))
  simp
 ·simp only [go_sem, ↓reduceIte, nQ1, nQ2, nQ3, nQ4, nQ5, nQ6, reduceCtorEq, inScope, rnInj_nil]
  decide
 ·omega
 rintro i env R1 hle1 hE hi
 (simp only [go_sem] at hE; obtain ⟨e8, e7, e0, e1⟩ := hE; simp only [go_sem, ↓reduceIte, nQ1, nQ2, nQ3, nQ4, nQ5, nQ6, reduceCtorEq, e8, e7, e0, e1]; dsimp only at *)
 have hkl := hs.knownL g k i
 refine ⟨fun hlt => ?_, fun hge => ?_⟩
 ·obtain ⟨r, v, q1, q2, q3⟩ := hget (k + i)
  have hlk := hs.look g (k + i)
  have hsucc := knownL_succ l g k i
  refine vmget (ents ps) c r (mEq_pair (g, k + i) (g, k + i) |>.trans (by simp)) rfl q1 ?_
  rw [q2]
  obtain ⟨va, vcap, rfl, -, -⟩ := q3.form
  simp only [go_sem, ↓reduceIte, nQ1, nQ2, nQ3, nQ4, nQ5, nQ6, reduceCtorEq, e8, e7, e0, e1]
  refine SpV.src (q3.mono hle1) rfl ?_
  have hi5 : i ≤ 4 := by omega
  have hgb : rowS (knownL l g k i) ≠ [] → [Blk.mp (ents ps) c, gb 36 2 (rowS (knownL l g k i))][1]? = some (gb 36 2 (rowS (knownL l g k i))) := fun _ => rfl
  have hrl := rowS_len (knownL l g k i)
  by_cases hm : (lookD l g (k + i)).length = 0
  ·have hm0 : lookD l g (k + i) = [] := List.eq_nil_of_length_eq_zero hm
   rw [hm0, List.append_nil] at hsucc
   rw [hm0]
   by_cases hn : (knownL l g k i).length = 0
   ·have hn0 : knownL l g k i = [] := List.eq_nil_of_length_eq_zero hn
    rw [hn0]
    simp only [go_sem, ↓reduceIte, nQ1, nQ2, nQ3, nQ4, nQ5, nQ6, reduceCtorEq, e8, e7, e0, e1]
    refine ⟨_, W.in64 (by omega), i + 1, [], by omega, ⟨⟨by congr 2; omega, by rw [hsucc, hn0]; rfl, rfl⟩, rfl, by rw [hsucc, hn0]; simp⟩, ?_, by omega⟩
    simp only [go_sem, ↓reduceIte, nQ1, nQ2, nQ3, nQ4, nQ5, nQ6, reduceCtorEq, inScope, rnInj_nil]
    decide
   ·have hgs := gs_pos (j := 1) hn
    have hne : rowS (knownL l g k i) ≠ [] := fun e => by rw [e] at hrl; simp at hrl; omega
    rw [hgs]
    simp only [go_sem, ↓reduceIte, nQ1, nQ2, nQ3, nQ4, nQ5, nQ6, reduceCtorEq, e8, e7, e0, e1]
    refine vappO (rowS (knownL l g k i)) (by rw [gb_ne hne]; rfl) hrl (by omega) ?_
    simp only [go_sem, ↓reduceIte, nQ1, nQ2, nQ3, nQ4, nQ5, nQ6, reduceCtorEq, e8, e7, e0, e1]
    refine ⟨_, W.in64 (by omega), i + 1, [0, 2], by omega, ⟨⟨by congr 2; omega, ?_, rfl⟩, rfl, fun _ => by rw [hsucc]; simp⟩, ?_, by omega⟩
    ·rw [hsucc, gs_pos hn]; rfl
    ·simp only [go_sem, ↓reduceIte, nQ1, nQ2, nQ3, nQ4, nQ5, nQ6, reduceCtorEq, inScope, rnInj_nil]
     decide
  ·refine vgrow (rowS (knownL l g k i)) hgb (fun h => by rw [h]; rfl) hrl (by omega) hm (by omega) ?_
   simp only [go_sem, ↓reduceIte, nQ1, nQ2, nQ3, nQ4, nQ5, nQ6, reduceCtorEq, e8, e7, e0, e1]
   refine ⟨_, W.in64 (by omega), i + 1, [0, 2], by omega, ⟨⟨by congr 2; omega, ?_, rfl⟩, rfl, fun _ => by rw [hsucc, ← rowS_app]; rfl⟩, ?_, by omega⟩
   ·rw [hsucc, List.length_append, gs_pos (by omega)]; rfl
   ·simp only [go_sem, ↓reduceIte, nQ1, nQ2, nQ3, nQ4, nQ5, nQ6, reduceCtorEq, inScope, rnInj_nil]
    decide
 ·obtain rfl : i = (5 - k).toNat := by omega
  unfold knownD
  obtain ⟨xs, hxs⟩ : ∃ xs, xs = knownL l g k (5 - k).toNat := ⟨_, rfl⟩
  rw [← hxs] at hkl e7 ⊢
  obtain ⟨hr, hln⟩ := hkl
  by_cases hn : xs.length = 0
  ·have hn0 : xs = [] := List.eq_nil_of_length_eq_zero hn
   subst hn0
   simp only [go_sem, ↓reduceIte, nQ1, nQ2, nQ3, nQ4, nQ5, nQ6, reduceCtorEq, e8, e7, e0, e1]
   refine vcall (bNorm [] _ R1 (EncV.nil _ _ _) (by simp)) ?_
   intro R2 w hle2 hw
   obtain ⟨z, rfl, hz⟩ := hw.or rfl rfl
   simp only [go_sem, ↓reduceIte, nQ1, nQ2, nQ3, nQ4, nQ5, nQ6, reduceCtorEq, e8, e7, e0, e1]
   exact ⟨⟨rfl, rfl⟩, _, rfl, hz.mono (newR_sub hle1)⟩
  ·have hgs := gs_pos (j := 1) hn
   have hne : rowS xs ≠ [] := fun e => by have := rowS_len xs; rw [e] at this; simp at this; omega
   rw [gb_ne hne]
   simp only [go_sem, ↓reduceIte, nQ1, nQ2, nQ3, nQ4, nQ5, nQ6, reduceCtorEq, hgs, e8, e7, e0, e1]
   refine vfreeze ?_
   simp only [go_sem, ↓reduceIte, nQ1, nQ2, nQ3, nQ4, nQ5, nQ6, reduceCtorEq, hgs, e8, e7, e0, e1]
   intro b2 cap2 R2 hle2 hrow hcap hfr
   rw [rowS_len] at hcap
   have hx2 : SpV R2 (.slice (some ⟨b2, 0, none⟩) xs.length cap2) xs := RowIn.enc (enc := Sp.cells) (k := 2) (fun _ => rfl) (by omega) hrow (by rw [rowS_len]; omega) (by omega)
   refine vcall (bNorm xs _ R2 hx2 (by omega)) ?_
   intro R3 w hle3 hw
   obtain ⟨z, rfl, hz⟩ := hw.or hr rfl
   simp only [go_sem, ↓reduceIte, nQ1, nQ2, nQ3, nQ4, nQ5, nQ6, reduceCtorEq, e8, e7, e0, e1]
   exact ⟨⟨rfl, rfl⟩, _, rfl, by rw [← unionD_nil]; exact hz.mono (newR_sub (RO.le_trans hle1 hle2))⟩
end Go.Proofs.YtdglpgepgmdbdaaGreatDoor
/- Plain lemmas of our own, no statement of the seat: the ledger's total; how a map is gone through. -/
namespace Go.Proofs.YtdglpgepgmdbdaaGreatDoor
set_option linter.unusedSectionVars false
variable [Go.Proofs.YtdglpgepgmdbdaaGreatDoor.Vc.Drew]
set_option linter.unusedSimpArgs false
set_option linter.unusedVariables false
open Go.Proofs.YtdglpgepgmdbdaaGreatDoor.Vc
theorem nodup_len : ∀ {a b : List Nat}, a.Nodup → (∀ x ∈ a, x ∈ b) → a.length ≤ b.length
 | [], _, _, _ => Nat.zero_le _
 | x :: a, b, hn, hs => by
  have hx := hs x (by simp)
  obtain ⟨h1, h2⟩ := List.nodup_cons.1 hn
  have ih := nodup_len (b := b.erase x) h2 fun y hy => (List.mem_erase_of_ne (fun e => h1 (by rw [← e]; exact hy))).2 (hs y (by simp [hy]))
  rw [List.length_erase_of_mem hx] at ih
  have := List.length_pos_of_mem hx
  simp only [List.length_cons]
  omega
structure Vis (ps vs : List Le) : Prop where
 sub : ∀ p ∈ vs, p ∈ ps
 nd : (vs.map fun p => p.2.2).Nodup
theorem Vis.nil (ps : List Le) : Vis ps [] := ⟨by simp, by simp⟩
theorem Vis.step {ps vs : List Le} (h : Vis ps vs) {p : Le} (hp : p ∈ ps) (hn : p.2.2 ∉ vs.map fun p => p.2.2) : Vis ps (vs ++ [p]) := by
 refine ⟨fun q hq => ?_, ?_⟩
 ·rcases List.mem_append.1 hq with hq | hq
  ·exact h.sub q hq
  ·simp only [List.mem_cons, List.not_mem_nil, or_false] at hq; subst hq; exact hp
 ·rw [List.map_append, List.nodup_append]
  refine ⟨h.nd, by simp, fun a ha b hb e => ?_⟩
  simp only [List.map_cons, List.map_nil, List.mem_cons, List.not_mem_nil, or_false] at hb
  rw [e, hb] at ha
  exact hn ha
theorem Vis.le {ps vs : List Le} (h : Vis ps vs) : vs.length ≤ ps.length := by
 have := nodup_len h.nd (b := ps.map fun p => p.2.2) fun x hx => by
  obtain ⟨p, hp, rfl⟩ := List.mem_map.1 hx
  exact List.mem_map_of_mem (h.sub p hp)
 simpa using this
theorem Vis.perm {ps vs : List Le} (h : Vis ps vs) (hb : (ps.map fun p => p.2.2).Nodup) (ha : ∀ p ∈ ps, p.2.2 ∈ vs.map fun p => p.2.2) : vs.Perm ps := by
 have hn : ∀ {l : List Le}, (l.map fun p => p.2.2).Nodup → l.Nodup := fun h => List.Pairwise.of_map (fun p => p.2.2) (fun a b hab e => hab (by rw [e])) h
 rw [List.perm_ext_iff_of_nodup (hn h.nd) (hn hb)]
 intro p
 refine ⟨h.sub p, fun hp => ?_⟩
 obtain ⟨q, hq, e⟩ := List.mem_map.1 (ha p hp)
 have hq' := h.sub q hq
 obtain ⟨i, hi, rfl⟩ := List.mem_iff_getElem.1 hp
 obtain ⟨j, hj, rfl⟩ := List.mem_iff_getElem.1 hq'
 have h1 : (ps.map fun p => p.2.2)[j]'(by simpa using hj) = (ps.map fun p => p.2.2)[i]'(by simpa using hi) := by simpa using e
 have := nodup_inj hb h1
 subst this
 exact hq
theorem mem_born {vs : List Le} {b : Nat} : (vs.map fun p => p.2.2).contains b = false ↔ b ∉ vs.map fun p => p.2.2 := by
 rw [← Bool.not_eq_true, List.contains_iff_mem]
theorem ents_born (ps : List Le) : (ents ps).map (·.born) = ps.map fun p => p.2.2 := by
 unfold ents; rw [List.map_map]; rfl
/-! ### Totals -/
def termD (g : Int) (s : Se) : Int := if s.group = g then countL (sizeI s.grain) s.cells else 0
def totalD (g : Int) : List Se → Int
 | [] => 0
 | s :: l => termD g s + totalD g l
theorem totalD_app (g : Int) : ∀ a b : List Se, totalD g (a ++ b) = totalD g a + totalD g b
 | [], b => by simp [totalD]
 | s :: a, b => by simp only [List.cons_append, totalD, totalD_app g a b]; omega
theorem totalD_perm {g : Int} {a b : List Se} (h : a.Perm b) : totalD g a = totalD g b := by
 induction h with
 | nil => rfl
 | cons x _ ih => simp only [totalD, ih]
 | swap x y l => simp only [totalD]; omega
 | trans _ _ h1 h2 => rw [h1, h2]
structure OkC (s : Se) : Prop where
 grain : 1 ≤ s.grain ∧ s.grain ≤ 4
 nor : Normal s.cells
 rng : rangedB s.cells = true
 ne : s.cells ≠ []
 len : s.cells.length ≤ 100000
theorem sizeI_one (g : Int) : 1 ≤ sizeI g ∧ sizeI g ≤ 1440 := by
 unfold sizeI
 split
 ·omega
 ·split <;> omega
theorem OkC.count {s : Se} (h : OkC s) : 0 ≤ countL (sizeI s.grain) s.cells ∧ countL (sizeI s.grain) s.cells ≤ 4503599627370496 := by
 have := countL_range (sizeI_one s.grain).1 h.nor h.rng s.cells.length
 rwa [List.take_length] at this
theorem totalD_bd {g : Int} : ∀ {l : List Se}, (∀ s ∈ l, OkC s) → 0 ≤ totalD g l ∧ totalD g l ≤ 4503599627370496 * l.length
 | [], _ => by simp [totalD]
 | s :: l, h => by
  have ih := totalD_bd (g := g) fun x hx => h x (List.mem_cons_of_mem _ hx)
  have hs := (h s (by simp)).count
  simp only [totalD, List.length_cons]
  unfold termD
  split <;> omega
set_option maxHeartbeats 1000000 in
theorem bTotal (ps : List Le) (c : Nat) (g : Int) (R : RO) (hz : SzR R) (hL : LedOK R ps c) (hs : ∀ s ∈ ps.map (·.1), OkC s) (hl : ps.length ≤ 1000) : CallsS Tryz.prog 20 [.mp 0, .val (.int .i64 g)] [.mp (ents ps) c] R fun R' bs r =>
  ∃ b1, bs = [.mp (ents ps) c, b1] ∧ r = .val (.int .i64 (totalD g (ps.map (·.1)))) := by
 refine callsTS mix Tryz.func20 comp20 (by simp [Tryz.ntmps20]) rfl rfl ?_; simp only [go_sem, ↓reduceIte, nQ1, nQ2, nQ3, nQ4, nQ5, nQ6, reduceCtorEq, vc20, rs20]
 refine vcLoop (List Le) (fun vs => [(9, .loc 1 0), (5, .val (.int .i64 (totalD g (vs.map (·.1))))), (0, .mp 0), (1, .val (.int .i64 g))]) (fun vs => [.mp (ents ps) c, .it 0 c (vs.map fun p => p.2.2) c]) (fun vs _ => Vis ps vs) (fun vs => ps.length - vs.length) [] ?_ ?_ ?_ ?_
 ·(try simp only [go_sem, ↓reduceIte, nQ1, nQ2, nQ3, nQ4, nQ5, nQ6, reduceCtorEq]) <;> (repeat' (first | rfl | trivial | constructor | (intro h; exact absurd rfl h)))
 ·simp only [go_sem, ↓reduceIte, nQ1, nQ2, nQ3, nQ4, nQ5, nQ6, reduceCtorEq, inScope, rnInj_nil]
  decide
 ·exact Vis.nil ps
 rintro vs env R1 hle1 hE hv
 (simp only [go_sem] at hE; obtain ⟨e9, e5, e0, e1⟩ := hE; simp only [go_sem, ↓reduceIte, nQ1, nQ2, nQ3, nQ4, nQ5, nQ6, reduceCtorEq, e9, e5, e0, e1]; dsimp only at *)
 have hborn : ((ents ps).map (·.born)).Nodup := by rw [ents_born]; exact hL.born
 have hvl := hv.le
 have hbd := totalD_bd (g := g) (l := vs.map (·.1)) fun s hs' => by
  obtain ⟨p, hp, rfl⟩ := List.mem_map.1 hs'
  exact hs _ (List.mem_map_of_mem (hv.sub p hp))
 rw [List.length_map] at hbd
 refine ⟨fun e he => ?_, fun hall => ?_, fun e' he' hun => ?_⟩
 ·obtain ⟨p, hp, rfl⟩ := List.mem_map.1 he
  exact hL.lt p hp
 ·have hp : vs.Perm ps := hv.perm hL.born fun p hp => by
   have := hall (ledEnt p) (List.mem_map_of_mem hp)
   rwa [List.contains_iff_mem] at this
  exact ⟨_, ⟨rfl, rfl⟩, by rw [totalD_perm (hp.map (·.1))]⟩
 ·obtain ⟨p, hp, rfl⟩ := List.mem_map.1 he'
  have hun' : p.2.2 ∉ vs.map fun p => p.2.2 := mem_born.1 hun
  have hv' := hv.step hp hun'
  have hvl' := hv'.le
  rw [List.length_append, List.length_singleton] at hvl'
  have hC := hs _ (List.mem_map_of_mem hp)
  have hcnt := hC.count
  refine vmentry (vs.map fun p => p.2.2) (ledEnt p) rfl rfl (List.mem_map_of_mem hp) hborn ?_
  obtain ⟨va, vcap, hval, -, -⟩ := (hL.val p hp).form
  simp only [ledEnt, hval]
  simp only [go_sem, ↓reduceIte, nQ1, nQ2, nQ3, nQ4, nQ5, nQ6, reduceCtorEq, e9, e5, e0, e1]
  have hsum : totalD g ((vs ++ [p]).map (·.1)) = totalD g (vs.map (·.1)) + termD g p.1 := by
   rw [List.map_append, totalD_app]; simp [totalD]
  refine ⟨fun hg => ?_, fun hg => ?_⟩
  ·have hsz := hC.grain
   refine ⟨by omega, by omega, vload _ ((hz.mono hle1).get hsz) ?_⟩
   simp only [go_sem, ↓reduceIte, nQ1, nQ2, nQ3, nQ4, nQ5, nQ6, reduceCtorEq, e9, e5, e0, e1]
   refine vfreeze ?_
   simp only [go_sem, ↓reduceIte, nQ1, nQ2, nQ3, nQ4, nQ5, nQ6, reduceCtorEq, e9, e5, e0, e1]
   intro b2 cap2 R2 hle2 hrow hcap hfr
   refine vcall (bCount (sizeI p.1.grain) (sizeI_one _).1 p.1.cells hC.nor hC.rng _ ⟨b2, 0, none⟩ cap2 R2 (hrow 0 _ rfl) (by have := (hL.val p hp).mono (RO.le_trans hle1 hle2); rw [hval] at this; exact this)) ?_
   rintro R3 r hle3 rfl
   simp only [go_sem, ↓reduceIte, nQ1, nQ2, nQ3, nQ4, nQ5, nQ6, reduceCtorEq, e9, e5, e0, e1]
   refine ⟨_, W.in64 (by omega), vs ++ [p], by rw [List.length_append, List.length_singleton]; omega, ?_, ?_, hv'⟩
   ·rw [hsum]
    unfold termD
    rw [if_pos hg, List.map_append]
    try simp only [go_sem, ↓reduceIte, nQ1, nQ2, nQ3, nQ4, nQ5, nQ6, reduceCtorEq]
   ·simp only [go_sem, ↓reduceIte, nQ1, nQ2, nQ3, nQ4, nQ5, nQ6, reduceCtorEq, inScope, rnInj_nil]
    decide
  ·refine ⟨vs ++ [p], by rw [List.length_append, List.length_singleton]; omega, ?_, ?_, hv'⟩
   ·rw [hsum]
    unfold termD
    rw [if_neg hg, Int.add_zero, List.map_append]
    try simp only [go_sem, ↓reduceIte, nQ1, nQ2, nQ3, nQ4, nQ5, nQ6, reduceCtorEq]
   ·simp only [go_sem, ↓reduceIte, nQ1, nQ2, nQ3, nQ4, nQ5, nQ6, reduceCtorEq, inScope, rnInj_nil]
    decide
end Go.Proofs.YtdglpgepgmdbdaaGreatDoor
/- Plain lemmas of our own, no statement of the seat: clones; the ledger's close. -/
namespace Go.Proofs.YtdglpgepgmdbdaaGreatDoor
set_option linter.unusedSectionVars false
variable [Go.Proofs.YtdglpgepgmdbdaaGreatDoor.Vc.Drew]
set_option linter.unusedSimpArgs false
set_option linter.unusedVariables false
open Go.Proofs.YtdglpgepgmdbdaaGreatDoor.Vc Go.Shelf Go.Sort
def Tryz.sortSe_ren : Go.Shelf.Ren := ⟨fun | 6 => 46 | 15 => 73 | 14 => 72 | 28 => 97 | 29 => 98 | 20 => 89 | 21 => 90 | 22 => 91 | 23 => 92 | 24 => 93 | 25 => 94 | 26 => 95 | 27 => 96 | 46 => 114 | 47 => 115 | 48 => 116 | 49 => 117 | 50 => 118 | 57 => 133 | n => n, fun | 22 => 32 | 24 => 90 | 25 => 114 | 3 => 3 | 39 => 140 | 0 => 0 | 53 => 166 | 55 => 168 | 4 => 4 | 46 => 159 | 45 => 158 | 50 => 163 | 5 => 5 | 9 => 9 | 66 => 200 | 70 => 125 | 76 => 228 | 77 => 169 | n => n, fun | n => n⟩
theorem Tryz.sortSe : Go.Proofs.SlLaysF0.n6 Tryz.prog Tryz.sortSe_ren := {
 mixed := by kernel_rfl
 f6 := ⟨Tryz.f46.name, by decide, Tryz.func46.trans (congrArg some (by kernel_rfl))⟩
 f14 := ⟨Tryz.f72.name, by decide, Tryz.func72.trans (congrArg some (by kernel_rfl))⟩
 f15 := Tryz.func73.trans (congrArg some (by kernel_rfl))
 f20 := ⟨Tryz.f89.name, by decide, Tryz.func89.trans (congrArg some (by kernel_rfl))⟩
 f21 := ⟨Tryz.f90.name, by decide, Tryz.func90.trans (congrArg some (by kernel_rfl))⟩
 f22 := ⟨Tryz.f91.name, by decide, Tryz.func91.trans (congrArg some (by kernel_rfl))⟩
 f23 := ⟨Tryz.f92.name, by decide, Tryz.func92.trans (congrArg some (by kernel_rfl))⟩
 f24 := ⟨Tryz.f93.name, by decide, Tryz.func93.trans (congrArg some (by kernel_rfl))⟩
 f25 := ⟨Tryz.f94.name, by decide, Tryz.func94.trans (congrArg some (by kernel_rfl))⟩
 f26 := ⟨Tryz.f95.name, by decide, Tryz.func95.trans (congrArg some (by kernel_rfl))⟩
 f27 := ⟨Tryz.f96.name, by decide, Tryz.func96.trans (congrArg some (by kernel_rfl))⟩
 f28 := Tryz.func97.trans (congrArg some (by kernel_rfl))
 f29 := Tryz.func98.trans (congrArg some (by kernel_rfl))
 f46 := ⟨Tryz.f114.name, by decide, Tryz.func114.trans (congrArg some (by kernel_rfl))⟩
 f47 := Tryz.func115.trans (congrArg some (by kernel_rfl))
 f48 := Tryz.func116.trans (congrArg some (by kernel_rfl))
 f49 := ⟨Tryz.f117.name, by decide, Tryz.func117.trans (congrArg some (by kernel_rfl))⟩
 f50 := ⟨Tryz.f118.name, by decide, Tryz.func118.trans (congrArg some (by kernel_rfl))⟩
 f57 := ⟨Tryz.f133.name, by decide, Tryz.func133.trans (congrArg some (by kernel_rfl))⟩
 t0 := Tryz.underlying0
 a0 := Tryz.isAgg0
 z0 := Tryz.sizeOf0
 v0 := Tryz.zeroValue0
 t3 := Tryz.underlying3
 a3 := Tryz.isAgg3
 z3 := Tryz.sizeOf3
 v3 := Tryz.zeroValue3
 t4 := Tryz.underlying4
 a4 := Tryz.isAgg4
 z4 := Tryz.sizeOf4
 v4 := Tryz.zeroValue4
 t5 := Tryz.underlying5
 a5 := Tryz.isAgg5
 z5 := Tryz.sizeOf5
 v5 := Tryz.zeroValue5
 t9 := Tryz.underlying9
 a9 := Tryz.isAgg9
 z9 := Tryz.sizeOf9
 v9 := Tryz.zeroValue9
 t22 := Tryz.underlying32
 a22 := Tryz.isAgg32
 z22 := Tryz.sizeOf32
 v22 := Tryz.zeroValue32
 t25 := Tryz.underlying114
 a25 := Tryz.isAgg114
 z25 := Tryz.sizeOf114
 v25 := Tryz.zeroValue114
 t39 := Tryz.underlying140
 a39 := Tryz.isAgg140
 z39 := Tryz.sizeOf140
 v39 := Tryz.zeroValue140
 t45 := Tryz.underlying158
 a45 := Tryz.isAgg158
 z45 := Tryz.sizeOf158
 v45 := Tryz.zeroValue158
 t46 := Tryz.underlying159
 a46 := Tryz.isAgg159
 z46 := Tryz.sizeOf159
 v46 := Tryz.zeroValue159
 t50 := Tryz.underlying163
 a50 := Tryz.isAgg163
 z50 := Tryz.sizeOf163
 v50 := Tryz.zeroValue163
 t53 := Tryz.underlying166
 a53 := Tryz.isAgg166
 z53 := Tryz.sizeOf166
 v53 := Tryz.zeroValue166
 t55 := Tryz.underlying168
 a55 := Tryz.isAgg168
 z55 := Tryz.sizeOf168
 v55 := Tryz.zeroValue168
 t66 := Tryz.underlying200
 a66 := Tryz.isAgg200
 z66 := Tryz.sizeOf200
 v66 := Tryz.zeroValue200
 t70 := Tryz.underlying125
 a70 := Tryz.isAgg125
 z70 := Tryz.sizeOf125
 v70 := Tryz.zeroValue125
 t76 := Tryz.underlying228
 a76 := Tryz.isAgg228
 z76 := Tryz.sizeOf228
 v76 := Tryz.zeroValue228
 t77 := Tryz.underlying169
 a77 := Tryz.isAgg169
 z77 := Tryz.sizeOf169
 v77 := Tryz.zeroValue169 }
theorem bCloneS (xs : List Sp) (v : Value) (R : RO) (h : SpV R v xs) : CallsR Tryz.prog 45 [v] R fun R' r => SpV (newR R R') r xs := by
 have hl := h.2
 obtain ⟨a, cap, rfl, hc, hf⟩ := h.form
 refine callsT mix Tryz.func45 comp45 (by simp [Tryz.ntmps45]) ?_; simp only [go_sem, ↓reduceIte, nQ1, nQ2, nQ3, nQ4, nQ5, nQ6, reduceCtorEq, vc45, rs45]
 refine ⟨fun ha => ?_, fun ha => ?_⟩
 ·have hx : xs = [] := by
   cases xs with
   | nil => rfl
   | cons x l =>
    obtain ⟨ad, e, _⟩ := hf 0 (by simp)
    rw [e] at ha; simp at ha
  subst hx
  exact EncV.nil _ _ _
 ·refine SpV.src h rfl ?_
  try simp only [go_sem, ↓reduceIte, nQ1, nQ2, nQ3, nQ4, nQ5, nQ6, reduceCtorEq]
  refine vappO [] rfl rfl (by omega) ?_
  try simp only [go_sem, ↓reduceIte, nQ1, nQ2, nQ3, nQ4, nQ5, nQ6, reduceCtorEq]
  intro b2 cap2 R2 hle2 hrow hcap hfr
  rw [rowS_len] at hcap
  exact RowIn.enc (enc := Sp.cells) (k := 2) (fun _ => rfl) (by omega) (hrow.new hfr (RO.le_refl _)) (by rw [rowS_len]; omega) (by omega)
theorem bCloneI (xs : List Int) (v : Value) (R : RO) (h : IntV R v xs) : CallsR Tryz.prog 44 [v] R fun R' r => IntV (newR R R') r xs := by
 have hl := h.2
 obtain ⟨a, cap, rfl, hc, hf⟩ := EncV.form h
 refine callsT mix Tryz.func44 comp44 (by simp [Tryz.ntmps44]) ?_; simp only [go_sem, ↓reduceIte, nQ1, nQ2, nQ3, nQ4, nQ5, nQ6, reduceCtorEq, vc44, rs44]
 refine ⟨fun ha => ?_, fun ha => ?_⟩
 ·have hx : xs = [] := by
   cases xs with
   | nil => rfl
   | cons x l =>
    obtain ⟨ad, e, _⟩ := hf 0 (by simp)
    rw [e] at ha; simp at ha
  subst hx
  exact EncV.nil _ _ _
 ·refine EncV.src h rfl (by omega) (fun _ => rfl) (by simp [Value.oneCell']) ?_
  try simp only [go_sem, ↓reduceIte, nQ1, nQ2, nQ3, nQ4, nQ5, nQ6, reduceCtorEq]
  refine vappO [] rfl rfl (by omega) ?_
  try simp only [go_sem, ↓reduceIte, nQ1, nQ2, nQ3, nQ4, nQ5, nQ6, reduceCtorEq]
  intro b2 cap2 R2 hle2 hrow hcap hfr
  have hfl : ((xs.map fun x => [Value.int .i64 x]).flatten).length = xs.length * 1 := rowE_len (enc := fun x : Int => [Value.int .i64 x]) (k := 1) (fun _ => rfl) xs
  exact RowIn.enc (enc := fun x : Int => [Value.int .i64 x]) (k := 1) (fun _ => rfl) (by omega) (hrow.new hfr (RO.le_refl _)) (by rw [hfl] at hcap ⊢; omega) (by omega)
/-! ### close -/
/-- An element and its cells' place. -/
abbrev Pe := Se × Option Addr × Nat × Nat
def Pe.val (p : Pe) : Value := .slice p.2.1 p.2.2.1 p.2.2.2
def Pe.cells (p : Pe) : List Value := [.int .i64 p.1.group, .int .i64 p.1.grain, p.val]
theorem Pe.one (p : Pe) : ∀ u ∈ p.cells, u.oneCell' = true := by simp [Pe.cells, Pe.val, Value.oneCell']
abbrev rowP (l : List Pe) : List Value := (l.map Pe.cells).flatten
theorem rowP_len (l : List Pe) : (rowP l).length = l.length * 3 := rowE_len (enc := Pe.cells) (k := 3) (fun _ => rfl) l
theorem rowP_app (a b : List Pe) : rowP a ++ rowP b = rowP (a ++ b) := by unfold rowP; rw [List.map_append, List.flatten_append]
instance (a b : Se) : Decidable (keyLt a b) := by unfold keyLt; infer_instance
def cmpP (p q : Pe) : Int := cmpK p.1.group p.1.grain q.1.group q.1.grain
theorem ltP (p q : Pe) : ltOf cmpP p q = decide (keyLt p.1 q.1) := by
 unfold ltOf cmpP
 rw [Bool.eq_iff_iff, decide_eq_true_eq, decide_eq_true_eq, cmpK_neg]
 exact Iff.rfl
theorem cmpP_swo : SWO (ltOf cmpP) := by
 refine ⟨fun x => ?_, fun x y z h k => ?_, fun x y z h k => ?_⟩
 ·rw [ltP]; simp [keyLt]
 ·rw [ltP] at *; simp only [decide_eq_true_eq] at *; exact keyLt_trans h k
 ·rw [ltP] at *; simp only [decide_eq_false_iff_not] at *; unfold keyLt at *; omega
instance : Inhabited Se := ⟨⟨0, 0, []⟩⟩
theorem bClose1 (p q : Pe) (R : RO) : CallsR Tryz.prog 47 [.agg p.cells.toArray, .agg q.cells.toArray] R fun _ v => v = .int .i64 (cmpP p q) := by
 have hC := bCompareA p.1.group p.1.grain q.1.group q.1.grain R
 simp only [Pe.cells, Pe.val]
 refine callsT mix Tryz.func47 comp47 (by simp [Tryz.ntmps47]) ?_; simp only [go_sem, ↓reduceIte, nQ1, nQ2, nQ3, nQ4, nQ5, nQ6, reduceCtorEq, vc47, rs47]
 refine vcall hC ?_
 rintro R1 v h1 rfl
 try simp only [go_sem, ↓reduceIte, nQ1, nQ2, nQ3, nQ4, nQ5, nQ6, reduceCtorEq]
 rfl
theorem bSortSe (ps : List Pe) (hl : ps.length ≤ 1000000000) (R : RO) :
  CallsS Tryz.prog 46 [.sl 0 ps.length, .val (.func (.func 47) #[] #[])] [.row 90 3 (rowP ps)] R fun R' bs r =>
   R' = R ∧ ∃ qs : List Pe, qs.Perm ps ∧ (qs.Pairwise fun x y => ¬ keyLt y.1 x.1) ∧ bs = [.row 90 3 (rowP qs)] ∧ r = .val (.tuple #[]) := by
 have h := sortFuncS Tryz.sortSe 3 Tryz.isAgg90 Tryz.sizeOf90 Pe.cells (fun _ => rfl) Pe.one cmpP cmpP_swo 47 90
  (enters_of Tryz.func47 (by kernel_rfl) rfl) (fun x y => @bClose1 ⟨1⟩ x y _) ps (by omega) R
 simp only [ltP, decide_eq_false_iff_not] at h
 exact h
theorem bSortSeNil (fv : Value) (R : RO) : CallsR Tryz.prog 46 [.slice none 0 0, fv] R fun _ r => r = .tuple #[] := sortFuncNil Tryz.sortSe fv R
theorem sorted_keys {qs : List Pe} (h : qs.Pairwise fun x y => ¬ keyLt y.1 x.1) (hn : (qs.map fun p => seKey p.1).Nodup) : (qs.map (·.1)).Pairwise keyLt := by
 rw [List.pairwise_map]
 have hn' : qs.Pairwise fun x y => seKey x.1 ≠ seKey y.1 := List.pairwise_map.1 hn
 refine (h.and hn').imp fun {x y} ⟨h1, h2⟩ => ?_
 unfold keyLt at *
 unfold seKey at h2
 simp only [ne_eq, Prod.mk.injEq] at h2
 omega
set_option maxHeartbeats 1000000 in
theorem bClose (ps : List Le) (c : Nat) (R : RO) (hL : LedOK R ps c) (hl : ps.length ≤ 1000000) : CallsS Tryz.prog 24 [.mp 0] [.mp (ents ps) c] R fun R' bs r =>
  ∃ b1 qs, bs = [.mp (ents ps) c, b1, gb 90 3 (rowP qs)] ∧ r = gs 2 qs.length ∧ (qs.map (·.1)).Perm (ps.map (·.1)) ∧ (qs.map (·.1)).Pairwise keyLt ∧ ∀ q ∈ qs, SpV (newR R R') q.val q.1.cells := by
 have hborn : ((ents ps).map (·.born)).Nodup := by rw [ents_born]; exact hL.born
 refine callsTS mix Tryz.func24 comp24 (by simp [Tryz.ntmps24]) rfl rfl ?_; simp only [go_sem, ↓reduceIte, nQ1, nQ2, nQ3, nQ4, nQ5, nQ6, reduceCtorEq, vc24, rs24]
 refine vcLoopR (List Le × List Pe) (fun x => [(7, .loc 1 0), (3, gs 2 x.2.length), (0, .mp 0)]) (fun x => [.mp (ents ps) c, .it 0 c (x.1.map fun p => p.2.2) c, gb 90 3 (rowP x.2)])
  (fun x R' => Vis ps x.1 ∧ x.2.map (·.1) = x.1.map (·.1) ∧ ∀ q ∈ x.2, SpV (newR R R') q.val q.1.cells) (fun x => ps.length - x.1.length) ([], []) [] ?_ ?_ ?_ ?_
 ·(try simp only [go_sem, ↓reduceIte, nQ1, nQ2, nQ3, nQ4, nQ5, nQ6, reduceCtorEq]) <;> (repeat' (first | rfl | trivial | constructor | (intro h; exact absurd rfl h)))
 ·simp only [go_sem, ↓reduceIte, nQ1, nQ2, nQ3, nQ4, nQ5, nQ6, reduceCtorEq, inScope, rnInj_nil]
  decide
 ·exact ⟨Vis.nil ps, rfl, by simp⟩
 rintro ⟨vs, qs⟩ env R1 hle1 hE ⟨hv, hq, hqv⟩
 (simp only [go_sem] at hE; obtain ⟨e7, e3, e0⟩ := hE; simp only [go_sem, ↓reduceIte, nQ1, nQ2, nQ3, nQ4, nQ5, nQ6, reduceCtorEq, e7, e3, e0]; dsimp only at *)
 have hvl := hv.le
 have hql : qs.length = vs.length := by simpa using congrArg List.length hq
 refine ⟨fun e he => ?_, fun hall => ?_, fun e' he' hun => ?_⟩
 ·obtain ⟨p, hp, rfl⟩ := List.mem_map.1 he
  exact hL.lt p hp
 ·have hp : vs.Perm ps := hv.perm hL.born fun p hp => by
   have := hall (ledEnt p) (List.mem_map_of_mem hp)
   rwa [List.contains_iff_mem] at this
  have hperm : (qs.map (·.1)).Perm (ps.map (·.1)) := by rw [hq]; exact hp.map (·.1)
  have hpl := hp.length_eq
  by_cases hn : qs.length = 0
  ·have hn0 : qs = [] := List.eq_nil_of_length_eq_zero hn
   subst hn0
   simp only [go_sem, ↓reduceIte, nQ1, nQ2, nQ3, nQ4, nQ5, nQ6, reduceCtorEq, e7, e3, e0]
   refine vcall (bSortSeNil _ R1) ?_
   rintro R2 w hle2 rfl
   simp only [go_sem, ↓reduceIte, nQ1, nQ2, nQ3, nQ4, nQ5, nQ6, reduceCtorEq, e7, e3, e0]
   exact ⟨_, [], ⟨rfl, rfl, rfl⟩, rfl, hperm, List.Pairwise.nil, by simp⟩
  ·have hgs := gs_pos (j := 2) hn
   have hne : rowP qs ≠ [] := fun e => by have := rowP_len qs; rw [e] at this; simp at this; omega
   rw [gb_ne hne]
   simp only [go_sem, ↓reduceIte, nQ1, nQ2, nQ3, nQ4, nQ5, nQ6, reduceCtorEq, hgs, e7, e3, e0]
   refine vhand [2] [.sl 0 qs.length, .val (.func (.func 47) #[] #[])] [.row 90 3 (rowP qs)] (bSortSe qs (by omega) R1) rfl rfl rfl ?_ (by simp) rfl rfl ?_
   ·try simp only [go_sem, ↓reduceIte, nQ1, nQ2, nQ3, nQ4, nQ5, nQ6, reduceCtorEq]
   rintro R2 bs r hle2 ⟨rfl, zs, hzp, hzs, rfl, rfl⟩ _
   simp only [go_sem, ↓reduceIte, nQ1, nQ2, nQ3, nQ4, nQ5, nQ6, reduceCtorEq, setG, rn, hgs, e7, e3, e0]
   have hzl := hzp.length_eq
   have hnd : (zs.map fun p => seKey p.1).Nodup := by
    have h1 : ((ps.map (·.1)).map seKey).Nodup := by rw [List.map_map]; exact hL.keys
    have h2 := ((hzp.map (·.1)).trans hperm).map seKey
    rw [List.map_map] at h2
    exact (List.Perm.nodup_iff h2).2 h1
   have hne2 : rowP zs ≠ [] := fun e => by have := rowP_len zs; rw [e] at this; simp at this; omega
   refine ⟨_, zs, ⟨rfl, rfl, ?_⟩, ?_, (hzp.map (·.1)).trans hperm, sorted_keys hzs hnd, fun q hq => hqv q (hzp.mem_iff.1 hq)⟩
   ·rw [gb_ne hne2]; rfl
   ·rw [hzl, hgs]
 ·obtain ⟨p, hp, rfl⟩ := List.mem_map.1 he'
  have hun' : p.2.2 ∉ vs.map fun p => p.2.2 := mem_born.1 hun
  have hv' := hv.step hp hun'
  have hvl' := hv'.le
  rw [List.length_append, List.length_singleton] at hvl'
  refine vmentry (vs.map fun p => p.2.2) (ledEnt p) rfl rfl (List.mem_map_of_mem hp) hborn ?_
  have hpv := hL.val p hp
  obtain ⟨va, vcap, hval, -, -⟩ := hpv.form
  rw [hval] at hpv
  simp only [ledEnt, hval]
  simp only [go_sem, ↓reduceIte, nQ1, nQ2, nQ3, nQ4, nQ5, nQ6, reduceCtorEq, e7, e3, e0]
  refine vcall (bCloneS p.1.cells _ R1 (hpv.mono hle1)) ?_
  intro R2 w hle2 hw
  obtain ⟨wa, wcap, rfl, -, -⟩ := hw.form
  simp only [go_sem, ↓reduceIte, nQ1, nQ2, nQ3, nQ4, nQ5, nQ6, reduceCtorEq, e7, e3, e0]
  have hstep : (∀ q ∈ qs ++ [((p.1, wa, p.1.cells.length, wcap) : Pe)], SpV (newR R R2) q.val q.1.cells) := fun q hq => by
   rcases List.mem_append.1 hq with hq | hq
   ·exact (hqv q hq).mono (newR_mono hle2)
   ·simp only [List.mem_cons, List.not_mem_nil, or_false] at hq
    subst hq
    exact hw.mono (newR_sub hle1)
  refine vgrow (rowP qs) (fun h0 => by rw [gb_ne h0]; rfl) (fun h0 => by rw [h0, gb_nil]; rfl) (by rw [rowP_len]) (by omega) (by omega) (by omega) ?_
  simp only [go_sem, ↓reduceIte, nQ1, nQ2, nQ3, nQ4, nQ5, nQ6, reduceCtorEq, e7, e3, e0]
  refine ⟨(vs ++ [p], qs ++ [((p.1, wa, p.1.cells.length, wcap) : Pe)]), [0, 1, 5], by show _ - (vs ++ [p]).length < _; rw [List.length_append, List.length_singleton]; omega, ?_, ?_, hv', ?_, hstep⟩
  ·show _ ∧ _
   rw [List.length_append, List.map_append, ← rowP_app]
   try simp only [go_sem, ↓reduceIte, nQ1, nQ2, nQ3, nQ4, nQ5, nQ6, reduceCtorEq]
   intro _; rfl
  ·simp only [go_sem, ↓reduceIte, nQ1, nQ2, nQ3, nQ4, nQ5, nQ6, reduceCtorEq, inScope, rnInj_nil]
   decide
  ·show (qs ++ _).map (·.1) = (vs ++ [p]).map (·.1)
   rw [List.map_append, List.map_append, hq]; rfl
theorem gb_out (T sz : Nat) (cs : List Value) : (gb T sz cs).out = gb T sz cs := by unfold gb; split <;> rfl
/-! ### Groups, cloned -/
/-- Groups, each at its place. -/
structure HsV (R : RO) (hs : List Value) (gs : List (List Int)) : Prop where
 len : hs.length = gs.length
 val : ∀ i (h : i < hs.length) (h' : i < gs.length), IntV R hs[i] gs[i]
theorem HsV.mono {R R' : RO} {hs : List Value} {gs : List (List Int)} (h : HsV R hs gs) (hle : RO.le R R') : HsV R' hs gs := ⟨h.len, fun i h1 h2 => (h.val i h1 h2).mono hle⟩
theorem HsV.snoc {R : RO} {hs : List Value} {gs : List (List Int)} {i : Nat} (h : HsV R hs (gs.take i)) (hi : i < gs.length) {v : Value} (hv : IntV R v gs[i]) : HsV R (hs ++ [v]) (gs.take (i + 1)) := by
 have hl := h.len
 rw [List.length_take] at hl
 refine ⟨by simp; omega, fun j h1 h2 => ?_⟩
 rw [List.length_append, List.length_singleton] at h1
 by_cases hj : j < hs.length
 ·rw [List.getElem_append_left hj, List.getElem_take]
  have := h.val j hj (by rw [List.length_take]; omega)
  rwa [List.getElem_take] at this
 ·obtain rfl : j = i := by omega
  rw [List.getElem_append_right (by omega), List.getElem_take]
  simpa using hv
theorem HsV.gv {R : RO} {hs : List Value} {gs : List (List Int)} (h : HsV R hs gs) {v : Value} (hv : EncV (fun x : Value => [x]) 1 R v hs) : GV R v gs := ⟨hs, hv, h.len, h.val⟩
theorem IntV.one {R : RO} {v : Value} {xs : List Int} (h : IntV R v xs) : v.oneCell' = true := by obtain ⟨a, cap, rfl, _, _⟩ := EncV.form h; rfl
theorem HsV.one {R : RO} {hs : List Value} {gs : List (List Int)} (h : HsV R hs gs) : ∀ u ∈ hs, u.oneCell' = true := fun u hu => by
 obtain ⟨i, hi, rfl⟩ := List.mem_iff_getElem.1 hu
 exact (h.val i hi (by rw [← h.len]; exact hi)).one
theorem flatV (hs : List Value) : (hs.map fun x : Value => [x]).flatten = hs := by
 induction hs with
 | nil => rfl
 | cons x l ih => rw [List.map_cons, List.flatten_cons, ih]; rfl
set_option maxHeartbeats 1000000 in
theorem bCloned (gl : List (List Int)) (v : Value) (R : RO) (h : GV R v gl) : CallsS Tryz.prog 23 [.val v] [] R fun R' bs r =>
  ∃ hs, bs = [gb 30 1 hs] ∧ r = gs 0 hs.length ∧ HsV (newR R R') hs gl := by
 obtain ⟨hxl, a, cap, rfl, hc, hg⟩ := h.form
 refine callsTS mix Tryz.func23 comp23 (by simp [Tryz.ntmps23]) rfl rfl ?_; simp only [go_sem, ↓reduceIte, nQ1, nQ2, nQ3, nQ4, nQ5, nQ6, reduceCtorEq, vc23, rs23]
 refine vcLoopR (Nat × List Value) (fun x => [(8, .val (.int .i64 x.1)), (7, .val (.int .i64 gl.length)), (6, .val (.slice a gl.length cap)), (3, gs 0 x.2.length)]) (fun x => [gb 30 1 x.2])
  (fun x R' => x.1 ≤ gl.length ∧ HsV (newR R R') x.2 (gl.take x.1)) (fun x => gl.length - x.1) (0, []) [] ?_ ?_ ?_ ?_
 ·(try simp only [go_sem, ↓reduceIte, nQ1, nQ2, nQ3, nQ4, nQ5, nQ6, reduceCtorEq]) <;> (repeat' (first | rfl | trivial | constructor | (intro h; exact absurd rfl h)))
 ·try simp only [go_sem, ↓reduceIte, nQ1, nQ2, nQ3, nQ4, nQ5, nQ6, reduceCtorEq]
 ·exact ⟨Nat.zero_le _, rfl, fun i h => absurd h (by simp)⟩
 rintro ⟨i, hs⟩ env R1 hle1 hE ⟨hi, hH⟩
 (simp only [go_sem] at hE; obtain ⟨e8, e7, e6, e3⟩ := hE; simp only [go_sem, ↓reduceIte, nQ1, nQ2, nQ3, nQ4, nQ5, nQ6, reduceCtorEq, e8, e7, e6, e3]; dsimp only at *)
 have hhl := hH.len
 rw [List.length_take] at hhl
 refine ⟨fun hlt => ?_, fun hge => ?_⟩
 ·have hlt' : i < gl.length := by omega
  obtain ⟨ad, u, had, hR, hu⟩ := hg i hlt'
  refine ⟨by omega, vat ad had ?_⟩
  try simp only [go_sem, ↓reduceIte, nQ1, nQ2, nQ3, nQ4, nQ5, nQ6, reduceCtorEq]
  refine vload _ (hle1 _ _ hR) ?_
  simp only [go_sem, ↓reduceIte, nQ1, nQ2, nQ3, nQ4, nQ5, nQ6, reduceCtorEq, e8, e7, e6, e3]
  refine vcall (bCloneI gl[i] u R1 (hu.mono hle1)) ?_
  intro R2 w hle2 hw
  have hw1 := hw.one
  obtain ⟨wa, wcap, rfl, -, -⟩ := EncV.form hw
  simp only [go_sem, ↓reduceIte, nQ1, nQ2, nQ3, nQ4, nQ5, nQ6, reduceCtorEq, e8, e7, e6, e3]
  refine vgrow hs (fun h0 => by rw [gb_ne h0]; rfl) (fun h0 => by rw [h0, gb_nil]; rfl) (by omega) (by omega) (by omega) (by omega) ?_
  simp only [go_sem, ↓reduceIte, nQ1, nQ2, nQ3, nQ4, nQ5, nQ6, reduceCtorEq, e8, e7, e6, e3]
  refine ⟨_, W.in64 (by omega), (i + 1, hs ++ [.slice wa gl[i].length wcap]), [2], by show _ - (i + 1) < _ - i; omega, ?_, by decide, by show i + 1 ≤ _; omega, (hH.mono (newR_mono hle2)).snoc hlt' (hw.mono (newR_sub hle1))⟩
  show _ ∧ _
  rw [List.length_append]
  try simp only [go_sem, ↓reduceIte, nQ1, nQ2, nQ3, nQ4, nQ5, nQ6, reduceCtorEq]
  rfl
 ·obtain rfl : i = gl.length := by omega
  rw [List.take_length] at hH
  exact ⟨hs, gb_out _ _ _, rfl, hH⟩
end Go.Proofs.YtdglpgepgmdbdaaGreatDoor
/- Plain lemmas of our own, no statement of the seat: the cells of a window that are not known: plain. -/
namespace Go.Proofs.YtdglpgepgmdbdaaGreatDoor
set_option linter.unusedSectionVars false
variable [Go.Proofs.YtdglpgepgmdbdaaGreatDoor.Vc.Drew]
set_option linter.unusedSimpArgs false
set_option linter.unusedVariables false
open Go.Proofs.YtdglpgepgmdbdaaGreatDoor.Vc
theorem floorI_le {a n : Int} (hn : 0 < n) : floorI a n ≤ a ∧ a < floorI a n + n := by
 unfold floorI
 have h1 := Int.emod_nonneg a (show n ≠ 0 by omega)
 have h2 := Int.emod_lt_of_pos a hn
 omega
theorem floorI_mul (a n : Int) : floorI a n % n = 0 := by
 unfold floorI
 have := Int.emod_emod_of_dvd a (Int.dvd_refl n)
 rw [Int.sub_emod, this, Int.sub_self, Int.zero_emod]
theorem floorI_mono {a b n : Int} (hn : 0 < n) (h : a ≤ b) : floorI a n ≤ floorI b n := by
 rcases Int.lt_or_le (floorI b n) (floorI a n) with hlt | hge
 ·exfalso
  have h1 := floorI_le (a := a) hn
  have h2 := floorI_le (a := b) hn
  have h3 : n ∣ floorI a n - floorI b n := Int.dvd_sub (Int.dvd_of_emod_eq_zero (floorI_mul a n)) (Int.dvd_of_emod_eq_zero (floorI_mul b n))
  have h4 := Int.le_of_dvd (by omega) h3
  omega
 ·exact hge
theorem mul_step {a b n : Int} (hn : 0 < n) (ha : a % n = 0) (hb : b % n = 0) (h : a < b) : a + n ≤ b := by
 have h3 : n ∣ b - a := Int.dvd_sub (Int.dvd_of_emod_eq_zero hb) (Int.dvd_of_emod_eq_zero ha)
 have h4 := Int.le_of_dvd (by omega) h3
 omega
theorem floorI_id {a n : Int} (h : a % n = 0) : floorI a n = a := by unfold floorI; omega
def ceilI (a n : Int) : Int := floorI (a + n - 1) n
theorem ceilI_ge {a n : Int} (hn : 0 < n) : a ≤ ceilI a n ∧ ceilI a n < a + n := by
 unfold ceilI
 have := floorI_le (a := a + n - 1) hn
 omega
theorem ceilI_mul (a n : Int) : ceilI a n % n = 0 := floorI_mul _ n
def cellsW (n : Int) (w : Sp) : List Sp := (List.range ((w.t - w.f) / n).toNat).map fun i : Nat => ⟨w.f + i * n, w.f + i * n + n⟩
def covered (n : Int) (K : Int → Bool) (c : Sp) : Bool := (List.range n.toNat).all fun j : Nat => K (c.f + j)
def missC (n : Int) (K : Int → Bool) (w : Sp) : List Sp := (cellsW n w).filter fun c => !covered n K c
theorem covered_iff {n : Int} {K : Int → Bool} {c : Sp} (hn : 0 < n) (hc : c.t = c.f + n) : covered n K c = true ↔ ∀ t, c.f ≤ t → t < c.t → K t = true := by
 unfold covered
 rw [List.all_eq_true]
 constructor
 ·intro h t h1 h2
  have := h (t - c.f).toNat (List.mem_range.2 (by omega))
  rwa [show c.f + ((t - c.f).toNat : Int) = t by omega] at this
 ·intro h j hj
  have := List.mem_range.1 hj
  exact h _ (by omega) (by omega)
theorem cellsW_mem {n : Int} {w c : Sp} (hn : 0 < n) (hf : w.f % n = 0) (ht : w.t % n = 0) (hw : w.f ≤ w.t) : c ∈ cellsW n w ↔ c.f % n = 0 ∧ c.t = c.f + n ∧ w.f ≤ c.f ∧ c.t ≤ w.t := by
 unfold cellsW
 have hd : (w.t - w.f) % n = 0 := by
  have : n ∣ w.t - w.f := Int.dvd_sub (Int.dvd_of_emod_eq_zero ht) (Int.dvd_of_emod_eq_zero hf)
  exact Int.emod_eq_zero_of_dvd this
 have hq : n * ((w.t - w.f) / n) = w.t - w.f := by have := Int.mul_ediv_add_emod (w.t - w.f) n; omega
 have hq0 : 0 ≤ (w.t - w.f) / n := Int.ediv_nonneg (by omega) (by omega)
 rw [List.mem_map]
 constructor
 ·rintro ⟨i, hi, rfl⟩
  have hi := List.mem_range.1 hi
  have h1 : ((i : Int) + 1) * n ≤ ((w.t - w.f) / n) * n := Int.mul_le_mul_of_nonneg_right (by omega) (by omega)
  rw [Int.mul_comm ((w.t - w.f) / n), hq, Int.add_mul, Int.one_mul] at h1
  have h2 : 0 ≤ (i : Int) * n := Int.mul_nonneg (by omega) (by omega)
  refine ⟨?_, rfl, by show w.f ≤ w.f + i * n; omega, by show w.f + i * n + n ≤ w.t; omega⟩
  show (w.f + i * n) % n = 0
  rw [Int.add_mul_emod_self_right]; exact hf
 ·rintro ⟨h1, h2, h3, h4⟩
  have h5 : n ∣ c.f - w.f := Int.dvd_sub (Int.dvd_of_emod_eq_zero h1) (Int.dvd_of_emod_eq_zero hf)
  obtain ⟨q, hq'⟩ := h5
  have hqn : 0 ≤ q := by
   rcases Int.lt_or_le q 0 with h | h
   ·have := Int.mul_neg_of_pos_of_neg hn h; omega
   ·exact h
  refine ⟨q.toNat, List.mem_range.2 ?_, ?_⟩
  ·have h6 : n * (q + 1) ≤ n * ((w.t - w.f) / n) := by rw [Int.mul_add, Int.mul_one, hq]; omega
   have := Int.le_of_mul_le_mul_left h6 hn
   omega
  ·cases c
   simp only at h2 hq' ⊢
   have : (q.toNat : Int) * n = n * q := by rw [Int.toNat_of_nonneg hqn, Int.mul_comm]
   congr 1 <;> omega
def roundS (n : Int) (s : Sp) : Sp := ⟨floorI s.f n, ceilI s.t n⟩
theorem sub_bounds {l : List Sp} (h : Normal l) {w : Sp} (hm : ∀ t, memS l t = true → w.f ≤ t ∧ t < w.t) : ∀ s ∈ l, w.f ≤ s.f ∧ s.t ≤ w.t := fun s hs => by
 have hp := h.pos s hs
 have h1 := hm s.f (memS_iff.2 ⟨s, hs, by omega, hp⟩)
 have h2 := hm (s.t - 1) (memS_iff.2 ⟨s, hs, by omega, by omega⟩)
 omega
theorem round_mem {n : Int} (hn : 0 < n) {w : Sp} (hf : w.f % n = 0) (ht : w.t % n = 0) (hw : w.f ≤ w.t) {K : Int → Bool} {l : List Sp} (hl : Normal l) (hm : ∀ t, memS l t = true ↔ (w.f ≤ t ∧ t < w.t) ∧ K t = false) (t : Int) : memS (l.map (roundS n)) t = memS (missC n K w) t := by
 have hb := sub_bounds hl fun t h => (hm t).1 h |>.1
 rw [Bool.eq_iff_iff, memS_iff, memS_iff]
 constructor
 ·rintro ⟨r, hr, h1, h2⟩
  obtain ⟨s, hs, rfl⟩ := List.mem_map.1 hr
  have hp := hl.pos s hs
  have h1 : floorI s.f n ≤ t := h1
  have h2 : t < ceilI s.t n := h2
  have g1 := floorI_le (a := s.f) hn
  have g2 := ceilI_ge (a := s.t) hn
  have g3 := floorI_le (a := t) hn
  have g4 := hb s hs
  have c1 : floorI s.f n ≤ floorI t n := by
   have := floorI_mono hn h1
   rwa [floorI_id (floorI_mul s.f n)] at this
  have c2 := mul_step hn (floorI_mul t n) (ceilI_mul s.t n) (show floorI t n < ceilI s.t n by omega)
  have c3 : w.f ≤ floorI t n := by
   have := floorI_mono (n := n) hn (show w.f ≤ s.f by omega)
   rw [floorI_id hf] at this; omega
  have c4 : ceilI s.t n ≤ w.t := by
   rcases Int.lt_or_le w.t (ceilI s.t n) with h | h
   ·have := mul_step hn ht (ceilI_mul s.t n) h; omega
   ·exact h
  refine ⟨⟨floorI t n, floorI t n + n⟩, List.mem_filter.2 ⟨(cellsW_mem hn hf ht hw).2 ⟨floorI_mul t n, rfl, c3, by show floorI t n + n ≤ w.t; omega⟩, ?_⟩, g3.1, g3.2⟩
  rw [Bool.not_eq_true', ← Bool.not_eq_true, covered_iff hn rfl]
  intro hall
  have hx := (hm (max s.f (floorI t n))).1 (memS_iff.2 ⟨s, hs, by omega, by omega⟩)
  have := hall (max s.f (floorI t n)) (by show floorI t n ≤ _; omega) (by show _ < floorI t n + n; omega)
  rw [hx.2] at this; cases this
 ·rintro ⟨c, hc, h1, h2⟩
  obtain ⟨hc1, hc2⟩ := List.mem_filter.1 hc
  obtain ⟨e1, e2, e3, e4⟩ := (cellsW_mem hn hf ht hw).1 hc1
  rw [Bool.not_eq_true', ← Bool.not_eq_true, covered_iff hn e2] at hc2
  obtain ⟨x, hx⟩ := Classical.not_forall.1 hc2
  simp only [Classical.not_imp, Bool.not_eq_true] at hx
  obtain ⟨x1, x2, x3⟩ := hx
  obtain ⟨s, hs, y1, y2⟩ := memS_iff.1 ((hm x).2 ⟨⟨by omega, by omega⟩, x3⟩)
  refine ⟨roundS n s, List.mem_map_of_mem hs, ?_, ?_⟩
  ·show floorI s.f n ≤ t
   have := floorI_mono hn (show s.f ≤ x by omega)
   have h3 : floorI x n ≤ c.f := by
    rcases Int.lt_or_le c.f (floorI x n) with h | h
    ·have := mul_step hn e1 (floorI_mul x n) h
     have := floorI_le (a := x) hn
     omega
    ·exact h
   omega
  ·show t < ceilI s.t n
   have g2 := ceilI_ge (a := s.t) hn
   have := mul_step hn e1 (ceilI_mul s.t n) (by omega)
   omega
end Go.Proofs.YtdglpgepgmdbdaaGreatDoor
/- Plain lemmas of our own, no statement of the seat: the ledger's missing. -/
namespace Go.Proofs.YtdglpgepgmdbdaaGreatDoor
set_option linter.unusedSectionVars false
variable [Go.Proofs.YtdglpgepgmdbdaaGreatDoor.Vc.Drew]
set_option linter.unusedSimpArgs false
set_option linter.unusedVariables false
open Go.Proofs.YtdglpgepgmdbdaaGreatDoor.Vc
theorem add_off (a : Addr) (n : Nat) : (a.add n).off = a.off + n := by unfold Addr.add; split <;> simp_all
theorem EncV.put {α : Type} {enc : α → List Value} {k : Nat} {F : RO} {ad : Addr} {n cap : Nat} {xs : List α} (hk : ∀ x, (enc x).length = k) (h : EncV enc k F (.slice (some ad) n cap) xs) {i : Nat} (hi : i < xs.length) (y : α) : EncV enc k (putF F (ad.add (i * k)) (enc y)) (.slice (some ad) n cap) (xs.set i y) := by
 obtain ⟨⟨a, c, e, hc, hf⟩, hl⟩ := h
 refine ⟨⟨a, c, by rw [e, List.length_map, List.length_map, List.length_set], by simpa using hc, fun j us hj => ?_⟩, by simpa using hl⟩
 simp only [Value.slice.injEq] at e
 obtain ⟨rfl, -, -⟩ := e
 have hus : us.length = k := by
  rw [List.getElem?_map] at hj
  obtain ⟨x, _, rfl⟩ := Option.map_eq_some_iff.1 hj
  exact hk x
 refine ⟨hus, ad, rfl, fun o u ho => ?_⟩
 rw [List.getElem?_map, List.getElem?_set] at hj
 by_cases hij : i = j
 ·subst hij
  rw [if_pos rfl, if_pos hi] at hj
  simp only [Option.map_some, Option.some.injEq] at hj
  subst hj
  exact putF_at ho
 ·rw [if_neg hij] at hj
  obtain ⟨-, ad', e, hR⟩ := hf j us (by rw [List.getElem?_map]; exact hj)
  simp only [Option.some.injEq] at e
  subst e
  refine putF_ne (hR o u ho) ?_
  rw [add_off, add_off, add_off, hk]
  obtain ⟨x, _, rfl⟩ := Option.map_eq_some_iff.1 hj
  have ho' := (List.getElem?_eq_some_iff.1 ho).1
  rw [hk] at ho'
  rintro ⟨_, h1, h2⟩
  rcases Nat.lt_or_gt_of_ne hij with h | h
  ·have : (i + 1) * k ≤ j * k := Nat.mul_le_mul_right k h
   rw [Nat.add_mul] at this; omega
  ·have : (j + 1) * k ≤ i * k := Nat.mul_le_mul_right k h
   rw [Nat.add_mul] at this; omega
theorem CombV.sub {R : RO} {r : Value} {xs ys : List Sp} (h : CombV R r (fun x y => x && !y) xs ys) (hx : rangedB xs = true) (hy : rangedB ys = true) : ∃ v zs, r = .tuple #[v, .int .i64 0] ∧ SpV R v zs ∧ Normal zs ∧ (∀ t, memS zs t = (memS xs t && !memS ys t)) ∧ zs.length ≤ 2 * (xs.length + ys.length) := by
 unfold CombV at h
 rw [if_pos ⟨hx, hy⟩] at h
 exact h
def mixR (n : Int) (zs : List Sp) (i : Nat) : List Sp := (zs.take i).map (roundS n) ++ zs.drop i
theorem mixR_zero (n : Int) (zs : List Sp) : mixR n zs 0 = zs := by simp [mixR]
theorem mixR_all (n : Int) (zs : List Sp) : mixR n zs zs.length = zs.map (roundS n) := by simp [mixR]
theorem mixR_len (n : Int) (zs : List Sp) (i : Nat) : (mixR n zs i).length = zs.length := by simp [mixR]; omega
theorem mixR_get (n : Int) (zs : List Sp) (i : Nat) (hi : i < zs.length) : (mixR n zs i)[i]'(by rw [mixR_len]; exact hi) = zs[i] := by
 unfold mixR
 rw [List.getElem_append_right (by simp; omega)]
 simp [Nat.min_eq_left (Nat.le_of_lt hi)]
theorem mixR_set (n : Int) (zs : List Sp) (i : Nat) (hi : i < zs.length) : (mixR n zs i).set i (roundS n zs[i]) = mixR n zs (i + 1) := by
 unfold mixR
 rw [List.take_succ_eq_append_getElem hi, List.map_append, List.set_append_right _ _ (by simp; omega)]
 rw [List.drop_eq_getElem_cons hi, List.length_map, List.length_take, Nat.min_eq_left (Nat.le_of_lt hi), Nat.sub_self, List.set_cons_zero, List.map_singleton, List.append_assoc]
 rfl
def missD (n : Int) (K : Int → Bool) (w : Sp) : List Sp := normD (missC n K w)
structure OkW (k : Int) (w : Sp) : Prop where
 pos : w.f < w.t
 lo : -2251799813685248 ≤ w.f
 hi : w.t ≤ 2251799813685248
 ali : alignedB w (sizeI k) = true
def MissQ (ps : List Le) (c : Nat) (k : Int) (w : Sp) (K : Int → Bool) (R : RO) (s : St) : Prop :=
 ∃ env b jo F R1 v zs, s = ⟨env, b, R1⟩ ∧ RO.le R R1 ∧ env 2 = .val (.int .i64 k) ∧ env 9 = .val v ∧ b[0]? = some (.mp (ents ps) c) ∧ b[jo]? = some (.own F) ∧ jo ≠ 0 ∧ SpV F v zs ∧ Normal zs ∧ (∀ t, memS zs t = (memS [w] t && !K t)) ∧ zs.length ≤ 1000000
set_option maxHeartbeats 2000000 in
theorem bMissing (ps : List Le) (c : Nat) (g k : Int) (w : Sp) (hk : 1 ≤ k ∧ k ≤ 4) (hw : OkW k w) (R : RO) (hz : SzR R) (hL : LedOK R ps c) (hs : SmallL (ps.map (·.1))) : CallsS Tryz.prog 19 [.mp 0, .val (.int .i64 g), .val (.int .i64 k), .val (.agg w.cells.toArray)] [.mp (ents ps) c] R fun R' bs r =>
  bs = [.mp (ents ps) c, .dead] ∧ ∃ v, r = .val v ∧ SpV (newR R R') v (missD (sizeI k) (memS (knownD (ps.map (·.1)) g k)) w) := by
 have hrw : rangedB [w] = true := rangedB_iff.2 fun s hs => by
  simp only [List.mem_cons, List.not_mem_nil, or_false] at hs
  subst hs
  have := hw.pos; have := hw.lo; have := hw.hi
  omega
 obtain ⟨kn, hkn⟩ : ∃ kn, kn = knownD (ps.map (·.1)) g k := ⟨_, rfl⟩
 have hrk : rangedB kn = true := by rw [hkn]; exact normD_ranged (hs.knownL g k _).1
 have hlk : kn.length ≤ 400000 := by
  rw [hkn]
  have h1 := normD_len (knownL (ps.map (·.1)) g k (5 - k).toNat)
  have h2 := (hs.knownL g k (5 - k).toNat).2
  unfold knownD
  omega
 have hK := fun R' hle => bKnown ps c g k hk R' (hL.mono (R' := R') hle) hs
 rw [← hkn] at hK ⊢
 simp only [Sp.cells]
 refine callsTS mix Tryz.func19 comp19 (by simp [Tryz.ntmps19]) rfl rfl ?_; simp only [vc19, rs19]
 (refine cutR ?_ ?_ ?_; rotate_left; (try simp only [go_sem, ↓reduceIte, nQ1, nQ2, nQ3, nQ4, nQ5, nQ6, reduceCtorEq, true_and]; rfl))
 rw [tCode_seq]
 refine cutT (MissQ ps c k w (memS kn) R) ?_ ?_
 ·try simp only [go_sem, ↓reduceIte, nQ1, nQ2, nQ3, nQ4, nQ5, nQ6, reduceCtorEq]
  refine ⟨?_, ?_⟩
  ·refine vshow [0] [.mp 0, .val (.int .i64 g), .val (.int .i64 k)] [.mp (ents ps) c] (hK R (RO.le_refl _)) rfl rfl rfl ?_ (by simp) rfl rfl (fun R' bs' r h => by rw [h.1]; rfl) ?_
   {try simp only [go_sem, ↓reduceIte, nQ1, nQ2, nQ3, nQ4, nQ5, nQ6, reduceCtorEq] }
   rintro R1 bs r hle1 ⟨rfl, kv, rfl, hkv⟩ _
   have hkv1 := hkv.mono newR_le
   simp only [go_sem, ↓reduceIte, nQ1, nQ2, nQ3, nQ4, nQ5, nQ6, reduceCtorEq, setG, rn]
   refine vadopt ?_
   intro β κ R2 hL2
   obtain ⟨hrow, hcap⟩ := hL2.2 2 _ rfl
   have hwv : SpV R2 (.slice (some ⟨β 2, 0, none⟩) 1 (κ 2)) [w] := RowIn.enc (xs := [w]) (enc := Sp.cells) (k := 2) (fun _ => rfl) (by omega) hrow hcap (by simp)
   refine ⟨_, bMinus [w] kn _ _ R2 hwv (hkv1.mono hL2.1) (by simp only [List.length_cons, List.length_nil]; omega), ?_⟩
   intro R3 r F hle3 hpost hF
   obtain ⟨zv, zs, rfl, hz1, hz2, hz3, hz4⟩ := hpost.sub hrw hrk
   have hz5 := hz1.mono (fun a u hn => hF a u hn.1 hn.2)
   simp only [List.length_cons, List.length_nil] at hz4
   try simp only [go_sem, ↓reduceIte, nQ1, nQ2, nQ3, nQ4, nQ5, nQ6, reduceCtorEq]
   exact ⟨_, _, 4, F, _, zv, zs, rfl, hle1, rfl, rfl, rfl, rfl, by omega, hz5, hz2, hz3, by omega⟩
  ·refine vshow [0] [.mp 0, .val (.int .i64 g), .val (.int .i64 k)] [.mp (ents ps) c] (hK R (RO.le_refl _)) rfl rfl rfl ?_ (by simp) rfl rfl (fun R' bs' r h => by rw [h.1]; rfl) ?_
   {try simp only [go_sem, ↓reduceIte, nQ1, nQ2, nQ3, nQ4, nQ5, nQ6, reduceCtorEq] }
   rintro R1 bs r hle1 ⟨rfl, kv, rfl, hkv⟩ _
   have hkv1 := hkv.mono newR_le
   simp only [go_sem, ↓reduceIte, nQ1, nQ2, nQ3, nQ4, nQ5, nQ6, reduceCtorEq, setG, rn]
   refine vadopt ?_
   intro β κ R2 hL2
   obtain ⟨hrow, hcap⟩ := hL2.2 3 _ rfl
   have hwv : SpV R2 (.slice (some ⟨β 3, 0, none⟩) 1 (κ 3)) [w] := RowIn.enc (xs := [w]) (enc := Sp.cells) (k := 2) (fun _ => rfl) (by omega) hrow hcap (by simp)
   refine ⟨_, bMinus [w] kn _ _ R2 hwv (hkv1.mono hL2.1) (by simp only [List.length_cons, List.length_nil]; omega), ?_⟩
   intro R3 r F hle3 hpost hF
   obtain ⟨zv, zs, rfl, hz1, hz2, hz3, hz4⟩ := hpost.sub hrw hrk
   have hz5 := hz1.mono (fun a u hn => hF a u hn.1 hn.2)
   simp only [List.length_cons, List.length_nil] at hz4
   try simp only [go_sem, ↓reduceIte, nQ1, nQ2, nQ3, nQ4, nQ5, nQ6, reduceCtorEq]
   exact ⟨_, _, 4, F, _, zv, zs, rfl, hle1, rfl, rfl, rfl, rfl, by omega, hz5, hz2, hz3, by omega⟩
 ·rintro s' ⟨env, b, jo, F, R1, v, zs, rfl, hle1, e2, e9, hb0, hbo, hjo, hzv, hzn, hzm, hzl⟩
  obtain ⟨n, hn⟩ : ∃ n, n = sizeI k := ⟨_, rfl⟩
  have hn1 := sizeI_one k
  rw [← hn] at hn1
  obtain ⟨za, zcap, rfl, hzc, -⟩ := hzv.form
  have hmw : ∀ t, memS zs t = true ↔ (w.f ≤ t ∧ t < w.t) ∧ memS kn t = false := fun t => by
   rw [hzm, memS_cons, memS_nil, Bool.or_false]
   simp
  have hsb := sub_bounds hzn fun t h => ((hmw t).1 h).1
  have hali := alignedB_iff.1 hw.ali
  rw [← hn] at hali
  have hwp := hw.pos
  have hwl := hw.lo
  have hwh := hw.hi
  try simp only [go_sem, ↓reduceIte, nQ1, nQ2, nQ3, nQ4, nQ5, nQ6, reduceCtorEq, e2, e9]
  refine ⟨by omega, by omega, vload _ ((hz.mono hle1).get hk) ?_⟩
  rw [← hn]
  try simp only [go_sem, ↓reduceIte, nQ1, nQ2, nQ3, nQ4, nQ5, nQ6, reduceCtorEq, e2, e9]
  refine vcLoopR (Nat × RO) (fun x => [(31, .val (.int .i64 x.1)), (30, .val (.int .i64 zs.length)), (29, .val (.slice za zs.length zcap)), (9, .val (.slice za zs.length zcap)), (11, .val (.int .i64 n))]) (fun x => [.mp (ents ps) c, .own x.2]) (fun x _ => x.1 ≤ zs.length ∧ SpV x.2 (.slice za zs.length zcap) (mixR n zs x.1)) (fun x => zs.length - x.1) (0, F) [0, jo] ?_ ?_ ?_ ?_
  ·try simp only [go_sem, ↓reduceIte, nQ1, nQ2, nQ3, nQ4, nQ5, nQ6, reduceCtorEq, e2, e9]
   exact ⟨rfl, hb0, F, hbo, RO.le_refl _⟩
  ·simp only [go_sem, ↓reduceIte, nQ1, nQ2, nQ3, nQ4, nQ5, nQ6, reduceCtorEq, inScope]
   refine ⟨?_, by rfl⟩
   simp [rnInj, rn, List.range_succ, hjo]
  ·exact ⟨Nat.zero_le _, by rw [mixR_zero]; exact hzv⟩
  rintro ⟨i, F1⟩ env R2 hle2 hE ⟨hi, hF1⟩
  (simp only [go_sem] at hE; obtain ⟨e31, e30, e29, e9', e11⟩ := hE; simp only [go_sem, ↓reduceIte, nQ1, nQ2, nQ3, nQ4, nQ5, nQ6, reduceCtorEq, e31, e30, e29, e9', e11]; dsimp only at *)
  have hml := mixR_len n zs i
  refine ⟨fun hlt => ?_, fun hge => ?_⟩
  ·have hlt' : i < zs.length := by omega
   obtain ⟨fa, fcap, e, -, hff⟩ := hF1.form
   simp only [Value.slice.injEq] at e
   obtain ⟨rfl, -, -⟩ := e
   obtain ⟨ad, had, hFR⟩ := hff i (by omega)
   rw [mixR_get n zs i hlt'] at hFR
   subst had
   have hsz := hsb _ (List.getElem_mem hlt')
   have hsp := hzn.pos _ (List.getElem_mem hlt')
   refine ⟨by omega, vat ad rfl ?_⟩
   try simp only [go_sem, ↓reduceIte, nQ1, nQ2, nQ3, nQ4, nQ5, nQ6, reduceCtorEq]
   refine vloadnO 1 F1 rfl (zs[i]).cells rfl (fun j u hj => hFR j u hj) ?_
   simp only [go_sem, ↓reduceIte, nQ1, nQ2, nQ3, nQ4, nQ5, nQ6, reduceCtorEq, Sp.cells, e31, e30, e29, e9', e11]
   refine ⟨_, W.in64 (by omega), _, W.in64 (by omega), ?_⟩
   refine vcall (bFloor (zs[i]).f n (by omega) (by omega) (by omega) R2) ?_
   rintro R3 r hle3 rfl
   simp only [go_sem, ↓reduceIte, nQ1, nQ2, nQ3, nQ4, nQ5, nQ6, reduceCtorEq, e31, e30, e29, e9', e11]
   refine vcall (bFloor ((zs[i]).t + n - 1) n (by omega) (by omega) (by omega) R3) ?_
   rintro R4 r hle4 rfl
   simp only [go_sem, ↓reduceIte, nQ1, nQ2, nQ3, nQ4, nQ5, nQ6, reduceCtorEq, e31, e30, e29, e9', e11]
   refine ⟨by omega, ?_⟩
   refine vstoreO 1 F1 rfl rfl (by omega) (fun j hj => ?_) (by simp [Value.cells, Value.oneCell']) ?_
   ·have h2 : j = 0 ∨ j = 1 := by omega
    rcases h2 with rfl | rfl
    ·exact ⟨_, hFR 0 _ rfl⟩
    ·exact ⟨_, hFR 1 _ rfl⟩
   simp only [go_sem, ↓reduceIte, nQ1, nQ2, nQ3, nQ4, nQ5, nQ6, reduceCtorEq, e31, e30, e29, e9', e11]
   have hput := EncV.put (enc := Sp.cells) (k := 2) (fun _ => rfl) hF1 (show i < (mixR n zs i).length by omega) (roundS n zs[i])
   rw [mixR_set n zs i hlt'] at hput
   refine ⟨_, W.in64 (by omega), (i + 1, _), [], by show _ - (i + 1) < _ - i; omega, ?_, ?_, by show i + 1 ≤ _; omega, hput⟩
   ·try simp only [go_sem, ↓reduceIte, nQ1, nQ2, nQ3, nQ4, nQ5, nQ6, reduceCtorEq]
    exact ⟨rfl, RO.le_refl _⟩
   ·simp only [go_sem, ↓reduceIte, nQ1, nQ2, nQ3, nQ4, nQ5, nQ6, reduceCtorEq, inScope, rnInj_nil]
    decide
  ·obtain rfl : i = zs.length := by omega
   rw [mixR_all] at hF1
   try simp only [go_sem, ↓reduceIte, nQ1, nQ2, nQ3, nQ4, nQ5, nQ6, reduceCtorEq, e31, e30, e29, e9', e11]
   have hrr : rangedB (zs.map (roundS n)) = true := by
    rw [rangedB_iff]
    intro r hr
    obtain ⟨s, hs', rfl⟩ := List.mem_map.1 hr
    have h1 := hsb s hs'
    have h2 := hzn.pos s hs'
    have g1 := floorI_le (a := s.f) (n := n) (by omega)
    have g2 := ceilI_ge (a := s.t) (n := n) (by omega)
    have c3 : w.f ≤ floorI s.f n := by
     have := floorI_mono (n := n) (by omega) (show w.f ≤ s.f by omega)
     rwa [floorI_id hali.1] at this
    have c4 : ceilI s.t n ≤ w.t := by
     rcases Int.lt_or_le w.t (ceilI s.t n) with h | h
     ·have := mul_step (n := n) (by omega) hali.2 (ceilI_mul s.t n) h; omega
     ·exact h
    show (_ ≤ floorI s.f n ∧ floorI s.f n ≤ _) ∧ (_ ≤ ceilI s.t n ∧ ceilI s.t n ≤ _)
    omega
   refine vlendV (Post := fun R3 R4 r => CombV (newR R3 R4) r (fun x y => x || y) (zs.map (roundS n)) []) rfl (fun R3 hle3 hown => bNorm _ _ R3 (hF1.mono (hown F1 (by simp))) (by rw [List.length_map]; omega)) ?_
   intro R3 R4 r R5 hle3 hle4 hpost hle5 hnew
   obtain ⟨v, rfl, hv⟩ := hpost.or hrr rfl
   try simp only [go_sem, ↓reduceIte, nQ1, nQ2, nQ3, nQ4, nQ5, nQ6, reduceCtorEq, e31, e30, e29, e9', e11]
   have hle03 := RO.le_trans hle1 (RO.le_trans hle2 hle3)
   have e : unionD (zs.map (roundS n)) [] = missD n (memS kn) w := by
    rw [unionD_nil]
    exact (normD_normal _).eq_normD fun t => by rw [normD_mem]; exact round_mem (by omega) hali.1 hali.2 (by omega) hzn hmw t
   rw [e] at hv
   exact ⟨⟨rfl, rfl⟩, v, rfl, hv.mono fun a u hn => ⟨hnew a u hn, fun x y hx => hn.2 x y (hle03 _ _ hx)⟩⟩
end Go.Proofs.YtdglpgepgmdbdaaGreatDoor
