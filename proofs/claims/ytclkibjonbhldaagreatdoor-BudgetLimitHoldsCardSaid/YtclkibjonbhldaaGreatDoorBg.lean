import Derived.Test.YtclkibjonbhldaaGreatDoorBe
import Derived.Test.YtclkibjonbhldaaGreatDoorSr
import Derived.Ground.SlsfProg
import Derived.Shelf.SortM.Plain
import Derived.Ground.SlgmProg
/- Plain lemmas of our own, no statement of the seat: the bounds of two lists, sorted. -/
namespace Go.Proofs.YtclkibjonbhldaaGreatDoor
set_option linter.unusedSimpArgs false
set_option linter.unusedVariables false
open Go.Proofs.YtclkibjonbhldaaGreatDoor.Vc Go.Shelf Go.Sort
def Tryz.sortBd_ren : Go.Shelf.Ren := ⟨fun | 6 => 129 | 15 => 84 | 14 => 135 | 28 => 108 | 29 => 109 | 20 => 137 | 21 => 138 | 22 => 139 | 23 => 140 | 24 => 141 | 25 => 142 | 26 => 143 | 27 => 144 | 46 => 145 | 47 => 125 | 48 => 126 | 49 => 146 | 50 => 147 | 57 => 148 | n => n, fun | 22 => 137 | 24 => 141 | 25 => 154 | 3 => 3 | 39 => 113 | 0 => 0 | 53 => 134 | 55 => 136 | 4 => 4 | 46 => 126 | 45 => 125 | 50 => 131 | 5 => 5 | 9 => 9 | 66 => 147 | 70 => 151 | 76 => 157 | 77 => 158 | n => n, fun | n => n⟩
theorem Tryz.sortBd : Go.Proofs.SlLaysF0.n6 Tryz.prog Tryz.sortBd_ren := {
  mixed := by kernel_rfl
  f6 := ⟨Tryz.f129.name, by decide, Tryz.func129.trans (congrArg some (by kernel_rfl))⟩
  f14 := ⟨Tryz.f135.name, by decide, Tryz.func135.trans (congrArg some (by kernel_rfl))⟩
  f15 := Tryz.func84.trans (congrArg some (by kernel_rfl))
  f20 := ⟨Tryz.f137.name, by decide, Tryz.func137.trans (congrArg some (by kernel_rfl))⟩
  f21 := ⟨Tryz.f138.name, by decide, Tryz.func138.trans (congrArg some (by kernel_rfl))⟩
  f22 := ⟨Tryz.f139.name, by decide, Tryz.func139.trans (congrArg some (by kernel_rfl))⟩
  f23 := ⟨Tryz.f140.name, by decide, Tryz.func140.trans (congrArg some (by kernel_rfl))⟩
  f24 := ⟨Tryz.f141.name, by decide, Tryz.func141.trans (congrArg some (by kernel_rfl))⟩
  f25 := ⟨Tryz.f142.name, by decide, Tryz.func142.trans (congrArg some (by kernel_rfl))⟩
  f26 := ⟨Tryz.f143.name, by decide, Tryz.func143.trans (congrArg some (by kernel_rfl))⟩
  f27 := ⟨Tryz.f144.name, by decide, Tryz.func144.trans (congrArg some (by kernel_rfl))⟩
  f28 := Tryz.func108.trans (congrArg some (by kernel_rfl))
  f29 := Tryz.func109.trans (congrArg some (by kernel_rfl))
  f46 := ⟨Tryz.f145.name, by decide, Tryz.func145.trans (congrArg some (by kernel_rfl))⟩
  f47 := Tryz.func125.trans (congrArg some (by kernel_rfl))
  f48 := Tryz.func126.trans (congrArg some (by kernel_rfl))
  f49 := ⟨Tryz.f146.name, by decide, Tryz.func146.trans (congrArg some (by kernel_rfl))⟩
  f50 := ⟨Tryz.f147.name, by decide, Tryz.func147.trans (congrArg some (by kernel_rfl))⟩
  f57 := ⟨Tryz.f148.name, by decide, Tryz.func148.trans (congrArg some (by kernel_rfl))⟩
  t0 := Tryz.underlying0
  a0 := Tryz.isAgg0
  z0 := Tryz.sizeOf0
  v0 := Tryz.zeroValue0
  t3 := Tryz.underlying3
  a3 := Tryz.isAgg3
  z3 := Tryz.sizeOf3
  v3 := Tryz.zeroValue3
  t4 := Tryz.underlying4
  a4 := Tryz.isAgg4
  z4 := Tryz.sizeOf4
  v4 := Tryz.zeroValue4
  t5 := Tryz.underlying5
  a5 := Tryz.isAgg5
  z5 := Tryz.sizeOf5
  v5 := Tryz.zeroValue5
  t9 := Tryz.underlying9
  a9 := Tryz.isAgg9
  z9 := Tryz.sizeOf9
  v9 := Tryz.zeroValue9
  t22 := Tryz.underlying137
  a22 := Tryz.isAgg137
  z22 := Tryz.sizeOf137
  v22 := Tryz.zeroValue137
  t25 := Tryz.underlying154
  a25 := Tryz.isAgg154
  z25 := Tryz.sizeOf154
  v25 := Tryz.zeroValue154
  t39 := Tryz.underlying113
  a39 := Tryz.isAgg113
  z39 := Tryz.sizeOf113
  v39 := Tryz.zeroValue113
  t45 := Tryz.underlying125
  a45 := Tryz.isAgg125
  z45 := Tryz.sizeOf125
  v45 := Tryz.zeroValue125
  t46 := Tryz.underlying126
  a46 := Tryz.isAgg126
  z46 := Tryz.sizeOf126
  v46 := Tryz.zeroValue126
  t50 := Tryz.underlying131
  a50 := Tryz.isAgg131
  z50 := Tryz.sizeOf131
  v50 := Tryz.zeroValue131
  t53 := Tryz.underlying134
  a53 := Tryz.isAgg134
  z53 := Tryz.sizeOf134
  v53 := Tryz.zeroValue134
  t55 := Tryz.underlying136
  a55 := Tryz.isAgg136
  z55 := Tryz.sizeOf136
  v55 := Tryz.zeroValue136
  t66 := Tryz.underlying147
  a66 := Tryz.isAgg147
  z66 := Tryz.sizeOf147
  v66 := Tryz.zeroValue147
  t70 := Tryz.underlying151
  a70 := Tryz.isAgg151
  z70 := Tryz.sizeOf151
  v70 := Tryz.zeroValue151
  t76 := Tryz.underlying157
  a76 := Tryz.isAgg157
  z76 := Tryz.sizeOf157
  v76 := Tryz.zeroValue157
  t77 := Tryz.underlying158
  a77 := Tryz.isAgg158
  z77 := Tryz.sizeOf158
  v77 := Tryz.zeroValue158 }
/-- A bound: where, of which list, whether it begins. -/
structure Bd where
  at' : Int
  list : Int
  by' : Int
instance : Inhabited Bd := ⟨⟨0, 0, 0⟩⟩
def Bd.cells (b : Bd) : List Value := [.int .i64 b.at', .int .i64 b.list, .int .i64 b.by']
abbrev rowB (l : List Bd) : List Value := (l.map Bd.cells).flatten
theorem rowB_len (l : List Bd) : (rowB l).length = l.length * 3 := rowE_len (enc := Bd.cells) (k := 3) (fun _ => rfl) l
theorem Bd.one (s : Bd) : ∀ u ∈ s.cells, u.oneCell' = true := by simp [Bd.cells, Value.oneCell']
def bndOf (list : Int) (l : List Sp) : List Bd := l.flatMap fun s => if s.f < s.t then [⟨s.f, list, 1⟩, ⟨s.t, list, -1⟩] else []
theorem bndOf_len (k : Int) (l : List Sp) : (bndOf k l).length ≤ 2 * l.length := by
  induction l with
  | nil => simp [bndOf]
  | cons s l ih =>
    unfold bndOf at ih ⊢
    rw [List.flatMap_cons, List.length_append, List.length_cons]
    split <;> simp only [List.length_cons, List.length_nil] <;> omega
def cmpB (a b : Bd) : Int := cmpI a.at' b.at'
theorem bBoundCmp (a b : Bd) (R : RO) : CallsR Tryz.prog 130 [.agg a.cells.toArray, .agg b.cells.toArray] R fun _ v => v = .int .i64 (cmpB a b) := by
  simp only [Bd.cells]
  refine callsT mix Tryz.func130 comp130 (by simp [Tryz.ntmps130]) ?_; simp only [go_sem, ↓reduceIte, Nat.reduceEqDiff, Nat.reduceAdd, Nat.reduceMul, Nat.reduceLeDiff, Nat.reduceLT, Nat.reduceBNe, reduceCtorEq, vc130, rs130]
  refine vcall (bCompare a.at' b.at' R) ?_
  rintro R1 v h1 rfl
  try simp only [go_sem, ↓reduceIte, Nat.reduceEqDiff, Nat.reduceAdd, Nat.reduceMul, Nat.reduceLeDiff, Nat.reduceLT, Nat.reduceBNe, reduceCtorEq]
  rfl
theorem ltB (p q : Bd) : ltOf cmpB p q = decide (p.at' < q.at') := by
  unfold ltOf cmpB cmpI
  split
  · simp [*]
  · split <;> simp <;> omega
theorem cmpB_swo : SWO (ltOf cmpB) := by
  refine ⟨fun x => ?_, fun x y z h k => ?_, fun x y z h k => ?_⟩
  · rw [ltB]; simp
  · rw [ltB] at *; simp only [decide_eq_true_eq] at *; omega
  · rw [ltB] at *; simp only [decide_eq_false_iff_not] at *; omega
theorem bSortBd (ps : List Bd) (hl : ps.length ≤ 1000000000) (R : RO) :
    CallsS Tryz.prog 129 [.sl 0 ps.length, .val (.func (.func 130) #[] #[])] [.row 141 3 (rowB ps)] R fun R' bs r =>
      R' = R ∧ ∃ qs : List Bd, qs.Perm ps ∧ (qs.Pairwise fun x y => x.at' ≤ y.at') ∧ bs = [.row 141 3 (rowB qs)] ∧ r = .val (.tuple #[]) := by
  have h := sortFuncS Tryz.sortBd 3 Tryz.isAgg141 Tryz.sizeOf141 Bd.cells (fun _ => rfl) Bd.one cmpB cmpB_swo 130 141
    (enters_of Tryz.func130 (by kernel_rfl) rfl) (fun x y => bBoundCmp x y _) ps (by omega) R
  simp only [ltB, decide_eq_false_iff_not, Int.not_lt] at h
  exact h
theorem bSortBdNil (fv : Value) (R : RO) : CallsR Tryz.prog 129 [.slice none 0 0, fv] R fun _ r => r = .tuple #[] := sortFuncNil Tryz.sortBd fv R
end Go.Proofs.YtclkibjonbhldaaGreatDoor
/- Plain lemmas of our own, no statement of the seat: span.bounds. -/
namespace Go.Proofs.YtclkibjonbhldaaGreatDoor
set_option linter.unusedSimpArgs false
set_option linter.unusedVariables false
open Go.Proofs.YtclkibjonbhldaaGreatDoor.Vc
abbrev BdV := EncV Bd.cells 3
theorem rowB_app (a b : List Bd) : rowB a ++ rowB b = rowB (a ++ b) := by unfold rowB; rw [List.map_append, List.flatten_append]
theorem bndOf_snoc (k : Int) (l : List Sp) (i : Nat) (hi : i < l.length) : bndOf k (l.take (i + 1)) = bndOf k (l.take i) ++ (if l[i].f < l[i].t then [⟨l[i].f, k, 1⟩, ⟨l[i].t, k, -1⟩] else []) := by
  rw [List.take_succ_eq_append_getElem hi]
  unfold bndOf
  rw [List.flatMap_append, List.flatMap_cons, List.flatMap_nil, List.append_nil]
set_option maxHeartbeats 1000000 in
theorem bBounds (xs ys : List Sp) (v u : Value) (R : RO) (h : SpV R v xs) (h' : SpV R u ys) (hl : xs.length + ys.length ≤ 10000000) : CallsR Tryz.prog 114 [v, u] R fun R' r => ∃ l, BdV R' r l ∧ l.Perm (bndOf 0 xs ++ bndOf 1 ys) ∧ (l.Pairwise fun x y => x.at' ≤ y.at') := by
  obtain ⟨a, cap, rfl, hc, hf⟩ := h.form
  obtain ⟨b, cap', rfl, hc', hf'⟩ := h'.form
  refine callsT mix Tryz.func114 comp114 (by simp [Tryz.ntmps114]) ?_; simp only [go_sem, ↓reduceIte, Nat.reduceEqDiff, Nat.reduceAdd, Nat.reduceMul, Nat.reduceLeDiff, Nat.reduceLT, Nat.reduceBNe, reduceCtorEq, vc114, rs114]
  obtain ⟨O, hO⟩ : ∃ O : Nat → List Bd, O = fun i => if i = 0 then [] else if i = 1 then bndOf 0 xs else bndOf 0 xs ++ bndOf 1 ys := ⟨_, rfl⟩
  have hOl : ∀ i, (O i).length ≤ 2 * (xs.length + ys.length) := fun i => by
    have h1 := bndOf_len 0 xs
    have h2 := bndOf_len 1 ys
    rw [hO]
    dsimp only
    split
    · simp
    · split
      · omega
      · rw [List.length_append]; omega
  refine vcLoopR Nat (fun i => [(14, .val (.int .i64 i)), (13, .val (.int .i64 2)), (12, .sl 0 2), (5, gs 1 (O i).length)]) (fun i => [.row 54 1 [.slice a xs.length cap, .slice b ys.length cap'], gb 141 3 (rowB (O i))]) (fun i _ => i ≤ 2) (fun i => 2 - i) 0 [] ?_ ?_ ?_ ?_
  · rw [hO]
    (try simp only [go_sem, ↓reduceIte, Nat.reduceEqDiff, Nat.reduceAdd, Nat.reduceMul, Nat.reduceLeDiff, Nat.reduceLT, Nat.reduceBNe, reduceCtorEq]) <;> (repeat' (first | rfl | trivial | constructor | (intro h; exact absurd rfl h)))
  · try simp only [go_sem, ↓reduceIte, Nat.reduceEqDiff, Nat.reduceAdd, Nat.reduceMul, Nat.reduceLeDiff, Nat.reduceLT, Nat.reduceBNe, reduceCtorEq]
  · exact Nat.zero_le _
  rintro i env R1 hle1 hE hi
  (simp only [go_sem] at hE; obtain ⟨e14, e13, e12, e5⟩ := hE; simp only [go_sem, ↓reduceIte, Nat.reduceEqDiff, Nat.reduceAdd, Nat.reduceMul, Nat.reduceLeDiff, Nat.reduceLT, Nat.reduceBNe, reduceCtorEq, e14, e13, e12, e5]; dsimp only at *)
  refine ⟨fun hlt => ?_, fun hge => ?_⟩
  · have hi2 : i < 2 := by omega
    obtain ⟨l, al, cl, hgl, hR, hOn, hll⟩ : ∃ (l : List Sp) (al : Option Addr) (cl : Nat), [Value.slice a xs.length cap, Value.slice b ys.length cap'][i]? = some (.slice al l.length cl) ∧ (∀ j (hj : j < l.length), ∃ ad, al = some ad ∧ ∀ k u, (l[j].cells)[k]? = some u → R ((ad.add (j * 2)).add k) u) ∧ O (i + 1) = O i ++ bndOf i l ∧ l.length ≤ 10000000 := by
      rcases (show i = 0 ∨ i = 1 by omega) with rfl | rfl
      · exact ⟨xs, a, cap, rfl, hf, by rw [hO]; rfl, by omega⟩
      · exact ⟨ys, b, cap', rfl, hf', by rw [hO]; rfl, by omega⟩
    refine ⟨by omega, _, hgl, ?_⟩
    simp only [go_sem, ↓reduceIte, Nat.reduceEqDiff, Nat.reduceAdd, Nat.reduceMul, Nat.reduceLeDiff, Nat.reduceLT, Nat.reduceBNe, reduceCtorEq, e14, e13, e12, e5]
    obtain ⟨D, hD⟩ : ∃ D : Nat → List Bd, D = fun j => O i ++ bndOf i (l.take j) := ⟨_, rfl⟩
    have hD0 : D 0 = O i := by rw [hD]; simp [bndOf]
    have hDl : ∀ j, (D j).length ≤ 40000000 := fun j => by
      have h1 := hOl i
      have h2 := bndOf_len i (l.take j)
      rw [hD]
      simp only [List.length_append, List.length_take] at h2 ⊢
      omega
    rw [← hD0]
    refine vcLoopR Nat (fun j => [(21, .val (.int .i64 j)), (20, .val (.int .i64 l.length)), (19, .val (.slice al l.length cl)), (6, .val (.int .i64 i)), (14, .val (.int .i64 i)), (13, .val (.int .i64 2)), (12, .sl 0 2), (5, gs 1 (D j).length)]) (fun j => [.row 54 1 [.slice a xs.length cap, .slice b ys.length cap'], gb 141 3 (rowB (D j))]) (fun j _ => j ≤ l.length) (fun j => l.length - j) 0 [] ?_ ?_ ?_ ?_
    · (try simp only [go_sem, ↓reduceIte, Nat.reduceEqDiff, Nat.reduceAdd, Nat.reduceMul, Nat.reduceLeDiff, Nat.reduceLT, Nat.reduceBNe, reduceCtorEq]) <;> (repeat' (first | rfl | trivial | constructor | (intro h; exact absurd rfl h)))
      all_goals first
        | (rw [hD0]; exact e5)
        | (intro h; exact gb_ne h)
    · try simp only [go_sem, ↓reduceIte, Nat.reduceEqDiff, Nat.reduceAdd, Nat.reduceMul, Nat.reduceLeDiff, Nat.reduceLT, Nat.reduceBNe, reduceCtorEq]
    · exact Nat.zero_le _
    rintro j env R2 hle2 hE hj
    (simp only [go_sem] at hE; obtain ⟨e21, e20, e19, e6, e14', e13', e12', e5'⟩ := hE; simp only [go_sem, ↓reduceIte, Nat.reduceEqDiff, Nat.reduceAdd, Nat.reduceMul, Nat.reduceLeDiff, Nat.reduceLT, Nat.reduceBNe, reduceCtorEq, e21, e20, e19, e6, e14', e13', e12', e5']; dsimp only at *)
    refine ⟨fun hlt2 => ?_, fun hge2 => ?_⟩
    · have hj' : j < l.length := by omega
      have hDs : D (j + 1) = D j ++ (if l[j].f < l[j].t then [⟨l[j].f, i, 1⟩, ⟨l[j].t, i, -1⟩] else []) := by
        rw [hD]
        dsimp only
        rw [bndOf_snoc _ _ _ hj', List.append_assoc]
      obtain ⟨ad, had, hRj⟩ := hR j hj'
      refine ⟨hlt2, vat ad had ?_⟩
      try simp only [go_sem, ↓reduceIte, Nat.reduceEqDiff, Nat.reduceAdd, Nat.reduceMul, Nat.reduceLeDiff, Nat.reduceLT, Nat.reduceBNe, reduceCtorEq]
      refine vloadn (l[j]).cells rfl (fun k u hk => hle2 _ _ (hle1 _ _ (hRj k u hk))) ?_
      simp only [go_sem, ↓reduceIte, Nat.reduceEqDiff, Nat.reduceAdd, Nat.reduceMul, Nat.reduceLeDiff, Nat.reduceLT, Nat.reduceBNe, reduceCtorEq, Sp.cells, e21, e20, e19, e6, e14', e13', e12', e5']
      have hDj := hDl j
      refine ⟨fun h1 => ?_, fun h1 => ?_⟩
      · rw [if_pos h1] at hDs
        refine vgrow (rowB (D j)) (fun h0 => by rw [gb_ne h0]; rfl) (fun h0 => by rw [h0, gb_nil]; rfl) (rowB_len (D j)) (by omega) (by omega) (by omega) ?_
        simp only [go_sem, ↓reduceIte, Nat.reduceEqDiff, Nat.reduceAdd, Nat.reduceMul, Nat.reduceLeDiff, Nat.reduceLT, Nat.reduceBNe, reduceCtorEq, e21, e20, e19, e6, e14', e13', e12', e5']
        refine ⟨_, W.in64 (by omega), j + 1, [0, 4], ?_⟩
        rw [hDs]
        have hDn : (D j ++ [⟨l[j].f, (i : Int), 1⟩, ⟨l[j].t, (i : Int), -1⟩] : List Bd).length = (D j).length + 2 := by simp
        rw [hDn, gs_pos (by omega)]
        try simp only [go_sem, ↓reduceIte, Nat.reduceEqDiff, Nat.reduceAdd, Nat.reduceMul, Nat.reduceLeDiff, Nat.reduceLT, Nat.reduceBNe, reduceCtorEq]
        refine ⟨by omega, ⟨rfl, fun _ => by rw [← rowB_app]; rfl⟩, by decide, by omega⟩
      · rw [if_neg h1, List.append_nil] at hDs
        refine ⟨_, W.in64 (by omega), j + 1, [], ?_⟩
        rw [hDs]
        try simp only [go_sem, ↓reduceIte, Nat.reduceEqDiff, Nat.reduceAdd, Nat.reduceMul, Nat.reduceLeDiff, Nat.reduceLT, Nat.reduceBNe, reduceCtorEq]
        exact ⟨by omega, ⟨rfl, fun h => gb_ne h⟩, by decide, by omega⟩
    · obtain rfl : j = l.length := by omega
      have hDe : D l.length = O (i + 1) := by rw [hOn, hD]; simp
      rw [hDe]
      refine ⟨_, W.in64 (by omega), i + 1, [], ?_⟩
      try simp only [go_sem, ↓reduceIte, Nat.reduceEqDiff, Nat.reduceAdd, Nat.reduceMul, Nat.reduceLeDiff, Nat.reduceLT, Nat.reduceBNe, reduceCtorEq]
      exact ⟨by omega, ⟨rfl, fun h => gb_ne h⟩, by decide, by omega⟩
  · obtain rfl : i = 2 := by omega
    have hO2 : O 2 = bndOf 0 xs ++ bndOf 1 ys := by rw [hO]; rfl
    by_cases h0 : (O 2).length = 0
    · rw [h0, gs_zero]
      try simp only [go_sem, ↓reduceIte, Nat.reduceEqDiff, Nat.reduceAdd, Nat.reduceMul, Nat.reduceLeDiff, Nat.reduceLT, Nat.reduceBNe, reduceCtorEq, allVal]
      refine vcall (bSortBdNil _ R1) ?_
      rintro R2 r hle2 rfl
      try simp only [go_sem, ↓reduceIte, Nat.reduceEqDiff, Nat.reduceAdd, Nat.reduceMul, Nat.reduceLeDiff, Nat.reduceLT, Nat.reduceBNe, reduceCtorEq, e14, e13, e12, e5, h0, gs_zero]
      rw [hO2] at h0
      exact ⟨[], EncV.nil _ _ _, by rw [List.eq_nil_of_length_eq_zero h0], List.Pairwise.nil⟩
    · rw [gs_pos h0, gb_ne (fun e => h0 (by have := rowB_len (O 2); rw [e] at this; simp at this; omega))]
      try simp only [go_sem, ↓reduceIte, Nat.reduceEqDiff, Nat.reduceAdd, Nat.reduceMul, Nat.reduceLeDiff, Nat.reduceLT, Nat.reduceBNe, reduceCtorEq, e14, e13, e12, e5]
      have hOl2 := hOl 2
      refine vhand [1] [.sl 0 (O 2).length, .val (.func (.func 130) #[] #[])] [.row 141 3 (rowB (O 2))] (bSortBd (O 2) (by omega) R1) rfl rfl rfl ?_ (by simp) rfl rfl ?_
      · try simp only [go_sem, ↓reduceIte, Nat.reduceEqDiff, Nat.reduceAdd, Nat.reduceMul, Nat.reduceLeDiff, Nat.reduceLT, Nat.reduceBNe, reduceCtorEq]
      rintro R2 bs r hle2 ⟨rfl, qs, hp, hs, rfl, rfl⟩ _
      simp only [go_sem, ↓reduceIte, Nat.reduceEqDiff, Nat.reduceAdd, Nat.reduceMul, Nat.reduceLeDiff, Nat.reduceLT, Nat.reduceBNe, reduceCtorEq, setG, rn, e14, e13, e12, e5]
      rw [gs_pos h0]
      try simp only [go_sem, ↓reduceIte, Nat.reduceEqDiff, Nat.reduceAdd, Nat.reduceMul, Nat.reduceLeDiff, Nat.reduceLT, Nat.reduceBNe, reduceCtorEq]
      have hql := hp.length_eq
      intro b2 cap2 R3 hle hrow hcap hfr
      rw [← hql]
      exact ⟨qs, RowIn.enc (fun _ => rfl) (by omega) hrow hcap (by omega), by rw [← hO2]; exact hp, hs⟩
end Go.Proofs.YtclkibjonbhldaaGreatDoor
/- Plain lemmas of our own, no statement of the seat: what a sweep over sorted bounds counts. -/
namespace Go.Proofs.YtclkibjonbhldaaGreatDoor
set_option linter.unusedSimpArgs false
set_option linter.unusedVariables false
open Go.Proofs.YtclkibjonbhldaaGreatDoor.Vc
def sumB (p : Bd → Int) : List Bd → Int
  | [] => 0
  | b :: l => p b + sumB p l
theorem sumB_app (p : Bd → Int) (a b : List Bd) : sumB p (a ++ b) = sumB p a + sumB p b := by
  induction a with
  | nil => simp [sumB]
  | cons x a ih => rw [List.cons_append, sumB, sumB, ih]; omega
theorem sumB_perm (p : Bd → Int) {a b : List Bd} (h : a.Perm b) : sumB p a = sumB p b := by
  induction h with
  | nil => rfl
  | cons x _ ih => rw [sumB, sumB, ih]
  | swap x y l => simp only [sumB]; omega
  | trans _ _ h1 h2 => rw [h1, h2]
theorem sumB_congr {p q : Bd → Int} : ∀ {l : List Bd}, (∀ b ∈ l, p b = q b) → sumB p l = sumB q l
  | [], _ => rfl
  | x :: l, h => by rw [sumB, sumB, h x (by simp), sumB_congr fun b hb => h b (by simp [hb])]
theorem sumB_zero {p : Bd → Int} {l : List Bd} (h : ∀ b ∈ l, p b = 0) : sumB p l = 0 := by
  induction l with
  | nil => rfl
  | cons x l ih => rw [sumB, h x (by simp), ih fun b hb => h b (by simp [hb])]; rfl
def byOf (k : Int) (b : Bd) : Int := if b.list = k then b.by' else 0
def byTo (k t : Int) (b : Bd) : Int := if b.at' ≤ t then byOf k b else 0
theorem sumB_bndOf (k t : Int) (l : List Sp) : sumB (byTo k t) (bndOf k l) = (l.countP fun s => decide (s.f ≤ t) && decide (t < s.t) : Nat) := by
  induction l with
  | nil => rfl
  | cons s l ih =>
    unfold bndOf at ih ⊢
    rw [List.flatMap_cons, sumB_app, ih, List.countP_cons]
    by_cases h : s.f < s.t
    · rw [if_pos h]
      simp only [sumB, byTo, byOf, if_true]
      by_cases h1 : s.f ≤ t
      · by_cases h2 : t < s.t
        · rw [if_pos h1, if_neg (by omega), if_pos (by simp [h1, h2])]; omega
        · rw [if_pos h1, if_pos (by omega), if_neg (by simp [h2])]; omega
      · rw [if_neg h1, if_neg (by omega), if_neg (by simp [h1])]; omega
    · rw [if_neg h, if_neg (by simp; omega)]
      simp only [sumB]; omega
theorem sumB_bndOf_no (k k' t : Int) (l : List Sp) (h : k' ≠ k) : sumB (byTo k t) (bndOf k' l) = 0 := by
  refine sumB_zero fun b hb => ?_
  unfold bndOf at hb
  obtain ⟨s, _, hs⟩ := List.mem_flatMap.1 hb
  split at hs
  · simp only [List.mem_cons, List.not_mem_nil, or_false] at hs
    rcases hs with rfl | rfl <;> simp [byTo, byOf, h]
  · cases hs
theorem memS_count (l : List Sp) (t : Int) : memS l t = decide (0 < ((l.countP fun s => decide (s.f ≤ t) && decide (t < s.t) : Nat) : Int)) := by
  rw [Bool.eq_iff_iff, decide_eq_true_eq, memS_iff]
  rw [show (0 < ((l.countP fun s => decide (s.f ≤ t) && decide (t < s.t) : Nat) : Int)) ↔ 0 < l.countP fun s => decide (s.f ≤ t) && decide (t < s.t) by omega, List.countP_pos_iff]
  simp
/-- The list of sorted bounds of two lists. -/
structure BdsOf (all : List Bd) (a b : List Sp) : Prop where
  perm : all.Perm (bndOf 0 a ++ bndOf 1 b)
  ord : all.Pairwise fun x y => x.at' ≤ y.at'
theorem BdsOf.get_le {all : List Bd} {a b : List Sp} (h : BdsOf all a b) {i j : Nat} (hij : i ≤ j) (hj : j < all.length) : (all[i]'(by omega)).at' ≤ all[j].at' := by
  rcases Nat.eq_or_lt_of_le hij with rfl | hij
  · exact Int.le_refl _
  · exact List.pairwise_iff_getElem.1 h.ord i j (by omega) hj hij
theorem BdsOf.mem {all : List Bd} {a b : List Sp} (h : BdsOf all a b) {x : Bd} (hx : x ∈ all) : (x.list = 0 ∨ x.list = 1) ∧ (x.by' = 1 ∨ x.by' = -1) ∧ ∃ s ∈ a ++ b, s.f < s.t ∧ (x.at' = s.f ∨ x.at' = s.t) := by
  have hk : ∀ (k : Int) (l : List Sp), x ∈ bndOf k l → x.list = k ∧ (x.by' = 1 ∨ x.by' = -1) ∧ ∃ s ∈ l, s.f < s.t ∧ (x.at' = s.f ∨ x.at' = s.t) := fun k l hx => by
    unfold bndOf at hx
    obtain ⟨s, hs, hx⟩ := List.mem_flatMap.1 hx
    split at hx
    · rename_i hlt
      simp only [List.mem_cons, List.not_mem_nil, or_false] at hx
      rcases hx with rfl | rfl
      · exact ⟨rfl, .inl rfl, s, hs, hlt, .inl rfl⟩
      · exact ⟨rfl, .inr rfl, s, hs, hlt, .inr rfl⟩
    · cases hx
  rcases List.mem_append.1 (h.perm.mem_iff.1 hx) with hx | hx
  · obtain ⟨h1, h2, s, hs, h3⟩ := hk _ _ hx
    exact ⟨.inl h1, h2, s, by simp [hs], h3⟩
  · obtain ⟨h1, h2, s, hs, h3⟩ := hk _ _ hx
    exact ⟨.inr h1, h2, s, by simp [hs], h3⟩
theorem BdsOf.has {all : List Bd} {a b : List Sp} (h : BdsOf all a b) {s : Sp} (hs : s ∈ a ++ b) (hlt : s.f < s.t) : (∃ x ∈ all, x.at' = s.f) ∧ ∃ x ∈ all, x.at' = s.t := by
  have hk : ∀ (k : Int) (l : List Sp), s ∈ l → (⟨s.f, k, 1⟩ : Bd) ∈ bndOf k l ∧ (⟨s.t, k, -1⟩ : Bd) ∈ bndOf k l := fun k l hs => by
    unfold bndOf
    constructor <;> exact List.mem_flatMap.2 ⟨s, hs, by rw [if_pos hlt]; simp⟩
  rcases List.mem_append.1 hs with hs | hs
  · exact ⟨⟨_, h.perm.mem_iff.2 (List.mem_append.2 (.inl (hk 0 a hs).1)), rfl⟩, ⟨_, h.perm.mem_iff.2 (List.mem_append.2 (.inl (hk 0 a hs).2)), rfl⟩⟩
  · exact ⟨⟨_, h.perm.mem_iff.2 (List.mem_append.2 (.inr (hk 1 b hs).1)), rfl⟩, ⟨_, h.perm.mem_iff.2 (List.mem_append.2 (.inr (hk 1 b hs).2)), rfl⟩⟩
theorem BdsOf.len {all : List Bd} {a b : List Sp} (h : BdsOf all a b) : all.length ≤ 2 * (a.length + b.length) := by
  have h1 := h.perm.length_eq
  have h2 := bndOf_len 0 a
  have h3 := bndOf_len 1 b
  rw [List.length_append] at h1
  omega
/-- How many spans are open behind a bound whose next one lies farther. -/
theorem BdsOf.opened {all : List Bd} {a b : List Sp} (h : BdsOf all a b) {i : Nat} (hi : i + 1 < all.length) (hlt : (all[i]'(by omega)).at' < all[i + 1].at') :
    decide (0 < sumB (byOf 0) (all.take (i + 1))) = memS a (all[i]'(by omega)).at' ∧ decide (0 < sumB (byOf 1) (all.take (i + 1))) = memS b (all[i]'(by omega)).at' := by
  obtain ⟨t, ht⟩ : ∃ t, t = (all[i]'(by omega)).at' := ⟨_, rfl⟩
  rw [← ht] at hlt ⊢
  have hs : ∀ k, sumB (byOf k) (all.take (i + 1)) = sumB (byTo k t) (bndOf 0 a) + sumB (byTo k t) (bndOf 1 b) := fun k => by
    rw [← sumB_app, ← sumB_perm _ h.perm]
    conv => rhs; rw [← List.take_append_drop (i + 1) all]
    rw [sumB_app, sumB_zero (l := all.drop (i + 1)), Int.add_zero]
    · refine sumB_congr fun x hx => ?_
      obtain ⟨j, hj, rfl⟩ := List.mem_take_iff_getElem.1 hx
      have := h.get_le (show j ≤ i by omega) (by omega)
      unfold byTo
      rw [if_pos (by rw [ht]; exact this)]
    · intro x hx
      obtain ⟨j, hj, rfl⟩ := List.mem_drop_iff_getElem.1 hx
      have := h.get_le (show i + 1 ≤ i + 1 + j by omega) (by omega)
      unfold byTo
      rw [if_neg (by omega)]
  rw [hs 0, hs 1, sumB_bndOf 0, sumB_bndOf 1, sumB_bndOf_no 0 1 _ _ (by decide), sumB_bndOf_no 1 0 _ _ (by decide), Int.add_zero, Int.zero_add, memS_count, memS_count]
  exact ⟨rfl, rfl⟩
theorem memS_const' {l : List Sp} {x0 x : Int} (h : x0 ≤ x) (hn : ∀ s ∈ l, s.f < s.t → (s.f ≤ x0 ∨ x < s.f) ∧ (s.t ≤ x0 ∨ x < s.t)) : memS l x = memS l x0 := by
  rw [Bool.eq_iff_iff, memS_iff, memS_iff]
  constructor
  · rintro ⟨s, hs, h1, h2⟩
    obtain ⟨h3, h4⟩ := hn s hs (by omega)
    exact ⟨s, hs, by omega, by omega⟩
  · rintro ⟨s, hs, h1, h2⟩
    obtain ⟨h3, h4⟩ := hn s hs (by omega)
    exact ⟨s, hs, by omega, by omega⟩
structure CutB (all : List Bd) (P : Int → Bool) : Prop where
  const : ∀ i (hi : i + 1 < all.length) x, all[i].at' ≤ x → x < all[i + 1].at' → P x = P all[i].at'
  lo : ∀ x, (∀ y ∈ all, x < y.at') → P x = false
  hi : ∀ x, (∀ y ∈ all, y.at' ≤ x) → P x = false
theorem BdsOf.cut {all : List Bd} {a b : List Sp} (h : BdsOf all a b) (op : Bool → Bool → Bool) (h0 : op false false = false) : CutB all fun x => op (memS a x) (memS b x) := by
  have ha : ∀ s ∈ a, s ∈ a ++ b := fun s hs => by simp [hs]
  have hb : ∀ s ∈ b, s ∈ a ++ b := fun s hs => by simp [hs]
  have hlo : ∀ l : List Sp, (∀ s ∈ l, s ∈ a ++ b) → ∀ x, (∀ y ∈ all, x < y.at') → memS l x = false := fun l hl x hh => by
    cases hx : memS l x with
    | false => rfl
    | true =>
      obtain ⟨s, hs, h1, h2⟩ := memS_iff.1 hx
      obtain ⟨y, hy, e⟩ := (h.has (hl s hs) (by omega)).1
      have := hh y hy
      omega
  have hhi : ∀ l : List Sp, (∀ s ∈ l, s ∈ a ++ b) → ∀ x, (∀ y ∈ all, y.at' ≤ x) → memS l x = false := fun l hl x hh => by
    cases hx : memS l x with
    | false => rfl
    | true =>
      obtain ⟨s, hs, h1, h2⟩ := memS_iff.1 hx
      obtain ⟨y, hy, e⟩ := (h.has (hl s hs) (by omega)).2
      have := hh y hy
      omega
  refine ⟨fun i hi x h1 h2 => ?_, fun x hh => ?_, fun x hh => ?_⟩
  · have hno : ∀ y ∈ all, y.at' ≤ all[i].at' ∨ x < y.at' := fun y hy => by
      obtain ⟨j, hj, rfl⟩ := List.mem_iff_getElem.1 hy
      rcases Nat.lt_or_ge i j with hij | hij
      · have := h.get_le (show i + 1 ≤ j by omega) hj; omega
      · exact .inl (h.get_le hij (by omega))
    have hc : ∀ l : List Sp, (∀ s ∈ l, s ∈ a ++ b) → memS l x = memS l all[i].at' := fun l hl => memS_const' h1 fun s hs hlt => by
      obtain ⟨⟨y, hy, e⟩, z, hz, e'⟩ := h.has (hl s hs) hlt
      rw [← e, ← e']
      exact ⟨hno y hy, hno z hz⟩
    show op _ _ = op _ _
    rw [hc a ha, hc b hb]
  · show op _ _ = _
    rw [hlo a ha x hh, hlo b hb x hh, h0]
  · show op _ _ = _
    rw [hhi a ha x hh, hhi b hb x hh, h0]
theorem UpTo.startB {all : List Bd} {a b : List Sp} {P : Int → Bool} (h : BdsOf all a b) (hC : CutB all P) (hl : 0 < all.length) : UpTo P [] all[0].at' :=
  ⟨Normal.nil, by simp, fun x => by
    rw [memS_nil]
    by_cases h1 : x < all[0].at'
    · rw [hC.lo x fun y hy => ?_, Bool.and_false]
      obtain ⟨j, hj, rfl⟩ := List.mem_iff_getElem.1 hy
      have := h.get_le (Nat.zero_le j) hj
      omega
    · rw [decide_eq_false h1, Bool.false_and]⟩
theorem UpTo.finB {all : List Bd} {a b : List Sp} {P : Int → Bool} (h : BdsOf all a b) (hC : CutB all P) {out : List Sp} {i : Nat} (hi : i + 1 = all.length) (hU : UpTo P out (all[i]'(by omega)).at') : ∀ x, memS out x = P x := by
  intro x
  rw [hU.mem]
  by_cases h1 : x < (all[i]'(by omega)).at'
  · rw [decide_eq_true h1, Bool.true_and]
  · rw [decide_eq_false h1, Bool.false_and]
    symm
    refine hC.hi x fun y hy => ?_
    obtain ⟨j, hj, rfl⟩ := List.mem_iff_getElem.1 hy
    have := h.get_le (show j ≤ i by omega) (by omega)
    omega
end Go.Proofs.YtclkibjonbhldaaGreatDoor
/- Plain lemmas of our own, no statement of the seat: span.sweep. -/
namespace Go.Proofs.YtclkibjonbhldaaGreatDoor
set_option linter.unusedSimpArgs false
set_option linter.unusedVariables false
open Go.Proofs.YtclkibjonbhldaaGreatDoor.Vc
theorem sumB_snoc (p : Bd → Int) (all : List Bd) (i : Nat) (hi : i < all.length) : sumB p (all.take (i + 1)) = sumB p (all.take i) + p all[i] := by
  rw [List.take_succ_eq_append_getElem hi, sumB_app]
  simp only [sumB]; omega
theorem sumB_le {all : List Bd} {a b : List Sp} (h : BdsOf all a b) (k : Int) : ∀ i, i ≤ all.length → -(i : Int) ≤ sumB (byOf k) (all.take i) ∧ sumB (byOf k) (all.take i) ≤ i := by
  intro i
  induction i with
  | zero => intro _; exact ⟨Int.le_refl _, Int.le_refl _⟩
  | succ i ih =>
    intro hi
    obtain ⟨h1, h2⟩ := ih (by omega)
    rw [sumB_snoc _ _ _ (by omega)]
    have h3 := (h.mem (List.getElem_mem (show i < all.length by omega))).2.1
    unfold byOf at h1 h2 ⊢
    split <;> omega
set_option maxHeartbeats 1000000 in
theorem bSweep (f : FuncId) (hb : hasBody Tryz.prog f = true) (op : Bool → Bool → Bool) (h0 : op false false = false) (hop : ∀ (x y : Bool) (R' : RO), CallsR Tryz.prog f [.bool x, .bool y] R' fun _ u => u = .bool (op x y))
    (xs ys : List Sp) (v u : Value) (R : RO) (h : SpV R v xs) (h' : SpV R u ys) (hl : xs.length + ys.length ≤ 10000000) : CallsR Tryz.prog 92 [v, u, .func (.func f) #[] #[]] R fun R' r => ∃ zs, SpV (newR R R') r zs ∧ Normal zs ∧ (∀ t, memS zs t = op (memS xs t) (memS ys t)) ∧ zs.length ≤ 2 * (xs.length + ys.length) := by
  have hB := bBounds xs ys v u R h h' hl
  obtain ⟨a, cap, rfl, hc, hf⟩ := h.form
  obtain ⟨b, cap', rfl, hc', hf'⟩ := h'.form
  refine callsT mix Tryz.func92 comp92 (by simp [Tryz.ntmps92]) ?_; simp only [go_sem, ↓reduceIte, Nat.reduceEqDiff, Nat.reduceAdd, Nat.reduceMul, Nat.reduceLeDiff, Nat.reduceLT, Nat.reduceBNe, reduceCtorEq, vc92, rs92]
  refine vcall hB ?_
  rintro R1 r hle1 ⟨all, hall, hperm, hord⟩
  have hD : BdsOf all xs ys := ⟨hperm, hord⟩
  have hC := hD.cut op h0
  have hlen := hD.len
  obtain ⟨g, gcap, rfl, hgc, hg⟩ := hall.form
  obtain ⟨P, hP⟩ : ∃ P : Int → Bool, P = fun x => op (memS xs x) (memS ys x) := ⟨_, rfl⟩
  rw [← hP] at hC
  try simp only [go_sem, ↓reduceIte, Nat.reduceEqDiff, Nat.reduceAdd, Nat.reduceMul, Nat.reduceLeDiff, Nat.reduceLT, Nat.reduceBNe, reduceCtorEq]
  refine ⟨Int.le_refl _, by omega, ?_⟩
  refine vcLoopR (Nat × List Sp) (fun x => [(21, .val (.int .i64 x.1)), (20, .val (.int .i64 all.length)), (19, .val (.slice g all.length gcap)), (7, .val (.slice g all.length gcap)), (8, .sl 0 x.2.length), (9, .loc 1 0), (2, .val (.func (.func f) #[] #[]))]) (fun x => [.row 32 2 (rowS x.2), .box [.val (.int .i64 (sumB (byOf 0) (all.take x.1))), .val (.int .i64 (sumB (byOf 1) (all.take x.1)))]])
    (fun x _ => x.2.length ≤ x.1 ∧ x.1 ≤ all.length ∧ (∀ hi : x.1 < all.length, UpTo P x.2 (all[x.1]).at') ∧ (x.1 = all.length → Normal x.2 ∧ ∀ t, memS x.2 t = P t)) (fun x => all.length - x.1) (0, []) [] ?_ ?_ ?_ ?_
  · have hz : ∀ k, sumB (byOf k) (all.take 0) = 0 := fun k => by rw [List.take_zero]; rfl
    simp only [hz]
    try simp only [go_sem, ↓reduceIte, Nat.reduceEqDiff, Nat.reduceAdd, Nat.reduceMul, Nat.reduceLeDiff, Nat.reduceLT, Nat.reduceBNe, reduceCtorEq]
    exact ⟨⟨rfl, rfl⟩, rfl⟩
  · try simp only [go_sem, ↓reduceIte, Nat.reduceEqDiff, Nat.reduceAdd, Nat.reduceMul, Nat.reduceLeDiff, Nat.reduceLT, Nat.reduceBNe, reduceCtorEq]
  · refine ⟨Nat.le_refl _, Nat.zero_le _, fun hi => UpTo.startB hD hC hi, fun hi => ⟨Normal.nil, fun t => ?_⟩⟩
    rw [memS_nil, hC.lo t (by rw [List.eq_nil_of_length_eq_zero hi.symm]; simp)]
  rintro ⟨i, out⟩ env R2 hle2 hE ⟨hol, hi, hU, hF⟩
  (simp only [go_sem] at hE; obtain ⟨e21, e20, e19, e7, e8, e9, e2⟩ := hE; simp only [go_sem, ↓reduceIte, Nat.reduceEqDiff, Nat.reduceAdd, Nat.reduceMul, Nat.reduceLeDiff, Nat.reduceLT, Nat.reduceBNe, reduceCtorEq, e21, e20, e19, e7, e8, e9, e2]; dsimp only at *)
  refine ⟨fun hlt => ?_, fun hge => ?_⟩
  · have hlt' : i < all.length := by omega
    obtain ⟨ad, had, hR⟩ := hg i hlt'
    have hU := hU hlt'
    refine ⟨hlt, vat ad had ?_⟩
    try simp only [go_sem, ↓reduceIte, Nat.reduceEqDiff, Nat.reduceAdd, Nat.reduceMul, Nat.reduceLeDiff, Nat.reduceLT, Nat.reduceBNe, reduceCtorEq]
    refine vloadn (all[i]).cells rfl (fun k u hk => hle2 _ _ (hR k u hk)) ?_
    simp only [go_sem, ↓reduceIte, Nat.reduceEqDiff, Nat.reduceAdd, Nat.reduceMul, Nat.reduceLeDiff, Nat.reduceLT, Nat.reduceBNe, reduceCtorEq, Bd.cells, e21, e20, e19, e7, e8, e9, e2]
    have hm := hD.mem (List.getElem_mem hlt')
    obtain ⟨hb0l, hb0u⟩ := sumB_le hD 0 i hi
    obtain ⟨hb1l, hb1u⟩ := sumB_le hD 1 i hi
    have hs0 := sumB_snoc (byOf 0) all i hlt'
    have hs1 := sumB_snoc (byOf 1) all i hlt'
    refine ⟨by omega, by omega, ?_⟩
    obtain ⟨o0, ho0⟩ : ∃ o, o = sumB (byOf 0) (all.take (i + 1)) := ⟨_, rfl⟩
    obtain ⟨o1, ho1⟩ : ∃ o, o = sumB (byOf 1) (all.take (i + 1)) := ⟨_, rfl⟩
    obtain ⟨o, ho⟩ : ∃ o, o = if all[i].list = 0 then sumB (byOf 0) (all.take i) else sumB (byOf 1) (all.take i) := ⟨_, rfl⟩
    have hob : -(i : Int) ≤ o ∧ o ≤ i := by rw [ho]; split <;> exact ⟨by assumption, by assumption⟩
    have hget : [SV.val (.int .i64 (sumB (byOf 0) (all.take i))), SV.val (.int .i64 (sumB (byOf 1) (all.take i)))][all[i].list.toNat]? = some (.val (.int .i64 o)) := by
      rw [ho]
      rcases hm.1 with e | e <;> rw [e] <;> rfl
    have hset : [SV.val (.int .i64 (sumB (byOf 0) (all.take i))), SV.val (.int .i64 (sumB (byOf 1) (all.take i)))].set all[i].list.toNat (.val (.int .i64 (o + all[i].by'))) = [SV.val (.int .i64 o0), SV.val (.int .i64 o1)] := by
      rw [ho, ho0, ho1, hs0, hs1]
      unfold byOf
      rcases hm.1 with e | e
      · rw [e]; simp
      · rw [e]; simp
    rw [hget]
    simp only [go_sem, ↓reduceIte, Nat.reduceEqDiff, Nat.reduceAdd, Nat.reduceMul, Nat.reduceLeDiff, Nat.reduceLT, Nat.reduceBNe, reduceCtorEq, e21, e20, e19, e7, e8, e9, e2]
    have hob2 : -(i : Int) - 1 ≤ o + all[i].by' ∧ o + all[i].by' ≤ i + 1 := by omega
    refine ⟨_, W.in64 (by omega), by omega, by omega, by omega, _, W.in64 (by omega), ?_⟩
    rw [hset]
    refine ⟨fun hne => ?_, fun he => ?_⟩
    · have hlt1 : i + 1 < all.length := by omega
      obtain ⟨ad', had', hR'⟩ := hg (i + 1) hlt1
      refine ⟨_, W.in64 (by omega), by omega, by omega, ?_⟩
      rw [show ((i : Int) + 1).toNat = i + 1 by omega]
      refine vat ad' had' ?_
      try simp only [go_sem, ↓reduceIte, Nat.reduceEqDiff, Nat.reduceAdd, Nat.reduceMul, Nat.reduceLeDiff, Nat.reduceLT, Nat.reduceBNe, reduceCtorEq]
      refine vload _ (hle2 _ _ (hR' 0 _ rfl)) ?_
      simp only [go_sem, ↓reduceIte, Nat.reduceEqDiff, Nat.reduceAdd, Nat.reduceMul, Nat.reduceLeDiff, Nat.reduceLT, Nat.reduceBNe, reduceCtorEq, e21, e20, e19, e7, e8, e9, e2]
      have hend : ∀ (o : List Sp) (h1 : i + 1 < all.length), UpTo P o (all[i + 1]'h1).at' → o.length ≤ i + 1 → (o.length ≤ i + 1 ∧ i + 1 ≤ all.length ∧ (∀ hi : i + 1 < all.length, UpTo P o (all[i + 1]'hi).at') ∧ (i + 1 = all.length → Normal o ∧ ∀ t, memS o t = P t)) := fun o h1 h2 h3 => ⟨h3, by omega, fun _ => h2, fun e => by omega⟩
      have hnext : ∀ (o : List Sp), UpTo P o (all[i + 1]'hlt1).at' → o.length ≤ i + 1 → (o.length ≤ i + 1 ∧ i + 1 ≤ all.length ∧ (∀ hi : i + 1 < all.length, UpTo P o (all[i + 1]'hi).at') ∧ (i + 1 = all.length → Normal o ∧ ∀ t, memS o t = P t)) := fun o h2 h3 => hend o hlt1 h2 h3
      refine ⟨fun hne2 => ?_, fun heq => ?_⟩
      · have hltt : all[i].at' < all[i + 1].at' := by have := hD.get_le (show i ≤ i + 1 by omega) hlt1; omega
        obtain ⟨hop0, hop1⟩ := hD.opened hlt1 hltt
        rw [← ho0] at hop0
        rw [← ho1] at hop1
        have hcst := hC.const i hlt1
        have hPt : op (memS xs all[i].at') (memS ys all[i].at') = P all[i].at' := by rw [hP]
        refine ⟨by omega, by omega, ?_⟩
        try simp only [go_sem, ↓reduceIte, Nat.reduceEqDiff, Nat.reduceAdd, Nat.reduceMul, Nat.reduceLeDiff, Nat.reduceLT, Nat.reduceBNe, reduceCtorEq, Int.reduceLE, Int.reduceLT, Int.reduceToNat, Int.cast_ofNat_Int, Int.reduceEq, Int.reduceNe, e21, e20, e19, e7, e8, e9, e2]
        refine ⟨hb, vcall (hop _ _ _) ?_⟩
        rintro R3 r hle3 rfl
        rw [hop0, hop1, hPt]
        try simp only [go_sem, ↓reduceIte, Nat.reduceEqDiff, Nat.reduceAdd, Nat.reduceMul, Nat.reduceLeDiff, Nat.reduceLT, Nat.reduceBNe, reduceCtorEq, e21, e20, e19, e7, e8, e9, e2]
        obtain ⟨t, ht⟩ : ∃ t, t = all[i].at' := ⟨_, rfl⟩
        obtain ⟨t2, ht2⟩ : ∃ t, t = (all[i + 1]'hlt1).at' := ⟨_, rfl⟩
        have hUt : UpTo P out t := by rw [ht]; exact hU
        rw [← ht, ← ht2] at hltt hcst
        rw [← ht2] at hnext
        rw [← ht]
        have hld : R3 ((ad'.add ((i + 1) * 3)).add 0) (.int .i64 t2) := by rw [ht2]; exact hle3 _ _ (hle2 _ _ (hR' 0 _ rfl))
        refine ⟨fun hp => ?_, fun hp => ⟨fun hpos => ?_, fun hneg => ?_⟩⟩
        · refine ⟨_, W.in64 (by omega), (i + 1, out), [], ?_⟩
          try simp only [go_sem, ↓reduceIte, Nat.reduceEqDiff, Nat.reduceAdd, Nat.reduceMul, Nat.reduceLeDiff, Nat.reduceLT, Nat.reduceBNe, reduceCtorEq]
          rw [ho0, ho1]
          exact ⟨by omega, ⟨rfl, rfl, rfl⟩, by decide, hnext out (hUt.no hltt hcst hp) (by omega)⟩
        · have hn : out.length - 1 < out.length := by omega
          refine ⟨_, W.in64 (by omega), by omega, by omega, ?_⟩
          rw [show ((out.length : Int) - 1).toNat = out.length - 1 by omega]
          refine ⟨_, (rowS_get out (out.length - 1) 1 hn (by omega)).trans rfl, ?_⟩
          try simp only [go_sem, ↓reduceIte, Nat.reduceEqDiff, Nat.reduceAdd, Nat.reduceMul, Nat.reduceLeDiff, Nat.reduceLT, Nat.reduceBNe, reduceCtorEq, e21, e20, e19, e7, e8, e9, e2]
          refine ⟨fun hst => ?_, fun hst => ?_⟩
          · obtain ⟨o, s, hos⟩ : ∃ o s, out = o ++ [s] := ⟨_, _, split_last out hn⟩
            have hs : out[out.length - 1] = s := by subst hos; simp
            rw [hs] at hst
            refine ⟨_, W.in64 (by omega), _, W.in64 (by omega), by omega, by omega, ?_⟩
            rw [show ((i : Int) + 1).toNat = i + 1 by omega]
            refine vat ad' had' ?_
            try simp only [go_sem, ↓reduceIte, Nat.reduceEqDiff, Nat.reduceAdd, Nat.reduceMul, Nat.reduceLeDiff, Nat.reduceLT, Nat.reduceBNe, reduceCtorEq]
            refine vload _ hld ?_
            simp only [go_sem, ↓reduceIte, Nat.reduceEqDiff, Nat.reduceAdd, Nat.reduceMul, Nat.reduceLeDiff, Nat.reduceLT, Nat.reduceBNe, reduceCtorEq, e21, e20, e19, e7, e8, e9, e2]
            refine ⟨by omega, by omega, by rw [rowS_len]; omega, _, W.in64 (by omega), (i + 1, o ++ [⟨s.f, t2⟩]), [], ?_⟩
            subst hos
            have hlo : (o ++ [(⟨s.f, t2⟩ : Sp)]).length = (o ++ [s]).length := by rw [List.length_append, List.length_append]; rfl
            try simp only [go_sem, ↓reduceIte, Nat.reduceEqDiff, Nat.reduceAdd, Nat.reduceMul, Nat.reduceLeDiff, Nat.reduceLT, Nat.reduceBNe, reduceCtorEq]
            rw [ho0, ho1]
            have hol2 : o.length + 1 ≤ i := by rw [List.length_append] at hol; exact hol
            refine ⟨by omega, ⟨rfl, ?_, rfl, rfl⟩, by decide, by omega, (hnext _ (hUt.grow hltt hcst hp hst) (by rw [hlo, List.length_append]; show o.length + 1 ≤ _; omega)).2⟩
            have h7 := rowS_grow o s t2
            rw [List.length_append, show o.length + [s].length - 1 = (((o.length + 1 : Nat) : Int) - 1).toNat by simp] at h7
            exact h7
          · refine ⟨_, W.in64 (by omega), by omega, by omega, ?_⟩
            rw [show ((i : Int) + 1).toNat = i + 1 by omega]
            refine vat ad' had' ?_
            try simp only [go_sem, ↓reduceIte, Nat.reduceEqDiff, Nat.reduceAdd, Nat.reduceMul, Nat.reduceLeDiff, Nat.reduceLT, Nat.reduceBNe, reduceCtorEq]
            refine vload _ hld ?_
            simp only [go_sem, ↓reduceIte, Nat.reduceEqDiff, Nat.reduceAdd, Nat.reduceMul, Nat.reduceLeDiff, Nat.reduceLT, Nat.reduceBNe, reduceCtorEq, e21, e20, e19, e7, e8, e9, e2]
            refine vappO (rowS out) rfl (rowS_len out) (by omega) ?_
            simp only [go_sem, ↓reduceIte, Nat.reduceEqDiff, Nat.reduceAdd, Nat.reduceMul, Nat.reduceLeDiff, Nat.reduceLT, Nat.reduceBNe, reduceCtorEq, e21, e20, e19, e7, e8, e9, e2]
            refine ⟨_, W.in64 (by omega), (i + 1, out ++ [⟨t, t2⟩]), [4, 1], ?_⟩
            have hlo : (out ++ [(⟨t, t2⟩ : Sp)]).length = out.length + 1 := by rw [List.length_append]; rfl
            try simp only [go_sem, ↓reduceIte, Nat.reduceEqDiff, Nat.reduceAdd, Nat.reduceMul, Nat.reduceLeDiff, Nat.reduceLT, Nat.reduceBNe, reduceCtorEq]
            rw [ho0, ho1]
            exact ⟨by omega, ⟨rfl, by rw [← rowS_app]; rfl, rfl, rfl⟩, by decide, by omega, (hnext _ (hUt.new hltt hcst hp (hUt.last_ne fun _ => hst)) (by omega)).2⟩
        · have h0 : out = [] := List.eq_nil_of_length_eq_zero (by omega)
          subst h0
          refine ⟨_, W.in64 (by omega), by omega, by omega, ?_⟩
          rw [show ((i : Int) + 1).toNat = i + 1 by omega]
          refine vat ad' had' ?_
          try simp only [go_sem, ↓reduceIte, Nat.reduceEqDiff, Nat.reduceAdd, Nat.reduceMul, Nat.reduceLeDiff, Nat.reduceLT, Nat.reduceBNe, reduceCtorEq]
          refine vload _ hld ?_
          simp only [go_sem, ↓reduceIte, Nat.reduceEqDiff, Nat.reduceAdd, Nat.reduceMul, Nat.reduceLeDiff, Nat.reduceLT, Nat.reduceBNe, reduceCtorEq, e21, e20, e19, e7, e8, e9, e2]
          refine vappO (rowS []) rfl (rowS_len []) (by omega) ?_
          simp only [go_sem, ↓reduceIte, Nat.reduceEqDiff, Nat.reduceAdd, Nat.reduceMul, Nat.reduceLeDiff, Nat.reduceLT, Nat.reduceBNe, reduceCtorEq, e21, e20, e19, e7, e8, e9, e2]
          refine ⟨_, W.in64 (by omega), (i + 1, [⟨t, t2⟩]), [4, 1], ?_⟩
          try simp only [go_sem, ↓reduceIte, Nat.reduceEqDiff, Nat.reduceAdd, Nat.reduceMul, Nat.reduceLeDiff, Nat.reduceLT, Nat.reduceBNe, reduceCtorEq]
          rw [ho0, ho1]
          exact ⟨by omega, ⟨rfl, rfl, rfl, rfl⟩, by decide, (hnext [⟨t, t2⟩] (hUt.new hltt hcst hp (by simp)) (by simp)).2⟩
      · refine ⟨_, W.in64 (by omega), (i + 1, out), [], ?_⟩
        try simp only [go_sem, ↓reduceIte, Nat.reduceEqDiff, Nat.reduceAdd, Nat.reduceMul, Nat.reduceLeDiff, Nat.reduceLT, Nat.reduceBNe, reduceCtorEq]
        rw [ho0, ho1]
        exact ⟨by omega, ⟨rfl, rfl, rfl⟩, by decide, hnext out (by rw [heq]; exact hU) (by omega)⟩
    · refine ⟨_, W.in64 (by omega), (i + 1, out), [], ?_⟩
      try simp only [go_sem, ↓reduceIte, Nat.reduceEqDiff, Nat.reduceAdd, Nat.reduceMul, Nat.reduceLeDiff, Nat.reduceLT, Nat.reduceBNe, reduceCtorEq]
      rw [ho0, ho1]
      exact ⟨by omega, ⟨rfl, rfl, rfl⟩, by decide, by omega, by omega, fun h1 => by omega, fun _ => ⟨hU.nor, UpTo.finB hD hC (by omega) hU⟩⟩
  · obtain rfl : i = all.length := by omega
    obtain ⟨hn, hm⟩ := hF rfl
    intro b2 cap2 R' hle hrow hcap hfr
    rw [rowS_len] at hcap
    refine ⟨0, out.length, out.length, rfl, rfl, rfl, Nat.zero_le _, Nat.le_refl _, by omega, out, ?_, hn, fun t => by rw [hm, hP], by omega⟩
    have h2 := RowIn.enc (enc := Sp.cells) (k := 2) (cap := out.length) (fun _ => rfl) (by omega) (hrow.new hfr (RO.le_trans hle1 hle2)) (by rw [rowS_len]; omega) (by omega)
    split <;> exact h2
end Go.Proofs.YtclkibjonbhldaaGreatDoor
/- Plain lemmas of our own, no statement of the seat: span.combine, Union, Minus, Norm. -/
namespace Go.Proofs.YtclkibjonbhldaaGreatDoor
set_option linter.unusedSimpArgs false
set_option linter.unusedVariables false
open Go.Proofs.YtclkibjonbhldaaGreatDoor.Vc
/-- What a combination of two lists answers. -/
def CombV (R : RO) (r : Value) (op : Bool → Bool → Bool) (xs ys : List Sp) : Prop :=
  if rangedB xs = true ∧ rangedB ys = true then ∃ v zs, r = .tuple #[v, .int .i64 0] ∧ SpV R v zs ∧ Normal zs ∧ (∀ t, memS zs t = op (memS xs t) (memS ys t)) ∧ zs.length ≤ 2 * (xs.length + ys.length)
  else r = .tuple #[.slice none 0 0, .int .i64 1]
theorem CombV.mono {R R' : RO} {r : Value} {op : Bool → Bool → Bool} {xs ys : List Sp} (h : CombV R r op xs ys) (hle : RO.le R R') : CombV R' r op xs ys := by
  unfold CombV at h ⊢
  split
  · rename_i hc
    rw [if_pos hc] at h
    obtain ⟨v, zs, h1, h2, h3⟩ := h
    exact ⟨v, zs, h1, h2.mono hle, h3⟩
  · rename_i hc
    rw [if_neg hc] at h
    exact h
theorem bCombine (f : FuncId) (hb : hasBody Tryz.prog f = true) (op : Bool → Bool → Bool) (h0 : op false false = false) (hop : ∀ (x y : Bool) (R' : RO), CallsR Tryz.prog f [.bool x, .bool y] R' fun _ u => u = .bool (op x y))
    (xs ys : List Sp) (v u : Value) (R : RO) (h : SpV R v xs) (h' : SpV R u ys) (hl : xs.length + ys.length ≤ 10000000) : CallsR Tryz.prog 66 [v, u, .func (.func f) #[] #[]] R fun R' r => CombV (newR R R') r op xs ys := by
  have hA := fun R' hle => bRanged xs v R' (EncV.mono (R' := R') h hle)
  have hB := fun R' hle => bRanged ys u R' (EncV.mono (R' := R') h' hle)
  have hS := fun R' hle => bSweep f hb op h0 hop xs ys v u R' (EncV.mono (R' := R') h hle) (EncV.mono (R' := R') h' hle) hl
  refine callsT mix Tryz.func66 comp66 (by simp [Tryz.ntmps66]) ?_; simp only [go_sem, ↓reduceIte, Nat.reduceEqDiff, Nat.reduceAdd, Nat.reduceMul, Nat.reduceLeDiff, Nat.reduceLT, Nat.reduceBNe, reduceCtorEq, vc66, rs66]
  refine vcall (hA R (RO.le_refl _)) ?_
  rintro R1 r hle1 rfl
  try simp only [go_sem, ↓reduceIte, Nat.reduceEqDiff, Nat.reduceAdd, Nat.reduceMul, Nat.reduceLeDiff, Nat.reduceLT, Nat.reduceBNe, reduceCtorEq]
  unfold CombV
  refine ⟨fun h1 => ?_, fun h1 => ?_⟩
  · refine vcall (hB R1 hle1) ?_
    rintro R2 r hle2 rfl
    try simp only [go_sem, ↓reduceIte, Nat.reduceEqDiff, Nat.reduceAdd, Nat.reduceMul, Nat.reduceLeDiff, Nat.reduceLT, Nat.reduceBNe, reduceCtorEq]
    refine ⟨fun h2 => ?_, fun h2 => ?_⟩
    · rw [if_neg (by simp [h2])]; trivial
    · refine vcall (hS R2 (RO.le_trans hle1 hle2)) ?_
      rintro R3 r hle3 ⟨zs, hz, hn, hm, hl⟩
      try simp only [go_sem, ↓reduceIte, Nat.reduceEqDiff, Nat.reduceAdd, Nat.reduceMul, Nat.reduceLeDiff, Nat.reduceLT, Nat.reduceBNe, reduceCtorEq]
      rw [if_pos ⟨h1, h2⟩]
      exact ⟨_, zs, rfl, hz.mono (newR_sub (RO.le_trans hle1 hle2)), hn, hm, hl⟩
  · rw [if_neg (by simp [h1])]
theorem bMinus1 (x y : Bool) (R : RO) : CallsR Tryz.prog 67 [.bool x, .bool y] R fun _ u => u = .bool (x && !y) := by
  refine callsT mix Tryz.func67 comp67 (by simp [Tryz.ntmps67]) ?_; simp only [go_sem, ↓reduceIte, Nat.reduceEqDiff, Nat.reduceAdd, Nat.reduceMul, Nat.reduceLeDiff, Nat.reduceLT, Nat.reduceBNe, reduceCtorEq, vc67, rs67]
  refine ⟨fun h => by simp [h], fun h => by simp [h]⟩
theorem bUnion1 (x y : Bool) (R : RO) : CallsR Tryz.prog 68 [.bool x, .bool y] R fun _ u => u = .bool (x || y) := by
  refine callsT mix Tryz.func68 comp68 (by simp [Tryz.ntmps68]) ?_; simp only [go_sem, ↓reduceIte, Nat.reduceEqDiff, Nat.reduceAdd, Nat.reduceMul, Nat.reduceLeDiff, Nat.reduceLT, Nat.reduceBNe, reduceCtorEq, vc68, rs68]
  refine ⟨fun h => by simp [h], fun h => by simp [h]⟩
theorem bUnion (xs ys : List Sp) (v u : Value) (R : RO) (h : SpV R v xs) (h' : SpV R u ys) (hl : xs.length + ys.length ≤ 10000000) : CallsR Tryz.prog 34 [v, u] R fun R' r => CombV (newR R R') r (fun x y => x || y) xs ys := by
  have hC := bCombine 68 (by kernel_rfl) (fun x y => x || y) rfl bUnion1 xs ys v u R h h' hl
  refine callsT mix Tryz.func34 comp34 (by simp [Tryz.ntmps34]) ?_; simp only [go_sem, ↓reduceIte, Nat.reduceEqDiff, Nat.reduceAdd, Nat.reduceMul, Nat.reduceLeDiff, Nat.reduceLT, Nat.reduceBNe, reduceCtorEq, vc34, rs34]
  refine vcall hC ?_
  rintro R1 r hle1 hr
  unfold CombV at hr
  split at hr
  · rename_i hc
    obtain ⟨z, zs, rfl, hz⟩ := hr
    try simp only [go_sem, ↓reduceIte, Nat.reduceEqDiff, Nat.reduceAdd, Nat.reduceMul, Nat.reduceLeDiff, Nat.reduceLT, Nat.reduceBNe, reduceCtorEq]
    unfold CombV
    rw [if_pos hc]
    exact ⟨_, zs, rfl, hz⟩
  · rename_i hc
    subst hr
    try simp only [go_sem, ↓reduceIte, Nat.reduceEqDiff, Nat.reduceAdd, Nat.reduceMul, Nat.reduceLeDiff, Nat.reduceLT, Nat.reduceBNe, reduceCtorEq]
    unfold CombV
    rw [if_neg hc]
theorem bMinus (xs ys : List Sp) (v u : Value) (R : RO) (h : SpV R v xs) (h' : SpV R u ys) (hl : xs.length + ys.length ≤ 10000000) : CallsR Tryz.prog 33 [v, u] R fun R' r => CombV (newR R R') r (fun x y => x && !y) xs ys := by
  have hC := bCombine 67 (by kernel_rfl) (fun x y => x && !y) rfl bMinus1 xs ys v u R h h' hl
  refine callsT mix Tryz.func33 comp33 (by simp [Tryz.ntmps33]) ?_; simp only [go_sem, ↓reduceIte, Nat.reduceEqDiff, Nat.reduceAdd, Nat.reduceMul, Nat.reduceLeDiff, Nat.reduceLT, Nat.reduceBNe, reduceCtorEq, vc33, rs33]
  refine vcall hC ?_
  rintro R1 r hle1 hr
  unfold CombV at hr
  split at hr
  · rename_i hc
    obtain ⟨z, zs, rfl, hz⟩ := hr
    try simp only [go_sem, ↓reduceIte, Nat.reduceEqDiff, Nat.reduceAdd, Nat.reduceMul, Nat.reduceLeDiff, Nat.reduceLT, Nat.reduceBNe, reduceCtorEq]
    unfold CombV
    rw [if_pos hc]
    exact ⟨_, zs, rfl, hz⟩
  · rename_i hc
    subst hr
    try simp only [go_sem, ↓reduceIte, Nat.reduceEqDiff, Nat.reduceAdd, Nat.reduceMul, Nat.reduceLeDiff, Nat.reduceLT, Nat.reduceBNe, reduceCtorEq]
    unfold CombV
    rw [if_neg hc]
theorem bNorm (xs : List Sp) (v : Value) (R : RO) (h : SpV R v xs) (hl : xs.length ≤ 10000000) : CallsR Tryz.prog 90 [v] R fun R' r => CombV (newR R R') r (fun x y => x || y) xs [] := by
  have hC := bUnion xs [] v (.slice none 0 0) R h (EncV.nil _ _ _) (by simpa using hl)
  refine callsT mix Tryz.func90 comp90 (by simp [Tryz.ntmps90]) ?_; simp only [go_sem, ↓reduceIte, Nat.reduceEqDiff, Nat.reduceAdd, Nat.reduceMul, Nat.reduceLeDiff, Nat.reduceLT, Nat.reduceBNe, reduceCtorEq, vc90, rs90]
  refine vcall hC ?_
  rintro R1 r hle1 hr
  unfold CombV at hr
  split at hr
  · rename_i hc
    obtain ⟨z, zs, rfl, hz⟩ := hr
    try simp only [go_sem, ↓reduceIte, Nat.reduceEqDiff, Nat.reduceAdd, Nat.reduceMul, Nat.reduceLeDiff, Nat.reduceLT, Nat.reduceBNe, reduceCtorEq]
    unfold CombV
    rw [if_pos hc]
    exact ⟨_, zs, rfl, hz⟩
  · rename_i hc
    subst hr
    try simp only [go_sem, ↓reduceIte, Nat.reduceEqDiff, Nat.reduceAdd, Nat.reduceMul, Nat.reduceLeDiff, Nat.reduceLT, Nat.reduceBNe, reduceCtorEq]
    unfold CombV
    rw [if_neg hc]
end Go.Proofs.YtclkibjonbhldaaGreatDoor
