import Derived.Test.YtclkibjonbhldaaGreatDoorBt
import Derived.Test.YtclkibjonbhldaaGreatDoorBg
import Derived.Test.YtclkibjonbhldaaGreatDoorCt
/- Plain lemmas of our own, no statement of the seat: clones; the ledger's close. -/
namespace Go.Proofs.YtclkibjonbhldaaGreatDoor
set_option linter.unusedSimpArgs false
set_option linter.unusedVariables false
open Go.Proofs.YtclkibjonbhldaaGreatDoor.Vc Go.Shelf Go.Sort
def Tryz.sortSe_ren : Go.Shelf.Ren := ⟨fun | 6 => 80 | 15 => 84 | 14 => 98 | 28 => 108 | 29 => 109 | 20 => 116 | 21 => 117 | 22 => 118 | 23 => 119 | 24 => 120 | 25 => 121 | 26 => 122 | 27 => 123 | 46 => 131 | 47 => 125 | 48 => 126 | 49 => 132 | 50 => 133 | 57 => 136 | n => n, fun | 22 => 26 | 24 => 66 | 25 => 109 | 3 => 3 | 39 => 113 | 0 => 0 | 53 => 134 | 55 => 136 | 4 => 4 | 46 => 126 | 45 => 125 | 50 => 131 | 5 => 5 | 9 => 9 | 66 => 147 | 70 => 151 | 76 => 157 | 77 => 158 | n => n, fun | n => n⟩
theorem Tryz.sortSe : Go.Proofs.SlLaysF0.n6 Tryz.prog Tryz.sortSe_ren := {
  mixed := by kernel_rfl
  f6 := ⟨Tryz.f80.name, by decide, Tryz.func80.trans (congrArg some (by kernel_rfl))⟩
  f14 := ⟨Tryz.f98.name, by decide, Tryz.func98.trans (congrArg some (by kernel_rfl))⟩
  f15 := Tryz.func84.trans (congrArg some (by kernel_rfl))
  f20 := ⟨Tryz.f116.name, by decide, Tryz.func116.trans (congrArg some (by kernel_rfl))⟩
  f21 := ⟨Tryz.f117.name, by decide, Tryz.func117.trans (congrArg some (by kernel_rfl))⟩
  f22 := ⟨Tryz.f118.name, by decide, Tryz.func118.trans (congrArg some (by kernel_rfl))⟩
  f23 := ⟨Tryz.f119.name, by decide, Tryz.func119.trans (congrArg some (by kernel_rfl))⟩
  f24 := ⟨Tryz.f120.name, by decide, Tryz.func120.trans (congrArg some (by kernel_rfl))⟩
  f25 := ⟨Tryz.f121.name, by decide, Tryz.func121.trans (congrArg some (by kernel_rfl))⟩
  f26 := ⟨Tryz.f122.name, by decide, Tryz.func122.trans (congrArg some (by kernel_rfl))⟩
  f27 := ⟨Tryz.f123.name, by decide, Tryz.func123.trans (congrArg some (by kernel_rfl))⟩
  f28 := Tryz.func108.trans (congrArg some (by kernel_rfl))
  f29 := Tryz.func109.trans (congrArg some (by kernel_rfl))
  f46 := ⟨Tryz.f131.name, by decide, Tryz.func131.trans (congrArg some (by kernel_rfl))⟩
  f47 := Tryz.func125.trans (congrArg some (by kernel_rfl))
  f48 := Tryz.func126.trans (congrArg some (by kernel_rfl))
  f49 := ⟨Tryz.f132.name, by decide, Tryz.func132.trans (congrArg some (by kernel_rfl))⟩
  f50 := ⟨Tryz.f133.name, by decide, Tryz.func133.trans (congrArg some (by kernel_rfl))⟩
  f57 := ⟨Tryz.f136.name, by decide, Tryz.func136.trans (congrArg some (by kernel_rfl))⟩
  t0 := Tryz.underlying0
  a0 := Tryz.isAgg0
  z0 := Tryz.sizeOf0
  v0 := Tryz.zeroValue0
  t3 := Tryz.underlying3
  a3 := Tryz.isAgg3
  z3 := Tryz.sizeOf3
  v3 := Tryz.zeroValue3
  t4 := Tryz.underlying4
  a4 := Tryz.isAgg4
  z4 := Tryz.sizeOf4
  v4 := Tryz.zeroValue4
  t5 := Tryz.underlying5
  a5 := Tryz.isAgg5
  z5 := Tryz.sizeOf5
  v5 := Tryz.zeroValue5
  t9 := Tryz.underlying9
  a9 := Tryz.isAgg9
  z9 := Tryz.sizeOf9
  v9 := Tryz.zeroValue9
  t22 := Tryz.underlying26
  a22 := Tryz.isAgg26
  z22 := Tryz.sizeOf26
  v22 := Tryz.zeroValue26
  t25 := Tryz.underlying109
  a25 := Tryz.isAgg109
  z25 := Tryz.sizeOf109
  v25 := Tryz.zeroValue109
  t39 := Tryz.underlying113
  a39 := Tryz.isAgg113
  z39 := Tryz.sizeOf113
  v39 := Tryz.zeroValue113
  t45 := Tryz.underlying125
  a45 := Tryz.isAgg125
  z45 := Tryz.sizeOf125
  v45 := Tryz.zeroValue125
  t46 := Tryz.underlying126
  a46 := Tryz.isAgg126
  z46 := Tryz.sizeOf126
  v46 := Tryz.zeroValue126
  t50 := Tryz.underlying131
  a50 := Tryz.isAgg131
  z50 := Tryz.sizeOf131
  v50 := Tryz.zeroValue131
  t53 := Tryz.underlying134
  a53 := Tryz.isAgg134
  z53 := Tryz.sizeOf134
  v53 := Tryz.zeroValue134
  t55 := Tryz.underlying136
  a55 := Tryz.isAgg136
  z55 := Tryz.sizeOf136
  v55 := Tryz.zeroValue136
  t66 := Tryz.underlying147
  a66 := Tryz.isAgg147
  z66 := Tryz.sizeOf147
  v66 := Tryz.zeroValue147
  t70 := Tryz.underlying151
  a70 := Tryz.isAgg151
  z70 := Tryz.sizeOf151
  v70 := Tryz.zeroValue151
  t76 := Tryz.underlying157
  a76 := Tryz.isAgg157
  z76 := Tryz.sizeOf157
  v76 := Tryz.zeroValue157
  t77 := Tryz.underlying158
  a77 := Tryz.isAgg158
  z77 := Tryz.sizeOf158
  v77 := Tryz.zeroValue158 }
theorem bCloneS (xs : List Sp) (v : Value) (R : RO) (h : SpV R v xs) : CallsR Tryz.prog 79 [v] R fun R' r => SpV (newR R R') r xs := by
  have hl := h.2
  obtain ⟨a, cap, rfl, hc, hf⟩ := h.form
  refine callsT mix Tryz.func79 comp79 (by simp [Tryz.ntmps79]) ?_; simp only [go_sem, ↓reduceIte, Nat.reduceEqDiff, Nat.reduceAdd, Nat.reduceMul, Nat.reduceLeDiff, Nat.reduceLT, Nat.reduceBNe, reduceCtorEq, vc79, rs79]
  refine ⟨fun ha => ?_, fun ha => ?_⟩
  · have hx : xs = [] := by
      cases xs with
      | nil => rfl
      | cons x l =>
        obtain ⟨ad, e, _⟩ := hf 0 (by simp)
        rw [e] at ha; simp at ha
    subst hx
    exact EncV.nil _ _ _
  · refine SpV.src h rfl ?_
    try simp only [go_sem, ↓reduceIte, Nat.reduceEqDiff, Nat.reduceAdd, Nat.reduceMul, Nat.reduceLeDiff, Nat.reduceLT, Nat.reduceBNe, reduceCtorEq]
    refine vappO [] rfl rfl (by omega) ?_
    try simp only [go_sem, ↓reduceIte, Nat.reduceEqDiff, Nat.reduceAdd, Nat.reduceMul, Nat.reduceLeDiff, Nat.reduceLT, Nat.reduceBNe, reduceCtorEq]
    intro b2 cap2 R2 hle2 hrow hcap hfr
    rw [rowS_len] at hcap
    exact RowIn.enc (enc := Sp.cells) (k := 2) (fun _ => rfl) (by omega) (hrow.new hfr (RO.le_refl _)) (by rw [rowS_len]; omega) (by omega)
theorem bCloneI (xs : List Int) (v : Value) (R : RO) (h : IntV R v xs) : CallsR Tryz.prog 75 [v] R fun R' r => IntV (newR R R') r xs := by
  have hl := h.2
  obtain ⟨a, cap, rfl, hc, hf⟩ := EncV.form h
  refine callsT mix Tryz.func75 comp75 (by simp [Tryz.ntmps75]) ?_; simp only [go_sem, ↓reduceIte, Nat.reduceEqDiff, Nat.reduceAdd, Nat.reduceMul, Nat.reduceLeDiff, Nat.reduceLT, Nat.reduceBNe, reduceCtorEq, vc75, rs75]
  refine ⟨fun ha => ?_, fun ha => ?_⟩
  · have hx : xs = [] := by
      cases xs with
      | nil => rfl
      | cons x l =>
        obtain ⟨ad, e, _⟩ := hf 0 (by simp)
        rw [e] at ha; simp at ha
    subst hx
    exact EncV.nil _ _ _
  · refine EncV.src h rfl (by omega) (fun _ => rfl) (by simp [Value.oneCell']) ?_
    try simp only [go_sem, ↓reduceIte, Nat.reduceEqDiff, Nat.reduceAdd, Nat.reduceMul, Nat.reduceLeDiff, Nat.reduceLT, Nat.reduceBNe, reduceCtorEq]
    refine vappO [] rfl rfl (by omega) ?_
    try simp only [go_sem, ↓reduceIte, Nat.reduceEqDiff, Nat.reduceAdd, Nat.reduceMul, Nat.reduceLeDiff, Nat.reduceLT, Nat.reduceBNe, reduceCtorEq]
    intro b2 cap2 R2 hle2 hrow hcap hfr
    have hfl : ((xs.map fun x => [Value.int .i64 x]).flatten).length = xs.length * 1 := rowE_len (enc := fun x : Int => [Value.int .i64 x]) (k := 1) (fun _ => rfl) xs
    exact RowIn.enc (enc := fun x : Int => [Value.int .i64 x]) (k := 1) (fun _ => rfl) (by omega) (hrow.new hfr (RO.le_refl _)) (by rw [hfl] at hcap ⊢; omega) (by omega)
/-! ### close -/
/-- An element and its cells' place. -/
abbrev Pe := Se × Option Addr × Nat × Nat
def Pe.val (p : Pe) : Value := .slice p.2.1 p.2.2.1 p.2.2.2
def Pe.cells (p : Pe) : List Value := [.int .i64 p.1.group, .int .i64 p.1.grain, p.val]
theorem Pe.one (p : Pe) : ∀ u ∈ p.cells, u.oneCell' = true := by simp [Pe.cells, Pe.val, Value.oneCell']
abbrev rowP (l : List Pe) : List Value := (l.map Pe.cells).flatten
theorem rowP_len (l : List Pe) : (rowP l).length = l.length * 3 := rowE_len (enc := Pe.cells) (k := 3) (fun _ => rfl) l
theorem rowP_app (a b : List Pe) : rowP a ++ rowP b = rowP (a ++ b) := by unfold rowP; rw [List.map_append, List.flatten_append]
instance (a b : Se) : Decidable (keyLt a b) := by unfold keyLt; infer_instance
def cmpP (p q : Pe) : Int := cmpK p.1.group p.1.grain q.1.group q.1.grain
theorem ltP (p q : Pe) : ltOf cmpP p q = decide (keyLt p.1 q.1) := by
  unfold ltOf cmpP
  rw [Bool.eq_iff_iff, decide_eq_true_eq, decide_eq_true_eq, cmpK_neg]
  exact Iff.rfl
theorem cmpP_swo : SWO (ltOf cmpP) := by
  refine ⟨fun x => ?_, fun x y z h k => ?_, fun x y z h k => ?_⟩
  · rw [ltP]; simp [keyLt]
  · rw [ltP] at *; simp only [decide_eq_true_eq] at *; exact keyLt_trans h k
  · rw [ltP] at *; simp only [decide_eq_false_iff_not] at *; unfold keyLt at *; omega
instance : Inhabited Se := ⟨⟨0, 0, []⟩⟩
theorem bClose1 (p q : Pe) (R : RO) : CallsR Tryz.prog 81 [.agg p.cells.toArray, .agg q.cells.toArray] R fun _ v => v = .int .i64 (cmpP p q) := by
  have hC := bCompareA p.1.group p.1.grain q.1.group q.1.grain R
  simp only [Pe.cells, Pe.val]
  refine callsT mix Tryz.func81 comp81 (by simp [Tryz.ntmps81]) ?_; simp only [go_sem, ↓reduceIte, Nat.reduceEqDiff, Nat.reduceAdd, Nat.reduceMul, Nat.reduceLeDiff, Nat.reduceLT, Nat.reduceBNe, reduceCtorEq, vc81, rs81]
  refine vcall hC ?_
  rintro R1 v h1 rfl
  try simp only [go_sem, ↓reduceIte, Nat.reduceEqDiff, Nat.reduceAdd, Nat.reduceMul, Nat.reduceLeDiff, Nat.reduceLT, Nat.reduceBNe, reduceCtorEq]
  rfl
theorem bSortSe (ps : List Pe) (hl : ps.length ≤ 1000000000) (R : RO) :
    CallsS Tryz.prog 80 [.sl 0 ps.length, .val (.func (.func 81) #[] #[])] [.row 66 3 (rowP ps)] R fun R' bs r =>
      R' = R ∧ ∃ qs : List Pe, qs.Perm ps ∧ (qs.Pairwise fun x y => ¬ keyLt y.1 x.1) ∧ bs = [.row 66 3 (rowP qs)] ∧ r = .val (.tuple #[]) := by
  have h := sortFuncS Tryz.sortSe 3 Tryz.isAgg66 Tryz.sizeOf66 Pe.cells (fun _ => rfl) Pe.one cmpP cmpP_swo 81 66
    (enters_of Tryz.func81 (by kernel_rfl) rfl) (fun x y => bClose1 x y _) ps (by omega) R
  simp only [ltP, decide_eq_false_iff_not] at h
  exact h
theorem bSortSeNil (fv : Value) (R : RO) : CallsR Tryz.prog 80 [.slice none 0 0, fv] R fun _ r => r = .tuple #[] := sortFuncNil Tryz.sortSe fv R
/-- Different keys, none out of order: in order. -/
theorem sorted_keys {qs : List Pe} (h : qs.Pairwise fun x y => ¬ keyLt y.1 x.1) (hn : (qs.map fun p => seKey p.1).Nodup) : (qs.map (·.1)).Pairwise keyLt := by
  rw [List.pairwise_map]
  have hn' : qs.Pairwise fun x y => seKey x.1 ≠ seKey y.1 := List.pairwise_map.1 hn
  refine (h.and hn').imp fun {x y} ⟨h1, h2⟩ => ?_
  unfold keyLt at *
  unfold seKey at h2
  simp only [ne_eq, Prod.mk.injEq] at h2
  omega
set_option maxHeartbeats 1000000 in
theorem bClose (ps : List Le) (c : Nat) (R : RO) (hL : LedOK R ps c) (hl : ps.length ≤ 1000000) : CallsS Tryz.prog 44 [.mp 0] [.mp (ents ps) c] R fun R' bs r =>
    ∃ b1 qs, bs = [.mp (ents ps) c, b1, gb 66 3 (rowP qs)] ∧ r = gs 2 qs.length ∧ (qs.map (·.1)).Perm (ps.map (·.1)) ∧ (qs.map (·.1)).Pairwise keyLt ∧ ∀ q ∈ qs, SpV (newR R R') q.val q.1.cells := by
  have hborn : ((ents ps).map (·.born)).Nodup := by rw [ents_born]; exact hL.born
  refine callsTS mix Tryz.func44 comp44 (by simp [Tryz.ntmps44]) rfl rfl ?_; simp only [go_sem, ↓reduceIte, Nat.reduceEqDiff, Nat.reduceAdd, Nat.reduceMul, Nat.reduceLeDiff, Nat.reduceLT, Nat.reduceBNe, reduceCtorEq, vc44, rs44]
  refine vcLoopR (List Le × List Pe) (fun x => [(7, .loc 1 0), (3, gs 2 x.2.length), (0, .mp 0)]) (fun x => [.mp (ents ps) c, .it 0 c (x.1.map fun p => p.2.2) c, gb 66 3 (rowP x.2)])
    (fun x R' => Vis ps x.1 ∧ x.2.map (·.1) = x.1.map (·.1) ∧ ∀ q ∈ x.2, SpV (newR R R') q.val q.1.cells) (fun x => ps.length - x.1.length) ([], []) [] ?_ ?_ ?_ ?_
  · (try simp only [go_sem, ↓reduceIte, Nat.reduceEqDiff, Nat.reduceAdd, Nat.reduceMul, Nat.reduceLeDiff, Nat.reduceLT, Nat.reduceBNe, reduceCtorEq]) <;> (repeat' (first | rfl | trivial | constructor | (intro h; exact absurd rfl h)))
  · simp only [go_sem, ↓reduceIte, Nat.reduceEqDiff, Nat.reduceAdd, Nat.reduceMul, Nat.reduceLeDiff, Nat.reduceLT, Nat.reduceBNe, reduceCtorEq, inScope, rnInj_nil]
    decide
  · exact ⟨Vis.nil ps, rfl, by simp⟩
  rintro ⟨vs, qs⟩ env R1 hle1 hE ⟨hv, hq, hqv⟩
  (simp only [go_sem] at hE; obtain ⟨e7, e3, e0⟩ := hE; simp only [go_sem, ↓reduceIte, Nat.reduceEqDiff, Nat.reduceAdd, Nat.reduceMul, Nat.reduceLeDiff, Nat.reduceLT, Nat.reduceBNe, reduceCtorEq, e7, e3, e0]; dsimp only at *)
  have hvl := hv.le
  have hql : qs.length = vs.length := by simpa using congrArg List.length hq
  refine ⟨fun e he => ?_, fun hall => ?_, fun e' he' hun => ?_⟩
  · obtain ⟨p, hp, rfl⟩ := List.mem_map.1 he
    exact hL.lt p hp
  · have hp : vs.Perm ps := hv.perm hL.born fun p hp => by
      have := hall (ledEnt p) (List.mem_map_of_mem hp)
      rwa [List.contains_iff_mem] at this
    have hperm : (qs.map (·.1)).Perm (ps.map (·.1)) := by rw [hq]; exact hp.map (·.1)
    have hpl := hp.length_eq
    by_cases hn : qs.length = 0
    · have hn0 : qs = [] := List.eq_nil_of_length_eq_zero hn
      subst hn0
      simp only [go_sem, ↓reduceIte, Nat.reduceEqDiff, Nat.reduceAdd, Nat.reduceMul, Nat.reduceLeDiff, Nat.reduceLT, Nat.reduceBNe, reduceCtorEq, e7, e3, e0]
      refine vcall (bSortSeNil _ R1) ?_
      rintro R2 w hle2 rfl
      simp only [go_sem, ↓reduceIte, Nat.reduceEqDiff, Nat.reduceAdd, Nat.reduceMul, Nat.reduceLeDiff, Nat.reduceLT, Nat.reduceBNe, reduceCtorEq, e7, e3, e0]
      exact ⟨_, [], ⟨rfl, rfl, rfl⟩, rfl, hperm, List.Pairwise.nil, by simp⟩
    · have hgs := gs_pos (j := 2) hn
      have hne : rowP qs ≠ [] := fun e => by have := rowP_len qs; rw [e] at this; simp at this; omega
      rw [gb_ne hne]
      simp only [go_sem, ↓reduceIte, Nat.reduceEqDiff, Nat.reduceAdd, Nat.reduceMul, Nat.reduceLeDiff, Nat.reduceLT, Nat.reduceBNe, reduceCtorEq, hgs, e7, e3, e0]
      refine vhand [2] [.sl 0 qs.length, .val (.func (.func 81) #[] #[])] [.row 66 3 (rowP qs)] (bSortSe qs (by omega) R1) rfl rfl rfl ?_ (by simp) rfl rfl ?_
      · try simp only [go_sem, ↓reduceIte, Nat.reduceEqDiff, Nat.reduceAdd, Nat.reduceMul, Nat.reduceLeDiff, Nat.reduceLT, Nat.reduceBNe, reduceCtorEq]
      rintro R2 bs r hle2 ⟨rfl, zs, hzp, hzs, rfl, rfl⟩ _
      simp only [go_sem, ↓reduceIte, Nat.reduceEqDiff, Nat.reduceAdd, Nat.reduceMul, Nat.reduceLeDiff, Nat.reduceLT, Nat.reduceBNe, reduceCtorEq, setG, rn, hgs, e7, e3, e0]
      have hzl := hzp.length_eq
      have hnd : (zs.map fun p => seKey p.1).Nodup := by
        have h1 : ((ps.map (·.1)).map seKey).Nodup := by rw [List.map_map]; exact hL.keys
        have h2 := ((hzp.map (·.1)).trans hperm).map seKey
        rw [List.map_map] at h2
        exact (List.Perm.nodup_iff h2).2 h1
      have hne2 : rowP zs ≠ [] := fun e => by have := rowP_len zs; rw [e] at this; simp at this; omega
      refine ⟨_, zs, ⟨rfl, rfl, ?_⟩, ?_, (hzp.map (·.1)).trans hperm, sorted_keys hzs hnd, fun q hq => hqv q (hzp.mem_iff.1 hq)⟩
      · rw [gb_ne hne2]; rfl
      · rw [hzl, hgs]
  · obtain ⟨p, hp, rfl⟩ := List.mem_map.1 he'
    have hun' : p.2.2 ∉ vs.map fun p => p.2.2 := mem_born.1 hun
    have hv' := hv.step hp hun'
    have hvl' := hv'.le
    rw [List.length_append, List.length_singleton] at hvl'
    refine vmentry (vs.map fun p => p.2.2) (ledEnt p) rfl rfl (List.mem_map_of_mem hp) hborn ?_
    have hpv := hL.val p hp
    obtain ⟨va, vcap, hval, -, -⟩ := hpv.form
    rw [hval] at hpv
    simp only [ledEnt, hval]
    simp only [go_sem, ↓reduceIte, Nat.reduceEqDiff, Nat.reduceAdd, Nat.reduceMul, Nat.reduceLeDiff, Nat.reduceLT, Nat.reduceBNe, reduceCtorEq, e7, e3, e0]
    refine vcall (bCloneS p.1.cells _ R1 (hpv.mono hle1)) ?_
    intro R2 w hle2 hw
    obtain ⟨wa, wcap, rfl, -, -⟩ := hw.form
    simp only [go_sem, ↓reduceIte, Nat.reduceEqDiff, Nat.reduceAdd, Nat.reduceMul, Nat.reduceLeDiff, Nat.reduceLT, Nat.reduceBNe, reduceCtorEq, e7, e3, e0]
    have hstep : (∀ q ∈ qs ++ [((p.1, wa, p.1.cells.length, wcap) : Pe)], SpV (newR R R2) q.val q.1.cells) := fun q hq => by
      rcases List.mem_append.1 hq with hq | hq
      · exact (hqv q hq).mono (newR_mono hle2)
      · simp only [List.mem_cons, List.not_mem_nil, or_false] at hq
        subst hq
        exact hw.mono (newR_sub hle1)
    refine vgrow (rowP qs) (fun h0 => by rw [gb_ne h0]; rfl) (fun h0 => by rw [h0, gb_nil]; rfl) (by rw [rowP_len]) (by omega) (by omega) (by omega) ?_
    simp only [go_sem, ↓reduceIte, Nat.reduceEqDiff, Nat.reduceAdd, Nat.reduceMul, Nat.reduceLeDiff, Nat.reduceLT, Nat.reduceBNe, reduceCtorEq, e7, e3, e0]
    refine ⟨(vs ++ [p], qs ++ [((p.1, wa, p.1.cells.length, wcap) : Pe)]), [0, 1, 5], by show _ - (vs ++ [p]).length < _; rw [List.length_append, List.length_singleton]; omega, ?_, ?_, hv', ?_, hstep⟩
    · show _ ∧ _
      rw [List.length_append, List.map_append, ← rowP_app]
      try simp only [go_sem, ↓reduceIte, Nat.reduceEqDiff, Nat.reduceAdd, Nat.reduceMul, Nat.reduceLeDiff, Nat.reduceLT, Nat.reduceBNe, reduceCtorEq]
      intro _; rfl
    · simp only [go_sem, ↓reduceIte, Nat.reduceEqDiff, Nat.reduceAdd, Nat.reduceMul, Nat.reduceLeDiff, Nat.reduceLT, Nat.reduceBNe, reduceCtorEq, inScope, rnInj_nil]
      decide
    · show (qs ++ _).map (·.1) = (vs ++ [p]).map (·.1)
      rw [List.map_append, List.map_append, hq]; rfl
theorem gb_out (T sz : Nat) (cs : List Value) : (gb T sz cs).out = gb T sz cs := by unfold gb; split <;> rfl
/-! ### Groups, cloned -/
/-- Groups, each at its place. -/
structure HsV (R : RO) (hs : List Value) (gs : List (List Int)) : Prop where
  len : hs.length = gs.length
  val : ∀ i (h : i < hs.length) (h' : i < gs.length), IntV R hs[i] gs[i]
theorem HsV.mono {R R' : RO} {hs : List Value} {gs : List (List Int)} (h : HsV R hs gs) (hle : RO.le R R') : HsV R' hs gs := ⟨h.len, fun i h1 h2 => (h.val i h1 h2).mono hle⟩
theorem HsV.snoc {R : RO} {hs : List Value} {gs : List (List Int)} {i : Nat} (h : HsV R hs (gs.take i)) (hi : i < gs.length) {v : Value} (hv : IntV R v gs[i]) : HsV R (hs ++ [v]) (gs.take (i + 1)) := by
  have hl := h.len
  rw [List.length_take] at hl
  refine ⟨by simp; omega, fun j h1 h2 => ?_⟩
  rw [List.length_append, List.length_singleton] at h1
  by_cases hj : j < hs.length
  · rw [List.getElem_append_left hj, List.getElem_take]
    have := h.val j hj (by rw [List.length_take]; omega)
    rwa [List.getElem_take] at this
  · obtain rfl : j = i := by omega
    rw [List.getElem_append_right (by omega), List.getElem_take]
    simpa using hv
theorem HsV.gv {R : RO} {hs : List Value} {gs : List (List Int)} (h : HsV R hs gs) {v : Value} (hv : EncV (fun x : Value => [x]) 1 R v hs) : GV R v gs := ⟨hs, hv, h.len, h.val⟩
theorem IntV.one {R : RO} {v : Value} {xs : List Int} (h : IntV R v xs) : v.oneCell' = true := by obtain ⟨a, cap, rfl, _, _⟩ := EncV.form h; rfl
theorem HsV.one {R : RO} {hs : List Value} {gs : List (List Int)} (h : HsV R hs gs) : ∀ u ∈ hs, u.oneCell' = true := fun u hu => by
  obtain ⟨i, hi, rfl⟩ := List.mem_iff_getElem.1 hu
  exact (h.val i hi (by rw [← h.len]; exact hi)).one
theorem flatV (hs : List Value) : (hs.map fun x : Value => [x]).flatten = hs := by
  induction hs with
  | nil => rfl
  | cons x l ih => rw [List.map_cons, List.flatten_cons, ih]; rfl
set_option maxHeartbeats 1000000 in
theorem bCloned (gl : List (List Int)) (v : Value) (R : RO) (h : GV R v gl) : CallsS Tryz.prog 41 [.val v] [] R fun R' bs r =>
    ∃ hs, bs = [gb 64 1 hs] ∧ r = gs 0 hs.length ∧ HsV (newR R R') hs gl := by
  obtain ⟨hxl, a, cap, rfl, hc, hg⟩ := h.form
  refine callsTS mix Tryz.func41 comp41 (by simp [Tryz.ntmps41]) rfl rfl ?_; simp only [go_sem, ↓reduceIte, Nat.reduceEqDiff, Nat.reduceAdd, Nat.reduceMul, Nat.reduceLeDiff, Nat.reduceLT, Nat.reduceBNe, reduceCtorEq, vc41, rs41]
  refine vcLoopR (Nat × List Value) (fun x => [(8, .val (.int .i64 x.1)), (7, .val (.int .i64 gl.length)), (6, .val (.slice a gl.length cap)), (3, gs 0 x.2.length)]) (fun x => [gb 64 1 x.2])
    (fun x R' => x.1 ≤ gl.length ∧ HsV (newR R R') x.2 (gl.take x.1)) (fun x => gl.length - x.1) (0, []) [] ?_ ?_ ?_ ?_
  · (try simp only [go_sem, ↓reduceIte, Nat.reduceEqDiff, Nat.reduceAdd, Nat.reduceMul, Nat.reduceLeDiff, Nat.reduceLT, Nat.reduceBNe, reduceCtorEq]) <;> (repeat' (first | rfl | trivial | constructor | (intro h; exact absurd rfl h)))
  · try simp only [go_sem, ↓reduceIte, Nat.reduceEqDiff, Nat.reduceAdd, Nat.reduceMul, Nat.reduceLeDiff, Nat.reduceLT, Nat.reduceBNe, reduceCtorEq]
  · exact ⟨Nat.zero_le _, rfl, fun i h => absurd h (by simp)⟩
  rintro ⟨i, hs⟩ env R1 hle1 hE ⟨hi, hH⟩
  (simp only [go_sem] at hE; obtain ⟨e8, e7, e6, e3⟩ := hE; simp only [go_sem, ↓reduceIte, Nat.reduceEqDiff, Nat.reduceAdd, Nat.reduceMul, Nat.reduceLeDiff, Nat.reduceLT, Nat.reduceBNe, reduceCtorEq, e8, e7, e6, e3]; dsimp only at *)
  have hhl := hH.len
  rw [List.length_take] at hhl
  refine ⟨fun hlt => ?_, fun hge => ?_⟩
  · have hlt' : i < gl.length := by omega
    obtain ⟨ad, u, had, hR, hu⟩ := hg i hlt'
    refine ⟨by omega, vat ad had ?_⟩
    try simp only [go_sem, ↓reduceIte, Nat.reduceEqDiff, Nat.reduceAdd, Nat.reduceMul, Nat.reduceLeDiff, Nat.reduceLT, Nat.reduceBNe, reduceCtorEq]
    refine vload _ (hle1 _ _ hR) ?_
    simp only [go_sem, ↓reduceIte, Nat.reduceEqDiff, Nat.reduceAdd, Nat.reduceMul, Nat.reduceLeDiff, Nat.reduceLT, Nat.reduceBNe, reduceCtorEq, e8, e7, e6, e3]
    refine vcall (bCloneI gl[i] u R1 (hu.mono hle1)) ?_
    intro R2 w hle2 hw
    have hw1 := hw.one
    obtain ⟨wa, wcap, rfl, -, -⟩ := EncV.form hw
    simp only [go_sem, ↓reduceIte, Nat.reduceEqDiff, Nat.reduceAdd, Nat.reduceMul, Nat.reduceLeDiff, Nat.reduceLT, Nat.reduceBNe, reduceCtorEq, e8, e7, e6, e3]
    refine vgrow hs (fun h0 => by rw [gb_ne h0]; rfl) (fun h0 => by rw [h0, gb_nil]; rfl) (by omega) (by omega) (by omega) (by omega) ?_
    simp only [go_sem, ↓reduceIte, Nat.reduceEqDiff, Nat.reduceAdd, Nat.reduceMul, Nat.reduceLeDiff, Nat.reduceLT, Nat.reduceBNe, reduceCtorEq, e8, e7, e6, e3]
    refine ⟨_, W.in64 (by omega), (i + 1, hs ++ [.slice wa gl[i].length wcap]), [2], by show _ - (i + 1) < _ - i; omega, ?_, by decide, by show i + 1 ≤ _; omega, (hH.mono (newR_mono hle2)).snoc hlt' (hw.mono (newR_sub hle1))⟩
    show _ ∧ _
    rw [List.length_append]
    try simp only [go_sem, ↓reduceIte, Nat.reduceEqDiff, Nat.reduceAdd, Nat.reduceMul, Nat.reduceLeDiff, Nat.reduceLT, Nat.reduceBNe, reduceCtorEq]
    rfl
  · obtain rfl : i = gl.length := by omega
    rw [List.take_length] at hH
    exact ⟨hs, gb_out _ _ _, rfl, hH⟩
end Go.Proofs.YtclkibjonbhldaaGreatDoor
/- Plain lemmas of our own, no statement of the seat: the cells of a window that are not known: plain. -/
namespace Go.Proofs.YtclkibjonbhldaaGreatDoor
set_option linter.unusedSimpArgs false
set_option linter.unusedVariables false
open Go.Proofs.YtclkibjonbhldaaGreatDoor.Vc
theorem floorI_le {a n : Int} (hn : 0 < n) : floorI a n ≤ a ∧ a < floorI a n + n := by
  unfold floorI
  have h1 := Int.emod_nonneg a (show n ≠ 0 by omega)
  have h2 := Int.emod_lt_of_pos a hn
  omega
theorem floorI_mul (a n : Int) : floorI a n % n = 0 := by
  unfold floorI
  have := Int.emod_emod_of_dvd a (Int.dvd_refl n)
  rw [Int.sub_emod, this, Int.sub_self, Int.zero_emod]
theorem floorI_mono {a b n : Int} (hn : 0 < n) (h : a ≤ b) : floorI a n ≤ floorI b n := by
  rcases Int.lt_or_le (floorI b n) (floorI a n) with hlt | hge
  · exfalso
    have h1 := floorI_le (a := a) hn
    have h2 := floorI_le (a := b) hn
    have h3 : n ∣ floorI a n - floorI b n := Int.dvd_sub (Int.dvd_of_emod_eq_zero (floorI_mul a n)) (Int.dvd_of_emod_eq_zero (floorI_mul b n))
    have h4 := Int.le_of_dvd (by omega) h3
    omega
  · exact hge
/-- Two multiples differ by a whole number of cells. -/
theorem mul_step {a b n : Int} (hn : 0 < n) (ha : a % n = 0) (hb : b % n = 0) (h : a < b) : a + n ≤ b := by
  have h3 : n ∣ b - a := Int.dvd_sub (Int.dvd_of_emod_eq_zero hb) (Int.dvd_of_emod_eq_zero ha)
  have h4 := Int.le_of_dvd (by omega) h3
  omega
theorem floorI_id {a n : Int} (h : a % n = 0) : floorI a n = a := by unfold floorI; omega
/-- The first multiple from a on. -/
def ceilI (a n : Int) : Int := floorI (a + n - 1) n
theorem ceilI_ge {a n : Int} (hn : 0 < n) : a ≤ ceilI a n ∧ ceilI a n < a + n := by
  unfold ceilI
  have := floorI_le (a := a + n - 1) hn
  omega
theorem ceilI_mul (a n : Int) : ceilI a n % n = 0 := floorI_mul _ n
/-- The cells of a window. -/
def cellsW (n : Int) (w : Sp) : List Sp := (List.range ((w.t - w.f) / n).toNat).map fun i : Nat => ⟨w.f + i * n, w.f + i * n + n⟩
def covered (n : Int) (K : Int → Bool) (c : Sp) : Bool := (List.range n.toNat).all fun j : Nat => K (c.f + j)
def missC (n : Int) (K : Int → Bool) (w : Sp) : List Sp := (cellsW n w).filter fun c => !covered n K c
theorem covered_iff {n : Int} {K : Int → Bool} {c : Sp} (hn : 0 < n) (hc : c.t = c.f + n) : covered n K c = true ↔ ∀ t, c.f ≤ t → t < c.t → K t = true := by
  unfold covered
  rw [List.all_eq_true]
  constructor
  · intro h t h1 h2
    have := h (t - c.f).toNat (List.mem_range.2 (by omega))
    rwa [show c.f + ((t - c.f).toNat : Int) = t by omega] at this
  · intro h j hj
    have := List.mem_range.1 hj
    exact h _ (by omega) (by omega)
theorem cellsW_mem {n : Int} {w c : Sp} (hn : 0 < n) (hf : w.f % n = 0) (ht : w.t % n = 0) (hw : w.f ≤ w.t) : c ∈ cellsW n w ↔ c.f % n = 0 ∧ c.t = c.f + n ∧ w.f ≤ c.f ∧ c.t ≤ w.t := by
  unfold cellsW
  have hd : (w.t - w.f) % n = 0 := by
    have : n ∣ w.t - w.f := Int.dvd_sub (Int.dvd_of_emod_eq_zero ht) (Int.dvd_of_emod_eq_zero hf)
    exact Int.emod_eq_zero_of_dvd this
  have hq : n * ((w.t - w.f) / n) = w.t - w.f := by have := Int.mul_ediv_add_emod (w.t - w.f) n; omega
  have hq0 : 0 ≤ (w.t - w.f) / n := Int.ediv_nonneg (by omega) (by omega)
  rw [List.mem_map]
  constructor
  · rintro ⟨i, hi, rfl⟩
    have hi := List.mem_range.1 hi
    have h1 : ((i : Int) + 1) * n ≤ ((w.t - w.f) / n) * n := Int.mul_le_mul_of_nonneg_right (by omega) (by omega)
    rw [Int.mul_comm ((w.t - w.f) / n), hq, Int.add_mul, Int.one_mul] at h1
    have h2 : 0 ≤ (i : Int) * n := Int.mul_nonneg (by omega) (by omega)
    refine ⟨?_, rfl, by show w.f ≤ w.f + i * n; omega, by show w.f + i * n + n ≤ w.t; omega⟩
    show (w.f + i * n) % n = 0
    rw [Int.add_mul_emod_self_right]; exact hf
  · rintro ⟨h1, h2, h3, h4⟩
    have h5 : n ∣ c.f - w.f := Int.dvd_sub (Int.dvd_of_emod_eq_zero h1) (Int.dvd_of_emod_eq_zero hf)
    obtain ⟨q, hq'⟩ := h5
    have hqn : 0 ≤ q := by
      rcases Int.lt_or_le q 0 with h | h
      · have := Int.mul_neg_of_pos_of_neg hn h; omega
      · exact h
    refine ⟨q.toNat, List.mem_range.2 ?_, ?_⟩
    · have h6 : n * (q + 1) ≤ n * ((w.t - w.f) / n) := by rw [Int.mul_add, Int.mul_one, hq]; omega
      have := Int.le_of_mul_le_mul_left h6 hn
      omega
    · cases c
      simp only at h2 hq' ⊢
      have : (q.toNat : Int) * n = n * q := by rw [Int.toNat_of_nonneg hqn, Int.mul_comm]
      congr 1 <;> omega
/-- What a span becomes, rounded to whole cells. -/
def roundS (n : Int) (s : Sp) : Sp := ⟨floorI s.f n, ceilI s.t n⟩
theorem sub_bounds {l : List Sp} (h : Normal l) {w : Sp} (hm : ∀ t, memS l t = true → w.f ≤ t ∧ t < w.t) : ∀ s ∈ l, w.f ≤ s.f ∧ s.t ≤ w.t := fun s hs => by
  have hp := h.pos s hs
  have h1 := hm s.f (memS_iff.2 ⟨s, hs, by omega, hp⟩)
  have h2 := hm (s.t - 1) (memS_iff.2 ⟨s, hs, by omega, by omega⟩)
  omega
theorem round_mem {n : Int} (hn : 0 < n) {w : Sp} (hf : w.f % n = 0) (ht : w.t % n = 0) (hw : w.f ≤ w.t) {K : Int → Bool} {l : List Sp} (hl : Normal l) (hm : ∀ t, memS l t = true ↔ (w.f ≤ t ∧ t < w.t) ∧ K t = false) (t : Int) : memS (l.map (roundS n)) t = memS (missC n K w) t := by
  have hb := sub_bounds hl fun t h => (hm t).1 h |>.1
  rw [Bool.eq_iff_iff, memS_iff, memS_iff]
  constructor
  · rintro ⟨r, hr, h1, h2⟩
    obtain ⟨s, hs, rfl⟩ := List.mem_map.1 hr
    have hp := hl.pos s hs
    have h1 : floorI s.f n ≤ t := h1
    have h2 : t < ceilI s.t n := h2
    have g1 := floorI_le (a := s.f) hn
    have g2 := ceilI_ge (a := s.t) hn
    have g3 := floorI_le (a := t) hn
    have g4 := hb s hs
    have c1 : floorI s.f n ≤ floorI t n := by
      have := floorI_mono hn h1
      rwa [floorI_id (floorI_mul s.f n)] at this
    have c2 := mul_step hn (floorI_mul t n) (ceilI_mul s.t n) (show floorI t n < ceilI s.t n by omega)
    have c3 : w.f ≤ floorI t n := by
      have := floorI_mono (n := n) hn (show w.f ≤ s.f by omega)
      rw [floorI_id hf] at this; omega
    have c4 : ceilI s.t n ≤ w.t := by
      rcases Int.lt_or_le w.t (ceilI s.t n) with h | h
      · have := mul_step hn ht (ceilI_mul s.t n) h; omega
      · exact h
    refine ⟨⟨floorI t n, floorI t n + n⟩, List.mem_filter.2 ⟨(cellsW_mem hn hf ht hw).2 ⟨floorI_mul t n, rfl, c3, by show floorI t n + n ≤ w.t; omega⟩, ?_⟩, g3.1, g3.2⟩
    rw [Bool.not_eq_true', ← Bool.not_eq_true, covered_iff hn rfl]
    intro hall
    have hx := (hm (max s.f (floorI t n))).1 (memS_iff.2 ⟨s, hs, by omega, by omega⟩)
    have := hall (max s.f (floorI t n)) (by show floorI t n ≤ _; omega) (by show _ < floorI t n + n; omega)
    rw [hx.2] at this; cases this
  · rintro ⟨c, hc, h1, h2⟩
    obtain ⟨hc1, hc2⟩ := List.mem_filter.1 hc
    obtain ⟨e1, e2, e3, e4⟩ := (cellsW_mem hn hf ht hw).1 hc1
    rw [Bool.not_eq_true', ← Bool.not_eq_true, covered_iff hn e2] at hc2
    obtain ⟨x, hx⟩ := Classical.not_forall.1 hc2
    simp only [Classical.not_imp, Bool.not_eq_true] at hx
    obtain ⟨x1, x2, x3⟩ := hx
    obtain ⟨s, hs, y1, y2⟩ := memS_iff.1 ((hm x).2 ⟨⟨by omega, by omega⟩, x3⟩)
    refine ⟨roundS n s, List.mem_map_of_mem hs, ?_, ?_⟩
    · show floorI s.f n ≤ t
      have := floorI_mono hn (show s.f ≤ x by omega)
      have h3 : floorI x n ≤ c.f := by
        rcases Int.lt_or_le c.f (floorI x n) with h | h
        · have := mul_step hn e1 (floorI_mul x n) h
          have := floorI_le (a := x) hn
          omega
        · exact h
      omega
    · show t < ceilI s.t n
      have g2 := ceilI_ge (a := s.t) hn
      have := mul_step hn e1 (ceilI_mul s.t n) (by omega)
      omega
end Go.Proofs.YtclkibjonbhldaaGreatDoor
/- Plain lemmas of our own, no statement of the seat: the ledger's missing. -/
namespace Go.Proofs.YtclkibjonbhldaaGreatDoor
set_option linter.unusedSimpArgs false
set_option linter.unusedVariables false
open Go.Proofs.YtclkibjonbhldaaGreatDoor.Vc
theorem add_off (a : Addr) (n : Nat) : (a.add n).off = a.off + n := by unfold Addr.add; split <;> simp_all
theorem add_blk (a : Addr) (n : Nat) : (a.add n).block = a.block := by unfold Addr.add; split <;> rfl
/-- A list in facts of one's own, one of its elements written. -/
theorem EncV.put {α : Type} {enc : α → List Value} {k : Nat} {F : RO} {ad : Addr} {n cap : Nat} {xs : List α} (hk : ∀ x, (enc x).length = k) (h : EncV enc k F (.slice (some ad) n cap) xs) {i : Nat} (hi : i < xs.length) (y : α) : EncV enc k (putF F (ad.add (i * k)) (enc y)) (.slice (some ad) n cap) (xs.set i y) := by
  obtain ⟨⟨a, c, e, hc, hf⟩, hl⟩ := h
  refine ⟨⟨a, c, by rw [e, List.length_map, List.length_map, List.length_set], by simpa using hc, fun j us hj => ?_⟩, by simpa using hl⟩
  simp only [Value.slice.injEq] at e
  obtain ⟨rfl, -, -⟩ := e
  have hus : us.length = k := by
    rw [List.getElem?_map] at hj
    obtain ⟨x, _, rfl⟩ := Option.map_eq_some_iff.1 hj
    exact hk x
  refine ⟨hus, ad, rfl, fun o u ho => ?_⟩
  rw [List.getElem?_map, List.getElem?_set] at hj
  by_cases hij : i = j
  · subst hij
    rw [if_pos rfl, if_pos hi] at hj
    simp only [Option.map_some, Option.some.injEq] at hj
    subst hj
    exact putF_at ho
  · rw [if_neg hij] at hj
    obtain ⟨-, ad', e, hR⟩ := hf j us (by rw [List.getElem?_map]; exact hj)
    simp only [Option.some.injEq] at e
    subst e
    refine putF_ne (hR o u ho) ?_
    rw [add_off, add_off, add_off, hk]
    obtain ⟨x, _, rfl⟩ := Option.map_eq_some_iff.1 hj
    have ho' := (List.getElem?_eq_some_iff.1 ho).1
    rw [hk] at ho'
    rintro ⟨_, h1, h2⟩
    rcases Nat.lt_or_gt_of_ne hij with h | h
    · have : (i + 1) * k ≤ j * k := Nat.mul_le_mul_right k h
      rw [Nat.add_mul] at this; omega
    · have : (j + 1) * k ≤ i * k := Nat.mul_le_mul_right k h
      rw [Nat.add_mul] at this; omega
theorem CombV.sub {R : RO} {r : Value} {xs ys : List Sp} (h : CombV R r (fun x y => x && !y) xs ys) (hx : rangedB xs = true) (hy : rangedB ys = true) : ∃ v zs, r = .tuple #[v, .int .i64 0] ∧ SpV R v zs ∧ Normal zs ∧ (∀ t, memS zs t = (memS xs t && !memS ys t)) ∧ zs.length ≤ 2 * (xs.length + ys.length) := by
  unfold CombV at h
  rw [if_pos ⟨hx, hy⟩] at h
  exact h
/-- The first i spans are rounded. -/
def mixR (n : Int) (zs : List Sp) (i : Nat) : List Sp := (zs.take i).map (roundS n) ++ zs.drop i
theorem mixR_zero (n : Int) (zs : List Sp) : mixR n zs 0 = zs := by simp [mixR]
theorem mixR_all (n : Int) (zs : List Sp) : mixR n zs zs.length = zs.map (roundS n) := by simp [mixR]
theorem mixR_len (n : Int) (zs : List Sp) (i : Nat) : (mixR n zs i).length = zs.length := by simp [mixR]; omega
theorem mixR_get (n : Int) (zs : List Sp) (i : Nat) (hi : i < zs.length) : (mixR n zs i)[i]'(by rw [mixR_len]; exact hi) = zs[i] := by
  unfold mixR
  rw [List.getElem_append_right (by simp; omega)]
  simp [Nat.min_eq_left (Nat.le_of_lt hi)]
theorem mixR_set (n : Int) (zs : List Sp) (i : Nat) (hi : i < zs.length) : (mixR n zs i).set i (roundS n zs[i]) = mixR n zs (i + 1) := by
  unfold mixR
  rw [List.take_succ_eq_append_getElem hi, List.map_append, List.set_append_right _ _ (by simp; omega)]
  rw [List.drop_eq_getElem_cons hi, List.length_map, List.length_take, Nat.min_eq_left (Nat.le_of_lt hi), Nat.sub_self, List.set_cons_zero, List.map_singleton, List.append_assoc]
  rfl
def missD (n : Int) (K : Int → Bool) (w : Sp) : List Sp := normD (missC n K w)
/-- A window that may be asked for. -/
structure OkW (k : Int) (w : Sp) : Prop where
  pos : w.f < w.t
  lo : -2251799813685248 ≤ w.f
  hi : w.t ≤ 2251799813685248
  ali : alignedB w (sizeI k) = true
def MissQ (ps : List Le) (c : Nat) (k : Int) (w : Sp) (K : Int → Bool) (R : RO) (s : St) : Prop :=
  ∃ env b jo F R1 v zs, s = ⟨env, b, R1⟩ ∧ RO.le R R1 ∧ env 2 = .val (.int .i64 k) ∧ env 9 = .val v ∧ b[0]? = some (.mp (ents ps) c) ∧ b[jo]? = some (.own F) ∧ jo ≠ 0 ∧ SpV F v zs ∧ Normal zs ∧ (∀ t, memS zs t = (memS [w] t && !K t)) ∧ zs.length ≤ 1000000
set_option maxHeartbeats 2000000 in
theorem bMissing (ps : List Le) (c : Nat) (g k : Int) (w : Sp) (hk : 1 ≤ k ∧ k ≤ 4) (hw : OkW k w) (R : RO) (hz : SzR R) (hL : LedOK R ps c) (hs : SmallL (ps.map (·.1))) : CallsS Tryz.prog 71 [.mp 0, .val (.int .i64 g), .val (.int .i64 k), .val (.agg w.cells.toArray)] [.mp (ents ps) c] R fun R' bs r =>
    bs = [.mp (ents ps) c, .dead] ∧ ∃ v, r = .val v ∧ SpV (newR R R') v (missD (sizeI k) (memS (knownD (ps.map (·.1)) g k)) w) := by
  have hrw : rangedB [w] = true := rangedB_iff.2 fun s hs => by
    simp only [List.mem_cons, List.not_mem_nil, or_false] at hs
    subst hs
    have := hw.pos; have := hw.lo; have := hw.hi
    omega
  obtain ⟨kn, hkn⟩ : ∃ kn, kn = knownD (ps.map (·.1)) g k := ⟨_, rfl⟩
  have hrk : rangedB kn = true := by rw [hkn]; exact normD_ranged (hs.knownL g k _).1
  have hlk : kn.length ≤ 400000 := by
    rw [hkn]
    have h1 := normD_len (knownL (ps.map (·.1)) g k (5 - k).toNat)
    have h2 := (hs.knownL g k (5 - k).toNat).2
    unfold knownD
    omega
  have hK := fun R' hle => bKnown ps c g k hk R' (hL.mono (R' := R') hle) hs
  rw [← hkn] at hK ⊢
  simp only [Sp.cells]
  refine callsTS mix Tryz.func71 comp71 (by simp [Tryz.ntmps71]) rfl rfl ?_; simp only [vc71, rs71]
  (refine cutR ?_ ?_ ?_; rotate_left; (try simp only [go_sem, ↓reduceIte, Nat.reduceEqDiff, Nat.reduceAdd, Nat.reduceMul, Nat.reduceLeDiff, Nat.reduceLT, Nat.reduceBNe, reduceCtorEq, true_and]; rfl))
  rw [tCode_seq]
  refine cutT (MissQ ps c k w (memS kn) R) ?_ ?_
  · try simp only [go_sem, ↓reduceIte, Nat.reduceEqDiff, Nat.reduceAdd, Nat.reduceMul, Nat.reduceLeDiff, Nat.reduceLT, Nat.reduceBNe, reduceCtorEq]
    refine ⟨?_, ?_⟩
    · refine vshow [0] [.mp 0, .val (.int .i64 g), .val (.int .i64 k)] [.mp (ents ps) c] (hK R (RO.le_refl _)) rfl rfl rfl ?_ (by simp) rfl rfl (fun R' bs' r h => by rw [h.1]; rfl) ?_
      { try simp only [go_sem, ↓reduceIte, Nat.reduceEqDiff, Nat.reduceAdd, Nat.reduceMul, Nat.reduceLeDiff, Nat.reduceLT, Nat.reduceBNe, reduceCtorEq] }
      rintro R1 bs r hle1 ⟨rfl, kv, rfl, hkv⟩ _
      have hkv1 := hkv.mono newR_le
      simp only [go_sem, ↓reduceIte, Nat.reduceEqDiff, Nat.reduceAdd, Nat.reduceMul, Nat.reduceLeDiff, Nat.reduceLT, Nat.reduceBNe, reduceCtorEq, setG, rn]
      refine vadopt ?_
      intro β κ R2 hL2
      obtain ⟨hrow, hcap⟩ := hL2.2 2 _ rfl
      have hwv : SpV R2 (.slice (some ⟨β 2, 0, none⟩) 1 (κ 2)) [w] := RowIn.enc (xs := [w]) (enc := Sp.cells) (k := 2) (fun _ => rfl) (by omega) hrow hcap (by simp)
      refine ⟨_, bMinus [w] kn _ _ R2 hwv (hkv1.mono hL2.1) (by simp only [List.length_cons, List.length_nil]; omega), ?_⟩
      intro R3 r F hle3 hpost hF
      obtain ⟨zv, zs, rfl, hz1, hz2, hz3, hz4⟩ := hpost.sub hrw hrk
      have hz5 := hz1.mono (fun a u hn => hF a u hn.1 hn.2)
      simp only [List.length_cons, List.length_nil] at hz4
      try simp only [go_sem, ↓reduceIte, Nat.reduceEqDiff, Nat.reduceAdd, Nat.reduceMul, Nat.reduceLeDiff, Nat.reduceLT, Nat.reduceBNe, reduceCtorEq]
      exact ⟨_, _, 4, F, _, zv, zs, rfl, hle1, rfl, rfl, rfl, rfl, by omega, hz5, hz2, hz3, by omega⟩
    · refine vshow [0] [.mp 0, .val (.int .i64 g), .val (.int .i64 k)] [.mp (ents ps) c] (hK R (RO.le_refl _)) rfl rfl rfl ?_ (by simp) rfl rfl (fun R' bs' r h => by rw [h.1]; rfl) ?_
      { try simp only [go_sem, ↓reduceIte, Nat.reduceEqDiff, Nat.reduceAdd, Nat.reduceMul, Nat.reduceLeDiff, Nat.reduceLT, Nat.reduceBNe, reduceCtorEq] }
      rintro R1 bs r hle1 ⟨rfl, kv, rfl, hkv⟩ _
      have hkv1 := hkv.mono newR_le
      simp only [go_sem, ↓reduceIte, Nat.reduceEqDiff, Nat.reduceAdd, Nat.reduceMul, Nat.reduceLeDiff, Nat.reduceLT, Nat.reduceBNe, reduceCtorEq, setG, rn]
      refine vadopt ?_
      intro β κ R2 hL2
      obtain ⟨hrow, hcap⟩ := hL2.2 3 _ rfl
      have hwv : SpV R2 (.slice (some ⟨β 3, 0, none⟩) 1 (κ 3)) [w] := RowIn.enc (xs := [w]) (enc := Sp.cells) (k := 2) (fun _ => rfl) (by omega) hrow hcap (by simp)
      refine ⟨_, bMinus [w] kn _ _ R2 hwv (hkv1.mono hL2.1) (by simp only [List.length_cons, List.length_nil]; omega), ?_⟩
      intro R3 r F hle3 hpost hF
      obtain ⟨zv, zs, rfl, hz1, hz2, hz3, hz4⟩ := hpost.sub hrw hrk
      have hz5 := hz1.mono (fun a u hn => hF a u hn.1 hn.2)
      simp only [List.length_cons, List.length_nil] at hz4
      try simp only [go_sem, ↓reduceIte, Nat.reduceEqDiff, Nat.reduceAdd, Nat.reduceMul, Nat.reduceLeDiff, Nat.reduceLT, Nat.reduceBNe, reduceCtorEq]
      exact ⟨_, _, 4, F, _, zv, zs, rfl, hle1, rfl, rfl, rfl, rfl, by omega, hz5, hz2, hz3, by omega⟩
  · rintro s' ⟨env, b, jo, F, R1, v, zs, rfl, hle1, e2, e9, hb0, hbo, hjo, hzv, hzn, hzm, hzl⟩
    obtain ⟨n, hn⟩ : ∃ n, n = sizeI k := ⟨_, rfl⟩
    have hn1 := sizeI_one k
    rw [← hn] at hn1
    obtain ⟨za, zcap, rfl, hzc, -⟩ := hzv.form
    have hmw : ∀ t, memS zs t = true ↔ (w.f ≤ t ∧ t < w.t) ∧ memS kn t = false := fun t => by
      rw [hzm, memS_cons, memS_nil, Bool.or_false]
      simp
    have hsb := sub_bounds hzn fun t h => ((hmw t).1 h).1
    have hali := alignedB_iff.1 hw.ali
    rw [← hn] at hali
    have hwp := hw.pos
    have hwl := hw.lo
    have hwh := hw.hi
    try simp only [go_sem, ↓reduceIte, Nat.reduceEqDiff, Nat.reduceAdd, Nat.reduceMul, Nat.reduceLeDiff, Nat.reduceLT, Nat.reduceBNe, reduceCtorEq, e2, e9]
    refine ⟨by omega, by omega, vload _ ((hz.mono hle1).get hk) ?_⟩
    rw [← hn]
    try simp only [go_sem, ↓reduceIte, Nat.reduceEqDiff, Nat.reduceAdd, Nat.reduceMul, Nat.reduceLeDiff, Nat.reduceLT, Nat.reduceBNe, reduceCtorEq, e2, e9]
    refine vcLoopR (Nat × RO) (fun x => [(31, .val (.int .i64 x.1)), (30, .val (.int .i64 zs.length)), (29, .val (.slice za zs.length zcap)), (9, .val (.slice za zs.length zcap)), (11, .val (.int .i64 n))]) (fun x => [.mp (ents ps) c, .own x.2]) (fun x _ => x.1 ≤ zs.length ∧ SpV x.2 (.slice za zs.length zcap) (mixR n zs x.1)) (fun x => zs.length - x.1) (0, F) [0, jo] ?_ ?_ ?_ ?_
    · try simp only [go_sem, ↓reduceIte, Nat.reduceEqDiff, Nat.reduceAdd, Nat.reduceMul, Nat.reduceLeDiff, Nat.reduceLT, Nat.reduceBNe, reduceCtorEq, e2, e9]
      exact ⟨rfl, hb0, F, hbo, RO.le_refl _⟩
    · simp only [go_sem, ↓reduceIte, Nat.reduceEqDiff, Nat.reduceAdd, Nat.reduceMul, Nat.reduceLeDiff, Nat.reduceLT, Nat.reduceBNe, reduceCtorEq, inScope]
      refine ⟨?_, by rfl⟩
      simp [rnInj, rn, List.range_succ, hjo]
    · exact ⟨Nat.zero_le _, by rw [mixR_zero]; exact hzv⟩
    rintro ⟨i, F1⟩ env R2 hle2 hE ⟨hi, hF1⟩
    (simp only [go_sem] at hE; obtain ⟨e31, e30, e29, e9', e11⟩ := hE; simp only [go_sem, ↓reduceIte, Nat.reduceEqDiff, Nat.reduceAdd, Nat.reduceMul, Nat.reduceLeDiff, Nat.reduceLT, Nat.reduceBNe, reduceCtorEq, e31, e30, e29, e9', e11]; dsimp only at *)
    have hml := mixR_len n zs i
    refine ⟨fun hlt => ?_, fun hge => ?_⟩
    · have hlt' : i < zs.length := by omega
      obtain ⟨fa, fcap, e, -, hff⟩ := hF1.form
      simp only [Value.slice.injEq] at e
      obtain ⟨rfl, -, -⟩ := e
      obtain ⟨ad, had, hFR⟩ := hff i (by omega)
      rw [mixR_get n zs i hlt'] at hFR
      subst had
      have hsz := hsb _ (List.getElem_mem hlt')
      have hsp := hzn.pos _ (List.getElem_mem hlt')
      refine ⟨by omega, vat ad rfl ?_⟩
      try simp only [go_sem, ↓reduceIte, Nat.reduceEqDiff, Nat.reduceAdd, Nat.reduceMul, Nat.reduceLeDiff, Nat.reduceLT, Nat.reduceBNe, reduceCtorEq]
      refine vloadnO 1 F1 rfl (zs[i]).cells rfl (fun j u hj => hFR j u hj) ?_
      simp only [go_sem, ↓reduceIte, Nat.reduceEqDiff, Nat.reduceAdd, Nat.reduceMul, Nat.reduceLeDiff, Nat.reduceLT, Nat.reduceBNe, reduceCtorEq, Sp.cells, e31, e30, e29, e9', e11]
      refine ⟨_, W.in64 (by omega), _, W.in64 (by omega), ?_⟩
      refine vcall (bFloor (zs[i]).f n (by omega) (by omega) (by omega) R2) ?_
      rintro R3 r hle3 rfl
      simp only [go_sem, ↓reduceIte, Nat.reduceEqDiff, Nat.reduceAdd, Nat.reduceMul, Nat.reduceLeDiff, Nat.reduceLT, Nat.reduceBNe, reduceCtorEq, e31, e30, e29, e9', e11]
      refine vcall (bFloor ((zs[i]).t + n - 1) n (by omega) (by omega) (by omega) R3) ?_
      rintro R4 r hle4 rfl
      simp only [go_sem, ↓reduceIte, Nat.reduceEqDiff, Nat.reduceAdd, Nat.reduceMul, Nat.reduceLeDiff, Nat.reduceLT, Nat.reduceBNe, reduceCtorEq, e31, e30, e29, e9', e11]
      refine ⟨by omega, ?_⟩
      refine vstoreO 1 F1 rfl rfl (by omega) (fun j hj => ?_) (by simp [Value.cells, Value.oneCell']) ?_
      · have h2 : j = 0 ∨ j = 1 := by omega
        rcases h2 with rfl | rfl
        · exact ⟨_, hFR 0 _ rfl⟩
        · exact ⟨_, hFR 1 _ rfl⟩
      simp only [go_sem, ↓reduceIte, Nat.reduceEqDiff, Nat.reduceAdd, Nat.reduceMul, Nat.reduceLeDiff, Nat.reduceLT, Nat.reduceBNe, reduceCtorEq, e31, e30, e29, e9', e11]
      have hput := EncV.put (enc := Sp.cells) (k := 2) (fun _ => rfl) hF1 (show i < (mixR n zs i).length by omega) (roundS n zs[i])
      rw [mixR_set n zs i hlt'] at hput
      refine ⟨_, W.in64 (by omega), (i + 1, _), [], by show _ - (i + 1) < _ - i; omega, ?_, ?_, by show i + 1 ≤ _; omega, hput⟩
      · try simp only [go_sem, ↓reduceIte, Nat.reduceEqDiff, Nat.reduceAdd, Nat.reduceMul, Nat.reduceLeDiff, Nat.reduceLT, Nat.reduceBNe, reduceCtorEq]
        exact ⟨rfl, RO.le_refl _⟩
      · simp only [go_sem, ↓reduceIte, Nat.reduceEqDiff, Nat.reduceAdd, Nat.reduceMul, Nat.reduceLeDiff, Nat.reduceLT, Nat.reduceBNe, reduceCtorEq, inScope, rnInj_nil]
        decide
    · obtain rfl : i = zs.length := by omega
      rw [mixR_all] at hF1
      try simp only [go_sem, ↓reduceIte, Nat.reduceEqDiff, Nat.reduceAdd, Nat.reduceMul, Nat.reduceLeDiff, Nat.reduceLT, Nat.reduceBNe, reduceCtorEq, e31, e30, e29, e9', e11]
      have hrr : rangedB (zs.map (roundS n)) = true := by
        rw [rangedB_iff]
        intro r hr
        obtain ⟨s, hs', rfl⟩ := List.mem_map.1 hr
        have h1 := hsb s hs'
        have h2 := hzn.pos s hs'
        have g1 := floorI_le (a := s.f) (n := n) (by omega)
        have g2 := ceilI_ge (a := s.t) (n := n) (by omega)
        have c3 : w.f ≤ floorI s.f n := by
          have := floorI_mono (n := n) (by omega) (show w.f ≤ s.f by omega)
          rwa [floorI_id hali.1] at this
        have c4 : ceilI s.t n ≤ w.t := by
          rcases Int.lt_or_le w.t (ceilI s.t n) with h | h
          · have := mul_step (n := n) (by omega) hali.2 (ceilI_mul s.t n) h; omega
          · exact h
        show (_ ≤ floorI s.f n ∧ floorI s.f n ≤ _) ∧ (_ ≤ ceilI s.t n ∧ ceilI s.t n ≤ _)
        omega
      refine vlendV (Post := fun R3 R4 r => CombV (newR R3 R4) r (fun x y => x || y) (zs.map (roundS n)) []) rfl (fun R3 hle3 hown => bNorm _ _ R3 (hF1.mono (hown F1 (by simp))) (by rw [List.length_map]; omega)) ?_
      intro R3 R4 r R5 hle3 hle4 hpost hle5 hnew
      obtain ⟨v, rfl, hv⟩ := hpost.or hrr rfl
      try simp only [go_sem, ↓reduceIte, Nat.reduceEqDiff, Nat.reduceAdd, Nat.reduceMul, Nat.reduceLeDiff, Nat.reduceLT, Nat.reduceBNe, reduceCtorEq, e31, e30, e29, e9', e11]
      have hle03 := RO.le_trans hle1 (RO.le_trans hle2 hle3)
      have e : unionD (zs.map (roundS n)) [] = missD n (memS kn) w := by
        rw [unionD_nil]
        exact (normD_normal _).eq_normD fun t => by rw [normD_mem]; exact round_mem (by omega) hali.1 hali.2 (by omega) hzn hmw t
      rw [e] at hv
      exact ⟨⟨rfl, rfl⟩, v, rfl, hv.mono fun a u hn => ⟨hnew a u hn, fun x y hx => hn.2 x y (hle03 _ _ hx)⟩⟩
end Go.Proofs.YtclkibjonbhldaaGreatDoor
