import Derived.Test.YtclkibjonbhldaaGreatDoorBe
import Derived.Test.YtclkibjonbhldaaGreatDoorMp
/- Plain lemmas of our own, no statement of the seat: valid elements of Spent. -/
namespace Go.Proofs.YtclkibjonbhldaaGreatDoor
set_option linter.unusedSimpArgs false
set_option linter.unusedVariables false
open Go.Proofs.YtclkibjonbhldaaGreatDoor.Vc
def I64 (n : Int) : Prop := -9223372036854775808 ≤ n ∧ n ≤ 9223372036854775807
structure OkS (gs : List (List Int)) (s : Se) : Prop where
  grain : 1 ≤ s.grain ∧ s.grain ≤ 4
  ne : s.cells ≠ []
  group : s.group < gs.length
  alone : s.group < 0 → personB (-1 - s.group) = true ∧ grpOf gs (-1 - s.group) = s.group
  nor : validS s.cells = true
  ali : (s.cells.all fun c => alignedB c (sizeI s.grain)) = true
def keyLt (a b : Se) : Prop := a.group < b.group ∨ (a.group = b.group ∧ a.grain < b.grain)
structure OkB (b : Bu) : Prop where
  lim : 0 ≤ b.limit ∧ b.limit ≤ 2251799813685248
  groups : ValidG b.groups
  each : ∀ s ∈ b.spent, OkS b.groups s
  ord : b.spent.Pairwise keyLt
theorem sizeI_pos (g : Int) : 0 < sizeI g := by
  unfold sizeI
  split
  · decide
  · split <;> decide
noncomputable def okS (gs : List (List Int)) (s : Se) : Bool := @decide (OkS gs s) (Classical.propDecidable _)
theorem okS_iff {gs : List (List Int)} {s : Se} : okS gs s = true ↔ OkS gs s := @decide_eq_true_iff _ (Classical.propDecidable _)
theorem okS_false {gs : List (List Int)} {s : Se} (h : ¬ OkS gs s) : okS gs s = false := @decide_eq_false _ (Classical.propDecidable _) h
set_option maxHeartbeats 1000000 in
theorem rValidSpent (gs : List (List Int)) (s : Se) (hi : I64 s.group) (v u : Value) (R : RO) (h : GV R v gs) (h' : SpV R u s.cells) : CallsR Tryz.prog 63 [v, .agg #[.int .i64 s.group, .int .i64 s.grain, u]] R fun _ r => r = .bool (okS gs s) := by
  have hV := fun R' hle => rValidS s.cells u R' (EncV.mono (R' := R') h' hle)
  have hA := fun R' hle => rAligned s.cells (sizeI s.grain) (sizeI_pos _) u R' (EncV.mono (R' := R') h' hle)
  have hG := fun (p : Int) hp R' hle => rGroupOf gs p hp v R' (GV.mono (R' := R') h hle)
  have hbad : ¬ OkS gs s → Value.bool false = Value.bool (okS gs s) := fun hn => by rw [okS_false hn]
  obtain ⟨hxl, a, cap, rfl, hc, hf⟩ := h.form
  obtain ⟨b, bcap, rfl, hbc, hbf⟩ := h'.form
  unfold I64 at hi
  refine callsT mix Tryz.func63 comp63 (by simp [Tryz.ntmps63]) ?_; simp only [go_sem, ↓reduceIte, Nat.reduceEqDiff, Nat.reduceAdd, Nat.reduceMul, Nat.reduceLeDiff, Nat.reduceLT, Nat.reduceBNe, reduceCtorEq, vc63, rs63]
  refine ⟨fun h1 => ⟨fun h2 => ⟨fun h3 => ⟨fun h4 => hbad fun hO => by have := hO.group; omega, fun h4 => ?_⟩, fun h3 => hbad fun hO => hO.ne (List.eq_nil_of_length_eq_zero (by omega))⟩, fun h2 => hbad fun hO => by have := hO.grain; omega⟩, fun h1 => hbad fun hO => by have := hO.grain; omega⟩
  have htail : ∀ (R2 : RO), RO.le R R2 → (s.group < 0 → personB (-1 - s.group) = true ∧ grpOf gs (-1 - s.group) = s.group) → okS gs s = ((validS s.cells) && (s.cells.all fun c => alignedB c (sizeI s.grain))) := fun R2 hle ha => by
    rw [Bool.eq_iff_iff, okS_iff, Bool.and_eq_true]
    exact ⟨fun hO => ⟨hO.nor, hO.ali⟩, fun ⟨h5, h6⟩ => ⟨by omega, fun e => h3 (by rw [e]; rfl), by omega, ha, h5, h6⟩⟩
  refine ⟨fun h5 => ⟨_, W.in64 (by omega), ?_⟩, fun h5 => ?_⟩
  · refine vcall (rPerson _ R) ?_
    rintro R1 r hle1 rfl
    try simp only [go_sem, ↓reduceIte, Nat.reduceEqDiff, Nat.reduceAdd, Nat.reduceMul, Nat.reduceLeDiff, Nat.reduceLT, Nat.reduceBNe, reduceCtorEq]
    have hpb : personB (-1 - s.group) = true → -1000000 ≤ -1 - s.group ∧ -1 - s.group ≤ 1000000 := fun h => by
      unfold personB at h
      simp only [Bool.and_eq_true, decide_eq_true_eq] at h
      omega
    refine ⟨fun hp => ?_, fun hp => hbad fun hO => by have := (hO.alone h5).1; rw [hp] at this; cases this⟩
    refine vcall (hG _ (hpb hp) R1 hle1) ?_
    rintro R2 r hle2 rfl
    try simp only [go_sem, ↓reduceIte, Nat.reduceEqDiff, Nat.reduceAdd, Nat.reduceMul, Nat.reduceLeDiff, Nat.reduceLT, Nat.reduceBNe, reduceCtorEq]
    refine ⟨fun hne => hbad fun hO => hne (hO.alone h5).2, fun he => ?_⟩
    have HX := RO.le_trans hle1 hle2
    have HA : s.group < 0 → personB (-1 - s.group) = true ∧ grpOf gs (-1 - s.group) = s.group := fun _ => ⟨hp, he⟩
    refine vcall (hV R2 HX) ?_
    rintro R5 r hle5 rfl
    try simp only [go_sem, ↓reduceIte, Nat.reduceEqDiff, Nat.reduceAdd, Nat.reduceMul, Nat.reduceLeDiff, Nat.reduceLT, Nat.reduceBNe, reduceCtorEq]
    refine ⟨fun h6 => ?_, fun h6 => ?_⟩
    · refine vcall (rSize s.grain R5) ?_
      rintro R6 r hle6 rfl
      try simp only [go_sem, ↓reduceIte, Nat.reduceEqDiff, Nat.reduceAdd, Nat.reduceMul, Nat.reduceLeDiff, Nat.reduceLT, Nat.reduceBNe, reduceCtorEq]
      refine vcall (hA R6 (RO.le_trans HX (RO.le_trans hle5 hle6))) ?_
      rintro R7 r hle7 rfl
      try simp only [go_sem, ↓reduceIte, Nat.reduceEqDiff, Nat.reduceAdd, Nat.reduceMul, Nat.reduceLeDiff, Nat.reduceLT, Nat.reduceBNe, reduceCtorEq]
      rw [htail _ HX HA, h6, Bool.true_and]
    · rw [htail _ HX HA, h6, Bool.false_and]
  · have HX := RO.le_refl R
    have HA : s.group < 0 → personB (-1 - s.group) = true ∧ grpOf gs (-1 - s.group) = s.group := fun e => absurd e h5
    refine vcall (hV R HX) ?_
    rintro R5 r hle5 rfl
    try simp only [go_sem, ↓reduceIte, Nat.reduceEqDiff, Nat.reduceAdd, Nat.reduceMul, Nat.reduceLeDiff, Nat.reduceLT, Nat.reduceBNe, reduceCtorEq]
    refine ⟨fun h6 => ?_, fun h6 => ?_⟩
    · refine vcall (rSize s.grain R5) ?_
      rintro R6 r hle6 rfl
      try simp only [go_sem, ↓reduceIte, Nat.reduceEqDiff, Nat.reduceAdd, Nat.reduceMul, Nat.reduceLeDiff, Nat.reduceLT, Nat.reduceBNe, reduceCtorEq]
      refine vcall (hA R6 (RO.le_trans HX (RO.le_trans hle5 hle6))) ?_
      rintro R7 r hle7 rfl
      try simp only [go_sem, ↓reduceIte, Nat.reduceEqDiff, Nat.reduceAdd, Nat.reduceMul, Nat.reduceLeDiff, Nat.reduceLT, Nat.reduceBNe, reduceCtorEq]
      rw [htail _ HX HA, h6, Bool.true_and]
    · rw [htail _ HX HA, h6, Bool.false_and]
structure RawS (s : Se) : Prop where
  group : I64 s.group
  len : s.cells.length ≤ 1000
/-- A budget of bounded numbers. -/
structure RawB (b : Bu) : Prop where
  spent : ∀ s ∈ b.spent, RawS s
  len : b.spent.length ≤ 1000
noncomputable def okB (b : Bu) : Bool := @decide (OkB b) (Classical.propDecidable _)
theorem okB_iff {b : Bu} : okB b = true ↔ OkB b := @decide_eq_true_iff _ (Classical.propDecidable _)
theorem okB_false {b : Bu} (h : ¬ OkB b) : okB b = false := @decide_eq_false _ (Classical.propDecidable _) h
theorem keyLt_trans {a b c : Se} (h : keyLt a b) (k : keyLt b c) : keyLt a c := by unfold keyLt at *; omega
/-- One more element. -/
theorem keys_take {l : List Se} {i : Nat} (hi : i < l.length) (h : (l.take i).Pairwise keyLt) (h1 : 0 < i → keyLt (l[i - 1]'(by omega)) l[i]) : (l.take (i + 1)).Pairwise keyLt := by
  rw [List.take_succ_eq_append_getElem hi]
  refine List.pairwise_append.2 ⟨h, List.pairwise_singleton _ _, fun x hx y hy => ?_⟩
  simp only [List.mem_cons, List.not_mem_nil, or_false] at hy
  subst hy
  obtain ⟨j, hj, rfl⟩ := List.mem_take_iff_getElem.1 hx
  by_cases hji : j = i - 1
  · subst hji; exact h1 (by omega)
  · have h3 := List.pairwise_iff_getElem.1 h j (i - 1) (by simp; omega) (by simp; omega) (by omega)
    rw [List.getElem_take, List.getElem_take] at h3
    exact keyLt_trans h3 (h1 (by omega))
set_option maxHeartbeats 1000000 in
theorem rValid (b : Bu) (hr : RawB b) (v : Value) (R : RO) (h : BuV R v b) : CallsR Tryz.prog 29 [v] R fun _ r => r = .bool (okB b) := by
  obtain ⟨gv, sv, rfl, hg, hs⟩ := h
  have hG := fun R' hle => rValidGroups b.groups gv R' (GV.mono (R' := R') hg hle)
  have hS := fun (s : Se) hi u R' hle hu => rValidSpent b.groups s hi gv u R' (GV.mono (R' := R') hg hle) hu
  obtain ⟨hsl, a, cap, rfl, hc, hf⟩ := hs.form
  have hbad : ¬ OkB b → Value.bool false = Value.bool (okB b) := fun hn => by rw [okB_false hn]
  refine callsT mix Tryz.func29 comp29 (by simp [Tryz.ntmps29]) ?_; simp only [go_sem, ↓reduceIte, Nat.reduceEqDiff, Nat.reduceAdd, Nat.reduceMul, Nat.reduceLeDiff, Nat.reduceLT, Nat.reduceBNe, reduceCtorEq, vc29, rs29]
  refine vcall (hG R (RO.le_refl _)) ?_
  rintro R1 r hle1 rfl
  try simp only [go_sem, ↓reduceIte, Nat.reduceEqDiff, Nat.reduceAdd, Nat.reduceMul, Nat.reduceLeDiff, Nat.reduceLT, Nat.reduceBNe, reduceCtorEq]
  refine ⟨fun hV => ⟨fun hl1 => ⟨fun hl2 => hbad fun hO => by have := hO.lim; omega, fun hl2 => ?_⟩, fun hl1 => hbad fun hO => by have := hO.lim; omega⟩, fun hV => hbad fun hO => by rw [validG_iff.2 hO.groups] at hV; cases hV⟩
  refine vcLoop Nat (fun i => [(4, .val (.int .i64 i)), (1, .loc 0 0)]) (fun _ => [.box [.val (.int .i64 b.limit), .val gv, .val (.slice a b.spent.length cap)]]) (fun i _ => i ≤ b.spent.length ∧ (∀ s ∈ b.spent.take i, OkS b.groups s) ∧ (b.spent.take i).Pairwise keyLt) (fun i => b.spent.length - i) 0 ?_ ?_ ?_ ?_
  · (try simp only [go_sem, ↓reduceIte, Nat.reduceEqDiff, Nat.reduceAdd, Nat.reduceMul, Nat.reduceLeDiff, Nat.reduceLT, Nat.reduceBNe, reduceCtorEq]) <;> (repeat' (first | rfl | trivial | constructor | (intro h; exact absurd rfl h)))
  · try simp only [go_sem, ↓reduceIte, Nat.reduceEqDiff, Nat.reduceAdd, Nat.reduceMul, Nat.reduceLeDiff, Nat.reduceLT, Nat.reduceBNe, reduceCtorEq]
  · exact ⟨Nat.zero_le _, by simp, by simp⟩
  rintro i env R2 hle2 hE ⟨hi, hok, hord⟩
  (simp only [go_sem] at hE; obtain ⟨e4, e1⟩ := hE; simp only [go_sem, ↓reduceIte, Nat.reduceEqDiff, Nat.reduceAdd, Nat.reduceMul, Nat.reduceLeDiff, Nat.reduceLT, Nat.reduceBNe, reduceCtorEq, e4, e1]; dsimp only at *)
  refine ⟨fun hlt => ?_, fun hge => ?_⟩
  · have hlt' : i < b.spent.length := by omega
    obtain ⟨ad, u, had, hR, hu⟩ := hf i hlt'
    obtain ⟨ua, ucap, rfl, -, -⟩ := hu.form
    have hle12 := RO.le_trans hle1 hle2
    refine ⟨by omega, vat ad had ?_⟩
    try simp only [go_sem, ↓reduceIte, Nat.reduceEqDiff, Nat.reduceAdd, Nat.reduceMul, Nat.reduceLeDiff, Nat.reduceLT, Nat.reduceBNe, reduceCtorEq]
    refine vloadn (seCells (b.spent[i], _)) rfl (fun j w hj => hle12 _ _ (hR j w hj)) ?_
    simp only [go_sem, ↓reduceIte, Nat.reduceEqDiff, Nat.reduceAdd, Nat.reduceMul, Nat.reduceLeDiff, Nat.reduceLT, Nat.reduceBNe, reduceCtorEq, seCells, e4, e1]
    refine vcall (hS b.spent[i] (hr.spent _ (List.getElem_mem hlt')).group _ R2 hle12 (hu.mono hle12)) ?_
    rintro R3 r hle3 rfl
    simp only [go_sem, ↓reduceIte, Nat.reduceEqDiff, Nat.reduceAdd, Nat.reduceMul, Nat.reduceLeDiff, Nat.reduceLT, Nat.reduceBNe, reduceCtorEq, e4, e1]
    refine ⟨fun hs1 => hbad fun hO => (by rw [okS_iff.2 (hO.each _ (List.getElem_mem hlt'))] at hs1; cases hs1), fun hs1 => ?_⟩
    have hs1 := okS_iff.1 hs1
    have hstep : (0 < i → keyLt (b.spent[i - 1]'(by omega)) b.spent[i]) → (∀ s ∈ b.spent.take (i + 1), OkS b.groups s) ∧ (b.spent.take (i + 1)).Pairwise keyLt := fun hk => ⟨fun s hs => by
      rw [List.take_succ_eq_append_getElem hlt'] at hs
      rcases List.mem_append.1 hs with hs | hs
      · exact hok s hs
      · simp only [List.mem_cons, List.not_mem_nil, or_false] at hs
        subst hs; exact hs1, keys_take hlt' hord hk⟩
    refine ⟨fun hi0 => ?_, fun hi0 => ⟨_, W.in64 (by omega), i + 1, by omega, rfl, by omega, hstep fun h => by omega⟩⟩
    obtain ⟨ad2, u2, had2, hR2, hu2⟩ := hf (i - 1) (by omega)
    have hno : ¬ keyLt (b.spent[i - 1]'(by omega)) b.spent[i] → Value.bool false = Value.bool (okB b) := fun hn => hbad fun hO => hn (List.pairwise_iff_getElem.1 hO.ord (i - 1) i (by omega) hlt' (by omega))
    refine ⟨_, W.in64 (by omega), by omega, by omega, ?_⟩
    rw [show ((i : Int) - 1).toNat = i - 1 by omega]
    refine vat ad2 had2 ?_
    try simp only [go_sem, ↓reduceIte, Nat.reduceEqDiff, Nat.reduceAdd, Nat.reduceMul, Nat.reduceLeDiff, Nat.reduceLT, Nat.reduceBNe, reduceCtorEq]
    refine vload (.int .i64 (b.spent[i - 1]'(by omega)).group) (hle3 _ _ (hle12 _ _ (hR2 0 _ rfl))) ?_
    simp only [go_sem, ↓reduceIte, Nat.reduceEqDiff, Nat.reduceAdd, Nat.reduceMul, Nat.reduceLeDiff, Nat.reduceLT, Nat.reduceBNe, reduceCtorEq, e4, e1]
    refine ⟨fun hgt => ?_, fun hgt => hno fun hk => by unfold keyLt at hk; omega⟩
    refine ⟨_, W.in64 (by omega), by omega, by omega, ?_⟩
    rw [show ((i : Int) - 1).toNat = i - 1 by omega]
    refine vat ad2 had2 ?_
    try simp only [go_sem, ↓reduceIte, Nat.reduceEqDiff, Nat.reduceAdd, Nat.reduceMul, Nat.reduceLeDiff, Nat.reduceLT, Nat.reduceBNe, reduceCtorEq]
    refine vload (.int .i64 (b.spent[i - 1]'(by omega)).group) (hle3 _ _ (hle12 _ _ (hR2 0 _ rfl))) ?_
    simp only [go_sem, ↓reduceIte, Nat.reduceEqDiff, Nat.reduceAdd, Nat.reduceMul, Nat.reduceLeDiff, Nat.reduceLT, Nat.reduceBNe, reduceCtorEq, e4, e1]
    refine ⟨fun heq => ?_, fun heq => ⟨_, W.in64 (by omega), i + 1, by omega, rfl, by omega, hstep fun h => by unfold keyLt; omega⟩⟩
    refine ⟨_, W.in64 (by omega), by omega, by omega, ?_⟩
    rw [show ((i : Int) - 1).toNat = i - 1 by omega]
    refine vat ad2 had2 ?_
    try simp only [go_sem, ↓reduceIte, Nat.reduceEqDiff, Nat.reduceAdd, Nat.reduceMul, Nat.reduceLeDiff, Nat.reduceLT, Nat.reduceBNe, reduceCtorEq]
    refine vload (.int .i64 (b.spent[i - 1]'(by omega)).grain) (hle3 _ _ (hle12 _ _ (hR2 1 _ rfl))) ?_
    simp only [go_sem, ↓reduceIte, Nat.reduceEqDiff, Nat.reduceAdd, Nat.reduceMul, Nat.reduceLeDiff, Nat.reduceLT, Nat.reduceBNe, reduceCtorEq, e4, e1]
    refine ⟨fun hge => hno fun hk => by unfold keyLt at hk; omega, fun hge => ⟨_, W.in64 (by omega), i + 1, by omega, rfl, by omega, hstep fun h => by unfold keyLt; omega⟩⟩
  · obtain rfl : i = b.spent.length := by omega
    rw [List.take_length] at hok hord
    congr 1
    symm
    rw [okB_iff]
    exact ⟨by omega, validG_iff.1 hV, hok, hord⟩
def grpB (b : Bu) (p : Int) (ok : Bool) : Int := if ok = true ∧ personB p = true then grpOf b.groups p else 0
theorem rGroup (b : Bu) (hr : RawB b) (p : Int) (v : Value) (R : RO) (h : BuV R v b) : CallsR Tryz.prog 30 [v, .int .i64 p] R fun _ r => r = .int .i64 (grpB b p (okB b)) := by
  have hV := fun R' hle => rValid b hr v R' (BuV.mono (R' := R') h hle)
  obtain ⟨gv, sv, rfl, hg, hs⟩ := h
  refine callsT mix Tryz.func30 comp30 (by simp [Tryz.ntmps30]) ?_; simp only [go_sem, ↓reduceIte, Nat.reduceEqDiff, Nat.reduceAdd, Nat.reduceMul, Nat.reduceLeDiff, Nat.reduceLT, Nat.reduceBNe, reduceCtorEq, vc30, rs30]
  refine vcall (hV R (RO.le_refl _)) ?_
  rintro R1 r hle1 rfl
  try simp only [go_sem, ↓reduceIte, Nat.reduceEqDiff, Nat.reduceAdd, Nat.reduceMul, Nat.reduceLeDiff, Nat.reduceLT, Nat.reduceBNe, reduceCtorEq]
  unfold grpB
  refine ⟨fun h1 => ?_, fun h1 => by simp [h1]⟩
  refine vcall (rPerson p R1) ?_
  rintro R2 r hle2 rfl
  try simp only [go_sem, ↓reduceIte, Nat.reduceEqDiff, Nat.reduceAdd, Nat.reduceMul, Nat.reduceLeDiff, Nat.reduceLT, Nat.reduceBNe, reduceCtorEq]
  refine ⟨fun h2 => by simp [h2], fun h2 => ?_⟩
  rw [if_pos ⟨h1, h2⟩]
  have hpp : -1000000 ≤ p ∧ p ≤ 1000000 := by
    unfold personB at h2
    simp only [Bool.and_eq_true, decide_eq_true_eq] at h2
    omega
  refine vcall (rGroupOf b.groups p hpp gv R2 (hg.mono (RO.le_trans hle1 hle2))) ?_
  rintro R3 r hle3 rfl
  try simp only [go_sem, ↓reduceIte, Nat.reduceEqDiff, Nat.reduceAdd, Nat.reduceMul, Nat.reduceLeDiff, Nat.reduceLT, Nat.reduceBNe, reduceCtorEq]
end Go.Proofs.YtclkibjonbhldaaGreatDoor
/- Plain lemmas of our own, no statement of the seat: budget.validGroups. -/
namespace Go.Proofs.YtclkibjonbhldaaGreatDoor
set_option linter.unusedSimpArgs false
set_option linter.unusedVariables false
open Go.Proofs.YtclkibjonbhldaaGreatDoor.Vc
/-- The people of the first i groups, and the first k of the next. -/
def SeenP (gs : List (List Int)) (i : Nat) (g : List Int) (p : Int) : Prop := (∃ (j : Nat) (hj : j < gs.length), j < i ∧ p ∈ gs[j]) ∨ p ∈ g
structure FineG (gs : List (List Int)) (i : Nat) : Prop where
  ne : ∀ j (hj : j < gs.length), j < i → gs[j] ≠ []
  inc : ∀ j (hj : j < gs.length), j < i → Inc gs[j]
  per : ∀ j (hj : j < gs.length), j < i → ∀ p ∈ gs[j], personB p = true
  apart : ∀ j (hj : j < gs.length), j < i → ∀ p ∈ gs[j], ∀ j' (hj' : j' < gs.length), j' < j → p ∉ gs[j']
theorem FineG.step {gs : List (List Int)} {i : Nat} (h : FineG gs i) (hi : i < gs.length) (h1 : gs[i] ≠ []) (h2 : Inc gs[i]) (h3 : ∀ p ∈ gs[i], personB p = true ∧ ¬ SeenP gs i [] p) : FineG gs (i + 1) := by
  refine ⟨fun j hj hji => ?_, fun j hj hji => ?_, fun j hj hji p hp => ?_, fun j hj hji p hp j' hj' hjj => ?_⟩
  · by_cases e : j = i
    · subst e; exact h1
    · exact h.ne j hj (by omega)
  · by_cases e : j = i
    · subst e; exact h2
    · exact h.inc j hj (by omega)
  · by_cases e : j = i
    · subst e; exact (h3 p hp).1
    · exact h.per j hj (by omega) p hp
  · by_cases e : j = i
    · subst e; exact fun hm => (h3 p hp).2 (.inl ⟨j', hj', hjj, hm⟩)
    · exact h.apart j hj (by omega) p hp j' hj' hjj
theorem FineG.grp {gs : List (List Int)} {i : Nat} (h : FineG gs i) {j : Nat} (hj : j < gs.length) (hji : j < i) {p : Int} (hp : p ∈ gs[j]) : grpOf gs p = j := by
  refine grpOf_here hj (List.contains_iff_mem.2 hp) fun j' hj' hjj => ?_
  rw [← Bool.not_eq_true, List.contains_iff_mem]
  exact h.apart j hj hji p hp j' hj' hjj
theorem FineG.valid {gs : List (List Int)} (h : FineG gs gs.length) (hl : gs.length ≤ 512) : ValidG gs :=
  ⟨fun i hi => ⟨h.ne i hi hi, h.inc i hi hi, fun p hp => ⟨h.per i hi hi p hp, h.grp hi hi hp⟩⟩, hl⟩
theorem ValidG.seen {gs : List (List Int)} (h : ValidG gs) {i : Nat} (hi : i < gs.length) {p : Int} (hp : p ∈ gs[i]) {j : Nat} (hj : j < gs.length) (hji : j < i) : p ∉ gs[j] := fun hm => by
  have h1 := ((h.all i hi).mem p hp).2
  have h2 := ((h.all j hj).mem p hm).2
  omega
def seenMap (f : Int → Option Value) (S : Int → Prop) : Prop := ∀ p, (f p = some (.bool true) ∧ S p) ∨ (f p = none ∧ ¬ S p)
theorem seenMap.put {f : Int → Option Value} {S : Int → Prop} (h : seenMap f S) (q : Int) : seenMap (fun k' => if k' = q then some (.bool true) else f k') (fun p => p = q ∨ S p) := fun p => by
  by_cases e : p = q
  · subst e; exact .inl ⟨if_pos rfl, .inl rfl⟩
  · rcases h p with ⟨h1, h2⟩ | ⟨h1, h2⟩
    · exact .inl ⟨by simp only [if_neg e]; exact h1, .inr h2⟩
    · exact .inr ⟨by simp only [if_neg e]; exact h1, fun hh => hh.elim e h2⟩
theorem seenMap.congr {f : Int → Option Value} {S S' : Int → Prop} (h : seenMap f S) (hS : ∀ p, S p ↔ S' p) : seenMap f S' := fun p => (h p).imp (fun ⟨a, b⟩ => ⟨a, (hS p).1 b⟩) (fun ⟨a, b⟩ => ⟨a, fun hh => b ((hS p).2 hh)⟩)
set_option maxHeartbeats 1000000 in
theorem bValidGroups (gs : List (List Int)) (v : Value) (R : RO) (h : GV R v gs) : CallsR Tryz.prog 53 [v] R fun _ r => r = .bool (validG gs) := by
  obtain ⟨hxl, a, cap, rfl, hc, hg⟩ := h.form
  refine callsT mix Tryz.func53 comp53 (by simp [Tryz.ntmps53]) ?_; simp only [go_sem, ↓reduceIte, Nat.reduceEqDiff, Nat.reduceAdd, Nat.reduceMul, Nat.reduceLeDiff, Nat.reduceLT, Nat.reduceBNe, reduceCtorEq, vc53, rs53]
  have hbad : ¬ ValidG gs → Value.bool false = Value.bool (validG gs) := fun hn => by rw [validG_false hn]
  refine vcLoop (Nat × List MapEntry × Nat) (fun x => [(11, .val (.int .i64 x.1)), (10, .val (.int .i64 gs.length)), (9, .val (.slice a gs.length cap)), (0, .val (.slice a gs.length cap)), (3, .mp 0)]) (fun x => [.mp x.2.1 x.2.2]) (fun x _ => x.1 ≤ gs.length ∧ FineG gs x.1 ∧ ∃ f, MapOf (Value.int .i64) x.2.1 f ∧ seenMap f (SeenP gs x.1 [])) (fun x => gs.length - x.1) (0, [], 0) ?_ ?_ ?_ ?_
  · (try simp only [go_sem, ↓reduceIte, Nat.reduceEqDiff, Nat.reduceAdd, Nat.reduceMul, Nat.reduceLeDiff, Nat.reduceLT, Nat.reduceBNe, reduceCtorEq]) <;> (repeat' (first | rfl | trivial | constructor | (intro h; exact absurd rfl h)))
  · try simp only [go_sem, ↓reduceIte, Nat.reduceEqDiff, Nat.reduceAdd, Nat.reduceMul, Nat.reduceLeDiff, Nat.reduceLT, Nat.reduceBNe, reduceCtorEq]
  · refine ⟨Nat.zero_le _, ⟨fun j _ hj => absurd hj (by omega), fun j _ hj => absurd hj (by omega), fun j _ hj => absurd hj (by omega), fun j _ hj => absurd hj (by omega)⟩, _, MapOf.nil _, fun p => .inr ⟨rfl, ?_⟩⟩
    rintro (⟨j, _, hj, _⟩ | hm)
    · omega
    · simp at hm
  rintro ⟨i, es, clock⟩ env R1 hle1 hE ⟨hi, hF, f, hmap, hseen⟩
  (simp only [go_sem] at hE; obtain ⟨e11, e10, e9, e0, e3⟩ := hE; simp only [go_sem, ↓reduceIte, Nat.reduceEqDiff, Nat.reduceAdd, Nat.reduceMul, Nat.reduceLeDiff, Nat.reduceLT, Nat.reduceBNe, reduceCtorEq, e11, e10, e9, e0, e3]; dsimp only at *)
  refine ⟨fun hlt => ?_, fun hge => ?_⟩
  · have hlt' : i < gs.length := by omega
    obtain ⟨ad, u, had, hR, hu⟩ := hg i hlt'
    obtain ⟨hgl, b, bcap, rfl, hbc, hgb⟩ := hu.form
    refine ⟨by omega, vat ad had ?_⟩
    try simp only [go_sem, ↓reduceIte, Nat.reduceEqDiff, Nat.reduceAdd, Nat.reduceMul, Nat.reduceLeDiff, Nat.reduceLT, Nat.reduceBNe, reduceCtorEq]
    refine vload _ (hle1 _ _ hR) ?_
    simp only [go_sem, ↓reduceIte, Nat.reduceEqDiff, Nat.reduceAdd, Nat.reduceMul, Nat.reduceLeDiff, Nat.reduceLT, Nat.reduceBNe, reduceCtorEq, e11, e10, e9, e0, e3]
    have hbi : ¬ OkG gs i gs[i] → Value.bool false = Value.bool (validG gs) := fun hn => hbad fun hV => hn (hV.all i hlt')
    refine vcLoop (Nat × List MapEntry × Nat) (fun x => [(17, .val (.int .i64 x.1)), (16, .val (.int .i64 gs[i].length)), (15, .val (.slice b gs[i].length bcap)), (5, .val (.slice b gs[i].length bcap)), (11, .val (.int .i64 i)), (10, .val (.int .i64 gs.length)), (9, .val (.slice a gs.length cap)), (0, .val (.slice a gs.length cap)), (3, .mp 0)]) (fun x => [.mp x.2.1 x.2.2])
      (fun x _ => x.1 ≤ gs[i].length ∧ Inc (gs[i].take x.1) ∧ (∀ p ∈ gs[i].take x.1, personB p = true ∧ ¬ SeenP gs i [] p) ∧ ∃ f, MapOf (Value.int .i64) x.2.1 f ∧ seenMap f (SeenP gs i (gs[i].take x.1))) (fun x => gs[i].length - x.1) (0, es, clock) ?_ ?_ ?_ ?_
    · (try simp only [go_sem, ↓reduceIte, Nat.reduceEqDiff, Nat.reduceAdd, Nat.reduceMul, Nat.reduceLeDiff, Nat.reduceLT, Nat.reduceBNe, reduceCtorEq]) <;> (repeat' (first | rfl | trivial | constructor | (intro h; exact absurd rfl h)))
    · try simp only [go_sem, ↓reduceIte, Nat.reduceEqDiff, Nat.reduceAdd, Nat.reduceMul, Nat.reduceLeDiff, Nat.reduceLT, Nat.reduceBNe, reduceCtorEq]
    · exact ⟨Nat.zero_le _, by simp [Inc], by simp, f, hmap, by simpa using hseen⟩
    rintro ⟨k, es2, clock2⟩ env R2 hle2 hE ⟨hk, hinc, hmem, f2, hmap2, hseen2⟩
    (simp only [go_sem] at hE; obtain ⟨e17, e16, e15, e5, e11', e10', e9', e0', e3'⟩ := hE; simp only [go_sem, ↓reduceIte, Nat.reduceEqDiff, Nat.reduceAdd, Nat.reduceMul, Nat.reduceLeDiff, Nat.reduceLT, Nat.reduceBNe, reduceCtorEq, e17, e16, e15, e5, e11', e10', e9', e0', e3']; dsimp only at *)
    refine ⟨fun hlt2 => ?_, fun hge2 => ?_⟩
    · have hlt3 : k < gs[i].length := by omega
      obtain ⟨ad2, had2, hR2⟩ := hgb k hlt3
      have hle2' := RO.le_trans hle1 hle2
      have hin : gs[i][k] ∈ gs[i] := List.getElem_mem hlt3
      refine ⟨by omega, vat ad2 had2 ?_⟩
      try simp only [go_sem, ↓reduceIte, Nat.reduceEqDiff, Nat.reduceAdd, Nat.reduceMul, Nat.reduceLeDiff, Nat.reduceLT, Nat.reduceBNe, reduceCtorEq]
      refine vload _ (hle2' _ _ hR2) ?_
      simp only [go_sem, ↓reduceIte, Nat.reduceEqDiff, Nat.reduceAdd, Nat.reduceMul, Nat.reduceLeDiff, Nat.reduceLT, Nat.reduceBNe, reduceCtorEq, e17, e16, e15, e5, e11', e10', e9', e0', e3']
      refine vcall (bPerson gs[i][k] R2) ?_
      rintro R3 r hle3 rfl
      simp only [go_sem, ↓reduceIte, Nat.reduceEqDiff, Nat.reduceAdd, Nat.reduceMul, Nat.reduceLeDiff, Nat.reduceLT, Nat.reduceBNe, reduceCtorEq, e17, e16, e15, e5, e11', e10', e9', e0', e3']
      obtain ⟨r, g1, g2⟩ := MapOf.get none (Value.int .i64) mEq_int hmap2 gs[i][k]
      refine ⟨fun hp => vmget es2 clock2 r (by rw [mEq_int]; simp) rfl g1 ?_, fun hp => hbi fun hO => by have := (hO.mem _ hin).1; rw [hp] at this; cases this⟩
      obtain ⟨sb, hres, hsb⟩ : ∃ sb : Bool, mres (.bool false) false r = .bool sb ∧ (sb = true ↔ SeenP gs i (gs[i].take k) gs[i][k]) := by
        rcases hseen2 gs[i][k] with ⟨h1, h2⟩ | ⟨h1, h2⟩
        · rw [h1] at g2
          cases r with
          | none => simp at g2
          | some r => simp only [Option.map_some, Option.some.injEq] at g2; exact ⟨true, by simp [mres, g2], by simp [h2]⟩
        · rw [h1] at g2
          cases r with
          | none => exact ⟨false, by simp [mres], by simp [h2]⟩
          | some r => simp at g2
      rw [hres]
      simp only [go_sem, ↓reduceIte, Nat.reduceEqDiff, Nat.reduceAdd, Nat.reduceMul, Nat.reduceLeDiff, Nat.reduceLT, Nat.reduceBNe, reduceCtorEq, e17, e16, e15, e5, e11', e10', e9', e0', e3']
      have hseenV : ValidG gs → SeenP gs i (gs[i].take k) gs[i][k] → False := fun hV hS => by
        rcases hS with ⟨j, hj, hji, hm⟩ | hm
        · exact hV.seen hlt' hin hj hji hm
        · obtain ⟨q, hq, e⟩ := List.mem_take_iff_getElem.1 hm
          have := (hV.all i hlt').inc.get_lt (show q < k by omega) hlt3
          omega
      have hfin : (∀ x ∈ gs[i].take k, x < gs[i][k]) → sb = false → (Inc (gs[i].take (k + 1)) ∧ (∀ p ∈ gs[i].take (k + 1), personB p = true ∧ ¬ SeenP gs i [] p)) ∧ ∃ r es' clock', mfind none (Value.int .i64 gs[i][k]) es2 0 = some r ∧ mset (Value.int .i64 gs[i][k]) (.bool true) es2 clock2 r = .mp es' clock' ∧ ∃ f, MapOf (Value.int .i64) es' f ∧ seenMap f (SeenP gs i (gs[i].take (k + 1))) := fun h2 hs => by
        have hns : ¬ SeenP gs i (gs[i].take k) gs[i][k] := fun h => by rw [← hsb, hs] at h; cases h
        obtain ⟨r', es', clock', q1, q2, q3⟩ := MapOf.put none (Value.int .i64) mEq_int hmap2 gs[i][k] (.bool true) clock2
        rw [List.take_succ_eq_append_getElem hlt3]
        refine ⟨⟨List.pairwise_append.2 ⟨hinc, List.pairwise_singleton _ _, fun x hx y hy => ?_⟩, fun p hp' => ?_⟩, r', es', clock', q1, q2, _, q3, (hseen2.put gs[i][k]).congr fun p => ?_⟩
        · simp only [List.mem_cons, List.not_mem_nil, or_false] at hy
          subst hy; exact h2 x hx
        · rcases List.mem_append.1 hp' with hp' | hp'
          · exact hmem p hp'
          · simp only [List.mem_cons, List.not_mem_nil, or_false] at hp'
            subst hp'; exact ⟨hp, fun hS => hns (hS.imp id fun h => by simp at h)⟩
        · unfold SeenP
          rw [List.mem_append, List.mem_singleton]
          exact ⟨fun h => h.elim (fun e => .inr (.inr e)) fun h => h.imp id .inl, fun h => h.elim (fun h => .inr (.inl h)) fun h => h.elim (fun h => .inr (.inr h)) .inl⟩
      refine ⟨fun hs0 => ⟨fun hk0 => ?_, fun hk0 => ?_⟩, fun hs1 => hbad fun hV => hseenV hV (hsb.1 hs1)⟩
      · obtain ⟨ad3, had3, hR3⟩ := hgb (k - 1) (by omega)
        refine ⟨_, W.in64 (by omega), by omega, by omega, ?_⟩
        rw [show ((k : Int) - 1).toNat = k - 1 by omega]
        refine vat ad3 had3 ?_
        try simp only [go_sem, ↓reduceIte, Nat.reduceEqDiff, Nat.reduceAdd, Nat.reduceMul, Nat.reduceLeDiff, Nat.reduceLT, Nat.reduceBNe, reduceCtorEq]
        refine vload _ (hle3 _ _ (hle2' _ _ hR3)) ?_
        simp only [go_sem, ↓reduceIte, Nat.reduceEqDiff, Nat.reduceAdd, Nat.reduceMul, Nat.reduceLeDiff, Nat.reduceLT, Nat.reduceBNe, reduceCtorEq, e17, e16, e15, e5, e11', e10', e9', e0', e3']
        refine ⟨fun hge4 => hbi fun hO => ?_, fun hlt4 => ?_⟩
        · have := hO.inc.get_lt (show k - 1 < k by omega) hlt3
          omega
        · obtain ⟨⟨f1, f2⟩, r', es', clock', q1, q2, q3⟩ := hfin (fun x hx => by
            obtain ⟨j, hj, rfl⟩ := List.mem_take_iff_getElem.1 hx
            by_cases hjk : j = k - 1
            · subst hjk; omega
            · have h7 := List.pairwise_iff_getElem.1 hinc j (k - 1) (by rw [List.length_take]; omega) (by rw [List.length_take]; omega) (by omega)
              rw [List.getElem_take, List.getElem_take] at h7
              omega) hs0
          refine ⟨by rw [mEq_int]; simp, vmput es2 clock2 r' rfl q1 ?_⟩
          rw [q2]
          simp only [go_sem, ↓reduceIte, Nat.reduceEqDiff, Nat.reduceAdd, Nat.reduceMul, Nat.reduceLeDiff, Nat.reduceLT, Nat.reduceBNe, reduceCtorEq, e17, e16, e15, e5, e11', e10', e9', e0', e3']
          exact ⟨_, W.in64 (by omega), (k + 1, es', clock'), by show _ - (k + 1) < _ - k; omega, ⟨rfl, rfl⟩, by show k + 1 ≤ _; omega, f1, f2, q3⟩
      · obtain ⟨⟨f1, f2⟩, r', es', clock', q1, q2, q3⟩ := hfin (fun x hx => by
          rw [show k = 0 by omega] at hx
          simp at hx) hs0
        refine ⟨by rw [mEq_int]; simp, vmput es2 clock2 r' rfl q1 ?_⟩
        rw [q2]
        simp only [go_sem, ↓reduceIte, Nat.reduceEqDiff, Nat.reduceAdd, Nat.reduceMul, Nat.reduceLeDiff, Nat.reduceLT, Nat.reduceBNe, reduceCtorEq, e17, e16, e15, e5, e11', e10', e9', e0', e3']
        exact ⟨_, W.in64 (by omega), (k + 1, es', clock'), by show _ - (k + 1) < _ - k; omega, ⟨rfl, rfl⟩, by show k + 1 ≤ _; omega, f1, f2, q3⟩
    · obtain rfl : k = gs[i].length := by omega
      rw [List.take_length] at hinc hmem hseen2
      refine ⟨fun h0 => hbi fun hO => hO.ne (List.eq_nil_of_length_eq_zero (by omega)), fun h0 => ⟨_, W.in64 (by omega), (i + 1, es2, clock2), by show _ - (i + 1) < _ - i; omega, ⟨rfl, rfl⟩, by show i + 1 ≤ _; omega, hF.step hlt' (fun e => h0 (by rw [e]; rfl)) hinc hmem, f2, hmap2, hseen2.congr fun p => ?_⟩⟩
      unfold SeenP
      constructor
      · rintro (⟨j, hj, hji, hm⟩ | hm)
        · exact .inl ⟨j, hj, by omega, hm⟩
        · exact .inl ⟨i, hlt', by omega, hm⟩
      · rintro (⟨j, hj, hji, hm⟩ | hm)
        · by_cases e : j = i
          · subst e; exact .inr hm
          · exact .inl ⟨j, hj, by omega, hm⟩
        · simp at hm
  · obtain rfl : i = gs.length := by omega
    congr 1
    rw [Bool.eq_iff_iff, decide_eq_true_eq, validG_iff]
    exact ⟨fun h => hF.valid (by omega), fun h => by have := h.len; omega⟩
end Go.Proofs.YtclkibjonbhldaaGreatDoor
/- Plain lemmas of our own, no statement of the seat: budget.Valid, budget.Group. -/
namespace Go.Proofs.YtclkibjonbhldaaGreatDoor
set_option linter.unusedSimpArgs false
set_option linter.unusedVariables false
open Go.Proofs.YtclkibjonbhldaaGreatDoor.Vc
def orI : List Int → Int
  | [] => 0
  | x :: r => if x = 0 then orI r else x
theorem eOr (xs : List Int) (v : Value) (R : RO) (h : Ints R v xs) (hl : xs.length ≤ 1099511627776) : CallsR Tryz.prog 88 [v] R fun _ r => r = .int .i64 (orI xs) := by
  obtain ⟨a, cap, rfl, hc, hf⟩ := h.form
  refine callsT mix Tryz.func88 comp88 (by simp [Tryz.ntmps88]) ?_; simp only [go_sem, ↓reduceIte, Nat.reduceEqDiff, Nat.reduceAdd, Nat.reduceMul, Nat.reduceLeDiff, Nat.reduceLT, Nat.reduceBNe, reduceCtorEq, vc88, rs88]
  refine vcLoop Nat (fun i => [(8, .val (.int .i64 i)), (6, .val (.slice a xs.length cap)), (7, .val (.int .i64 xs.length)), (3, .val (.int .i64 0))]) (fun _ => []) (fun i _ => i ≤ xs.length ∧ orI xs = orI (xs.drop i)) (fun i => xs.length - i) 0 ?_ rfl ?_ ?_
  · (try simp only [go_sem, ↓reduceIte, Nat.reduceEqDiff, Nat.reduceAdd, Nat.reduceMul, Nat.reduceLeDiff, Nat.reduceLT, Nat.reduceBNe, reduceCtorEq]) <;> (repeat' (first | rfl | trivial | constructor | (intro h; exact absurd rfl h)))
  · exact ⟨Nat.zero_le _, by simp⟩
  rintro i env R1 hle hE ⟨hi, hp⟩
  (simp only [go_sem] at hE; obtain ⟨e8, e6, e7, e3⟩ := hE; simp only [go_sem, ↓reduceIte, Nat.reduceEqDiff, Nat.reduceAdd, Nat.reduceMul, Nat.reduceLeDiff, Nat.reduceLT, Nat.reduceBNe, reduceCtorEq, e8, e6, e7, e3]; dsimp only at *)
  refine ⟨fun hlt => ⟨hlt, ?_⟩, fun hge => ?_⟩
  · have hlt' : i < xs.length := by omega
    obtain ⟨ad, had, hR⟩ := hf i hlt'
    refine vat ad had ?_
    try simp only [go_sem, ↓reduceIte, Nat.reduceEqDiff, Nat.reduceAdd, Nat.reduceMul, Nat.reduceLeDiff, Nat.reduceLT, Nat.reduceBNe, reduceCtorEq]
    refine vload _ (hle _ _ hR) ?_
    simp only [go_sem, ↓reduceIte, Nat.reduceEqDiff, Nat.reduceAdd, Nat.reduceMul, Nat.reduceLeDiff, Nat.reduceLT, Nat.reduceBNe, reduceCtorEq, e8, e6, e7, e3]
    rw [List.drop_eq_getElem_cons hlt'] at hp
    refine ⟨fun hne => ?_, fun heq => ?_⟩
    · rw [hp, orI, if_neg hne]
    · refine ⟨_, W.in64 (by omega), i + 1, by omega, by constructor, by omega, ?_⟩
      rw [hp, orI, if_pos heq]
  · obtain rfl : i = xs.length := by omega
    rw [hp, List.drop_length]; rfl
abbrev accV (g k : Int) : Value := .agg #[.int .i64 g, .int .i64 k]
def cmpK (g k g' k' : Int) : Int := if cmpI g g' = 0 then cmpI k k' else cmpI g g'
theorem bCompareA (g k g' k' : Int) (R : RO) : CallsR Tryz.prog 59 [accV g k, accV g' k'] R fun _ v => v = .int .i64 (cmpK g k g' k') := by
  refine callsT mix Tryz.func59 comp59 (by simp [Tryz.ntmps59]) ?_; simp only [go_sem, ↓reduceIte, Nat.reduceEqDiff, Nat.reduceAdd, Nat.reduceMul, Nat.reduceLeDiff, Nat.reduceLT, Nat.reduceBNe, reduceCtorEq, vc59, rs59]
  refine vcall (bCompare g g' R) ?_
  rintro R1 v h1 rfl
  try simp only [go_sem, ↓reduceIte, Nat.reduceEqDiff, Nat.reduceAdd, Nat.reduceMul, Nat.reduceLeDiff, Nat.reduceLT, Nat.reduceBNe, reduceCtorEq]
  refine vcall (bCompare k k' R1) ?_
  rintro R2 v h2 rfl
  try simp only [go_sem, ↓reduceIte, Nat.reduceEqDiff, Nat.reduceAdd, Nat.reduceMul, Nat.reduceLeDiff, Nat.reduceLT, Nat.reduceBNe, reduceCtorEq]
  refine vfreeze ?_
  try simp only [go_sem, ↓reduceIte, Nat.reduceEqDiff, Nat.reduceAdd, Nat.reduceMul, Nat.reduceLeDiff, Nat.reduceLT, Nat.reduceBNe, reduceCtorEq]
  intro bb cap R3 hle hrow hcap hfr
  have hI : Ints R3 (.slice (some ⟨bb, 0, none⟩) 2 cap) [cmpI g g', cmpI k k'] := RowIn.ints (xs := [cmpI g g', cmpI k k']) hrow (by simpa using hcap)
  refine vcall (eOr _ _ R3 hI (by simp)) ?_
  rintro R4 v h4 rfl
  try simp only [go_sem, ↓reduceIte, Nat.reduceEqDiff, Nat.reduceAdd, Nat.reduceMul, Nat.reduceLeDiff, Nat.reduceLT, Nat.reduceBNe, reduceCtorEq]
  unfold cmpK
  simp only [orI]
  by_cases h1 : cmpI g g' = 0
  · by_cases h2 : cmpI k k' = 0 <;> simp [h1, h2]
  · simp [h1]
theorem cmpK_neg (g k g' k' : Int) : cmpK g k g' k' < 0 ↔ g < g' ∨ (g = g' ∧ k < k') := by
  unfold cmpK cmpI
  split <;> split <;> (repeat' split) <;> omega
/-! ### The sizes of the cells: a variable of the package -/
def SzR (R : RO) : Prop := ∀ i, i < 5 → R ⟨0, i, none⟩ (.int .i64 ([0, 1440, 30, 30, 1].getD i 0))
theorem SzR.mono {R R' : RO} (h : SzR R) (hle : RO.le R R') : SzR R' := fun i hi => hle _ _ (h i hi)
theorem SzR.get {R : RO} (h : SzR R) {g : Int} (hg : 1 ≤ g ∧ g ≤ 4) : R ⟨0, g.toNat, none⟩ (.int .i64 (sizeI g)) := by
  have h1 := h g.toNat (by omega)
  have h2 : g = 1 ∨ g = 2 ∨ g = 3 ∨ g = 4 := by omega
  rcases h2 with rfl | rfl | rfl | rfl <;> exact h1
theorem bValid1 (s : Sp) (x : Se) (u : Value) (ad : Addr) (R : RO) (hz : SzR R) (hg : 1 ≤ x.grain ∧ x.grain ≤ 4) (hx : R (ad.add 1) (.int .i64 x.grain)) : CallsR Tryz.prog 57 [.agg s.cells.toArray, .pointer (some ad)] R fun _ r => r = .bool (!alignedB s (sizeI x.grain)) := by
  have hA := bAligned s (sizeI x.grain) (sizeI_pos _) R
  simp only [Sp.cells] at hA ⊢
  refine callsT mix Tryz.func57 comp57 (by simp [Tryz.ntmps57]) ?_; simp only [go_sem, ↓reduceIte, Nat.reduceEqDiff, Nat.reduceAdd, Nat.reduceMul, Nat.reduceLeDiff, Nat.reduceLT, Nat.reduceBNe, reduceCtorEq, vc57, rs57]
  refine vload _ hx ?_
  try simp only [go_sem, ↓reduceIte, Nat.reduceEqDiff, Nat.reduceAdd, Nat.reduceMul, Nat.reduceLeDiff, Nat.reduceLT, Nat.reduceBNe, reduceCtorEq]
  refine ⟨by omega, by omega, vload _ (hz.get hg) ?_⟩
  try simp only [go_sem, ↓reduceIte, Nat.reduceEqDiff, Nat.reduceAdd, Nat.reduceMul, Nat.reduceLeDiff, Nat.reduceLT, Nat.reduceBNe, reduceCtorEq]
  refine vcall hA ?_
  rintro R1 r hle1 rfl
  try simp only [go_sem, ↓reduceIte, Nat.reduceEqDiff, Nat.reduceAdd, Nat.reduceMul, Nat.reduceLeDiff, Nat.reduceLT, Nat.reduceBNe, reduceCtorEq]
theorem bContainsS (f : FuncId) (caps : List Value) (hb : hasBody Tryz.prog f = true) (p : Sp → Bool) (l : List Sp) (v : Value) (R : RO) (h : SpV R v l)
    (hf : ∀ (s : Sp) (R' : RO), RO.le R R' → CallsR Tryz.prog f ([.agg s.cells.toArray] ++ caps) R' fun _ u => u = .bool (p s)) : CallsR Tryz.prog 56 [v, .func (.func f) #[] caps.toArray] R fun _ r => r = .bool (l.any p) := by
  have hI := bIndexFunc f caps hb p l v R h hf
  refine callsT mix Tryz.func56 comp56 (by simp [Tryz.ntmps56]) ?_; simp only [go_sem, ↓reduceIte, Nat.reduceEqDiff, Nat.reduceAdd, Nat.reduceMul, Nat.reduceLeDiff, Nat.reduceLT, Nat.reduceBNe, reduceCtorEq, vc56, rs56]
  refine vcall hI ?_
  rintro R1 u h1 ⟨k, rfl, hk⟩
  try simp only [go_sem, ↓reduceIte, Nat.reduceEqDiff, Nat.reduceAdd, Nat.reduceMul, Nat.reduceLeDiff, Nat.reduceLT, Nat.reduceBNe, reduceCtorEq]
  refine congrArg Value.bool ?_
  rw [Bool.eq_iff_iff, decide_eq_true_eq]
  exact hk
theorem grpOf_neg {gs : List (List Int)} {p : Int} : 0 ≤ grpOf gs p ∨ grpOf gs p = -1 - p := by
  unfold grpOf
  split
  · exact .inl (by omega)
  · exact .inr rfl
set_option maxHeartbeats 2000000 in
set_option maxRecDepth 4000 in
theorem bValid (b : Bu) (hr : RawB b) (v : Value) (R : RO) (hz : SzR R) (h : BuV R v b) : CallsR Tryz.prog 21 [v] R fun _ r => r = .bool (okB b) := by
  obtain ⟨gv, sv, rfl, hg, hs⟩ := h
  have hG := fun R' hle => bValidGroups b.groups gv R' (GV.mono (R' := R') hg hle)
  have hO := fun (p : Int) hp R' hle => bGroupOf b.groups p hp gv R' (GV.mono (R' := R') hg hle)
  obtain ⟨hgl, ga, gcap, rfl, hgc, -⟩ := hg.form
  obtain ⟨hsl, a, cap, rfl, hc, hf⟩ := hs.form
  have hbad : ¬ OkB b → Value.bool false = Value.bool (okB b) := fun hn => by rw [okB_false hn]
  refine callsT mix Tryz.func21 comp21 (by simp [Tryz.ntmps21]) ?_; simp only [go_sem, ↓reduceIte, Nat.reduceEqDiff, Nat.reduceAdd, Nat.reduceMul, Nat.reduceLeDiff, Nat.reduceLT, Nat.reduceBNe, reduceCtorEq, vc21, rs21]
  refine ⟨fun hl1 => ⟨fun hl2 => ?_, fun hl2 => hbad fun hO => by have := hO.lim; omega⟩, fun hl1 => hbad fun hO => by have := hO.lim; omega⟩
  refine vcall (hG R (RO.le_refl _)) ?_
  rintro R1 r hle1 rfl
  try simp only [go_sem, ↓reduceIte, Nat.reduceEqDiff, Nat.reduceAdd, Nat.reduceMul, Nat.reduceLeDiff, Nat.reduceLT, Nat.reduceBNe, reduceCtorEq]
  refine ⟨fun hV => hbad fun hO => (by rw [validG_iff.2 hO.groups] at hV; cases hV), fun hV => ?_⟩
  refine vcLoop Nat (fun i => [(22, .val (.int .i64 i)), (21, .val (.int .i64 b.spent.length)), (20, .val (.slice a b.spent.length cap)), (1, .loc 0 0)]) (fun _ => [.box [.val (.int .i64 b.limit), .val (.slice ga b.groups.length gcap), .val (.slice a b.spent.length cap)]]) (fun i _ => i ≤ b.spent.length ∧ (∀ s ∈ b.spent.take i, OkS b.groups s) ∧ (b.spent.take i).Pairwise keyLt) (fun i => b.spent.length - i) 0 ?_ ?_ ?_ ?_
  · (try simp only [go_sem, ↓reduceIte, Nat.reduceEqDiff, Nat.reduceAdd, Nat.reduceMul, Nat.reduceLeDiff, Nat.reduceLT, Nat.reduceBNe, reduceCtorEq]) <;> (repeat' (first | rfl | trivial | constructor | (intro h; exact absurd rfl h)))
  · try simp only [go_sem, ↓reduceIte, Nat.reduceEqDiff, Nat.reduceAdd, Nat.reduceMul, Nat.reduceLeDiff, Nat.reduceLT, Nat.reduceBNe, reduceCtorEq]
  · exact ⟨Nat.zero_le _, by simp, by simp⟩
  rintro i env R2 hle2 hE ⟨hi, hok, hord⟩
  (simp only [go_sem] at hE; obtain ⟨e22, e21, e20, e1⟩ := hE; simp only [go_sem, ↓reduceIte, Nat.reduceEqDiff, Nat.reduceAdd, Nat.reduceMul, Nat.reduceLeDiff, Nat.reduceLT, Nat.reduceBNe, reduceCtorEq, e22, e21, e20, e1]; dsimp only at *)
  refine ⟨fun hlt => ?_, fun hge => ?_⟩
  · have hlt' : i < b.spent.length := by omega
    obtain ⟨ad, u, had, hR, hu⟩ := hf i hlt'
    obtain ⟨ua, ucap, rfl, -, -⟩ := hu.form
    have hle12 := RO.le_trans hle1 hle2
    have hmem : b.spent[i] ∈ b.spent := List.getElem_mem hlt'
    have hi64 := (hr.spent _ hmem).group
    unfold I64 at hi64
    have hbi : ¬ OkS b.groups b.spent[i] → Value.bool false = Value.bool (okB b) := fun hn => hbad fun hO => hn (hO.each _ hmem)
    refine ⟨by omega, vat ad had ?_⟩
    try simp only [go_sem, ↓reduceIte, Nat.reduceEqDiff, Nat.reduceAdd, Nat.reduceMul, Nat.reduceLeDiff, Nat.reduceLT, Nat.reduceBNe, reduceCtorEq]
    refine vloadn (seCells (b.spent[i], _)) rfl (fun j w hj => hle12 _ _ (hR j w hj)) ?_
    simp only [go_sem, ↓reduceIte, Nat.reduceEqDiff, Nat.reduceAdd, Nat.reduceMul, Nat.reduceLeDiff, Nat.reduceLT, Nat.reduceBNe, reduceCtorEq, seCells, e22, e21, e20, e1]
    refine vcall (bGrain b.spent[i].grain R2) ?_
    rintro R3 r hle3 rfl
    simp only [go_sem, ↓reduceIte, Nat.reduceEqDiff, Nat.reduceAdd, Nat.reduceMul, Nat.reduceLeDiff, Nat.reduceLT, Nat.reduceBNe, reduceCtorEq, e22, e21, e20, e1]
    have hbGr : ¬ (1 ≤ b.spent[i].grain ∧ b.spent[i].grain ≤ 4) → Value.bool false = Value.bool (okB b) := fun hn => hbi fun hO => hn hO.grain
    have hgi : grainB b.spent[i].grain = true ↔ (1 ≤ b.spent[i].grain ∧ b.spent[i].grain ≤ 4) := by unfold grainB; simp
    refine ⟨fun q1 => ⟨fun q2 => ⟨fun q3 => ?_, fun q3 => hbi fun hO => hO.ne (List.eq_nil_of_length_eq_zero (by omega))⟩, fun q2 => hbi fun hO => by have := hO.group; omega⟩, fun q1 => hbGr fun h => by rw [hgi.2 h] at q1; cases q1⟩
    have q1 := hgi.1 q1
    have hle13 := RO.le_trans hle12 hle3
    refine vcall (bValidS b.spent[i].cells _ R3 (hu.mono hle13)) ?_
    rintro R4 r hle4 rfl
    simp only [go_sem, ↓reduceIte, Nat.reduceEqDiff, Nat.reduceAdd, Nat.reduceMul, Nat.reduceLeDiff, Nat.reduceLT, Nat.reduceBNe, reduceCtorEq, e22, e21, e20, e1]
    have hle14 := RO.le_trans hle13 hle4
    refine ⟨fun q4 => hbi fun hO => (by rw [hO.nor] at q4; cases q4), fun q4 => ?_⟩
    refine ⟨fun q5 => ⟨_, W.in64 (by omega), ?_⟩, fun q5 => ?_⟩
    · refine vcall (bPerson _ R4) ?_
      rintro R4' r hle4' rfl
      simp only [go_sem, ↓reduceIte, Nat.reduceEqDiff, Nat.reduceAdd, Nat.reduceMul, Nat.reduceLeDiff, Nat.reduceLT, Nat.reduceBNe, reduceCtorEq, e22, e21, e20, e1]
      have hpb : personB (-1 - b.spent[i].group) = true → -1000000 ≤ -1 - b.spent[i].group ∧ -1 - b.spent[i].group ≤ 1000000 := fun h => by
        unfold personB at h
        simp only [Bool.and_eq_true, decide_eq_true_eq] at h
        omega
      refine ⟨fun q6 => ⟨_, W.in64 (by omega), ?_⟩, fun q6 => hbi fun hO => by have := (hO.alone q5).1; rw [q6] at this; cases this⟩
      refine vcall (hO _ (hpb q6) R4' (RO.le_trans hle1 (RO.le_trans hle2 (RO.le_trans hle3 (RO.le_trans hle4 hle4'))))) ?_
      rintro R4'' r hle4'' rfl
      simp only [go_sem, ↓reduceIte, Nat.reduceEqDiff, Nat.reduceAdd, Nat.reduceMul, Nat.reduceLeDiff, Nat.reduceLT, Nat.reduceBNe, reduceCtorEq, e22, e21, e20, e1]
      have hgn := grpOf_neg (gs := b.groups) (p := -1 - b.spent[i].group)
      refine ⟨fun q7 => hbi fun hO => by have := (hO.alone q5).2; omega, fun q7 => ?_⟩
      have HX := RO.le_trans hle14 (RO.le_trans hle4' hle4'')
      have HA : b.spent[i].group < 0 → personB (-1 - b.spent[i].group) = true ∧ grpOf b.groups (-1 - b.spent[i].group) = b.spent[i].group := fun _ => ⟨q6, by omega⟩
      refine vlend ?_
      intro β κ R5 hL
      have hbox := hL.2 1 _ rfl
      have hx : R5 ((⟨β 1, 0, none⟩ : Addr).add 1) (.int .i64 b.spent[i].grain) := by rw [Addr.add_lit]; exact hbox 1 _ rfl
      have hleL := RO.le_trans HX hL.1
      refine ⟨_, bContainsS 57 [.pointer (some ⟨β 1, 0, none⟩)] (by kernel_rfl) (fun c => !alignedB c (sizeI b.spent[i].grain)) b.spent[i].cells _ R5 (hu.mono hleL) (fun s R6 hle6 => bValid1 s b.spent[i] (.int .i64 0) ⟨β 1, 0, none⟩ R6 (hz.mono (RO.le_trans hleL hle6)) q1 (hle6 _ _ hx)), ?_⟩
      rintro R6 r R7 hle6 rfl hle7 _
      simp only [go_sem, ↓reduceIte, Nat.reduceEqDiff, Nat.reduceAdd, Nat.reduceMul, Nat.reduceLeDiff, Nat.reduceLT, Nat.reduceBNe, reduceCtorEq, e22, e21, e20, e1]
      refine ⟨fun hc => hbi fun hO => ?_, fun hc => ?_⟩
      · have h1 := hO.ali
        rw [List.any_eq_true] at hc
        obtain ⟨c, hc1, hc2⟩ := hc
        rw [List.all_eq_true] at h1
        rw [h1 c hc1] at hc2
        cases hc2
      have hali : (b.spent[i].cells.all fun c => alignedB c (sizeI b.spent[i].grain)) = true := by
        rw [List.all_eq_true]
        intro c hc1
        rw [List.any_eq_false] at hc
        have := hc c hc1
        simpa using this
      have hs1 : OkS b.groups b.spent[i] := ⟨q1, fun e => q3 (by rw [e]; rfl), by omega, HA, q4, hali⟩
      have hstep : (0 < i → keyLt (b.spent[i - 1]'(by omega)) b.spent[i]) → (∀ s ∈ b.spent.take (i + 1), OkS b.groups s) ∧ (b.spent.take (i + 1)).Pairwise keyLt := fun hk => ⟨fun s hs => by
        rw [List.take_succ_eq_append_getElem hlt'] at hs
        rcases List.mem_append.1 hs with hs | hs
        · exact hok s hs
        · simp only [List.mem_cons, List.not_mem_nil, or_false] at hs
          subst hs; exact hs1, keys_take hlt' hord hk⟩
      refine ⟨fun hi0 => ?_, fun hi0 => ⟨_, W.in64 (by omega), i + 1, by omega, rfl, by omega, hstep fun h => by omega⟩⟩
      obtain ⟨ad2, u2, had2, hR2, hu2⟩ := hf (i - 1) (by omega)
      have hle17 := RO.le_trans HX hle7
      refine ⟨_, W.in64 (by omega), by omega, by omega, ?_⟩
      rw [show ((i : Int) - 1).toNat = i - 1 by omega]
      refine vat ad2 had2 ?_
      try simp only [go_sem, ↓reduceIte, Nat.reduceEqDiff, Nat.reduceAdd, Nat.reduceMul, Nat.reduceLeDiff, Nat.reduceLT, Nat.reduceBNe, reduceCtorEq]
      refine vload (.int .i64 (b.spent[i - 1]'(by omega)).group) (hle17 _ _ (hR2 0 _ rfl)) ?_
      simp only [go_sem, ↓reduceIte, Nat.reduceEqDiff, Nat.reduceAdd, Nat.reduceMul, Nat.reduceLeDiff, Nat.reduceLT, Nat.reduceBNe, reduceCtorEq, e22, e21, e20, e1]
      refine ⟨_, W.in64 (by omega), by omega, by omega, ?_⟩
      rw [show ((i : Int) - 1).toNat = i - 1 by omega]
      refine vat ad2 had2 ?_
      try simp only [go_sem, ↓reduceIte, Nat.reduceEqDiff, Nat.reduceAdd, Nat.reduceMul, Nat.reduceLeDiff, Nat.reduceLT, Nat.reduceBNe, reduceCtorEq]
      refine vload (.int .i64 (b.spent[i - 1]'(by omega)).grain) (hle17 _ _ (hR2 1 _ rfl)) ?_
      simp only [go_sem, ↓reduceIte, Nat.reduceEqDiff, Nat.reduceAdd, Nat.reduceMul, Nat.reduceLeDiff, Nat.reduceLT, Nat.reduceBNe, reduceCtorEq, e22, e21, e20, e1]
      refine vcall (bCompareA _ _ _ _ R7) ?_
      rintro R8 r hle8 rfl
      simp only [go_sem, ↓reduceIte, Nat.reduceEqDiff, Nat.reduceAdd, Nat.reduceMul, Nat.reduceLeDiff, Nat.reduceLT, Nat.reduceBNe, reduceCtorEq, e22, e21, e20, e1]
      have hcmp := cmpK_neg (b.spent[i - 1]'(by omega)).group (b.spent[i - 1]'(by omega)).grain b.spent[i].group b.spent[i].grain
      refine ⟨fun hge => hbad fun hO => ?_, fun hlt => ⟨_, W.in64 (by omega), i + 1, by omega, rfl, by omega, hstep fun h => ?_⟩⟩
      · have := List.pairwise_iff_getElem.1 hO.ord (i - 1) i (by omega) hlt' (by omega)
        have := hcmp.2 this
        omega
      · exact hcmp.1 (by omega)
    · have HX := hle14
      have HA : b.spent[i].group < 0 → personB (-1 - b.spent[i].group) = true ∧ grpOf b.groups (-1 - b.spent[i].group) = b.spent[i].group := fun h => absurd h q5
      refine vlend ?_
      intro β κ R5 hL
      have hbox := hL.2 1 _ rfl
      have hx : R5 ((⟨β 1, 0, none⟩ : Addr).add 1) (.int .i64 b.spent[i].grain) := by rw [Addr.add_lit]; exact hbox 1 _ rfl
      have hleL := RO.le_trans HX hL.1
      refine ⟨_, bContainsS 57 [.pointer (some ⟨β 1, 0, none⟩)] (by kernel_rfl) (fun c => !alignedB c (sizeI b.spent[i].grain)) b.spent[i].cells _ R5 (hu.mono hleL) (fun s R6 hle6 => bValid1 s b.spent[i] (.int .i64 0) ⟨β 1, 0, none⟩ R6 (hz.mono (RO.le_trans hleL hle6)) q1 (hle6 _ _ hx)), ?_⟩
      rintro R6 r R7 hle6 rfl hle7 _
      simp only [go_sem, ↓reduceIte, Nat.reduceEqDiff, Nat.reduceAdd, Nat.reduceMul, Nat.reduceLeDiff, Nat.reduceLT, Nat.reduceBNe, reduceCtorEq, e22, e21, e20, e1]
      refine ⟨fun hc => hbi fun hO => ?_, fun hc => ?_⟩
      · have h1 := hO.ali
        rw [List.any_eq_true] at hc
        obtain ⟨c, hc1, hc2⟩ := hc
        rw [List.all_eq_true] at h1
        rw [h1 c hc1] at hc2
        cases hc2
      have hali : (b.spent[i].cells.all fun c => alignedB c (sizeI b.spent[i].grain)) = true := by
        rw [List.all_eq_true]
        intro c hc1
        rw [List.any_eq_false] at hc
        have := hc c hc1
        simpa using this
      have hs1 : OkS b.groups b.spent[i] := ⟨q1, fun e => q3 (by rw [e]; rfl), by omega, HA, q4, hali⟩
      have hstep : (0 < i → keyLt (b.spent[i - 1]'(by omega)) b.spent[i]) → (∀ s ∈ b.spent.take (i + 1), OkS b.groups s) ∧ (b.spent.take (i + 1)).Pairwise keyLt := fun hk => ⟨fun s hs => by
        rw [List.take_succ_eq_append_getElem hlt'] at hs
        rcases List.mem_append.1 hs with hs | hs
        · exact hok s hs
        · simp only [List.mem_cons, List.not_mem_nil, or_false] at hs
          subst hs; exact hs1, keys_take hlt' hord hk⟩
      refine ⟨fun hi0 => ?_, fun hi0 => ⟨_, W.in64 (by omega), i + 1, by omega, rfl, by omega, hstep fun h => by omega⟩⟩
      obtain ⟨ad2, u2, had2, hR2, hu2⟩ := hf (i - 1) (by omega)
      have hle17 := RO.le_trans HX hle7
      refine ⟨_, W.in64 (by omega), by omega, by omega, ?_⟩
      rw [show ((i : Int) - 1).toNat = i - 1 by omega]
      refine vat ad2 had2 ?_
      try simp only [go_sem, ↓reduceIte, Nat.reduceEqDiff, Nat.reduceAdd, Nat.reduceMul, Nat.reduceLeDiff, Nat.reduceLT, Nat.reduceBNe, reduceCtorEq]
      refine vload (.int .i64 (b.spent[i - 1]'(by omega)).group) (hle17 _ _ (hR2 0 _ rfl)) ?_
      simp only [go_sem, ↓reduceIte, Nat.reduceEqDiff, Nat.reduceAdd, Nat.reduceMul, Nat.reduceLeDiff, Nat.reduceLT, Nat.reduceBNe, reduceCtorEq, e22, e21, e20, e1]
      refine ⟨_, W.in64 (by omega), by omega, by omega, ?_⟩
      rw [show ((i : Int) - 1).toNat = i - 1 by omega]
      refine vat ad2 had2 ?_
      try simp only [go_sem, ↓reduceIte, Nat.reduceEqDiff, Nat.reduceAdd, Nat.reduceMul, Nat.reduceLeDiff, Nat.reduceLT, Nat.reduceBNe, reduceCtorEq]
      refine vload (.int .i64 (b.spent[i - 1]'(by omega)).grain) (hle17 _ _ (hR2 1 _ rfl)) ?_
      simp only [go_sem, ↓reduceIte, Nat.reduceEqDiff, Nat.reduceAdd, Nat.reduceMul, Nat.reduceLeDiff, Nat.reduceLT, Nat.reduceBNe, reduceCtorEq, e22, e21, e20, e1]
      refine vcall (bCompareA _ _ _ _ R7) ?_
      rintro R8 r hle8 rfl
      simp only [go_sem, ↓reduceIte, Nat.reduceEqDiff, Nat.reduceAdd, Nat.reduceMul, Nat.reduceLeDiff, Nat.reduceLT, Nat.reduceBNe, reduceCtorEq, e22, e21, e20, e1]
      have hcmp := cmpK_neg (b.spent[i - 1]'(by omega)).group (b.spent[i - 1]'(by omega)).grain b.spent[i].group b.spent[i].grain
      refine ⟨fun hge => hbad fun hO => ?_, fun hlt => ⟨_, W.in64 (by omega), i + 1, by omega, rfl, by omega, hstep fun h => ?_⟩⟩
      · have := List.pairwise_iff_getElem.1 hO.ord (i - 1) i (by omega) hlt' (by omega)
        have := hcmp.2 this
        omega
      · exact hcmp.1 (by omega)
  · obtain rfl : i = b.spent.length := by omega
    rw [List.take_length] at hok hord
    congr 1
    symm
    rw [okB_iff]
    exact ⟨by omega, validG_iff.1 hV, hok, hord⟩
theorem bGroup (b : Bu) (hr : RawB b) (p : Int) (v : Value) (R : RO) (hz : SzR R) (h : BuV R v b) : CallsR Tryz.prog 23 [v, .int .i64 p] R fun _ r => r = .int .i64 (grpB b p (okB b)) := by
  have hV := fun R' hle => bValid b hr v R' (SzR.mono (R' := R') hz hle) (BuV.mono (R' := R') h hle)
  obtain ⟨gv, sv, rfl, hg, hs⟩ := h
  refine callsT mix Tryz.func23 comp23 (by simp [Tryz.ntmps23]) ?_; simp only [go_sem, ↓reduceIte, Nat.reduceEqDiff, Nat.reduceAdd, Nat.reduceMul, Nat.reduceLeDiff, Nat.reduceLT, Nat.reduceBNe, reduceCtorEq, vc23, rs23]
  refine vcall (hV R (RO.le_refl _)) ?_
  rintro R1 r hle1 rfl
  try simp only [go_sem, ↓reduceIte, Nat.reduceEqDiff, Nat.reduceAdd, Nat.reduceMul, Nat.reduceLeDiff, Nat.reduceLT, Nat.reduceBNe, reduceCtorEq]
  unfold grpB
  refine ⟨fun h1 => ?_, fun h1 => by simp [h1]⟩
  refine vcall (bPerson p R1) ?_
  rintro R2 r hle2 rfl
  try simp only [go_sem, ↓reduceIte, Nat.reduceEqDiff, Nat.reduceAdd, Nat.reduceMul, Nat.reduceLeDiff, Nat.reduceLT, Nat.reduceBNe, reduceCtorEq]
  refine ⟨fun h2 => by simp [h2], fun h2 => ?_⟩
  rw [if_pos ⟨h1, h2⟩]
  have hpp : -1000000 ≤ p ∧ p ≤ 1000000 := by
    unfold personB at h2
    simp only [Bool.and_eq_true, decide_eq_true_eq] at h2
    omega
  refine vcall (bGroupOf b.groups p hpp gv R2 (hg.mono (RO.le_trans hle1 hle2))) ?_
  rintro R3 r hle3 rfl
  try simp only [go_sem, ↓reduceIte, Nat.reduceEqDiff, Nat.reduceAdd, Nat.reduceMul, Nat.reduceLeDiff, Nat.reduceLT, Nat.reduceBNe, reduceCtorEq]
end Go.Proofs.YtclkibjonbhldaaGreatDoor
