import Derived.Test.YtclkibjonbhldaaGreatDoorBx
import Derived.Shelf.SlicesE.Delete
import Derived.Ground.SlgnProg
import Derived.Shelf.Spec.SlicesGrow
import Derived.Ground.Names7Prog
/- Plain lemmas of our own, no statement of the seat: what a question and its answer are: plain. -/
namespace Go.Proofs.YtclkibjonbhldaaGreatDoor
set_option linter.unusedSimpArgs false
set_option linter.unusedVariables false
open Go.Proofs.YtclkibjonbhldaaGreatDoor.Vc
/-! ### Lists in order -/
theorem keyLt_irrefl (a : Se) : ¬ keyLt a a := by unfold keyLt; omega
theorem sorted_nodup {l : List Se} (h : l.Pairwise keyLt) : (l.map seKey).Nodup := by
  refine List.pairwise_map.2 (h.imp fun {a b} hab e => ?_)
  unfold keyLt at hab
  unfold seKey at e
  simp only [Prod.mk.injEq] at e
  omega
theorem sorted_ext : ∀ {a b : List Se}, a.Pairwise keyLt → b.Pairwise keyLt → (∀ s, s ∈ a ↔ s ∈ b) → a = b
  | [], [], _, _, _ => rfl
  | [], y :: b, _, _, h => absurd ((h y).2 (by simp)) (by simp)
  | x :: a, [], _, _, h => absurd ((h x).1 (by simp)) (by simp)
  | x :: a, y :: b, ha, hb, h => by
    have oa := (List.pairwise_cons.1 ha).1
    have ob := (List.pairwise_cons.1 hb).1
    have hxy : x = y := by
      rcases List.mem_cons.1 ((h x).1 (by simp)) with e | hx
      · exact e
      · rcases List.mem_cons.1 ((h y).2 (by simp)) with e | hy
        · exact e.symm
        · exact absurd (keyLt_trans (ob x hx) (oa y hy)) (keyLt_irrefl y)
    subst hxy
    have hr : ∀ s, s ∈ a ↔ s ∈ b := fun s => by
      constructor
      · intro hs
        rcases List.mem_cons.1 ((h s).1 (by simp [hs])) with e | hs'
        · subst e; exact absurd (oa s hs) (keyLt_irrefl s)
        · exact hs'
      · intro hs
        rcases List.mem_cons.1 ((h s).2 (by simp [hs])) with e | hs'
        · subst e; exact absurd (ob s hs) (keyLt_irrefl s)
        · exact hs'
    rw [sorted_ext (List.pairwise_cons.1 ha).2 (List.pairwise_cons.1 hb).2 hr]
def insE (s : Se) : List Se → List Se
  | [] => [s]
  | x :: l => if keyLt s x then s :: x :: l else if keyLt x s then x :: insE s l else s :: l
theorem keyLt_tri {a b : Se} (h1 : ¬ keyLt a b) (h2 : ¬ keyLt b a) : seKey a = seKey b := by
  unfold keyLt at h1 h2
  unfold seKey
  simp only [Prod.mk.injEq]
  omega
theorem keyLt_ne {a b : Se} (h : keyLt a b) : seKey a ≠ seKey b := fun e => by
  unfold keyLt at h
  unfold seKey at e
  simp only [Prod.mk.injEq] at e
  omega
theorem keyLt_key {a b c : Se} (h : keyLt a b) (e : seKey b = seKey c) : keyLt a c := by
  unfold keyLt at *
  unfold seKey at e
  simp only [Prod.mk.injEq] at e
  omega
theorem keyLt_key' {a b c : Se} (h : keyLt b a) (e : seKey b = seKey c) : keyLt c a := by
  unfold keyLt at *
  unfold seKey at e
  simp only [Prod.mk.injEq] at e
  omega
theorem insE_mem {s : Se} : ∀ {l : List Se}, l.Pairwise keyLt → ∀ y, y ∈ insE s l ↔ y = s ∨ (y ∈ l ∧ seKey y ≠ seKey s)
  | [], _, y => by simp [insE]
  | x :: l, h, y => by
    have ho := (List.pairwise_cons.1 h).1
    unfold insE
    split
    · rename_i h1
      rw [List.mem_cons]
      refine or_congr Iff.rfl ⟨fun hy => ⟨hy, ?_⟩, fun hy => hy.1⟩
      rcases List.mem_cons.1 hy with rfl | hy
      · exact (keyLt_ne h1).symm
      · exact (keyLt_ne (keyLt_trans h1 (ho y hy))).symm
    · split
      · rename_i h1 h2
        rw [List.mem_cons, insE_mem (List.pairwise_cons.1 h).2, List.mem_cons]
        constructor
        · rintro (rfl | rfl | ⟨hy, hk⟩)
          · exact .inr ⟨.inl rfl, keyLt_ne h2⟩
          · exact .inl rfl
          · exact .inr ⟨.inr hy, hk⟩
        · rintro (rfl | ⟨rfl | hy, hk⟩)
          · exact .inr (.inl rfl)
          · exact .inl rfl
          · exact .inr (.inr ⟨hy, hk⟩)
      · rename_i h1 h2
        have e := keyLt_tri h1 h2
        rw [List.mem_cons, List.mem_cons]
        constructor
        · rintro (rfl | hy)
          · exact .inl rfl
          · exact .inr ⟨.inr hy, fun e' => keyLt_ne (ho y hy) (e.symm.trans e'.symm)⟩
        · rintro (rfl | ⟨rfl | hy, hk⟩)
          · exact .inl rfl
          · exact absurd e.symm hk
          · exact .inr hy
theorem insE_sorted {s : Se} : ∀ {l : List Se}, l.Pairwise keyLt → (insE s l).Pairwise keyLt
  | [], _ => List.pairwise_singleton _ _
  | x :: l, h => by
    have ho := (List.pairwise_cons.1 h).1
    have ht := (List.pairwise_cons.1 h).2
    unfold insE
    split
    · rename_i h1
      refine List.pairwise_cons.2 ⟨fun y hy => ?_, h⟩
      rcases List.mem_cons.1 hy with rfl | hy
      · exact h1
      · exact keyLt_trans h1 (ho y hy)
    · split
      · rename_i h1 h2
        refine List.pairwise_cons.2 ⟨fun y hy => ?_, insE_sorted ht⟩
        rcases (insE_mem ht y).1 hy with rfl | ⟨hy, _⟩
        · exact h2
        · exact ho y hy
      · rename_i h1 h2
        have e := keyLt_tri h1 h2
        exact List.pairwise_cons.2 ⟨fun y hy => keyLt_key' (ho y hy) e.symm, ht⟩
/-- The elements with more cells of an account. -/
def addS (l : List Se) (g k : Int) (cs : List Sp) : List Se := if unionD (lookD l g k) cs = [] then l else insE ⟨g, k, unionD (lookD l g k) cs⟩ l
theorem addS_sorted {l : List Se} {g k : Int} {cs : List Sp} (h : l.Pairwise keyLt) : (addS l g k cs).Pairwise keyLt := by
  unfold addS
  split
  · exact h
  · exact insE_sorted h
/-- Two lists of the same elements look up the same. -/
theorem lookD_congr {a b : List Se} (ha : (a.map seKey).Nodup) (hb : (b.map seKey).Nodup) (h : ∀ s, s ∈ a ↔ s ∈ b) (g k : Int) : lookD a g k = lookD b g k := by
  by_cases hk : ∃ s ∈ a, seKey s = (g, k)
  · obtain ⟨s, hs, e⟩ := hk
    rw [lookD_mem ha hs e, lookD_mem hb ((h s).1 hs) e]
  · rw [lookD_none fun s hs e => hk ⟨s, hs, e⟩, lookD_none fun s hs e => hk ⟨s, (h s).2 hs, e⟩]
theorem addP_mem {l : List Se} {g k : Int} {cs : List Sp} (hn : (l.map seKey).Nodup) (s : Se) : s ∈ addP l g k cs ↔ (unionD (lookD l g k) cs = [] ∧ s ∈ l) ∨ (unionD (lookD l g k) cs ≠ [] ∧ (s = ⟨g, k, unionD (lookD l g k) cs⟩ ∨ (s ∈ l ∧ seKey s ≠ (g, k)))) := by
  unfold addP
  split
  · rename_i h; simp [h]
  · rename_i h; rw [putD_mem hn]; simp [h]
theorem addS_mem {l : List Se} {g k : Int} {cs : List Sp} (hl : l.Pairwise keyLt) (s : Se) : s ∈ addS l g k cs ↔ (unionD (lookD l g k) cs = [] ∧ s ∈ l) ∨ (unionD (lookD l g k) cs ≠ [] ∧ (s = ⟨g, k, unionD (lookD l g k) cs⟩ ∨ (s ∈ l ∧ seKey s ≠ (g, k)))) := by
  unfold addS
  split
  · rename_i h; simp [h]
  · rename_i h; rw [insE_mem hl]; simp [h, seKey]
theorem addP_keys {l : List Se} {g k : Int} {cs : List Sp} (hn : (l.map seKey).Nodup) : ((addP l g k cs).map seKey).Nodup := by
  unfold addP
  split
  · exact hn
  · exact putD_keys hn
/-- Whatever the ledger's order: in the end the elements are those in order. -/
theorem addP_addS {l l' : List Se} {g k : Int} {cs : List Sp} (hl : l.Pairwise keyLt) (hn' : (l'.map seKey).Nodup) (h : ∀ s, s ∈ l' ↔ s ∈ l) (s : Se) : s ∈ addP l' g k cs ↔ s ∈ addS l g k cs := by
  rw [addP_mem hn', addS_mem hl, lookD_congr hn' (sorted_nodup hl) h]
  simp only [h]
/-! ### Questions -/
/-- What a question must be. -/
def OkQ (b : Bu) (p k : Int) (w : Sp) : Prop := okB b = true ∧ personB p = true ∧ (1 ≤ k ∧ k ≤ 4) ∧ OkW k w
noncomputable def checkI (b : Bu) (p k : Int) (w : Sp) : Int := if @decide (OkQ b p k w) (Classical.propDecidable _) = true then (if 65536 < (w.t - w.f) / sizeI k then 2 else 0) else 1
theorem checkI_no {b : Bu} {p k : Int} {w : Sp} (h : ¬ OkQ b p k w) : checkI b p k w = 1 := by
  unfold checkI
  rw [@decide_eq_false _ (Classical.propDecidable _) h]; rfl
theorem checkI_yes {b : Bu} {p k : Int} {w : Sp} (h : OkQ b p k w) : checkI b p k w = if 65536 < (w.t - w.f) / sizeI k then 2 else 0 := by
  unfold checkI
  rw [@decide_eq_true _ (Classical.propDecidable _) h]; rfl
theorem checkI_zero {b : Bu} {p k : Int} {w : Sp} : checkI b p k w = 0 ↔ OkQ b p k w ∧ (w.t - w.f) / sizeI k ≤ 65536 := by
  by_cases h : OkQ b p k w
  · rw [checkI_yes h]
    by_cases h2 : 65536 < (w.t - w.f) / sizeI k
    · rw [if_pos h2]; constructor
      · intro e; cases e
      · rintro ⟨_, h3⟩; omega
    · rw [if_neg h2]; exact ⟨fun _ => ⟨h, by omega⟩, fun _ => rfl⟩
  · rw [checkI_no h]
    constructor
    · intro e; cases e
    · exact fun h2 => absurd h2.1 h
/-- The cells of a question that the group of a person does not know. -/
def missQ (b : Bu) (p k : Int) (w : Sp) : List Sp := missD (sizeI k) (memS (knownD b.spent (grpOf b.groups p) k)) w
def costQ (b : Bu) (p k : Int) (w : Sp) : Int := countL (sizeI k) (missQ b p k w)
def askB (b : Bu) (p k : Int) (w : Sp) : Bu := ⟨b.limit, b.groups, addS b.spent (grpOf b.groups p) k (missQ b p k w)⟩
theorem OkB.keys {b : Bu} (h : OkB b) : (b.spent.map seKey).Nodup := sorted_nodup h.ord
theorem validS_iff {l : List Sp} : validS l = true ↔ Normal l ∧ rangedB l = true := by unfold validS; rw [Bool.and_eq_true, decide_eq_true_eq]
theorem OkB.okC {b : Bu} (h : OkB b) (hr : RawB b) : ∀ s ∈ b.spent, OkC s := fun s hs => by
  have h1 := h.each s hs
  have h2 := validS_iff.1 h1.nor
  exact ⟨h1.grain, h2.1, h2.2, h1.ne, Nat.le_trans (hr.spent s hs).len (by omega)⟩
theorem OkB.small {b : Bu} (h : OkB b) (hr : RawB b) : SmallL b.spent := ⟨fun s hs => (h.okC hr s hs).rng, fun s hs => Nat.le_trans (hr.spent s hs).len (by omega)⟩
theorem cellsW_len {n : Int} (w : Sp) : (cellsW n w).length = ((w.t - w.f) / n).toNat := by simp [cellsW]
theorem missC_len {n : Int} (K : Int → Bool) (w : Sp) : (missC n K w).length ≤ ((w.t - w.f) / n).toNat := by
  unfold missC
  exact Nat.le_trans (List.length_filter_le _ _) (by rw [cellsW_len]; exact Nat.le_refl _)
theorem missC_facts {k : Int} {K : Int → Bool} {w : Sp} (hw : OkW k w) : rangedB (missC (sizeI k) K w) = true ∧ (missC (sizeI k) K w).all (fun c => alignedB c (sizeI k)) = true := by
  have hali := alignedB_iff.1 hw.ali
  have hp := hw.pos
  have hl := hw.lo
  have hh := hw.hi
  have hn := sizeI_one k
  have hall : ∀ c ∈ missC (sizeI k) K w, c.f % sizeI k = 0 ∧ c.t = c.f + sizeI k ∧ w.f ≤ c.f ∧ c.t ≤ w.t := fun c hc => (cellsW_mem (by omega) hali.1 hali.2 (by omega)).1 (List.mem_filter.1 hc).1
  refine ⟨rangedB_iff.2 fun c hc => ?_, List.all_eq_true.2 fun c hc => alignedB_iff.2 ?_⟩
  · have := hall c hc; omega
  · obtain ⟨h1, h2, _⟩ := hall c hc
    exact ⟨h1, by rw [h2, Int.add_emod_right]; exact h1⟩
theorem missD_facts {k : Int} {K : Int → Bool} {w : Sp} (hw : OkW k w) : Normal (missD (sizeI k) K w) ∧ rangedB (missD (sizeI k) K w) = true ∧ (missD (sizeI k) K w).all (fun c => alignedB c (sizeI k)) = true ∧ (missD (sizeI k) K w).length ≤ ((w.t - w.f) / sizeI k).toNat := by
  obtain ⟨h1, h2⟩ := missC_facts (K := K) hw
  exact ⟨normD_normal _, normD_ranged h1, normD_aligned h2, Nat.le_trans (normD_len _) (missC_len K w)⟩
end Go.Proofs.YtclkibjonbhldaaGreatDoor
/- Plain lemmas of our own, no statement of the seat: budget.check, Cost, Known. -/
namespace Go.Proofs.YtclkibjonbhldaaGreatDoor
set_option linter.unusedSimpArgs false
set_option linter.unusedVariables false
open Go.Proofs.YtclkibjonbhldaaGreatDoor.Vc
set_option maxHeartbeats 2000000 in
set_option maxRecDepth 4000 in
theorem bCheck (b : Bu) (hr : RawB b) (p k : Int) (w : Sp) (v : Value) (R : RO) (hz : SzR R) (h : BuV R v b) : CallsR Tryz.prog 69 [v, .int .i64 p, .int .i64 k, .agg w.cells.toArray] R fun _ r => r = .int .i64 (checkI b p k w) := by
  have hV := fun R' hle => bValid b hr v R' (SzR.mono (R' := R') hz hle) (BuV.mono (R' := R') h hle)
  have hA := fun hk R' => bAligned w (sizeI k) hk R'
  obtain ⟨gv, sv, rfl, hg, hs⟩ := h
  simp only [Sp.cells] at hA ⊢
  have hbad : ¬ OkQ b p k w → Value.int .i64 1 = Value.int .i64 (checkI b p k w) := fun hn => by rw [checkI_no hn]
  have hgr : grainB k = true ↔ (1 ≤ k ∧ k ≤ 4) := by unfold grainB; simp
  refine callsT mix Tryz.func69 comp69 (by simp [Tryz.ntmps69]) ?_; simp only [go_sem, ↓reduceIte, Nat.reduceEqDiff, Nat.reduceAdd, Nat.reduceMul, Nat.reduceLeDiff, Nat.reduceLT, Nat.reduceBNe, reduceCtorEq, vc69, rs69]
  refine vcall (hV R (RO.le_refl _)) ?_
  rintro R1 r hle1 rfl
  try simp only [go_sem, ↓reduceIte, Nat.reduceEqDiff, Nat.reduceAdd, Nat.reduceMul, Nat.reduceLeDiff, Nat.reduceLT, Nat.reduceBNe, reduceCtorEq]
  refine ⟨fun h1 => ?_, fun h1 => hbad fun hO => by rw [hO.1] at h1; cases h1⟩
  refine vcall (bPerson p R1) ?_
  rintro R2 r hle2 rfl
  try simp only [go_sem, ↓reduceIte, Nat.reduceEqDiff, Nat.reduceAdd, Nat.reduceMul, Nat.reduceLeDiff, Nat.reduceLT, Nat.reduceBNe, reduceCtorEq]
  refine ⟨fun h2 => ?_, fun h2 => hbad fun hO => by rw [hO.2.1] at h2; cases h2⟩
  refine vcall (bGrain k R2) ?_
  rintro R3 r hle3 rfl
  try simp only [go_sem, ↓reduceIte, Nat.reduceEqDiff, Nat.reduceAdd, Nat.reduceMul, Nat.reduceLeDiff, Nat.reduceLT, Nat.reduceBNe, reduceCtorEq]
  refine ⟨fun h3 => ?_, fun h3 => hbad fun hO => by rw [hgr.2 hO.2.2.1] at h3; cases h3⟩
  have h3 := hgr.1 h3
  have hle13 := RO.le_trans hle1 (RO.le_trans hle2 hle3)
  refine ⟨fun h4 => ⟨fun h5 => ⟨fun h6 => ⟨by omega, by omega, ?_⟩, fun h6 => hbad fun hO => by have := hO.2.2.2.hi; omega⟩, fun h5 => hbad fun hO => by have := hO.2.2.2.lo; omega⟩, fun h4 => hbad fun hO => by have := hO.2.2.2.pos; omega⟩
  refine vload _ ((hz.mono hle13).get h3) ?_
  try simp only [go_sem, ↓reduceIte, Nat.reduceEqDiff, Nat.reduceAdd, Nat.reduceMul, Nat.reduceLeDiff, Nat.reduceLT, Nat.reduceBNe, reduceCtorEq]
  refine vcall (hA (sizeI_pos _) R3) ?_
  rintro R4 r hle4 rfl
  try simp only [go_sem, ↓reduceIte, Nat.reduceEqDiff, Nat.reduceAdd, Nat.reduceMul, Nat.reduceLeDiff, Nat.reduceLT, Nat.reduceBNe, reduceCtorEq]
  refine ⟨fun h7 => hbad fun hO => (by have := hO.2.2.2.ali; rw [h7] at this; cases this), fun h7 => ?_⟩
  have hQ : OkQ b p k w := ⟨h1, h2, h3, ⟨by omega, by omega, by omega, h7⟩⟩
  rw [checkI_yes hQ]
  refine ⟨by omega, by omega, ?_⟩
  refine vload _ ((hz.mono (RO.le_trans hle13 hle4)).get h3) ?_
  try simp only [go_sem, ↓reduceIte, Nat.reduceEqDiff, Nat.reduceAdd, Nat.reduceMul, Nat.reduceLeDiff, Nat.reduceLT, Nat.reduceBNe, reduceCtorEq]
  intro b1 cap1 R5 hle5 hrow5 hcap5 hfr5
  refine vfreeze ?_
  try simp only [go_sem, ↓reduceIte, Nat.reduceEqDiff, Nat.reduceAdd, Nat.reduceMul, Nat.reduceLeDiff, Nat.reduceLT, Nat.reduceBNe, reduceCtorEq]
  intro b2 cap2 R6 hle6 hrow6 hcap6 hfr6
  have hw1 : Normal [w] := ⟨fun s hs => by simp only [List.mem_cons, List.not_mem_nil, or_false] at hs; subst hs; omega, List.pairwise_singleton _ _⟩
  have hrw : rangedB [w] = true := rangedB_iff.2 fun s hs => by
    simp only [List.mem_cons, List.not_mem_nil, or_false] at hs
    subst hs
    omega
  have hwv : SpV R5 (.slice (some ⟨b1, 0, none⟩) 1 cap1) [w] := RowIn.enc (xs := [w]) (enc := Sp.cells) (k := 2) (fun _ => rfl) (by omega) hrow5 hcap5 (by simp)
  refine vcall (bCount (sizeI k) (sizeI_one k).1 [w] hw1 hrw _ ⟨b2, 0, none⟩ cap2 R6 (hrow6 0 _ rfl) (hwv.mono hle6)) ?_
  rintro R7 r hle7 rfl
  try simp only [go_sem, ↓reduceIte, Nat.reduceEqDiff, Nat.reduceAdd, Nat.reduceMul, Nat.reduceLeDiff, Nat.reduceLT, Nat.reduceBNe, reduceCtorEq]
  simp only [countL, Int.add_zero]
  refine ⟨fun h8 => by rw [if_pos h8], fun h8 => by rw [if_neg h8]⟩
/-- What Cost answers. -/
noncomputable def costV (b : Bu) (p k : Int) (w : Sp) : Value := .tuple #[.int .i64 (if checkI b p k w = 0 then costQ b p k w else 0), .int .i64 (checkI b p k w)]
theorem personB_bd {p : Int} (h : personB p = true) : -1000000 ≤ p ∧ p ≤ 1000000 := by
  unfold personB at h
  simp only [Bool.and_eq_true, decide_eq_true_eq] at h
  omega
theorem BuV.groups {R : RO} {b : Bu} {gv sv : Value} {l : Int} (h : BuV R (.agg #[.int .i64 l, gv, sv]) b) : l = b.limit ∧ GV R gv b.groups ∧ SpentV R sv b.spent := by
  obtain ⟨gv', sv', e, h1, h2⟩ := h
  simp only [Value.agg.injEq, Array.mk.injEq, List.cons.injEq, Value.int.injEq, and_true, true_and] at e
  obtain ⟨rfl, rfl, rfl⟩ := e
  exact ⟨rfl, h1, h2⟩
set_option maxHeartbeats 2000000 in
theorem bCost (b : Bu) (hr : RawB b) (p k : Int) (w : Sp) (v : Value) (R : RO) (hz : SzR R) (h : BuV R v b) : CallsR Tryz.prog 35 [v, .int .i64 p, .int .i64 k, .agg w.cells.toArray] R fun _ r => r = costV b p k w := by
  have hC := fun R' hle => bCheck b hr p k w v R' (SzR.mono (R' := R') hz hle) (BuV.mono (R' := R') h hle)
  have hO := fun hk R' hle => bOpen b hk v R' (BuV.mono (R' := R') h hle)
  have hM := fun ps c hk hw R' hle hL hs => bMissing ps c (grpOf b.groups p) k w hk hw R' (SzR.mono (R' := R') hz hle) hL hs
  obtain ⟨gv, sv, rfl, hg, hs⟩ := h
  simp only [Sp.cells] at hC hM ⊢
  refine callsT mix Tryz.func35 comp35 (by simp [Tryz.ntmps35]) ?_; simp only [go_sem, ↓reduceIte, Nat.reduceEqDiff, Nat.reduceAdd, Nat.reduceMul, Nat.reduceLeDiff, Nat.reduceLT, Nat.reduceBNe, reduceCtorEq, vc35, rs35]
  refine vcall (hC R (RO.le_refl _)) ?_
  rintro R1 r hle1 rfl
  try simp only [go_sem, ↓reduceIte, Nat.reduceEqDiff, Nat.reduceAdd, Nat.reduceMul, Nat.reduceLeDiff, Nat.reduceLT, Nat.reduceBNe, reduceCtorEq]
  unfold costV
  refine ⟨fun h1 => by rw [if_neg h1], fun h1 => ?_⟩
  rw [if_pos h1]
  obtain ⟨⟨q1, q2, q3, q4⟩, q5⟩ := checkI_zero.1 h1
  have hB := okB_iff.1 q1
  refine ⟨by omega, by omega, vload _ ((hz.mono hle1).get q3) ?_⟩
  try simp only [go_sem, ↓reduceIte, Nat.reduceEqDiff, Nat.reduceAdd, Nat.reduceMul, Nat.reduceLeDiff, Nat.reduceLT, Nat.reduceBNe, reduceCtorEq]
  refine vhandE (hO hB.keys R1 hle1) rfl ?_
  rintro R2 bs r hle2 ⟨rfl, ps, c, cs, rfl, rfl, hL, hps⟩
  try simp only [go_sem, ↓reduceIte, Nat.reduceEqDiff, Nat.reduceAdd, Nat.reduceMul, Nat.reduceLeDiff, Nat.reduceLT, Nat.reduceBNe, reduceCtorEq]
  refine vcall (bGroupOf b.groups p (personB_bd q2) gv R2 (hg.mono hle1)) ?_
  rintro R3 r hle3 rfl
  try simp only [go_sem, ↓reduceIte, Nat.reduceEqDiff, Nat.reduceAdd, Nat.reduceMul, Nat.reduceLeDiff, Nat.reduceLT, Nat.reduceBNe, reduceCtorEq]
  have hsm : SmallL (ps.map (·.1)) := by rw [hps]; exact hB.small hr
  refine vshow [3] [.mp 0, .val (.int .i64 (grpOf b.groups p)), .val (.int .i64 k), .val (.agg #[.int .i64 w.f, .int .i64 w.t])] [.mp (ents ps) c] (hM ps c q3 q4 R3 (RO.le_trans hle1 hle3) (hL.mono hle3) hsm) rfl rfl rfl ?_ (by simp) rfl rfl (fun R' bs' r h => by rw [h.1]; rfl) ?_
  · try simp only [go_sem, ↓reduceIte, Nat.reduceEqDiff, Nat.reduceAdd, Nat.reduceMul, Nat.reduceLeDiff, Nat.reduceLT, Nat.reduceBNe, reduceCtorEq]
    rfl
  rintro R4 bs r hle4 ⟨rfl, mv, rfl, hmv⟩ _
  have hmv := hmv.mono newR_le
  rw [hps] at hmv
  have hmf := missD_facts (K := memS (knownD b.spent (grpOf b.groups p) k)) q4
  obtain ⟨ma, mcap, rfl, -, -⟩ := hmv.form
  simp only [go_sem, ↓reduceIte, Nat.reduceEqDiff, Nat.reduceAdd, Nat.reduceMul, Nat.reduceLeDiff, Nat.reduceLT, Nat.reduceBNe, reduceCtorEq, setG, rn]
  refine vfreeze ?_
  try simp only [go_sem, ↓reduceIte, Nat.reduceEqDiff, Nat.reduceAdd, Nat.reduceMul, Nat.reduceLeDiff, Nat.reduceLT, Nat.reduceBNe, reduceCtorEq]
  intro b2 cap2 R6 hle6 hrow6 hcap6 hfr6
  refine vcall (bCount (sizeI k) (sizeI_one k).1 _ hmf.1 hmf.2.1 _ ⟨b2, 0, none⟩ cap2 R6 (hrow6 0 _ rfl) (hmv.mono hle6)) ?_
  rintro R7 r hle7 rfl
  try simp only [go_sem, ↓reduceIte, Nat.reduceEqDiff, Nat.reduceAdd, Nat.reduceMul, Nat.reduceLeDiff, Nat.reduceLT, Nat.reduceBNe, reduceCtorEq]
  rw [h1]; rfl
/-- What Known answers. -/
def KnownV (R : RO) (r : Value) (b : Bu) (p k : Int) (ok : Bool) : Prop :=
  if ok = true ∧ personB p = true ∧ grainB k = true then ∃ v, r = .tuple #[v, .int .i64 0] ∧ SpV R v (knownD b.spent (grpOf b.groups p) k) else r = .tuple #[.slice none 0 0, .int .i64 1]
set_option maxHeartbeats 2000000 in
theorem bKnownP (b : Bu) (hr : RawB b) (p k : Int) (v : Value) (R : RO) (hz : SzR R) (h : BuV R v b) : CallsR Tryz.prog 27 [v, .int .i64 p, .int .i64 k] R fun R' r => KnownV (newR R R') r b p k (okB b) := by
  have hV := fun R' hle => bValid b hr v R' (SzR.mono (R' := R') hz hle) (BuV.mono (R' := R') h hle)
  have hO := fun hk R' hle => bOpen b hk v R' (BuV.mono (R' := R') h hle)
  obtain ⟨gv, sv, rfl, hg, hs⟩ := h
  have hgr : grainB k = true ↔ (1 ≤ k ∧ k ≤ 4) := by unfold grainB; simp
  refine callsT mix Tryz.func27 comp27 (by simp [Tryz.ntmps27]) ?_; simp only [go_sem, ↓reduceIte, Nat.reduceEqDiff, Nat.reduceAdd, Nat.reduceMul, Nat.reduceLeDiff, Nat.reduceLT, Nat.reduceBNe, reduceCtorEq, vc27, rs27]
  refine vcall (hV R (RO.le_refl _)) ?_
  rintro R1 r hle1 rfl
  try simp only [go_sem, ↓reduceIte, Nat.reduceEqDiff, Nat.reduceAdd, Nat.reduceMul, Nat.reduceLeDiff, Nat.reduceLT, Nat.reduceBNe, reduceCtorEq]
  unfold KnownV
  refine ⟨fun h1 => ?_, fun h1 => by simp [h1]⟩
  refine vcall (bPerson p R1) ?_
  rintro R2 r hle2 rfl
  try simp only [go_sem, ↓reduceIte, Nat.reduceEqDiff, Nat.reduceAdd, Nat.reduceMul, Nat.reduceLeDiff, Nat.reduceLT, Nat.reduceBNe, reduceCtorEq]
  refine ⟨fun h2 => ?_, fun h2 => by simp [h2]⟩
  refine vcall (bGrain k R2) ?_
  rintro R3 r hle3 rfl
  try simp only [go_sem, ↓reduceIte, Nat.reduceEqDiff, Nat.reduceAdd, Nat.reduceMul, Nat.reduceLeDiff, Nat.reduceLT, Nat.reduceBNe, reduceCtorEq]
  refine ⟨fun h3 => by simp [h3], fun h3 => ?_⟩
  have q3 := hgr.1 h3
  have hB := okB_iff.1 h1
  have hle13 := RO.le_trans hle1 (RO.le_trans hle2 hle3)
  refine vhandE (hO hB.keys R3 hle13) rfl ?_
  rintro R4 bs r hle4 ⟨rfl, ps, c, cs, rfl, rfl, hL, hps⟩
  try simp only [go_sem, ↓reduceIte, Nat.reduceEqDiff, Nat.reduceAdd, Nat.reduceMul, Nat.reduceLeDiff, Nat.reduceLT, Nat.reduceBNe, reduceCtorEq]
  refine vcall (bGroupOf b.groups p (personB_bd h2) gv R4 (hg.mono hle13)) ?_
  rintro R5 r hle5 rfl
  try simp only [go_sem, ↓reduceIte, Nat.reduceEqDiff, Nat.reduceAdd, Nat.reduceMul, Nat.reduceLeDiff, Nat.reduceLT, Nat.reduceBNe, reduceCtorEq]
  have hsm : SmallL (ps.map (·.1)) := by rw [hps]; exact hB.small hr
  have hK := bKnown ps c (grpOf b.groups p) k q3 R5 (hL.mono hle5) hsm
  refine vshow [2] [.mp 0, .val (.int .i64 (grpOf b.groups p)), .val (.int .i64 k)] [.mp (ents ps) c] hK rfl rfl rfl ?_ (by simp) rfl rfl (fun R' bs' r h => by rw [h.1]; rfl) ?_
  · try simp only [go_sem, ↓reduceIte, Nat.reduceEqDiff, Nat.reduceAdd, Nat.reduceMul, Nat.reduceLeDiff, Nat.reduceLT, Nat.reduceBNe, reduceCtorEq]
    rfl
  rintro R6 bs r hle6 ⟨rfl, mv, rfl, hmv⟩ _
  rw [hps] at hmv
  obtain ⟨ma, mcap, rfl, -, -⟩ := hmv.form
  simp only [go_sem, ↓reduceIte, Nat.reduceEqDiff, Nat.reduceAdd, Nat.reduceMul, Nat.reduceLeDiff, Nat.reduceLT, Nat.reduceBNe, reduceCtorEq, setG, rn]
  rw [if_pos ⟨h1, h2, h3⟩]
  exact ⟨_, rfl, hmv.mono (newR_sub (RO.le_trans hle13 hle5))⟩
end Go.Proofs.YtclkibjonbhldaaGreatDoor
/- Plain lemmas of our own, no statement of the seat: budget.Ask. -/
namespace Go.Proofs.YtclkibjonbhldaaGreatDoor
set_option linter.unusedSimpArgs false
set_option linter.unusedVariables false
open Go.Proofs.YtclkibjonbhldaaGreatDoor.Vc
theorem SpentV.of {R : RO} {v : Value} {qs : List Pe} {l : List Se} (h : EncV Pe.cells 3 R v qs) (hl : qs.map (·.1) = l) (hv : ∀ q ∈ qs, SpV R q.val q.1.cells) : SpentV R v l := by
  refine ⟨qs.map fun q => (q.1, q.val), ⟨?_, by simpa using h.2⟩, by rw [List.map_map]; exact hl, fun p hp => ?_⟩
  · rw [List.map_map]; exact h.1
  · obtain ⟨q, hq, rfl⟩ := List.mem_map.1 hp
    exact hv q hq
theorem SpentV.nil (R : RO) : SpentV R (.slice none 0 0) [] := SpentV.of (qs := []) (EncV.nil _ _ _) rfl (by simp)
theorem GV.nil (R : RO) : GV R (.slice none 0 0) [] := ⟨[], EncV.nil _ _ _, rfl, fun i h => absurd h (by simp)⟩
theorem rowV {R : RO} {b cap : Nat} {hs : List Value} (h : RowIn R b hs) (hc : hs.length ≤ cap * 1) (hl : hs.length ≤ 1000000000) : EncV (fun x : Value => [x]) 1 R (.slice (some ⟨b, 0, none⟩) hs.length cap) hs :=
  RowIn.enc (enc := fun x : Value => [x]) (k := 1) (fun _ => rfl) (by omega) (by rw [flatV]; exact h) (by rw [flatV]; exact hc) hl
def zeroBu : Value := .agg #[.int .i64 0, .slice none 0 0, .slice none 0 0]
/-- What Ask answers. -/
def AskV (R : RO) (r : Value) (b : Bu) (p k : Int) (w : Sp) : Prop :=
  (checkI b p k w ≠ 0 ∧ r = .tuple #[zeroBu, .int .i64 (checkI b p k w)]) ∨
  (checkI b p k w = 0 ∧ b.limit < totalD (grpOf b.groups p) b.spent + costQ b p k w ∧ r = .tuple #[zeroBu, .int .i64 13]) ∨
  (checkI b p k w = 0 ∧ ¬ b.limit < totalD (grpOf b.groups p) b.spent + costQ b p k w ∧ ∃ bv, r = .tuple #[bv, .int .i64 0] ∧ BuV R bv (askB b p k w))
theorem leaf_gs {j n : Nat} {s : St} {kl : Value → St → Prop} {tl : Tok kl} (h0 : n = 0 → kl (.slice none 0 0) s) (h1 : n ≠ 0 → LeafT (.sl j n) s kl tl) : LeafT (gs j n) s kl tl := by
  by_cases h : n = 0
  · subst h; exact h0 rfl
  · rw [gs_pos h]; exact h1 h
theorem addS_facts {b : Bu} (hB : OkB b) (hr : RawB b) {p k : Int} {w : Sp} (hw : OkW k w) (hc : (w.t - w.f) / sizeI k ≤ 65536) : (lookD b.spent (grpOf b.groups p) k).length + (missQ b p k w).length ≤ 10000000 ∧ rangedB (lookD b.spent (grpOf b.groups p) k) = true ∧ rangedB (missQ b p k w) = true := by
  have h1 := (hB.small hr).look (grpOf b.groups p) k
  have h2 := missD_facts (K := memS (knownD b.spent (grpOf b.groups p) k)) hw
  unfold missQ
  exact ⟨by omega, h1.1, h2.2.1⟩
def AskQ (b : Bu) (p k : Int) (gv sv mv : Value) (ps : List Le) (c : Nat) (w : Sp) (R : RO) (s : St) : Prop :=
  ∃ env R1 z x y, s = ⟨env, [.box [.val (.int .i64 b.limit), .val gv, .val sv], .box [.val (.int .i64 w.f), .val (.int .i64 w.t)], .box [.val (.int .i64 0), .val (.slice none 0 0), .val (.slice none 0 0)], z, .mp (ents ps) c, .dead, x, y], R1⟩ ∧ RO.le R R1 ∧
    env 2 = .val (.int .i64 k) ∧ env 4 = .loc 0 0 ∧ env 8 = .loc 2 0 ∧ env 11 = .val (.int .i64 (grpOf b.groups p)) ∧ env 12 = .mp 4 ∧ env 13 = .val mv ∧ env 46 = .val (.bool (decide (b.limit < totalD (grpOf b.groups p) b.spent + costQ b p k w)))
set_option maxHeartbeats 4000000 in
theorem bAsk (b : Bu) (hr : RawB b) (p k : Int) (w : Sp) (v : Value) (R : RO) (hz : SzR R) (h : BuV R v b) : CallsR Tryz.prog 36 [v, .int .i64 p, .int .i64 k, .agg w.cells.toArray] R fun R' r => AskV (newR R R') r b p k w := by
  have hC := fun R' hle => bCheck b hr p k w v R' (SzR.mono (R' := R') hz hle) (BuV.mono (R' := R') h hle)
  have hO := fun hk R' hle => bOpen b hk v R' (BuV.mono (R' := R') h hle)
  have hM := fun ps c hk hw R' hle hL hs => bMissing ps c (grpOf b.groups p) k w hk hw R' (SzR.mono (R' := R') hz hle) hL hs
  obtain ⟨gv, sv, rfl, hg, hs⟩ := h
  simp only [Sp.cells] at hC hM ⊢
  refine callsT mix Tryz.func36 comp36 (by simp [Tryz.ntmps36]) ?_; simp only [go_sem, ↓reduceIte, Nat.reduceEqDiff, Nat.reduceAdd, Nat.reduceMul, Nat.reduceLeDiff, Nat.reduceLT, Nat.reduceBNe, reduceCtorEq, vc36, rs36]
  refine vcall (hC R (RO.le_refl _)) ?_
  rintro R1 r hle1 rfl
  try simp only [go_sem, ↓reduceIte, Nat.reduceEqDiff, Nat.reduceAdd, Nat.reduceMul, Nat.reduceLeDiff, Nat.reduceLT, Nat.reduceBNe, reduceCtorEq]
  refine ⟨fun h1 => .inl ⟨h1, rfl⟩, fun h1 => ?_⟩
  obtain ⟨⟨q1, q2, q3, q4⟩, q5⟩ := checkI_zero.1 h1
  have hB := okB_iff.1 q1
  refine vcall (bGroupOf b.groups p (personB_bd q2) gv R1 (hg.mono hle1)) ?_
  rintro R2 r hle2 rfl
  try simp only [go_sem, ↓reduceIte, Nat.reduceEqDiff, Nat.reduceAdd, Nat.reduceMul, Nat.reduceLeDiff, Nat.reduceLT, Nat.reduceBNe, reduceCtorEq]
  have hle12 := RO.le_trans hle1 hle2
  refine vhandE (hO hB.keys R2 hle12) rfl ?_
  rintro R3 bs r hle3 ⟨rfl, ps, c, cs, rfl, rfl, hL, hps⟩
  try simp only [go_sem, ↓reduceIte, Nat.reduceEqDiff, Nat.reduceAdd, Nat.reduceMul, Nat.reduceLeDiff, Nat.reduceLT, Nat.reduceBNe, reduceCtorEq]
  have hsm : SmallL (ps.map (·.1)) := by rw [hps]; exact hB.small hr
  refine vshow [4] [.mp 0, .val (.int .i64 (grpOf b.groups p)), .val (.int .i64 k), .val (.agg #[.int .i64 w.f, .int .i64 w.t])] [.mp (ents ps) c] (hM ps c q3 q4 R3 hle12 hL hsm) rfl rfl rfl ?_ (by simp) rfl rfl (fun R' bs' r h => by rw [h.1]; rfl) ?_
  · try simp only [go_sem, ↓reduceIte, Nat.reduceEqDiff, Nat.reduceAdd, Nat.reduceMul, Nat.reduceLeDiff, Nat.reduceLT, Nat.reduceBNe, reduceCtorEq]
    rfl
  rintro R4 bs r hle4 ⟨rfl, mv, rfl, hmv⟩ _
  have hmv := hmv.mono newR_le
  rw [hps] at hmv
  have hmf := missD_facts (K := memS (knownD b.spent (grpOf b.groups p) k)) q4
  have hcnt := countL_range (sizeI_one k).1 hmf.1 hmf.2.1 (missQ b p k w).length
  have htake : (missD (sizeI k) (memS (knownD b.spent (grpOf b.groups p) k)) w).take (missQ b p k w).length = missQ b p k w := by unfold missQ; rw [List.take_length]
  rw [htake] at hcnt
  have htot := totalD_bd (g := grpOf b.groups p) (hB.okC hr)
  have hbl := hr.len
  obtain ⟨ma, mcap, rfl, -, -⟩ := hmv.form
  have hle14 := RO.le_trans hle12 hle4
  have hLO : ∀ s ∈ ps.map (·.1), OkC s := by rw [hps]; exact hB.okC hr
  have hpl : ps.length ≤ 1000 := by
    have := congrArg List.length hps
    rw [List.length_map] at this
    omega
  (refine cutS (fun s' => s' = ?_) ?_ ?_; rotate_left; (try simp only [go_sem, ↓reduceIte, Nat.reduceEqDiff, Nat.reduceAdd, Nat.reduceMul, Nat.reduceLeDiff, Nat.reduceLT, Nat.reduceBNe, reduceCtorEq, setG, rn]; rfl); rintro _ rfl)
  rw [tCode_seq, tCode_seq]
  refine cutT (AskQ b p k gv sv (.slice ma (missD (sizeI k) (memS (knownD b.spent (grpOf b.groups p) k)) w).length mcap) ps c w R4) ?_ ?_
  · try simp only [go_sem, ↓reduceIte, Nat.reduceEqDiff, Nat.reduceAdd, Nat.reduceMul, Nat.reduceLeDiff, Nat.reduceLT, Nat.reduceBNe, reduceCtorEq]
    refine ⟨by omega, by omega, vload _ ((hz.mono hle14).get q3) ?_⟩
    try simp only [go_sem, ↓reduceIte, Nat.reduceEqDiff, Nat.reduceAdd, Nat.reduceMul, Nat.reduceLeDiff, Nat.reduceLT, Nat.reduceBNe, reduceCtorEq]
    refine ⟨?_, ?_⟩
    · refine vshow [4] [.mp 0, .val (.int .i64 (grpOf b.groups p))] [.mp (ents ps) c] (bTotal ps c (grpOf b.groups p) R4 (hz.mono hle14) (hL.mono hle4) hLO hpl) rfl rfl rfl ?_ (by simp) rfl rfl (fun R' bs' r h => by obtain ⟨b1, rfl, _⟩ := h; rfl) ?_
      { try simp only [go_sem, ↓reduceIte, Nat.reduceEqDiff, Nat.reduceAdd, Nat.reduceMul, Nat.reduceLeDiff, Nat.reduceLT, Nat.reduceBNe, reduceCtorEq]
        rfl }
      rintro R5 bs r hle5 ⟨b1, rfl, rfl⟩ _
      rw [hps]
      simp only [go_sem, ↓reduceIte, Nat.reduceEqDiff, Nat.reduceAdd, Nat.reduceMul, Nat.reduceLeDiff, Nat.reduceLT, Nat.reduceBNe, reduceCtorEq, setG, rn]
      refine vfreeze ?_
      try simp only [go_sem, ↓reduceIte, Nat.reduceEqDiff, Nat.reduceAdd, Nat.reduceMul, Nat.reduceLeDiff, Nat.reduceLT, Nat.reduceBNe, reduceCtorEq]
      intro b2 cap2 R6 hle6 hrow6 hcap6 hfr6
      refine vcall (bCount (sizeI k) (sizeI_one k).1 _ hmf.1 hmf.2.1 _ ⟨b2, 0, none⟩ cap2 R6 (hrow6 0 _ rfl) (hmv.mono (RO.le_trans hle5 hle6))) ?_
      rintro R7 r hle7 rfl
      try simp only [go_sem, ↓reduceIte, Nat.reduceEqDiff, Nat.reduceAdd, Nat.reduceMul, Nat.reduceLeDiff, Nat.reduceLT, Nat.reduceBNe, reduceCtorEq]
      have hsum : totalD (grpOf b.groups p) b.spent + countL (sizeI k) (missD (sizeI k) (memS (knownD b.spent (grpOf b.groups p) k)) w) = totalD (grpOf b.groups p) b.spent + costQ b p k w := rfl
      have hcq : costQ b p k w = countL (sizeI k) (missQ b p k w) := rfl
      refine ⟨_, W.in64 (by omega), ?_⟩
      rw [hsum]
      refine ⟨_, _, _, _, _, rfl, RO.le_trans hle5 (RO.le_trans hle6 hle7), ?_⟩
      try simp only [go_sem, ↓reduceIte, Nat.reduceEqDiff, Nat.reduceAdd, Nat.reduceMul, Nat.reduceLeDiff, Nat.reduceLT, Nat.reduceBNe, reduceCtorEq]
      rfl
    · refine vshow [4] [.mp 0, .val (.int .i64 (grpOf b.groups p))] [.mp (ents ps) c] (bTotal ps c (grpOf b.groups p) R4 (hz.mono hle14) (hL.mono hle4) hLO hpl) rfl rfl rfl ?_ (by simp) rfl rfl (fun R' bs' r h => by obtain ⟨b1, rfl, _⟩ := h; rfl) ?_
      { try simp only [go_sem, ↓reduceIte, Nat.reduceEqDiff, Nat.reduceAdd, Nat.reduceMul, Nat.reduceLeDiff, Nat.reduceLT, Nat.reduceBNe, reduceCtorEq]
        rfl }
      rintro R5 bs r hle5 ⟨b1, rfl, rfl⟩ _
      rw [hps]
      simp only [go_sem, ↓reduceIte, Nat.reduceEqDiff, Nat.reduceAdd, Nat.reduceMul, Nat.reduceLeDiff, Nat.reduceLT, Nat.reduceBNe, reduceCtorEq, setG, rn]
      refine vfreeze ?_
      try simp only [go_sem, ↓reduceIte, Nat.reduceEqDiff, Nat.reduceAdd, Nat.reduceMul, Nat.reduceLeDiff, Nat.reduceLT, Nat.reduceBNe, reduceCtorEq]
      intro b2 cap2 R6 hle6 hrow6 hcap6 hfr6
      refine vcall (bCount (sizeI k) (sizeI_one k).1 _ hmf.1 hmf.2.1 _ ⟨b2, 0, none⟩ cap2 R6 (hrow6 0 _ rfl) (hmv.mono (RO.le_trans hle5 hle6))) ?_
      rintro R7 r hle7 rfl
      try simp only [go_sem, ↓reduceIte, Nat.reduceEqDiff, Nat.reduceAdd, Nat.reduceMul, Nat.reduceLeDiff, Nat.reduceLT, Nat.reduceBNe, reduceCtorEq]
      have hsum : totalD (grpOf b.groups p) b.spent + countL (sizeI k) (missD (sizeI k) (memS (knownD b.spent (grpOf b.groups p) k)) w) = totalD (grpOf b.groups p) b.spent + costQ b p k w := rfl
      have hcq : costQ b p k w = countL (sizeI k) (missQ b p k w) := rfl
      refine ⟨_, W.in64 (by omega), ?_⟩
      rw [hsum]
      refine ⟨_, _, _, _, _, rfl, RO.le_trans hle5 (RO.le_trans hle6 hle7), ?_⟩
      try simp only [go_sem, ↓reduceIte, Nat.reduceEqDiff, Nat.reduceAdd, Nat.reduceMul, Nat.reduceLeDiff, Nat.reduceLT, Nat.reduceBNe, reduceCtorEq]
      rfl
  · rintro s' ⟨env, R5, z, x, y, rfl, hle5, e2, e4, e8, e11, e12, e13, e46⟩
    simp only [go_sem, ↓reduceIte, Nat.reduceEqDiff, Nat.reduceAdd, Nat.reduceMul, Nat.reduceLeDiff, Nat.reduceLT, Nat.reduceBNe, reduceCtorEq, e2, e4, e8, e11, e12, e13, e46]
    refine ⟨fun h2 => .inr (.inl ⟨h1, h2, rfl⟩), fun h2 => ?_⟩
    have hle15 := RO.le_trans hle14 hle5
    obtain ⟨f1, f2, f3⟩ := addS_facts (p := p) hB hr q4 q5
    rw [← hps] at f1 f2
    refine vhand [4] [.mp 0, .val (accV (grpOf b.groups p) k), .val (.slice ma (missD (sizeI k) (memS (knownD b.spent (grpOf b.groups p) k)) w).length mcap)] [.mp (ents ps) c] (bAdd ps c (grpOf b.groups p) k (missQ b p k w) _ R5 (hL.mono (RO.le_trans hle4 hle5)) (hmv.mono hle5) f2 f3 f1) rfl rfl rfl ?_ (by simp) rfl rfl ?_
    · try simp only [go_sem, ↓reduceIte, Nat.reduceEqDiff, Nat.reduceAdd, Nat.reduceMul, Nat.reduceLeDiff, Nat.reduceLT, Nat.reduceBNe, reduceCtorEq]
    rintro R6 bs r hle6 ⟨ps', c', bx, rfl, rfl, hL', hps'⟩ _
    simp only [go_sem, ↓reduceIte, Nat.reduceEqDiff, Nat.reduceAdd, Nat.reduceMul, Nat.reduceLeDiff, Nat.reduceLT, Nat.reduceBNe, reduceCtorEq, setG, rn, e2, e4, e8, e11, e12, e13, e46]
    have hle16 := RO.le_trans hle15 hle6
    refine vhandE (bCloned b.groups gv R6 (hg.mono hle16)) rfl ?_
    rintro R7 bs r hle7 ⟨hs, rfl, rfl, hH⟩
    simp only [go_sem, ↓reduceIte, Nat.reduceEqDiff, Nat.reduceAdd, Nat.reduceMul, Nat.reduceLeDiff, Nat.reduceLT, Nat.reduceBNe, reduceCtorEq, renB_gb, e2, e4, e8, e11, e12, e13, e46]
    have hpl' : ps'.length ≤ 1000000 := by
      have h3 := congrArg List.length hps'
      rw [List.length_map] at h3
      have h4 : (addP (ps.map (·.1)) (grpOf b.groups p) k (missQ b p k w)).length ≤ (ps.map (·.1)).length + 1 := by
        unfold addP putD
        split
        · omega
        · split <;> simp
      rw [List.length_map] at h4
      omega
    refine vshow [4] [.mp 0] [.mp (ents ps') c'] (bClose ps' c' R7 (hL'.mono hle7) hpl') rfl rfl rfl ?_ (by simp) rfl rfl (fun R' bs' r h => by obtain ⟨b1, qs, rfl, _⟩ := h; rfl) ?_
    · try simp only [go_sem, ↓reduceIte, Nat.reduceEqDiff, Nat.reduceAdd, Nat.reduceMul, Nat.reduceLeDiff, Nat.reduceLT, Nat.reduceBNe, reduceCtorEq]
      rfl
    rintro R8 bs r hle8 ⟨b1, qs, rfl, rfl, hq1, hq2, hq3⟩ _
    simp only [go_sem, ↓reduceIte, Nat.reduceEqDiff, Nat.reduceAdd, Nat.reduceMul, Nat.reduceLeDiff, Nat.reduceLT, Nat.reduceBNe, reduceCtorEq, renB_gb, setG, rn, ren_gs, e2, e4, e8, e11, e12, e13, e46]
    have hr1 : (List.range' 9 1).getD 0 0 = 9 := rfl
    rw [hr1]
    have hr2 : gs ((4 :: List.range' 10 (3 - 1)).getD 2 2) qs.length = gs 11 qs.length := rfl
    have hhl := hH.len
    have hgl := (hg.form).1
    have hsp : qs.map (·.1) = (askB b p k w).spent := sorted_ext hq2 (addS_sorted hB.ord) fun s => by
      rw [hq1.mem_iff, hps']
      exact addP_addS hB.ord (by rw [hps]; exact hB.keys) (fun s => by rw [hps]) s
    have hql : qs.length ≤ 1000000 := by
      have h3 := hq1.length_eq
      rw [List.length_map, List.length_map] at h3
      omega
    have fin : ∀ (R9 : RO) (gv' sv' : Value), GV (newR R R9) gv' b.groups → SpentV (newR R R9) sv' (askB b p k w).spent → AskV (newR R R9) (.tuple #[.agg #[.int .i64 b.limit, gv', sv'], .int .i64 0]) b p k w := fun R9 gv' sv' hg' hs' => .inr (.inr ⟨h1, h2, _, rfl, _, _, rfl, hg', hs'⟩)
    have hr3 : (List.range' 10 (3 - 1)).getD 1 2 = 11 := rfl
    have hqne : qs.length ≠ 0 → rowP qs ≠ [] := fun h e => by
      have := rowP_len qs
      rw [e] at this
      simp at this
      omega
    have hgnil : hs.length = 0 → b.groups = [] := fun h => List.eq_nil_of_length_eq_zero (by omega)
    have hsnil : qs.length = 0 → (askB b p k w).spent = [] := fun h => by rw [← hsp, List.eq_nil_of_length_eq_zero h]; rfl
    have hle78 := RO.le_trans hle7 hle8
    have hle17 := RO.le_trans hle16 hle7
    have hGs : ∀ (R9 : RO) b2 cap2, RO.le R8 R9 → RowIn R9 b2 hs → hs.length ≤ cap2 → Fresh R8 b2 → ∀ R10, RO.le R9 R10 → GV (newR R R10) (.slice (some ⟨b2, 0, none⟩) hs.length cap2) b.groups := fun R9 b2 cap2 hle9 hrow hcap hfr R10 hle10 =>
      (hH.mono (fun a u hn => ⟨hle10 _ _ (hle9 _ _ (hle8 _ _ hn.1)), (newR_sub hle16 _ _ hn).2⟩)).gv (rowV (fun i v hi => newR_mono hle10 _ _ ((hrow.new hfr (RO.le_trans hle17 hle8)) i v hi)) (by omega) (by omega))
    have hSs : ∀ (R9 : RO) b2 cap2, RO.le R8 R9 → RowIn R9 b2 (rowP qs) → (rowP qs).length ≤ cap2 * 3 → Fresh R8 b2 → SpentV (newR R R9) (.slice (some ⟨b2, 0, none⟩) qs.length cap2) (askB b p k w).spent := fun R9 b2 cap2 hle9 hrow hcap hfr =>
      SpentV.of (RowIn.enc (enc := Pe.cells) (k := 3) (fun _ => rfl) (by omega) (hrow.new hfr (RO.le_trans hle17 hle8)) hcap (by omega)) hsp fun q hq => (hq3 q hq).mono fun a u hn => ⟨hle9 _ _ hn.1, (newR_sub hle17 _ _ hn).2⟩
    refine leaf_gs (fun h0 => ?_) (fun h0 => ?_)
    · have hg0 := hgnil h0
      try simp only [go_sem, ↓reduceIte, Nat.reduceEqDiff, Nat.reduceAdd, Nat.reduceMul, Nat.reduceLeDiff, Nat.reduceLT, Nat.reduceBNe, reduceCtorEq]
      refine leaf_gs (fun h3 => ?_) (fun h3 => ?_)
      · simp only [go_sem, ↓reduceIte, Nat.reduceEqDiff, Nat.reduceAdd, Nat.reduceMul, Nat.reduceLeDiff, Nat.reduceLT, Nat.reduceBNe, reduceCtorEq, e2, e4, e8, e11, e12, e13, e46]
        refine fin R8 _ _ ?_ ?_
        · rw [hg0]; exact GV.nil _
        · rw [hsnil h3]; exact SpentV.nil _
      · rw [gb_ne (hqne h3)]
        simp only [go_sem, ↓reduceIte, Nat.reduceEqDiff, Nat.reduceAdd, Nat.reduceMul, Nat.reduceLeDiff, Nat.reduceLT, Nat.reduceBNe, reduceCtorEq, hr3]
        intro b2 cap2 R9 hle9 hrow hcap hfr
        simp only [go_sem, ↓reduceIte, Nat.reduceEqDiff, Nat.reduceAdd, Nat.reduceMul, Nat.reduceLeDiff, Nat.reduceLT, Nat.reduceBNe, reduceCtorEq, e2, e4, e8, e11, e12, e13, e46]
        refine fin R9 _ _ ?_ ?_
        · rw [hg0]; exact GV.nil _
        · exact hSs R9 b2 cap2 hle9 hrow hcap hfr
    · rw [gb_ne (show hs ≠ [] from fun e => h0 (by rw [e]; rfl))]
      simp only [go_sem, ↓reduceIte, Nat.reduceEqDiff, Nat.reduceAdd, Nat.reduceMul, Nat.reduceLeDiff, Nat.reduceLT, Nat.reduceBNe, reduceCtorEq, hr3]
      intro b2 cap2 R9 hle9 hrow hcap hfr
      try simp only [go_sem, ↓reduceIte, Nat.reduceEqDiff, Nat.reduceAdd, Nat.reduceMul, Nat.reduceLeDiff, Nat.reduceLT, Nat.reduceBNe, reduceCtorEq, hr3]
      refine leaf_gs (fun h3 => ?_) (fun h3 => ?_)
      · simp only [go_sem, ↓reduceIte, Nat.reduceEqDiff, Nat.reduceAdd, Nat.reduceMul, Nat.reduceLeDiff, Nat.reduceLT, Nat.reduceBNe, reduceCtorEq, e2, e4, e8, e11, e12, e13, e46]
        refine fin R9 _ _ (hGs R9 b2 cap2 hle9 hrow hcap hfr R9 (RO.le_refl _)) ?_
        rw [hsnil h3]; exact SpentV.nil _
      · rw [gb_ne (hqne h3)]
        simp only [go_sem, ↓reduceIte, Nat.reduceEqDiff, Nat.reduceAdd, Nat.reduceMul, Nat.reduceLeDiff, Nat.reduceLT, Nat.reduceBNe, reduceCtorEq, hr3]
        intro b3 cap3 R10 hle10 hrow3 hcap3 hfr3
        simp only [go_sem, ↓reduceIte, Nat.reduceEqDiff, Nat.reduceAdd, Nat.reduceMul, Nat.reduceLeDiff, Nat.reduceLT, Nat.reduceBNe, reduceCtorEq, e2, e4, e8, e11, e12, e13, e46]
        exact fin R10 _ _ (hGs R9 b2 cap2 hle9 hrow hcap hfr R10 hle10) (hSs R10 b3 cap3 (RO.le_trans hle9 hle10) hrow3 hcap3 fun a u hx => hfr3 a u (hle9 _ _ hx))
end Go.Proofs.YtclkibjonbhldaaGreatDoor
/- Plain lemmas of our own, no statement of the seat: the ledger's moved; members. -/
namespace Go.Proofs.YtclkibjonbhldaaGreatDoor
set_option linter.unusedSimpArgs false
set_option linter.unusedVariables false
open Go.Proofs.YtclkibjonbhldaaGreatDoor.Vc
/-- The number of a group once the group 'gone' is removed. -/
def upG (gone g : Int) : Int := if gone < g then g - 1 else g
def upS (gone : Int) (s : Se) : Se := ⟨upG gone s.group, s.grain, s.cells⟩
theorem putD_new {l : List Se} {g k : Int} {cs : List Sp} (h : ∀ s ∈ l, seKey s ≠ (g, k)) : putD l g k cs = l ++ [⟨g, k, cs⟩] := by
  unfold putD
  rw [List.findIdx?_eq_none_iff.2 fun x hx => by simpa using h x hx]
theorem born_key {R : RO} {ps : List Le} {c : Nat} (hL : LedOK R ps c) {p q : Le} (hp : p ∈ ps) (hq : q ∈ ps) (h : seKey p.1 = seKey q.1) : p = q := by
  obtain ⟨i, hi, rfl⟩ := List.mem_iff_getElem.1 hp
  obtain ⟨j, hj, rfl⟩ := List.mem_iff_getElem.1 hq
  have h1 : (ps.map fun p => seKey p.1)[i]'(by simpa using hi) = (ps.map fun p => seKey p.1)[j]'(by simpa using hj) := by simpa using h
  have := nodup_inj hL.keys h1
  subst this; rfl
set_option maxHeartbeats 1000000 in
theorem bMoved (ps : List Le) (c : Nat) (gone : Int) (R : RO) (hL : LedOK R ps c) (hg : ∀ p ∈ ps, p.1.group ≠ gone) (hr : ∀ p ∈ ps, I64 p.1.group) (hgn : -1000000 ≤ gone) : CallsS Tryz.prog 50 [.mp 0, .val (.int .i64 gone)] [.mp (ents ps) c] R fun R' bs r =>
    R' = R ∧ ∃ ps' c' b2, bs = [.mp (ents ps) c, .mp (ents ps') c', b2] ∧ r = .mp 1 ∧ LedOK R ps' c' ∧ (ps'.map (·.1)).Perm ((ps.map (·.1)).map (upS gone)) := by
  have hborn : ((ents ps).map (·.born)).Nodup := by rw [ents_born]; exact hL.born
  refine callsTS mix Tryz.func50 comp50 (by simp [Tryz.ntmps50]) rfl rfl ?_; simp only [go_sem, ↓reduceIte, Nat.reduceEqDiff, Nat.reduceAdd, Nat.reduceMul, Nat.reduceLeDiff, Nat.reduceLT, Nat.reduceBNe, reduceCtorEq, vc50, rs50]
  refine vcLoopR (List Le × List Le × Nat) (fun x => [(10, .loc 2 0), (5, .mp 1), (0, .mp 0), (1, .val (.int .i64 gone))]) (fun x => [.mp (ents ps) c, .mp (ents x.2.1) x.2.2, .it 0 c (x.1.map fun p => p.2.2) c])
    (fun x R' => R' = R ∧ Vis ps x.1 ∧ LedOK R x.2.1 x.2.2 ∧ x.2.1.map (·.1) = (x.1.map (·.1)).map (upS gone)) (fun x => ps.length - x.1.length) ([], [], 0) [] ?_ ?_ ?_ ?_
  · (try simp only [go_sem, ↓reduceIte, Nat.reduceEqDiff, Nat.reduceAdd, Nat.reduceMul, Nat.reduceLeDiff, Nat.reduceLT, Nat.reduceBNe, reduceCtorEq]) <;> (repeat' (first | rfl | trivial | constructor | (intro h; exact absurd rfl h)))
  · simp only [go_sem, ↓reduceIte, Nat.reduceEqDiff, Nat.reduceAdd, Nat.reduceMul, Nat.reduceLeDiff, Nat.reduceLT, Nat.reduceBNe, reduceCtorEq, inScope, rnInj_nil]
    decide
  · exact ⟨rfl, Vis.nil ps, ⟨by simp, by simp, by simp, by simp⟩, rfl⟩
  rintro ⟨vs, qs, c2⟩ env R1 hle1 hE ⟨rfl, hv, hQ, hq⟩
  (simp only [go_sem] at hE; obtain ⟨e10, e5, e0, e1⟩ := hE; simp only [go_sem, ↓reduceIte, Nat.reduceEqDiff, Nat.reduceAdd, Nat.reduceMul, Nat.reduceLeDiff, Nat.reduceLT, Nat.reduceBNe, reduceCtorEq, e10, e5, e0, e1]; dsimp only at *)
  refine ⟨fun e he => ?_, fun hall => ?_, fun e' he' hun => ?_⟩
  · obtain ⟨p, hp, rfl⟩ := List.mem_map.1 he
    exact hL.lt p hp
  · have hp : vs.Perm ps := hv.perm hL.born fun p hp => by
      have := hall (ledEnt p) (List.mem_map_of_mem hp)
      rwa [List.contains_iff_mem] at this
    exact ⟨qs, c2, _, ⟨rfl, rfl, rfl⟩, hQ, by rw [hq]; exact (hp.map _).map _⟩
  · obtain ⟨p, hp, rfl⟩ := List.mem_map.1 he'
    have hun' : p.2.2 ∉ vs.map fun p => p.2.2 := mem_born.1 hun
    have hv' := hv.step hp hun'
    have hvl' := hv'.le
    rw [List.length_append, List.length_singleton] at hvl'
    refine vmentry (vs.map fun p => p.2.2) (ledEnt p) rfl rfl (List.mem_map_of_mem hp) hborn ?_
    have hpv := hL.val p hp
    have hpr := hr p hp
    unfold I64 at hpr
    obtain ⟨va, vcap, hval, -, -⟩ := hpv.form
    rw [hval] at hpv
    simp only [ledEnt, hval]
    obtain ⟨r, ps', c', q1, q2, q3, q4⟩ := hQ.put (upG gone p.1.group) p.1.grain hpv
    have hnew : ∀ s ∈ qs.map (·.1), seKey s ≠ (upG gone p.1.group, p.1.grain) := fun s hs e => by
      rw [hq] at hs
      obtain ⟨s', hs', rfl⟩ := List.mem_map.1 hs
      obtain ⟨x, hx, rfl⟩ := List.mem_map.1 hs'
      have h1 := hg p hp
      have h2 := hg x (hv.sub x hx)
      have hxp : seKey x.1 = seKey p.1 := by
        unfold seKey upS at e
        unfold seKey
        simp only [Prod.mk.injEq] at e ⊢
        unfold upG at e
        refine ⟨?_, e.2⟩
        have e1 := e.1
        split at e1 <;> split at e1 <;> omega
      have := born_key hL (hv.sub x hx) hp hxp
      subst this
      exact hun' (List.mem_map_of_mem hx)
    rw [putD_new hnew] at q4
    have hend : ps'.map (·.1) = ((vs ++ [p]).map (·.1)).map (upS gone) := by
      rw [q4, hq, List.map_append, List.map_append]; rfl
    simp only [go_sem, ↓reduceIte, Nat.reduceEqDiff, Nat.reduceAdd, Nat.reduceMul, Nat.reduceLeDiff, Nat.reduceLT, Nat.reduceBNe, reduceCtorEq, e10, e5, e0, e1]
    refine ⟨fun hgt => ⟨_, W.in64 (by omega), ?_⟩, fun hle => ?_⟩
    · rw [show upG gone p.1.group = p.1.group - 1 from if_pos hgt] at q1 q2
      refine ⟨mEq_pair (p.1.group - 1, p.1.grain) (p.1.group - 1, p.1.grain) |>.trans (by simp), vmput (ents qs) c2 r rfl q1 ?_⟩
      rw [q2]
      simp only [go_sem, ↓reduceIte, Nat.reduceEqDiff, Nat.reduceAdd, Nat.reduceMul, Nat.reduceLeDiff, Nat.reduceLT, Nat.reduceBNe, reduceCtorEq, e10, e5, e0, e1]
      refine ⟨(vs ++ [p], ps', c'), [], by show _ - (vs ++ [p]).length < _; rw [List.length_append, List.length_singleton]; omega, ?_, ?_, hv', q3, hend⟩
      · show _ ∧ _
        rw [List.map_append]
        try simp only [go_sem, ↓reduceIte, Nat.reduceEqDiff, Nat.reduceAdd, Nat.reduceMul, Nat.reduceLeDiff, Nat.reduceLT, Nat.reduceBNe, reduceCtorEq]
      · simp only [go_sem, ↓reduceIte, Nat.reduceEqDiff, Nat.reduceAdd, Nat.reduceMul, Nat.reduceLeDiff, Nat.reduceLT, Nat.reduceBNe, reduceCtorEq, inScope, rnInj_nil]
        decide
    · rw [show upG gone p.1.group = p.1.group from if_neg hle] at q1 q2
      refine ⟨mEq_pair (p.1.group, p.1.grain) (p.1.group, p.1.grain) |>.trans (by simp), vmput (ents qs) c2 r rfl q1 ?_⟩
      rw [q2]
      simp only [go_sem, ↓reduceIte, Nat.reduceEqDiff, Nat.reduceAdd, Nat.reduceMul, Nat.reduceLeDiff, Nat.reduceLT, Nat.reduceBNe, reduceCtorEq, e10, e5, e0, e1]
      refine ⟨(vs ++ [p], ps', c'), [], by show _ - (vs ++ [p]).length < _; rw [List.length_append, List.length_singleton]; omega, ?_, ?_, hv', q3, hend⟩
      · show _ ∧ _
        rw [List.map_append]
        try simp only [go_sem, ↓reduceIte, Nat.reduceEqDiff, Nat.reduceAdd, Nat.reduceMul, Nat.reduceLeDiff, Nat.reduceLT, Nat.reduceBNe, reduceCtorEq]
      · simp only [go_sem, ↓reduceIte, Nat.reduceEqDiff, Nat.reduceAdd, Nat.reduceMul, Nat.reduceLeDiff, Nat.reduceLT, Nat.reduceBNe, reduceCtorEq, inScope, rnInj_nil]
        decide
/-- The members of a group, given by its number. -/
def membersD (gs : List (List Int)) (g : Int) : List Int := if g < 0 then [-1 - g] else gs.getD g.toNat []
theorem bMembers (gl : List (List Int)) (hs : List Value) (g : Int) (hgl : g < gl.length) (hlo : -1000000 ≤ g) (a : Option Addr) (cap : Nat) (R : RO) (hH : HsV R hs gl) (hv : EncV (fun x : Value => [x]) 1 R (.slice a hs.length cap) hs) : CallsR Tryz.prog 46 [.slice a hs.length cap, .int .i64 g] R fun R' r =>
    (0 ≤ g → some r = hs[g.toNat]?) ∧ (g < 0 → IntV (newR R R') r [-1 - g]) := by
  have hhl := hH.len
  obtain ⟨a', cap', e, hc, hf⟩ := hv.form
  simp only [Value.slice.injEq] at e
  obtain ⟨rfl, -, rfl⟩ := e
  refine callsT mix Tryz.func46 comp46 (by simp [Tryz.ntmps46]) ?_; simp only [go_sem, ↓reduceIte, Nat.reduceEqDiff, Nat.reduceAdd, Nat.reduceMul, Nat.reduceLeDiff, Nat.reduceLT, Nat.reduceBNe, reduceCtorEq, vc46, rs46]
  refine ⟨fun hn => ⟨_, W.in64 (by omega), ?_⟩, fun hn => ?_⟩
  · intro b2 cap2 R2 hle2 hrow hcap hfr
    refine ⟨fun h => by omega, fun _ => ?_⟩
    exact RowIn.enc (enc := fun x : Int => [Value.int .i64 x]) (k := 1) (xs := [-1 - g]) (fun _ => rfl) (by omega) (hrow.new hfr (RO.le_refl _)) (by simpa using hcap) (by simp)
  · have hlt : g.toNat < hs.length := by omega
    obtain ⟨ad, had, hR⟩ := hf g.toNat hlt
    refine ⟨by omega, by omega, vat ad had ?_⟩
    try simp only [go_sem, ↓reduceIte, Nat.reduceEqDiff, Nat.reduceAdd, Nat.reduceMul, Nat.reduceLeDiff, Nat.reduceLT, Nat.reduceBNe, reduceCtorEq]
    have h0 := hR 0 _ rfl
    rw [add_add, Nat.mul_one, Nat.add_zero] at h0
    refine vload _ h0 ?_
    try simp only [go_sem, ↓reduceIte, Nat.reduceEqDiff, Nat.reduceAdd, Nat.reduceMul, Nat.reduceLeDiff, Nat.reduceLT, Nat.reduceBNe, reduceCtorEq]
    exact ⟨fun _ => by rw [List.getElem?_eq_getElem hlt], fun h => by omega⟩
end Go.Proofs.YtclkibjonbhldaaGreatDoor
/- Plain lemmas of our own, no statement of the seat: slices.Sort, Delete, Grow, Concat, at memory of the caller's own. -/
namespace Go.Proofs.YtclkibjonbhldaaGreatDoor
set_option linter.unusedSimpArgs false
set_option linter.unusedVariables false
open Go.Proofs.YtclkibjonbhldaaGreatDoor.Vc Go.Shelf Go.Sort Go.RowKit
def Tryz.sortA_ren : Go.Shelf.Ren := ⟨fun | 5 => 47 | 8 => 84 | 7 => 83 | 19 => 108 | 20 => 109 | 10 => 99 | 11 => 100 | 12 => 101 | 13 => 102 | 14 => 103 | 15 => 104 | 16 => 105 | 17 => 106 | 18 => 107 | 30 => 124 | 31 => 125 | 32 => 126 | 33 => 127 | 34 => 128 | 35 => 112 | 40 => 134 | n => n, fun | 23 => 64 | 25 => 3 | 3 => 3 | 32 => 113 | 22 => 64 | 0 => 0 | 44 => 134 | 46 => 136 | 4 => 4 | 36 => 126 | 35 => 125 | 41 => 131 | 5 => 5 | 9 => 9 | 53 => 147 | 57 => 151 | 63 => 157 | 64 => 158 | n => n, fun | n => n⟩
theorem Tryz.sortA : Go.Proofs.SlLaysM.n5 Tryz.prog Tryz.sortA_ren := {
  mixed := by kernel_rfl
  f5 := ⟨Tryz.f47.name, by decide, Tryz.func47.trans (congrArg some (by kernel_rfl))⟩
  f7 := ⟨Tryz.f83.name, by decide, Tryz.func83.trans (congrArg some (by kernel_rfl))⟩
  f8 := Tryz.func84.trans (congrArg some (by kernel_rfl))
  f10 := ⟨Tryz.f99.name, by decide, Tryz.func99.trans (congrArg some (by kernel_rfl))⟩
  f11 := ⟨Tryz.f100.name, by decide, Tryz.func100.trans (congrArg some (by kernel_rfl))⟩
  f12 := ⟨Tryz.f101.name, by decide, Tryz.func101.trans (congrArg some (by kernel_rfl))⟩
  f13 := ⟨Tryz.f102.name, by decide, Tryz.func102.trans (congrArg some (by kernel_rfl))⟩
  f14 := ⟨Tryz.f103.name, by decide, Tryz.func103.trans (congrArg some (by kernel_rfl))⟩
  f15 := ⟨Tryz.f104.name, by decide, Tryz.func104.trans (congrArg some (by kernel_rfl))⟩
  f16 := ⟨Tryz.f105.name, by decide, Tryz.func105.trans (congrArg some (by kernel_rfl))⟩
  f17 := ⟨Tryz.f106.name, by decide, Tryz.func106.trans (congrArg some (by kernel_rfl))⟩
  f18 := ⟨Tryz.f107.name, by decide, Tryz.func107.trans (congrArg some (by kernel_rfl))⟩
  f19 := Tryz.func108.trans (congrArg some (by kernel_rfl))
  f20 := Tryz.func109.trans (congrArg some (by kernel_rfl))
  f30 := ⟨Tryz.f124.name, by decide, Tryz.func124.trans (congrArg some (by kernel_rfl))⟩
  f31 := Tryz.func125.trans (congrArg some (by kernel_rfl))
  f32 := Tryz.func126.trans (congrArg some (by kernel_rfl))
  f33 := ⟨Tryz.f127.name, by decide, Tryz.func127.trans (congrArg some (by kernel_rfl))⟩
  f34 := ⟨Tryz.f128.name, by decide, Tryz.func128.trans (congrArg some (by kernel_rfl))⟩
  f35 := ⟨Tryz.f112.name, by decide, Tryz.func112.trans (congrArg some (by kernel_rfl))⟩
  f40 := ⟨Tryz.f134.name, by decide, Tryz.func134.trans (congrArg some (by kernel_rfl))⟩
  t0 := Tryz.underlying0
  a0 := Tryz.isAgg0
  z0 := Tryz.sizeOf0
  v0 := Tryz.zeroValue0
  t3 := Tryz.underlying3
  a3 := Tryz.isAgg3
  z3 := Tryz.sizeOf3
  v3 := Tryz.zeroValue3
  t4 := Tryz.underlying4
  a4 := Tryz.isAgg4
  z4 := Tryz.sizeOf4
  v4 := Tryz.zeroValue4
  t5 := Tryz.underlying5
  a5 := Tryz.isAgg5
  z5 := Tryz.sizeOf5
  v5 := Tryz.zeroValue5
  t9 := Tryz.underlying9
  a9 := Tryz.isAgg9
  z9 := Tryz.sizeOf9
  v9 := Tryz.zeroValue9
  t22 := Tryz.underlying64
  a22 := Tryz.isAgg64
  z22 := Tryz.sizeOf64
  v22 := Tryz.zeroValue64
  t23 := Tryz.underlying64
  a23 := Tryz.isAgg64
  z23 := Tryz.sizeOf64
  v23 := Tryz.zeroValue64
  t25 := Tryz.underlying3
  a25 := Tryz.isAgg3
  z25 := Tryz.sizeOf3
  v25 := Tryz.zeroValue3
  t32 := Tryz.underlying113
  a32 := Tryz.isAgg113
  z32 := Tryz.sizeOf113
  v32 := Tryz.zeroValue113
  t35 := Tryz.underlying125
  a35 := Tryz.isAgg125
  z35 := Tryz.sizeOf125
  v35 := Tryz.zeroValue125
  t36 := Tryz.underlying126
  a36 := Tryz.isAgg126
  z36 := Tryz.sizeOf126
  v36 := Tryz.zeroValue126
  t41 := Tryz.underlying131
  a41 := Tryz.isAgg131
  z41 := Tryz.sizeOf131
  v41 := Tryz.zeroValue131
  t44 := Tryz.underlying134
  a44 := Tryz.isAgg134
  z44 := Tryz.sizeOf134
  v44 := Tryz.zeroValue134
  t46 := Tryz.underlying136
  a46 := Tryz.isAgg136
  z46 := Tryz.sizeOf136
  v46 := Tryz.zeroValue136
  t53 := Tryz.underlying147
  a53 := Tryz.isAgg147
  z53 := Tryz.sizeOf147
  v53 := Tryz.zeroValue147
  t57 := Tryz.underlying151
  a57 := Tryz.isAgg151
  z57 := Tryz.sizeOf151
  v57 := Tryz.zeroValue151
  t63 := Tryz.underlying157
  a63 := Tryz.isAgg157
  z63 := Tryz.sizeOf157
  v63 := Tryz.zeroValue157
  t64 := Tryz.underlying158
  a64 := Tryz.isAgg158
  z64 := Tryz.sizeOf158
  v64 := Tryz.zeroValue158 }
def Tryz.delA_ren : Go.Shelf.Ren := ⟨fun | 45 => 49 | n => n, fun | 22 => 25 | 23 => 64 | 3 => 3 | 4 => 4 | 0 => 0 | n => n, fun | n => n⟩
theorem Tryz.delA : Go.Proofs.SlLaysE.n45 Tryz.prog Tryz.delA_ren := {
  mixed := by kernel_rfl
  f45 := ⟨Tryz.f49.name, by decide, Tryz.func49.trans (congrArg some (by kernel_rfl))⟩
  t0 := Tryz.underlying0
  a0 := Tryz.isAgg0
  z0 := Tryz.sizeOf0
  v0 := Tryz.zeroValue0
  t3 := Tryz.underlying3
  a3 := Tryz.isAgg3
  z3 := Tryz.sizeOf3
  v3 := Tryz.zeroValue3
  t4 := Tryz.underlying4
  a4 := Tryz.isAgg4
  z4 := Tryz.sizeOf4
  v4 := Tryz.zeroValue4
  t22 := Tryz.underlying25
  a22 := Tryz.isAgg25
  z22 := Tryz.sizeOf25
  v22 := Tryz.zeroValue25
  a23 := Tryz.isAgg64
  z23 := Tryz.sizeOf64 }
def Tryz.growA_ren : Go.Shelf.Ren := ⟨fun | 4 => 82 | n => n, fun | 22 => 64 | 25 => 3 | 3 => 3 | 4 => 4 | 9 => 9 | 20 => 20 | 0 => 0 | n => n, fun | n => n⟩
theorem Tryz.growA : Go.Proofs.Lays8.n4 Tryz.prog Tryz.growA_ren := {
  mixed := by kernel_rfl
  f4 := ⟨Tryz.f82.name, by decide, Tryz.func82.trans (congrArg some (by kernel_rfl))⟩
  t0 := Tryz.underlying0
  a0 := Tryz.isAgg0
  z0 := Tryz.sizeOf0
  v0 := Tryz.zeroValue0
  t3 := Tryz.underlying3
  a3 := Tryz.isAgg3
  z3 := Tryz.sizeOf3
  v3 := Tryz.zeroValue3
  t4 := Tryz.underlying4
  a4 := Tryz.isAgg4
  z4 := Tryz.sizeOf4
  v4 := Tryz.zeroValue4
  t9 := Tryz.underlying9
  a9 := Tryz.isAgg9
  z9 := Tryz.sizeOf9
  v9 := Tryz.zeroValue9
  t20 := Tryz.underlying20
  a20 := Tryz.isAgg20
  z20 := Tryz.sizeOf20
  v20 := Tryz.zeroValue20
  t22 := Tryz.underlying64
  a22 := Tryz.isAgg64
  z22 := Tryz.sizeOf64
  v22 := Tryz.zeroValue64 }
def sortI (xs : List Int) : List Int := xs.mergeSort fun x y => decide (x ≤ y)
theorem bSortI (xs : List Int) (hl : xs.length ≤ 1000000000) (R : RO) : CallsS Tryz.prog 47 [.sl 0 xs.length] [.row 3 1 (xs.map (.int .i64))] R fun R' bs r => R' = R ∧ bs = [.row 3 1 ((sortI xs).map (.int .i64))] ∧ r = .val (.tuple #[]) := sortIntsS Tryz.sortA 3 xs (by omega) R
/-! ### Delete -/
abbrev Sl3 := Option Addr × Nat × Nat
def Sl3.val (x : Sl3) : Value := .slice x.1 x.2.1 x.2.2
theorem sl3_of {hs : List Value} (h : ∀ v ∈ hs, ∃ a n c, v = .slice a n c) : ∃ xs : List Sl3, hs = xs.map Sl3.val := by
  induction hs with
  | nil => exact ⟨[], rfl⟩
  | cons v hs ih =>
    obtain ⟨xs, rfl⟩ := ih fun v hv => h v (by simp [hv])
    obtain ⟨a, n, c, rfl⟩ := h v (by simp)
    exact ⟨(a, n, c) :: xs, rfl⟩
theorem bDelete (hs : List Value) (h : ∀ v ∈ hs, ∃ a n c, v = .slice a n c) (i : Nat) (hi : i < hs.length) (hl : hs.length ≤ 1000000000) (R : RO) :
    CallsS Tryz.prog 49 [.sl 0 hs.length, .val (.int .i64 i), .val (.int .i64 (i + 1 : Nat))] [.row 64 1 hs] R fun R' bs r => R' = R ∧ bs = [.row 64 1 (hs.eraseIdx i ++ [.slice none 0 0])] ∧ r = .sl 0 (hs.length - 1) := by
  obtain ⟨xs, rfl⟩ := sl3_of h
  have key := Go.Proofs.YtclkibjonbhldaaGreatDoor.Vc.rowS (P := Tryz.prog) (f := 49) (vs := [.int .i64 i, .int .i64 (i + 1 : Nat)]) (n := (xs.map Sl3.val).length) (T := 64) (sz := 1) (cs := xs.map Sl3.val) (R := R)
    (Q := fun cs' r => cs' = (xs.map Sl3.val).eraseIdx i ++ [.slice none 0 0] ∧ r = .sl 0 ((xs.map Sl3.val).length - 1)) ?_
  · intro w β κ hG
    refine (key w β κ hG).mono ?_
    rintro e w' ⟨β', κ', bs', r, R', h1, h2, h3, h4, h5, h6, h7, h8, h9, h10, h11, cs', h12, _, h13, h14⟩
    exact ⟨β', κ', bs', r, R', h1, h2, h3, h4, h5, h6, h7, h8, h9, h10, h11, by rw [h12, h13], h14⟩
  · intro w β κ arr hb hp hs' hm
    rw [List.length_map] at hi hl
    have hH : Holds Sl3.val w (β 0) 0 xs.toArray := by
      intro j hj
      have hj' : j < xs.length := by simpa using hj
      refine ⟨?_, by simp [World.frozen?, hb]⟩
      have h1 : arr.toList[j]? = (xs.map Sl3.val)[j]? := by
        obtain ⟨rest, hrest⟩ := hp
        rw [← hrest, List.getElem?_append_left (by simpa using hj')]
      have h2 : arr[j]? = (xs.map Sl3.val)[j]? := by rw [← Array.getElem?_toList]; exact h1
      simp only [World.cell?, hb, Nat.zero_add, Option.isSome_none, Bool.false_eq_true, if_false]
      rw [h2, List.getElem?_map, List.getElem?_eq_getElem hj']
      simp [hj']
    have hcap : xs.length ≤ κ 0 := by
      have := hp.length_le
      simp at this
      omega
    obtain ⟨i0, hi0, hz1⟩ : ∃ i0, Tryz.prog.info? 64 = some i0 ∧ i0.size = 1 := by
      have hz := Tryz.sizeOf64 w
      simp only [Go.sizeOf, typeInfo] at hz
      cases hi : Tryz.prog.info? 64 with
      | none => simp [hi] at hz
      | some i0 => simp [hi] at hz; exact ⟨i0, rfl, hz⟩
    have hd := AnyE.slices_Delete Tryz.delA Sl3.val (fun _ => rfl) ((none, 0, 0) : Sl3) (fun w => Tryz.zeroValue64 w) i0 hi0 hz1 (β 0) 0 (κ 0) i (i + 1) xs.toArray w hH (by simpa using hcap) (by unfold maxLen at hm; omega) (by omega) (by simp; omega)
    simp only [List.size_toArray] at hd
    rw [List.length_map]
    refine hd.mono ?_
    rintro e w' ⟨rfl, q, rfl⟩
    refine ⟨.sl 0 (xs.length - 1), (xs.map Sl3.val).eraseIdx i ++ [.slice none 0 0], q, #[], ?_, rfl, ?_, ⟨rfl, rfl⟩, ?_⟩
    · rw [show i + 1 - i = 1 by omega]; rfl
    · rw [List.length_append, List.length_eraseIdx, List.length_map, if_pos hi]; simp; omega
    · rw [putRow_map, grow_empty]
      refine congrArg (putRow id (Sort.ahead w q) (β 0) 0) ?_
      simp only [List.map_toArray, List.map_append, List.map_take, List.map_drop, List.map_replicate]
      rw [List.eraseIdx_eq_take_drop_succ]
      simp [Sl3.val]
/-! ### Grow, Concat -/
theorem bGrow (n : Nat) (h1 : 1 ≤ n) (hn : n ≤ 1000000000) (R : RO) : CallsS Tryz.prog 82 [.val (.slice none 0 0), .val (.int .i64 n)] [] R fun R' bs r => R' = R ∧ bs = [.row 3 1 []] ∧ r = .sl 0 0 := by
  intro w β κ hG
  obtain ⟨i0, hi0, hs0⟩ : ∃ i0, Tryz.prog.info? 3 = some i0 ∧ i0.size = 1 := by
    have hz := Tryz.sizeOf3 w
    simp only [Go.sizeOf, typeInfo] at hz
    cases hi : Tryz.prog.info? 3 with
    | none => simp [hi] at hz
    | some i0 => simp [hi] at hz; exact ⟨i0, rfl, hz⟩
  have hz0 : i0.zero = some (.int .i64 0) := by
    have hz := Tryz.zeroValue3 w
    simp only [zeroValue, Sem.run_bind, run_typeInfo' hi0, Result.andThen_ok] at hz
    cases hq : i0.zero with
    | none => simp [hq] at hz
    | some z => simp [hq] at hz; rw [hz]
  have hby : i0.bytes = 8 := by
    have h : (Tryz.prog.info? 3).map (·.bytes) = some 8 := by kernel_rfl
    rw [hi0] at h
    simpa using h
  have hg := Any8.slices_Grow_grow Tryz.growA i0 (.int .i64 0) hi0 hz0 (by omega) none 0 0 n [] w (Nat.le_refl _) (by omega) (by rw [hby]; omega) (by omega) (by simp) (fun _ => rfl) (fun a e => by cases e)
  rw [show Tryz.growA_ren.t 25 = 3 from rfl] at hg
  refine hg.mono ?_
  rintro e w' ⟨rfl, rfl⟩
  have hge := grownCap_ge w n 0 3
  have hext : Ext w (w.drew.alloc (.cells (([] : List Value).toArray ++ Builtin.zeroCells (Value.int .i64 0).cells (0 + n - 0) ++ Builtin.zeroCells (Value.int .i64 0).cells (grownCap w (0 + n) 0 3 - (0 + n))) 3)) := Ext.tr (b := w.drew) ⟨rfl, rfl, rfl, Nat.le_refl _, fun _ _ => rfl, Nat.le_succ _⟩ (ext_alloc _ _)
  have hnew := heap_new w.drew (.cells (([] : List Value).toArray ++ Builtin.zeroCells (Value.int .i64 0).cells (0 + n - 0) ++ Builtin.zeroCells (Value.int .i64 0).cells (grownCap w (0 + n) 0 3 - (0 + n))) 3)
  refine ⟨fun _ => w.heap.size, fun _ => grownCap w n 0 3, [.row 3 1 []], .sl 0 0, R, ?_, fun _ _ h => h, ⟨?_, ?_, ?_⟩, rfl, by simp, by simp [Blk.noShr], fun i hi => absurd hi (by simp), ?_, fun a v ha => .inl ha, KeptG.of_ext hext, rfl, rfl, rfl⟩
  · simp [den]
  · intro j b hj
    cases j with
    | zero =>
      simp only [List.getElem?_cons_zero, Option.some.injEq] at hj
      subst hj
      refine ⟨trivial, _, hnew, by simp, ?_, Nat.zero_le _, grownCap_le_maxLen w n 0 3 (by unfold maxLen; omega)⟩
      simp only [Array.size_append, size_zeroCells, Nat.zero_add]
      simp [Value.cells]
      omega
    | succ j => simp at hj
  · intro i j b b' hi hj _ _ _
    have h1 := (List.getElem?_eq_some_iff.1 hi).1
    have h2 := (List.getElem?_eq_some_iff.1 hj).1
    simp only [List.length_cons, List.length_nil] at h1 h2
    omega
  · intro a v ha
    have h1 := (hG.ro a v ha).1
    have h2 := World.block_lt_of_cell? w a h1
    exact ⟨by rw [hext.cell h2]; exact h1, fun j b _ _ => by omega⟩
  · intro j b _ _
    exact .inl (Nat.le_refl _)
/-- The lists, one after the other. -/
theorem bConcat (hs : List Value) (gl : List (List Int)) (R : RO) (hH : HsV R hs gl) (h1 : 1 ≤ gl.flatten.length) (hl : gl.flatten.length ≤ 1000000) (hll : gl.length ≤ 1000000) : CallsS Tryz.prog 45 [.sl 0 hs.length] [.row 64 1 hs] R fun R' bs r =>
    R' = R ∧ ∃ b0, bs = [b0, .row 3 1 (gl.flatten.map (.int .i64))] ∧ r = .sl 1 gl.flatten.length := by
  have hhl := hH.len
  have hfl : ∀ i, i ≤ gl.length → (gl.take i).flatten.length ≤ gl.flatten.length := fun i hi => by
    conv => rhs; rw [← List.take_append_drop i gl, List.flatten_append, List.length_append]
    omega
  have hfs : ∀ i (hi : i < gl.length), (gl.take (i + 1)).flatten = (gl.take i).flatten ++ gl[i] := fun i hi => by
    rw [List.take_succ_eq_append_getElem hi, List.flatten_append]; simp
  refine callsTS mix Tryz.func45 comp45 (by simp [Tryz.ntmps45]) rfl rfl ?_; simp only [go_sem, ↓reduceIte, Nat.reduceEqDiff, Nat.reduceAdd, Nat.reduceMul, Nat.reduceLeDiff, Nat.reduceLT, Nat.reduceBNe, reduceCtorEq, vc45, rs45]
  refine vcLoopR Nat (fun i => [(11, .val (.int .i64 i)), (10, .val (.int .i64 hs.length)), (9, .sl 0 hs.length), (0, .sl 0 hs.length), (3, .val (.int .i64 (gl.take i).flatten.length))]) (fun _ => [.row 64 1 hs]) (fun i R' => R' = R ∧ i ≤ hs.length) (fun i => hs.length - i) 0 [] ?_ ?_ ?_ ?_
  · (try simp only [go_sem, ↓reduceIte, Nat.reduceEqDiff, Nat.reduceAdd, Nat.reduceMul, Nat.reduceLeDiff, Nat.reduceLT, Nat.reduceBNe, reduceCtorEq]) <;> (repeat' (first | rfl | trivial | constructor | (intro h; exact absurd rfl h)))
  · simp only [go_sem, ↓reduceIte, Nat.reduceEqDiff, Nat.reduceAdd, Nat.reduceMul, Nat.reduceLeDiff, Nat.reduceLT, Nat.reduceBNe, reduceCtorEq, inScope, rnInj_nil]
    decide
  · exact ⟨rfl, Nat.zero_le _⟩
  rintro i env R1 hle1 hE ⟨rfl, hi⟩
  (simp only [go_sem] at hE; obtain ⟨e11, e10, e9, e0, e3⟩ := hE; simp only [go_sem, ↓reduceIte, Nat.reduceEqDiff, Nat.reduceAdd, Nat.reduceMul, Nat.reduceLeDiff, Nat.reduceLT, Nat.reduceBNe, reduceCtorEq, e11, e10, e9, e0, e3]; dsimp only at *)
  refine ⟨fun hlt => ?_, fun hge => ?_⟩
  · have hlt' : i < hs.length := by omega
    have hlg : i < gl.length := by omega
    have hu := hH.val i hlt' hlg
    obtain ⟨ua, ucap, hue, -, -⟩ := EncV.form hu
    refine ⟨by omega, _, List.getElem?_eq_getElem hlt', ?_⟩
    rw [hue]
    simp only [go_sem, ↓reduceIte, Nat.reduceEqDiff, Nat.reduceAdd, Nat.reduceMul, Nat.reduceLeDiff, Nat.reduceLT, Nat.reduceBNe, reduceCtorEq, e11, e10, e9, e0, e3]
    have h3 := hfl (i + 1) (by omega)
    have h4 := hfs i hlg
    have h5 := congrArg List.length h4
    rw [List.length_append] at h5
    refine ⟨_, W.in64 (by omega), fun hneg => by omega, fun _ => ⟨_, W.in64 (by omega), i + 1, [], by omega, ⟨⟨rfl, rfl, rfl, ?_⟩, rfl⟩, ?_, by omega⟩⟩
    · rw [h5]; simp
    · simp only [go_sem, ↓reduceIte, Nat.reduceEqDiff, Nat.reduceAdd, Nat.reduceMul, Nat.reduceLeDiff, Nat.reduceLT, Nat.reduceBNe, reduceCtorEq, inScope, rnInj_nil]
      decide
  · obtain rfl : i = hs.length := by omega
    have htk : gl.take hs.length = gl := by rw [hhl, List.take_length]
    rw [htk]
    refine vhandE (bGrow gl.flatten.length h1 (by omega) R1) rfl ?_
    rintro R2 bs r hle2 ⟨rfl, rfl, rfl⟩
    simp only [go_sem, ↓reduceIte, Nat.reduceEqDiff, Nat.reduceAdd, Nat.reduceMul, Nat.reduceLeDiff, Nat.reduceLT, Nat.reduceBNe, reduceCtorEq, e11, e10, e9, e0, e3]
    have hfl1 : ∀ i, i < gl.length → (gl.take (i + 1)).flatten.map (Value.int .i64) = (gl.take i).flatten.map (Value.int .i64) ++ gl[i]!.map (Value.int .i64) := fun i hi => by
      rw [hfs i hi, List.map_append, getElem!_pos gl i hi]
    refine vcLoopR Nat (fun i => [(27, .val (.int .i64 i)), (26, .val (.int .i64 hs.length)), (25, .sl 0 hs.length), (6, .sl 1 (gl.take i).flatten.length)]) (fun i => [.row 64 1 hs, .row 3 1 ((gl.take i).flatten.map (.int .i64))]) (fun i R' => R' = R2 ∧ i ≤ hs.length) (fun i => hs.length - i) 0 [] ?_ ?_ ?_ ?_
    · (try simp only [go_sem, ↓reduceIte, Nat.reduceEqDiff, Nat.reduceAdd, Nat.reduceMul, Nat.reduceLeDiff, Nat.reduceLT, Nat.reduceBNe, reduceCtorEq]) <;> (repeat' (first | rfl | trivial | constructor | (intro h; exact absurd rfl h)))
    · simp only [go_sem, ↓reduceIte, Nat.reduceEqDiff, Nat.reduceAdd, Nat.reduceMul, Nat.reduceLeDiff, Nat.reduceLT, Nat.reduceBNe, reduceCtorEq, inScope, rnInj_nil]
      decide
    · exact ⟨rfl, Nat.zero_le _⟩
    rintro i env R3 hle3 hE ⟨rfl, hi⟩
    (simp only [go_sem] at hE; obtain ⟨e27, e26, e25, e6⟩ := hE; simp only [go_sem, ↓reduceIte, Nat.reduceEqDiff, Nat.reduceAdd, Nat.reduceMul, Nat.reduceLeDiff, Nat.reduceLT, Nat.reduceBNe, reduceCtorEq, e27, e26, e25, e6]; dsimp only at *)
    refine ⟨fun hlt => ?_, fun hge => ?_⟩
    · have hlt' : i < hs.length := by omega
      have hlg : i < gl.length := by omega
      have hu := hH.val i hlt' hlg
      obtain ⟨ua, ucap, hue, -, -⟩ := EncV.form hu
      refine ⟨by omega, _, List.getElem?_eq_getElem hlt', ?_⟩
      rw [hue] at hu ⊢
      simp only [go_sem, ↓reduceIte, Nat.reduceEqDiff, Nat.reduceAdd, Nat.reduceMul, Nat.reduceLeDiff, Nat.reduceLT, Nat.reduceBNe, reduceCtorEq, e27, e26, e25, e6]
      have h3 := hfl (i + 1) (by omega)
      have h4 := hfs i hlg
      have h5 := congrArg List.length h4
      rw [List.length_append] at h5
      have hml := hfl1 i hlg
      rw [getElem!_pos gl i hlg] at hml
      refine EncV.src hu rfl (by omega) (fun _ => rfl) (by simp [Value.oneCell']) ?_
      rw [flat1]
      simp only [go_sem, ↓reduceIte, Nat.reduceEqDiff, Nat.reduceAdd, Nat.reduceMul, Nat.reduceLeDiff, Nat.reduceLT, Nat.reduceBNe, reduceCtorEq, e27, e26, e25, e6]
      refine vappO ((gl.take i).flatten.map (.int .i64)) rfl (by rw [List.length_map, Nat.mul_one]) (by omega) ?_
      simp only [go_sem, ↓reduceIte, Nat.reduceEqDiff, Nat.reduceAdd, Nat.reduceMul, Nat.reduceLeDiff, Nat.reduceLT, Nat.reduceBNe, reduceCtorEq, e27, e26, e25, e6]
      refine ⟨_, W.in64 (by omega), i + 1, [0, 2], by omega, ⟨⟨rfl, ?_, ?_⟩, rfl, ?_⟩, ?_, by omega⟩
      · rfl
      · rw [h5]; rfl
      · rw [hml]; rfl
      · simp only [go_sem, ↓reduceIte, Nat.reduceEqDiff, Nat.reduceAdd, Nat.reduceMul, Nat.reduceLeDiff, Nat.reduceLT, Nat.reduceBNe, reduceCtorEq, inScope, rnInj_nil]
        decide
    · obtain rfl : i = hs.length := by omega
      rw [htk]
      exact ⟨_, ⟨rfl, rfl⟩, rfl⟩
end Go.Proofs.YtclkibjonbhldaaGreatDoor
