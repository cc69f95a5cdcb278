/- Lemmas of our own, no statement of the seat; the last one of the claim's texts proves the law. -/
import Derived.Shelf.SlicesE.Delete
import Derived.Ground.SlgnProg
import Derived.Shelf.Spec.SlicesGrow
import Derived.Ground.Names7Prog
import Derived.Test.YtdglpgepgmdbdaaGreatDoorByd
import Derived.Test.YtdglpgepgmdbdaaGreatDoorBya
open Nat renaming reduceEqDiff → nQ1, reduceAdd → nQ2, reduceMul → nQ3, reduceLeDiff → nQ4, reduceLT → nQ5, reduceBNe → nQ6
open Int renaming reduceLE → iQ1, reduceLT → iQ2, reduceToNat → iQ3, cast_ofNat_Int → iQ4, reduceEq → iQ5, reduceNe → iQ6
/- Plain lemmas of our own, no statement of the seat: what a question and its answer are: plain. -/
namespace Go.Proofs.YtdglpgepgmdbdaaGreatDoor
set_option linter.unusedSectionVars false
variable [Go.Proofs.YtdglpgepgmdbdaaGreatDoor.Vc.Drew]
set_option linter.unusedSimpArgs false
set_option linter.unusedVariables false
open Go.Proofs.YtdglpgepgmdbdaaGreatDoor.Vc
/-! ### Lists in order -/
theorem keyLt_irrefl (a : Se) : ¬ keyLt a a := by unfold keyLt; omega
theorem sorted_nodup {l : List Se} (h : l.Pairwise keyLt) : (l.map seKey).Nodup := by
 refine List.pairwise_map.2 (h.imp fun {a b} hab e => ?_)
 unfold keyLt at hab
 unfold seKey at e
 simp only [Prod.mk.injEq] at e
 omega
theorem sorted_ext : ∀ {a b : List Se}, a.Pairwise keyLt → b.Pairwise keyLt → (∀ s, s ∈ a ↔ s ∈ b) → a = b
 | [], [], _, _, _ => rfl
 | [], y :: b, _, _, h => absurd ((h y).2 (by simp)) (by simp)
 | x :: a, [], _, _, h => absurd ((h x).1 (by simp)) (by simp)
 | x :: a, y :: b, ha, hb, h => by
  have oa := (List.pairwise_cons.1 ha).1
  have ob := (List.pairwise_cons.1 hb).1
  have hxy : x = y := by
   rcases List.mem_cons.1 ((h x).1 (by simp)) with e | hx
   ·exact e
   ·rcases List.mem_cons.1 ((h y).2 (by simp)) with e | hy
    ·exact e.symm
    ·exact absurd (keyLt_trans (ob x hx) (oa y hy)) (keyLt_irrefl y)
  subst hxy
  have hr : ∀ s, s ∈ a ↔ s ∈ b := fun s => by
   constructor
   ·intro hs
    rcases List.mem_cons.1 ((h s).1 (by simp [hs])) with e | hs'
    ·subst e; exact absurd (oa s hs) (keyLt_irrefl s)
    ·exact hs'
   ·intro hs
    rcases List.mem_cons.1 ((h s).2 (by simp [hs])) with e | hs'
    ·subst e; exact absurd (ob s hs) (keyLt_irrefl s)
    ·exact hs'
  rw [sorted_ext (List.pairwise_cons.1 ha).2 (List.pairwise_cons.1 hb).2 hr]
def insE (s : Se) : List Se → List Se
 | [] => [s]
 | x :: l => if keyLt s x then s :: x :: l else if keyLt x s then x :: insE s l else s :: l
theorem keyLt_tri {a b : Se} (h1 : ¬ keyLt a b) (h2 : ¬ keyLt b a) : seKey a = seKey b := by
 unfold keyLt at h1 h2
 unfold seKey
 simp only [Prod.mk.injEq]
 omega
theorem keyLt_ne {a b : Se} (h : keyLt a b) : seKey a ≠ seKey b := fun e => by
 unfold keyLt at h
 unfold seKey at e
 simp only [Prod.mk.injEq] at e
 omega
theorem keyLt_key' {a b c : Se} (h : keyLt b a) (e : seKey b = seKey c) : keyLt c a := by
 unfold keyLt at *
 unfold seKey at e
 simp only [Prod.mk.injEq] at e
 omega
theorem insE_mem {s : Se} : ∀ {l : List Se}, l.Pairwise keyLt → ∀ y, y ∈ insE s l ↔ y = s ∨ (y ∈ l ∧ seKey y ≠ seKey s)
 | [], _, y => by simp [insE]
 | x :: l, h, y => by
  have ho := (List.pairwise_cons.1 h).1
  unfold insE
  split
  ·rename_i h1
   rw [List.mem_cons]
   refine or_congr Iff.rfl ⟨fun hy => ⟨hy, ?_⟩, fun hy => hy.1⟩
   rcases List.mem_cons.1 hy with rfl | hy
   ·exact (keyLt_ne h1).symm
   ·exact (keyLt_ne (keyLt_trans h1 (ho y hy))).symm
  ·split
   ·rename_i h1 h2
    rw [List.mem_cons, insE_mem (List.pairwise_cons.1 h).2, List.mem_cons]
    constructor
    ·rintro (rfl | rfl | ⟨hy, hk⟩)
     ·exact .inr ⟨.inl rfl, keyLt_ne h2⟩
     ·exact .inl rfl
     ·exact .inr ⟨.inr hy, hk⟩
    ·rintro (rfl | ⟨rfl | hy, hk⟩)
     ·exact .inr (.inl rfl)
     ·exact .inl rfl
     ·exact .inr (.inr ⟨hy, hk⟩)
   ·rename_i h1 h2
    have e := keyLt_tri h1 h2
    rw [List.mem_cons, List.mem_cons]
    constructor
    ·rintro (rfl | hy)
     ·exact .inl rfl
     ·exact .inr ⟨.inr hy, fun e' => keyLt_ne (ho y hy) (e.symm.trans e'.symm)⟩
    ·rintro (rfl | ⟨rfl | hy, hk⟩)
     ·exact .inl rfl
     ·exact absurd e.symm hk
     ·exact .inr hy
theorem insE_sorted {s : Se} : ∀ {l : List Se}, l.Pairwise keyLt → (insE s l).Pairwise keyLt
 | [], _ => List.pairwise_singleton _ _
 | x :: l, h => by
  have ho := (List.pairwise_cons.1 h).1
  have ht := (List.pairwise_cons.1 h).2
  unfold insE
  split
  ·rename_i h1
   refine List.pairwise_cons.2 ⟨fun y hy => ?_, h⟩
   rcases List.mem_cons.1 hy with rfl | hy
   ·exact h1
   ·exact keyLt_trans h1 (ho y hy)
  ·split
   ·rename_i h1 h2
    refine List.pairwise_cons.2 ⟨fun y hy => ?_, insE_sorted ht⟩
    rcases (insE_mem ht y).1 hy with rfl | ⟨hy, _⟩
    ·exact h2
    ·exact ho y hy
   ·rename_i h1 h2
    have e := keyLt_tri h1 h2
    exact List.pairwise_cons.2 ⟨fun y hy => keyLt_key' (ho y hy) e.symm, ht⟩
def addS (l : List Se) (g k : Int) (cs : List Sp) : List Se := if unionD (lookD l g k) cs = [] then l else insE ⟨g, k, unionD (lookD l g k) cs⟩ l
theorem addS_sorted {l : List Se} {g k : Int} {cs : List Sp} (h : l.Pairwise keyLt) : (addS l g k cs).Pairwise keyLt := by
 unfold addS
 split
 ·exact h
 ·exact insE_sorted h
theorem lookD_congr {a b : List Se} (ha : (a.map seKey).Nodup) (hb : (b.map seKey).Nodup) (h : ∀ s, s ∈ a ↔ s ∈ b) (g k : Int) : lookD a g k = lookD b g k := by
 by_cases hk : ∃ s ∈ a, seKey s = (g, k)
 ·obtain ⟨s, hs, e⟩ := hk
  rw [lookD_mem ha hs e, lookD_mem hb ((h s).1 hs) e]
 ·rw [lookD_none fun s hs e => hk ⟨s, hs, e⟩, lookD_none fun s hs e => hk ⟨s, (h s).2 hs, e⟩]
theorem addP_mem {l : List Se} {g k : Int} {cs : List Sp} (hn : (l.map seKey).Nodup) (s : Se) : s ∈ addP l g k cs ↔ (unionD (lookD l g k) cs = [] ∧ s ∈ l) ∨ (unionD (lookD l g k) cs ≠ [] ∧ (s = ⟨g, k, unionD (lookD l g k) cs⟩ ∨ (s ∈ l ∧ seKey s ≠ (g, k)))) := by
 unfold addP
 split
 ·rename_i h; simp [h]
 ·rename_i h; rw [putD_mem hn]; simp [h]
theorem addS_mem {l : List Se} {g k : Int} {cs : List Sp} (hl : l.Pairwise keyLt) (s : Se) : s ∈ addS l g k cs ↔ (unionD (lookD l g k) cs = [] ∧ s ∈ l) ∨ (unionD (lookD l g k) cs ≠ [] ∧ (s = ⟨g, k, unionD (lookD l g k) cs⟩ ∨ (s ∈ l ∧ seKey s ≠ (g, k)))) := by
 unfold addS
 split
 ·rename_i h; simp [h]
 ·rename_i h; rw [insE_mem hl]; simp [h, seKey]
theorem addP_keys {l : List Se} {g k : Int} {cs : List Sp} (hn : (l.map seKey).Nodup) : ((addP l g k cs).map seKey).Nodup := by
 unfold addP
 split
 ·exact hn
 ·exact putD_keys hn
theorem addP_addS {l l' : List Se} {g k : Int} {cs : List Sp} (hl : l.Pairwise keyLt) (hn' : (l'.map seKey).Nodup) (h : ∀ s, s ∈ l' ↔ s ∈ l) (s : Se) : s ∈ addP l' g k cs ↔ s ∈ addS l g k cs := by
 rw [addP_mem hn', addS_mem hl, lookD_congr hn' (sorted_nodup hl) h]
 simp only [h]
/-! ### Questions -/
/-- What a question must be. -/
def OkQ (b : Bu) (p k : Int) (w : Sp) : Prop := okB b = true ∧ personB p = true ∧ (1 ≤ k ∧ k ≤ 4) ∧ OkW k w
noncomputable def checkI (b : Bu) (p k : Int) (w : Sp) : Int := if @decide (OkQ b p k w) (Classical.propDecidable _) = true then (if 65536 < (w.t - w.f) / sizeI k then 2 else 0) else 1
theorem checkI_no {b : Bu} {p k : Int} {w : Sp} (h : ¬ OkQ b p k w) : checkI b p k w = 1 := by
 unfold checkI
 rw [@decide_eq_false _ (Classical.propDecidable _) h]; rfl
theorem checkI_yes {b : Bu} {p k : Int} {w : Sp} (h : OkQ b p k w) : checkI b p k w = if 65536 < (w.t - w.f) / sizeI k then 2 else 0 := by
 unfold checkI
 rw [@decide_eq_true _ (Classical.propDecidable _) h]; rfl
theorem checkI_zero {b : Bu} {p k : Int} {w : Sp} : checkI b p k w = 0 ↔ OkQ b p k w ∧ (w.t - w.f) / sizeI k ≤ 65536 := by
 by_cases h : OkQ b p k w
 ·rw [checkI_yes h]
  by_cases h2 : 65536 < (w.t - w.f) / sizeI k
  ·rw [if_pos h2]; constructor
   ·intro e; cases e
   ·rintro ⟨_, h3⟩; omega
  ·rw [if_neg h2]; exact ⟨fun _ => ⟨h, by omega⟩, fun _ => rfl⟩
 ·rw [checkI_no h]
  constructor
  ·intro e; cases e
  ·exact fun h2 => absurd h2.1 h
def missQ (b : Bu) (p k : Int) (w : Sp) : List Sp := missD (sizeI k) (memS (knownD b.spent (grpOf b.groups p) k)) w
def costQ (b : Bu) (p k : Int) (w : Sp) : Int := countL (sizeI k) (missQ b p k w)
def askB (b : Bu) (p k : Int) (w : Sp) : Bu := ⟨b.limit, b.groups, addS b.spent (grpOf b.groups p) k (missQ b p k w)⟩
theorem OkB.keys {b : Bu} (h : OkB b) : (b.spent.map seKey).Nodup := sorted_nodup h.ord
theorem validS_iff {l : List Sp} : validS l = true ↔ Normal l ∧ rangedB l = true := by unfold validS; rw [Bool.and_eq_true, decide_eq_true_eq]
theorem OkB.okC {b : Bu} (h : OkB b) (hr : RawB b) : ∀ s ∈ b.spent, OkC s := fun s hs => by
 have h1 := h.each s hs
 have h2 := validS_iff.1 h1.nor
 exact ⟨h1.grain, h2.1, h2.2, h1.ne, Nat.le_trans (hr.spent s hs).len (by omega)⟩
theorem OkB.small {b : Bu} (h : OkB b) (hr : RawB b) : SmallL b.spent := ⟨fun s hs => (h.okC hr s hs).rng, fun s hs => Nat.le_trans (hr.spent s hs).len (by omega)⟩
theorem cellsW_len {n : Int} (w : Sp) : (cellsW n w).length = ((w.t - w.f) / n).toNat := by simp [cellsW]
theorem missC_len {n : Int} (K : Int → Bool) (w : Sp) : (missC n K w).length ≤ ((w.t - w.f) / n).toNat := by
 unfold missC
 exact Nat.le_trans (List.length_filter_le _ _) (by rw [cellsW_len]; exact Nat.le_refl _)
theorem missC_facts {k : Int} {K : Int → Bool} {w : Sp} (hw : OkW k w) : rangedB (missC (sizeI k) K w) = true ∧ (missC (sizeI k) K w).all (fun c => alignedB c (sizeI k)) = true := by
 have hali := alignedB_iff.1 hw.ali
 have hp := hw.pos
 have hl := hw.lo
 have hh := hw.hi
 have hn := sizeI_one k
 have hall : ∀ c ∈ missC (sizeI k) K w, c.f % sizeI k = 0 ∧ c.t = c.f + sizeI k ∧ w.f ≤ c.f ∧ c.t ≤ w.t := fun c hc => (cellsW_mem (by omega) hali.1 hali.2 (by omega)).1 (List.mem_filter.1 hc).1
 refine ⟨rangedB_iff.2 fun c hc => ?_, List.all_eq_true.2 fun c hc => alignedB_iff.2 ?_⟩
 ·have := hall c hc; omega
 ·obtain ⟨h1, h2, _⟩ := hall c hc
  exact ⟨h1, by rw [h2, Int.add_emod_right]; exact h1⟩
theorem missD_facts {k : Int} {K : Int → Bool} {w : Sp} (hw : OkW k w) : Normal (missD (sizeI k) K w) ∧ rangedB (missD (sizeI k) K w) = true ∧ (missD (sizeI k) K w).all (fun c => alignedB c (sizeI k)) = true ∧ (missD (sizeI k) K w).length ≤ ((w.t - w.f) / sizeI k).toNat := by
 obtain ⟨h1, h2⟩ := missC_facts (K := K) hw
 exact ⟨normD_normal _, normD_ranged h1, normD_aligned h2, Nat.le_trans (normD_len _) (missC_len K w)⟩
end Go.Proofs.YtdglpgepgmdbdaaGreatDoor
/- Plain lemmas of our own, no statement of the seat: budget.check, Cost, Known. -/
namespace Go.Proofs.YtdglpgepgmdbdaaGreatDoor
set_option linter.unusedSectionVars false
variable [Go.Proofs.YtdglpgepgmdbdaaGreatDoor.Vc.Drew]
set_option linter.unusedSimpArgs false
set_option linter.unusedVariables false
open Go.Proofs.YtdglpgepgmdbdaaGreatDoor.Vc
set_option maxHeartbeats 2000000 in
set_option maxRecDepth 4000 in
theorem bCheck (b : Bu) (hr : RawB b) (p k : Int) (w : Sp) (v : Value) (R : RO) (hz : SzR R) (h : BuV R v b) : CallsR Tryz.prog 16 [v, .int .i64 p, .int .i64 k, .agg w.cells.toArray] R fun _ r => r = .int .i64 (checkI b p k w) := by
 have hV := fun R' hle => bValid b hr v R' (SzR.mono (R' := R') hz hle) (BuV.mono (R' := R') h hle)
 have hA := fun hk R' => bAligned w (sizeI k) hk R'
 obtain ⟨gv, sv, rfl, hg, hs⟩ := h
 simp only [Sp.cells] at hA ⊢
 have hbad : ¬ OkQ b p k w → Value.int .i64 1 = Value.int .i64 (checkI b p k w) := fun hn => by rw [checkI_no hn]
 have hgr : grainB k = true ↔ (1 ≤ k ∧ k ≤ 4) := by unfold grainB; simp
 refine callsT mix Tryz.func16 comp16 (by simp [Tryz.ntmps16]) ?_; simp only [go_sem, ↓reduceIte, nQ1, nQ2, nQ3, nQ4, nQ5, nQ6, reduceCtorEq, vc16, rs16]
 refine vcall (hV R (RO.le_refl _)) ?_
 rintro R1 r hle1 rfl
 try simp only [go_sem, ↓reduceIte, nQ1, nQ2, nQ3, nQ4, nQ5, nQ6, reduceCtorEq]
 refine ⟨fun h1 => ?_, fun h1 => hbad fun hO => by rw [hO.1] at h1; cases h1⟩
 refine vcall (bPerson p R1) ?_
 rintro R2 r hle2 rfl
 try simp only [go_sem, ↓reduceIte, nQ1, nQ2, nQ3, nQ4, nQ5, nQ6, reduceCtorEq]
 refine ⟨fun h2 => ?_, fun h2 => hbad fun hO => by rw [hO.2.1] at h2; cases h2⟩
 refine vcall (bGrain k R2) ?_
 rintro R3 r hle3 rfl
 try simp only [go_sem, ↓reduceIte, nQ1, nQ2, nQ3, nQ4, nQ5, nQ6, reduceCtorEq]
 refine ⟨fun h3 => ?_, fun h3 => hbad fun hO => by rw [hgr.2 hO.2.2.1] at h3; cases h3⟩
 have h3 := hgr.1 h3
 have hle13 := RO.le_trans hle1 (RO.le_trans hle2 hle3)
 refine ⟨fun h4 => ⟨fun h5 => ⟨fun h6 => ⟨by omega, by omega, ?_⟩, fun h6 => hbad fun hO => by have := hO.2.2.2.hi; omega⟩, fun h5 => hbad fun hO => by have := hO.2.2.2.lo; omega⟩, fun h4 => hbad fun hO => by have := hO.2.2.2.pos; omega⟩
 refine vload _ ((hz.mono hle13).get h3) ?_
 try simp only [go_sem, ↓reduceIte, nQ1, nQ2, nQ3, nQ4, nQ5, nQ6, reduceCtorEq]
 refine vcall (hA (sizeI_pos _) R3) ?_
 rintro R4 r hle4 rfl
 try simp only [go_sem, ↓reduceIte, nQ1, nQ2, nQ3, nQ4, nQ5, nQ6, reduceCtorEq]
 refine ⟨fun h7 => hbad fun hO => (by have := hO.2.2.2.ali; rw [h7] at this; cases this), fun h7 => ?_⟩
 have hQ : OkQ b p k w := ⟨h1, h2, h3, ⟨by omega, by omega, by omega, h7⟩⟩
 rw [checkI_yes hQ]
 refine ⟨by omega, by omega, ?_⟩
 refine vload _ ((hz.mono (RO.le_trans hle13 hle4)).get h3) ?_
 try simp only [go_sem, ↓reduceIte, nQ1, nQ2, nQ3, nQ4, nQ5, nQ6, reduceCtorEq]
 intro b1 cap1 R5 hle5 hrow5 hcap5 hfr5
 refine vfreeze ?_
 try simp only [go_sem, ↓reduceIte, nQ1, nQ2, nQ3, nQ4, nQ5, nQ6, reduceCtorEq]
 intro b2 cap2 R6 hle6 hrow6 hcap6 hfr6
 have hw1 : Normal [w] := ⟨fun s hs => by simp only [List.mem_cons, List.not_mem_nil, or_false] at hs; subst hs; omega, List.pairwise_singleton _ _⟩
 have hrw : rangedB [w] = true := rangedB_iff.2 fun s hs => by
  simp only [List.mem_cons, List.not_mem_nil, or_false] at hs
  subst hs
  omega
 have hwv : SpV R5 (.slice (some ⟨b1, 0, none⟩) 1 cap1) [w] := RowIn.enc (xs := [w]) (enc := Sp.cells) (k := 2) (fun _ => rfl) (by omega) hrow5 hcap5 (by simp)
 refine vcall (bCount (sizeI k) (sizeI_one k).1 [w] hw1 hrw _ ⟨b2, 0, none⟩ cap2 R6 (hrow6 0 _ rfl) (hwv.mono hle6)) ?_
 rintro R7 r hle7 rfl
 try simp only [go_sem, ↓reduceIte, nQ1, nQ2, nQ3, nQ4, nQ5, nQ6, reduceCtorEq]
 simp only [countL, Int.add_zero]
 refine ⟨fun h8 => by rw [if_pos h8], fun h8 => by rw [if_neg h8]⟩
noncomputable def costV (b : Bu) (p k : Int) (w : Sp) : Value := .tuple #[.int .i64 (if checkI b p k w = 0 then costQ b p k w else 0), .int .i64 (checkI b p k w)]
theorem personB_bd {p : Int} (h : personB p = true) : -1000000 ≤ p ∧ p ≤ 1000000 := by
 unfold personB at h
 simp only [Bool.and_eq_true, decide_eq_true_eq] at h
 omega
theorem BuV.groups {R : RO} {b : Bu} {gv sv : Value} {l : Int} (h : BuV R (.agg #[.int .i64 l, gv, sv]) b) : l = b.limit ∧ GV R gv b.groups ∧ SpentV R sv b.spent := by
 obtain ⟨gv', sv', e, h1, h2⟩ := h
 simp only [Value.agg.injEq, Array.mk.injEq, List.cons.injEq, Value.int.injEq, and_true, true_and] at e
 obtain ⟨rfl, rfl, rfl⟩ := e
 exact ⟨rfl, h1, h2⟩
set_option maxHeartbeats 2000000 in
theorem bCost (b : Bu) (hr : RawB b) (p k : Int) (w : Sp) (v : Value) (R : RO) (hz : SzR R) (h : BuV R v b) : CallsR Tryz.prog 9 [v, .int .i64 p, .int .i64 k, .agg w.cells.toArray] R fun _ r => r = costV b p k w := by
 have hC := fun R' hle => bCheck b hr p k w v R' (SzR.mono (R' := R') hz hle) (BuV.mono (R' := R') h hle)
 have hO := fun hk R' hle => bOpen b hk v R' (BuV.mono (R' := R') h hle)
 have hM := fun ps c hk hw R' hle hL hs => bMissing ps c (grpOf b.groups p) k w hk hw R' (SzR.mono (R' := R') hz hle) hL hs
 obtain ⟨gv, sv, rfl, hg, hs⟩ := h
 simp only [Sp.cells] at hC hM ⊢
 refine callsT mix Tryz.func9 comp9 (by simp [Tryz.ntmps9]) ?_; simp only [go_sem, ↓reduceIte, nQ1, nQ2, nQ3, nQ4, nQ5, nQ6, reduceCtorEq, vc9, rs9]
 refine vcall (hC R (RO.le_refl _)) ?_
 rintro R1 r hle1 rfl
 try simp only [go_sem, ↓reduceIte, nQ1, nQ2, nQ3, nQ4, nQ5, nQ6, reduceCtorEq]
 unfold costV
 refine ⟨fun h1 => by rw [if_neg h1], fun h1 => ?_⟩
 rw [if_pos h1]
 obtain ⟨⟨q1, q2, q3, q4⟩, q5⟩ := checkI_zero.1 h1
 have hB := okB_iff.1 q1
 refine ⟨by omega, by omega, vload _ ((hz.mono hle1).get q3) ?_⟩
 try simp only [go_sem, ↓reduceIte, nQ1, nQ2, nQ3, nQ4, nQ5, nQ6, reduceCtorEq]
 refine vhandE (hO hB.keys R1 hle1) rfl ?_
 rintro R2 bs r hle2 ⟨rfl, ps, c, cs, rfl, rfl, hL, hps⟩
 try simp only [go_sem, ↓reduceIte, nQ1, nQ2, nQ3, nQ4, nQ5, nQ6, reduceCtorEq]
 refine vcall (bGroupOf b.groups p (personB_bd q2) gv R2 (hg.mono hle1)) ?_
 rintro R3 r hle3 rfl
 try simp only [go_sem, ↓reduceIte, nQ1, nQ2, nQ3, nQ4, nQ5, nQ6, reduceCtorEq]
 have hsm : SmallL (ps.map (·.1)) := by rw [hps]; exact hB.small hr
 refine vshow [3] [.mp 0, .val (.int .i64 (grpOf b.groups p)), .val (.int .i64 k), .val (.agg #[.int .i64 w.f, .int .i64 w.t])] [.mp (ents ps) c] (hM ps c q3 q4 R3 (RO.le_trans hle1 hle3) (hL.mono hle3) hsm) rfl rfl rfl ?_ (by simp) rfl rfl (fun R' bs' r h => by rw [h.1]; rfl) ?_
 ·try simp only [go_sem, ↓reduceIte, nQ1, nQ2, nQ3, nQ4, nQ5, nQ6, reduceCtorEq]
  rfl
 rintro R4 bs r hle4 ⟨rfl, mv, rfl, hmv⟩ _
 have hmv := hmv.mono newR_le
 rw [hps] at hmv
 have hmf := missD_facts (K := memS (knownD b.spent (grpOf b.groups p) k)) q4
 obtain ⟨ma, mcap, rfl, -, -⟩ := hmv.form
 simp only [go_sem, ↓reduceIte, nQ1, nQ2, nQ3, nQ4, nQ5, nQ6, reduceCtorEq, setG, rn]
 refine vfreeze ?_
 try simp only [go_sem, ↓reduceIte, nQ1, nQ2, nQ3, nQ4, nQ5, nQ6, reduceCtorEq]
 intro b2 cap2 R6 hle6 hrow6 hcap6 hfr6
 refine vcall (bCount (sizeI k) (sizeI_one k).1 _ hmf.1 hmf.2.1 _ ⟨b2, 0, none⟩ cap2 R6 (hrow6 0 _ rfl) (hmv.mono hle6)) ?_
 rintro R7 r hle7 rfl
 try simp only [go_sem, ↓reduceIte, nQ1, nQ2, nQ3, nQ4, nQ5, nQ6, reduceCtorEq]
 rw [h1]; rfl
end Go.Proofs.YtdglpgepgmdbdaaGreatDoor
/- Plain lemmas of our own, no statement of the seat: budget.Ask. -/
namespace Go.Proofs.YtdglpgepgmdbdaaGreatDoor
set_option linter.unusedSectionVars false
variable [Go.Proofs.YtdglpgepgmdbdaaGreatDoor.Vc.Drew]
set_option linter.unusedSimpArgs false
set_option linter.unusedVariables false
open Go.Proofs.YtdglpgepgmdbdaaGreatDoor.Vc
theorem SpentV.of {R : RO} {v : Value} {qs : List Pe} {l : List Se} (h : EncV Pe.cells 3 R v qs) (hl : qs.map (·.1) = l) (hv : ∀ q ∈ qs, SpV R q.val q.1.cells) : SpentV R v l := by
 refine ⟨qs.map fun q => (q.1, q.val), ⟨?_, by simpa using h.2⟩, by rw [List.map_map]; exact hl, fun p hp => ?_⟩
 ·rw [List.map_map]; exact h.1
 ·obtain ⟨q, hq, rfl⟩ := List.mem_map.1 hp
  exact hv q hq
theorem SpentV.nil (R : RO) : SpentV R (.slice none 0 0) [] := SpentV.of (qs := []) (EncV.nil _ _ _) rfl (by simp)
theorem GV.nil (R : RO) : GV R (.slice none 0 0) [] := ⟨[], EncV.nil _ _ _, rfl, fun i h => absurd h (by simp)⟩
theorem rowV {R : RO} {b cap : Nat} {hs : List Value} (h : RowIn R b hs) (hc : hs.length ≤ cap * 1) (hl : hs.length ≤ 1000000000) : EncV (fun x : Value => [x]) 1 R (.slice (some ⟨b, 0, none⟩) hs.length cap) hs :=
 RowIn.enc (enc := fun x : Value => [x]) (k := 1) (fun _ => rfl) (by omega) (by rw [flatV]; exact h) (by rw [flatV]; exact hc) hl
def zeroBu : Value := .agg #[.int .i64 0, .slice none 0 0, .slice none 0 0]
def AskV (R : RO) (r : Value) (b : Bu) (p k : Int) (w : Sp) : Prop :=
 (checkI b p k w ≠ 0 ∧ r = .tuple #[zeroBu, .int .i64 (checkI b p k w)]) ∨
 (checkI b p k w = 0 ∧ b.limit < totalD (grpOf b.groups p) b.spent + costQ b p k w ∧ r = .tuple #[zeroBu, .int .i64 13]) ∨
 (checkI b p k w = 0 ∧ ¬ b.limit < totalD (grpOf b.groups p) b.spent + costQ b p k w ∧ ∃ bv, r = .tuple #[bv, .int .i64 0] ∧ BuV R bv (askB b p k w))
theorem leaf_gs {j n : Nat} {s : St} {kl : Value → St → Prop} {tl : Tok kl} (h0 : n = 0 → kl (.slice none 0 0) s) (h1 : n ≠ 0 → LeafT (.sl j n) s kl tl) : LeafT (gs j n) s kl tl := by
 by_cases h : n = 0
 ·subst h; exact h0 rfl
 ·rw [gs_pos h]; exact h1 h
theorem addS_facts {b : Bu} (hB : OkB b) (hr : RawB b) {p k : Int} {w : Sp} (hw : OkW k w) (hc : (w.t - w.f) / sizeI k ≤ 65536) : (lookD b.spent (grpOf b.groups p) k).length + (missQ b p k w).length ≤ 10000000 ∧ rangedB (lookD b.spent (grpOf b.groups p) k) = true ∧ rangedB (missQ b p k w) = true := by
 have h1 := (hB.small hr).look (grpOf b.groups p) k
 have h2 := missD_facts (K := memS (knownD b.spent (grpOf b.groups p) k)) hw
 unfold missQ
 exact ⟨by omega, h1.1, h2.2.1⟩
def AskQ (b : Bu) (p k : Int) (gv sv mv : Value) (ps : List Le) (c : Nat) (w : Sp) (R : RO) (s : St) : Prop :=
 ∃ env R1 z x y, s = ⟨env, [.box [.val (.int .i64 b.limit), .val gv, .val sv], .box [.val (.int .i64 w.f), .val (.int .i64 w.t)], .box [.val (.int .i64 0), .val (.slice none 0 0), .val (.slice none 0 0)], z, .mp (ents ps) c, .dead, x, y], R1⟩ ∧ RO.le R R1 ∧
  env 2 = .val (.int .i64 k) ∧ env 4 = .loc 0 0 ∧ env 8 = .loc 2 0 ∧ env 11 = .val (.int .i64 (grpOf b.groups p)) ∧ env 12 = .mp 4 ∧ env 13 = .val mv ∧ env 46 = .val (.bool (decide (b.limit < totalD (grpOf b.groups p) b.spent + costQ b p k w)))
set_option maxHeartbeats 4000000 in
theorem bAsk (b : Bu) (hr : RawB b) (p k : Int) (w : Sp) (v : Value) (R : RO) (hz : SzR R) (h : BuV R v b) : CallsR Tryz.prog 7 [v, .int .i64 p, .int .i64 k, .agg w.cells.toArray] R fun R' r => AskV (newR R R') r b p k w := by
 have hC := fun R' hle => bCheck b hr p k w v R' (SzR.mono (R' := R') hz hle) (BuV.mono (R' := R') h hle)
 have hO := fun hk R' hle => bOpen b hk v R' (BuV.mono (R' := R') h hle)
 have hM := fun ps c hk hw R' hle hL hs => bMissing ps c (grpOf b.groups p) k w hk hw R' (SzR.mono (R' := R') hz hle) hL hs
 obtain ⟨gv, sv, rfl, hg, hs⟩ := h
 simp only [Sp.cells] at hC hM ⊢
 refine callsT mix Tryz.func7 comp7 (by simp [Tryz.ntmps7]) ?_; simp only [go_sem, ↓reduceIte, nQ1, nQ2, nQ3, nQ4, nQ5, nQ6, reduceCtorEq, vc7, rs7]
 refine vcall (hC R (RO.le_refl _)) ?_
 rintro R1 r hle1 rfl
 try simp only [go_sem, ↓reduceIte, nQ1, nQ2, nQ3, nQ4, nQ5, nQ6, reduceCtorEq]
 refine ⟨fun h1 => .inl ⟨h1, rfl⟩, fun h1 => ?_⟩
 obtain ⟨⟨q1, q2, q3, q4⟩, q5⟩ := checkI_zero.1 h1
 have hB := okB_iff.1 q1
 refine vcall (bGroupOf b.groups p (personB_bd q2) gv R1 (hg.mono hle1)) ?_
 rintro R2 r hle2 rfl
 try simp only [go_sem, ↓reduceIte, nQ1, nQ2, nQ3, nQ4, nQ5, nQ6, reduceCtorEq]
 have hle12 := RO.le_trans hle1 hle2
 refine vhandE (hO hB.keys R2 hle12) rfl ?_
 rintro R3 bs r hle3 ⟨rfl, ps, c, cs, rfl, rfl, hL, hps⟩
 try simp only [go_sem, ↓reduceIte, nQ1, nQ2, nQ3, nQ4, nQ5, nQ6, reduceCtorEq]
 have hsm : SmallL (ps.map (·.1)) := by rw [hps]; exact hB.small hr
 refine vshow [4] [.mp 0, .val (.int .i64 (grpOf b.groups p)), .val (.int .i64 k), .val (.agg #[.int .i64 w.f, .int .i64 w.t])] [.mp (ents ps) c] (hM ps c q3 q4 R3 hle12 hL hsm) rfl rfl rfl ?_ (by simp) rfl rfl (fun R' bs' r h => by rw [h.1]; rfl) ?_
 ·try simp only [go_sem, ↓reduceIte, nQ1, nQ2, nQ3, nQ4, nQ5, nQ6, reduceCtorEq]
  rfl
 rintro R4 bs r hle4 ⟨rfl, mv, rfl, hmv⟩ _
 have hmv := hmv.mono newR_le
 rw [hps] at hmv
 have hmf := missD_facts (K := memS (knownD b.spent (grpOf b.groups p) k)) q4
 have hcnt := countL_range (sizeI_one k).1 hmf.1 hmf.2.1 (missQ b p k w).length
 have htake : (missD (sizeI k) (memS (knownD b.spent (grpOf b.groups p) k)) w).take (missQ b p k w).length = missQ b p k w := by unfold missQ; rw [List.take_length]
 rw [htake] at hcnt
 have htot := totalD_bd (g := grpOf b.groups p) (hB.okC hr)
 have hbl := hr.len
 obtain ⟨ma, mcap, rfl, -, -⟩ := hmv.form
 have hle14 := RO.le_trans hle12 hle4
 have hLO : ∀ s ∈ ps.map (·.1), OkC s := by rw [hps]; exact hB.okC hr
 have hpl : ps.length ≤ 1000 := by
  have := congrArg List.length hps
  rw [List.length_map] at this
  omega
 (refine cutS (fun s' => s' = ?_) ?_ ?_; rotate_left; (try simp only [go_sem, ↓reduceIte, nQ1, nQ2, nQ3, nQ4, nQ5, nQ6, reduceCtorEq, setG, rn]; rfl); rintro _ rfl)
 rw [tCode_seq, tCode_seq]
 refine cutT (AskQ b p k gv sv (.slice ma (missD (sizeI k) (memS (knownD b.spent (grpOf b.groups p) k)) w).length mcap) ps c w R4) ?_ ?_
 ·try simp only [go_sem, ↓reduceIte, nQ1, nQ2, nQ3, nQ4, nQ5, nQ6, reduceCtorEq]
  refine ⟨by omega, by omega, vload _ ((hz.mono hle14).get q3) ?_⟩
  try simp only [go_sem, ↓reduceIte, nQ1, nQ2, nQ3, nQ4, nQ5, nQ6, reduceCtorEq]
  refine ⟨?_, ?_⟩
  ·refine vshow [4] [.mp 0, .val (.int .i64 (grpOf b.groups p))] [.mp (ents ps) c] (bTotal ps c (grpOf b.groups p) R4 (hz.mono hle14) (hL.mono hle4) hLO hpl) rfl rfl rfl ?_ (by simp) rfl rfl (fun R' bs' r h => by obtain ⟨b1, rfl, _⟩ := h; rfl) ?_
   {try simp only [go_sem, ↓reduceIte, nQ1, nQ2, nQ3, nQ4, nQ5, nQ6, reduceCtorEq]
    rfl }
   rintro R5 bs r hle5 ⟨b1, rfl, rfl⟩ _
   rw [hps]
   simp only [go_sem, ↓reduceIte, nQ1, nQ2, nQ3, nQ4, nQ5, nQ6, reduceCtorEq, setG, rn]
   refine vfreeze ?_
   try simp only [go_sem, ↓reduceIte, nQ1, nQ2, nQ3, nQ4, nQ5, nQ6, reduceCtorEq]
   intro b2 cap2 R6 hle6 hrow6 hcap6 hfr6
   refine vcall (bCount (sizeI k) (sizeI_one k).1 _ hmf.1 hmf.2.1 _ ⟨b2, 0, none⟩ cap2 R6 (hrow6 0 _ rfl) (hmv.mono (RO.le_trans hle5 hle6))) ?_
   rintro R7 r hle7 rfl
   try simp only [go_sem, ↓reduceIte, nQ1, nQ2, nQ3, nQ4, nQ5, nQ6, reduceCtorEq]
   have hsum : totalD (grpOf b.groups p) b.spent + countL (sizeI k) (missD (sizeI k) (memS (knownD b.spent (grpOf b.groups p) k)) w) = totalD (grpOf b.groups p) b.spent + costQ b p k w := rfl
   have hcq : costQ b p k w = countL (sizeI k) (missQ b p k w) := rfl
   refine ⟨_, W.in64 (by omega), ?_⟩
   rw [hsum]
   refine ⟨_, _, _, _, _, rfl, RO.le_trans hle5 (RO.le_trans hle6 hle7), ?_⟩
   try simp only [go_sem, ↓reduceIte, nQ1, nQ2, nQ3, nQ4, nQ5, nQ6, reduceCtorEq]
   rfl
  ·refine vshow [4] [.mp 0, .val (.int .i64 (grpOf b.groups p))] [.mp (ents ps) c] (bTotal ps c (grpOf b.groups p) R4 (hz.mono hle14) (hL.mono hle4) hLO hpl) rfl rfl rfl ?_ (by simp) rfl rfl (fun R' bs' r h => by obtain ⟨b1, rfl, _⟩ := h; rfl) ?_
   {try simp only [go_sem, ↓reduceIte, nQ1, nQ2, nQ3, nQ4, nQ5, nQ6, reduceCtorEq]
    rfl }
   rintro R5 bs r hle5 ⟨b1, rfl, rfl⟩ _
   rw [hps]
   simp only [go_sem, ↓reduceIte, nQ1, nQ2, nQ3, nQ4, nQ5, nQ6, reduceCtorEq, setG, rn]
   refine vfreeze ?_
   try simp only [go_sem, ↓reduceIte, nQ1, nQ2, nQ3, nQ4, nQ5, nQ6, reduceCtorEq]
   intro b2 cap2 R6 hle6 hrow6 hcap6 hfr6
   refine vcall (bCount (sizeI k) (sizeI_one k).1 _ hmf.1 hmf.2.1 _ ⟨b2, 0, none⟩ cap2 R6 (hrow6 0 _ rfl) (hmv.mono (RO.le_trans hle5 hle6))) ?_
   rintro R7 r hle7 rfl
   try simp only [go_sem, ↓reduceIte, nQ1, nQ2, nQ3, nQ4, nQ5, nQ6, reduceCtorEq]
   have hsum : totalD (grpOf b.groups p) b.spent + countL (sizeI k) (missD (sizeI k) (memS (knownD b.spent (grpOf b.groups p) k)) w) = totalD (grpOf b.groups p) b.spent + costQ b p k w := rfl
   have hcq : costQ b p k w = countL (sizeI k) (missQ b p k w) := rfl
   refine ⟨_, W.in64 (by omega), ?_⟩
   rw [hsum]
   refine ⟨_, _, _, _, _, rfl, RO.le_trans hle5 (RO.le_trans hle6 hle7), ?_⟩
   try simp only [go_sem, ↓reduceIte, nQ1, nQ2, nQ3, nQ4, nQ5, nQ6, reduceCtorEq]
   rfl
 ·rintro s' ⟨env, R5, z, x, y, rfl, hle5, e2, e4, e8, e11, e12, e13, e46⟩
  simp only [go_sem, ↓reduceIte, nQ1, nQ2, nQ3, nQ4, nQ5, nQ6, reduceCtorEq, e2, e4, e8, e11, e12, e13, e46]
  refine ⟨fun h2 => .inr (.inl ⟨h1, h2, rfl⟩), fun h2 => ?_⟩
  have hle15 := RO.le_trans hle14 hle5
  obtain ⟨f1, f2, f3⟩ := addS_facts (p := p) hB hr q4 q5
  rw [← hps] at f1 f2
  refine vhand [4] [.mp 0, .val (accV (grpOf b.groups p) k), .val (.slice ma (missD (sizeI k) (memS (knownD b.spent (grpOf b.groups p) k)) w).length mcap)] [.mp (ents ps) c] (bAdd ps c (grpOf b.groups p) k (missQ b p k w) _ R5 (hL.mono (RO.le_trans hle4 hle5)) (hmv.mono hle5) f2 f3 f1) rfl rfl rfl ?_ (by simp) rfl rfl ?_
  ·try simp only [go_sem, ↓reduceIte, nQ1, nQ2, nQ3, nQ4, nQ5, nQ6, reduceCtorEq]
  rintro R6 bs r hle6 ⟨ps', c', bx, rfl, rfl, hL', hps'⟩ _
  simp only [go_sem, ↓reduceIte, nQ1, nQ2, nQ3, nQ4, nQ5, nQ6, reduceCtorEq, setG, rn, e2, e4, e8, e11, e12, e13, e46]
  have hle16 := RO.le_trans hle15 hle6
  refine vhandE (bCloned b.groups gv R6 (hg.mono hle16)) rfl ?_
  rintro R7 bs r hle7 ⟨hs, rfl, rfl, hH⟩
  simp only [go_sem, ↓reduceIte, nQ1, nQ2, nQ3, nQ4, nQ5, nQ6, reduceCtorEq, renB_gb, e2, e4, e8, e11, e12, e13, e46]
  have hpl' : ps'.length ≤ 1000000 := by
   have h3 := congrArg List.length hps'
   rw [List.length_map] at h3
   have h4 : (addP (ps.map (·.1)) (grpOf b.groups p) k (missQ b p k w)).length ≤ (ps.map (·.1)).length + 1 := by
    unfold addP putD
    split
    ·omega
    ·split <;> simp
   rw [List.length_map] at h4
   omega
  refine vshow [4] [.mp 0] [.mp (ents ps') c'] (bClose ps' c' R7 (hL'.mono hle7) hpl') rfl rfl rfl ?_ (by simp) rfl rfl (fun R' bs' r h => by obtain ⟨b1, qs, rfl, _⟩ := h; rfl) ?_
  ·try simp only [go_sem, ↓reduceIte, nQ1, nQ2, nQ3, nQ4, nQ5, nQ6, reduceCtorEq]
   rfl
  rintro R8 bs r hle8 ⟨b1, qs, rfl, rfl, hq1, hq2, hq3⟩ _
  simp only [go_sem, ↓reduceIte, nQ1, nQ2, nQ3, nQ4, nQ5, nQ6, reduceCtorEq, renB_gb, setG, rn, ren_gs, e2, e4, e8, e11, e12, e13, e46]
  have hr1 : (List.range' 9 1).getD 0 0 = 9 := rfl
  rw [hr1]
  have hr2 : gs ((4 :: List.range' 10 (3 - 1)).getD 2 2) qs.length = gs 11 qs.length := rfl
  have hhl := hH.len
  have hgl := (hg.form).1
  have hsp : qs.map (·.1) = (askB b p k w).spent := sorted_ext hq2 (addS_sorted hB.ord) fun s => by
   rw [hq1.mem_iff, hps']
   exact addP_addS hB.ord (by rw [hps]; exact hB.keys) (fun s => by rw [hps]) s
  have hql : qs.length ≤ 1000000 := by
   have h3 := hq1.length_eq
   rw [List.length_map, List.length_map] at h3
   omega
  have fin : ∀ (R9 : RO) (gv' sv' : Value), GV (newR R R9) gv' b.groups → SpentV (newR R R9) sv' (askB b p k w).spent → AskV (newR R R9) (.tuple #[.agg #[.int .i64 b.limit, gv', sv'], .int .i64 0]) b p k w := fun R9 gv' sv' hg' hs' => .inr (.inr ⟨h1, h2, _, rfl, _, _, rfl, hg', hs'⟩)
  have hr3 : (List.range' 10 (3 - 1)).getD 1 2 = 11 := rfl
  have hqne : qs.length ≠ 0 → rowP qs ≠ [] := fun h e => by
   have := rowP_len qs
   rw [e] at this
   simp at this
   omega
  have hgnil : hs.length = 0 → b.groups = [] := fun h => List.eq_nil_of_length_eq_zero (by omega)
  have hsnil : qs.length = 0 → (askB b p k w).spent = [] := fun h => by rw [← hsp, List.eq_nil_of_length_eq_zero h]; rfl
  have hle78 := RO.le_trans hle7 hle8
  have hle17 := RO.le_trans hle16 hle7
  have hGs : ∀ (R9 : RO) b2 cap2, RO.le R8 R9 → RowIn R9 b2 hs → hs.length ≤ cap2 → Fresh R8 b2 → ∀ R10, RO.le R9 R10 → GV (newR R R10) (.slice (some ⟨b2, 0, none⟩) hs.length cap2) b.groups := fun R9 b2 cap2 hle9 hrow hcap hfr R10 hle10 =>
   (hH.mono (fun a u hn => ⟨hle10 _ _ (hle9 _ _ (hle8 _ _ hn.1)), (newR_sub hle16 _ _ hn).2⟩)).gv (rowV (fun i v hi => newR_mono hle10 _ _ ((hrow.new hfr (RO.le_trans hle17 hle8)) i v hi)) (by omega) (by omega))
  have hSs : ∀ (R9 : RO) b2 cap2, RO.le R8 R9 → RowIn R9 b2 (rowP qs) → (rowP qs).length ≤ cap2 * 3 → Fresh R8 b2 → SpentV (newR R R9) (.slice (some ⟨b2, 0, none⟩) qs.length cap2) (askB b p k w).spent := fun R9 b2 cap2 hle9 hrow hcap hfr =>
   SpentV.of (RowIn.enc (enc := Pe.cells) (k := 3) (fun _ => rfl) (by omega) (hrow.new hfr (RO.le_trans hle17 hle8)) hcap (by omega)) hsp fun q hq => (hq3 q hq).mono fun a u hn => ⟨hle9 _ _ hn.1, (newR_sub hle17 _ _ hn).2⟩
  refine leaf_gs (fun h0 => ?_) (fun h0 => ?_)
  ·have hg0 := hgnil h0
   try simp only [go_sem, ↓reduceIte, nQ1, nQ2, nQ3, nQ4, nQ5, nQ6, reduceCtorEq]
   refine leaf_gs (fun h3 => ?_) (fun h3 => ?_)
   ·simp only [go_sem, ↓reduceIte, nQ1, nQ2, nQ3, nQ4, nQ5, nQ6, reduceCtorEq, e2, e4, e8, e11, e12, e13, e46]
    refine fin R8 _ _ ?_ ?_
    ·rw [hg0]; exact GV.nil _
    ·rw [hsnil h3]; exact SpentV.nil _
   ·rw [gb_ne (hqne h3)]
    simp only [go_sem, ↓reduceIte, nQ1, nQ2, nQ3, nQ4, nQ5, nQ6, reduceCtorEq, hr3]
    intro b2 cap2 R9 hle9 hrow hcap hfr
    simp only [go_sem, ↓reduceIte, nQ1, nQ2, nQ3, nQ4, nQ5, nQ6, reduceCtorEq, e2, e4, e8, e11, e12, e13, e46]
    refine fin R9 _ _ ?_ ?_
    ·rw [hg0]; exact GV.nil _
    ·exact hSs R9 b2 cap2 hle9 hrow hcap hfr
  ·rw [gb_ne (show hs ≠ [] from fun e => h0 (by rw [e]; rfl))]
   simp only [go_sem, ↓reduceIte, nQ1, nQ2, nQ3, nQ4, nQ5, nQ6, reduceCtorEq, hr3]
   intro b2 cap2 R9 hle9 hrow hcap hfr
   try simp only [go_sem, ↓reduceIte, nQ1, nQ2, nQ3, nQ4, nQ5, nQ6, reduceCtorEq, hr3]
   refine leaf_gs (fun h3 => ?_) (fun h3 => ?_)
   ·simp only [go_sem, ↓reduceIte, nQ1, nQ2, nQ3, nQ4, nQ5, nQ6, reduceCtorEq, e2, e4, e8, e11, e12, e13, e46]
    refine fin R9 _ _ (hGs R9 b2 cap2 hle9 hrow hcap hfr R9 (RO.le_refl _)) ?_
    rw [hsnil h3]; exact SpentV.nil _
   ·rw [gb_ne (hqne h3)]
    simp only [go_sem, ↓reduceIte, nQ1, nQ2, nQ3, nQ4, nQ5, nQ6, reduceCtorEq, hr3]
    intro b3 cap3 R10 hle10 hrow3 hcap3 hfr3
    simp only [go_sem, ↓reduceIte, nQ1, nQ2, nQ3, nQ4, nQ5, nQ6, reduceCtorEq, e2, e4, e8, e11, e12, e13, e46]
    exact fin R10 _ _ (hGs R9 b2 cap2 hle9 hrow hcap hfr R10 hle10) (hSs R10 b3 cap3 (RO.le_trans hle9 hle10) hrow3 hcap3 fun a u hx => hfr3 a u (hle9 _ _ hx))
end Go.Proofs.YtdglpgepgmdbdaaGreatDoor
/- Plain lemmas of our own, no statement of the seat: the ledger's moved; members. -/
namespace Go.Proofs.YtdglpgepgmdbdaaGreatDoor
set_option linter.unusedSectionVars false
variable [Go.Proofs.YtdglpgepgmdbdaaGreatDoor.Vc.Drew]
set_option linter.unusedSimpArgs false
set_option linter.unusedVariables false
open Go.Proofs.YtdglpgepgmdbdaaGreatDoor.Vc
def upG (gone g : Int) : Int := if gone < g then g - 1 else g
def membersD (gs : List (List Int)) (g : Int) : List Int := if g < 0 then [-1 - g] else gs.getD g.toNat []
end Go.Proofs.YtdglpgepgmdbdaaGreatDoor
/- Plain lemmas of our own, no statement of the seat: slices.Sort, Delete, Grow, Concat, at memory of the caller's own. -/
namespace Go.Proofs.YtdglpgepgmdbdaaGreatDoor
set_option linter.unusedSectionVars false
variable [Go.Proofs.YtdglpgepgmdbdaaGreatDoor.Vc.Drew]
set_option linter.unusedSimpArgs false
set_option linter.unusedVariables false
open Go.Proofs.YtdglpgepgmdbdaaGreatDoor.Vc Go.Shelf Go.Sort Go.RowKit
def sortI (xs : List Int) : List Int := xs.mergeSort fun x y => decide (x ≤ y)
/-! ### Delete -/
abbrev Sl3 := Option Addr × Nat × Nat
def Sl3.val (x : Sl3) : Value := .slice x.1 x.2.1 x.2.2
end Go.Proofs.YtdglpgepgmdbdaaGreatDoor
namespace Go.Proofs.YtdglpgepgmdbdaaGreatDoor
set_option linter.unusedSectionVars false
variable [Go.Proofs.YtdglpgepgmdbdaaGreatDoor.Vc.Drew]
set_option linter.unusedSimpArgs false
set_option linter.unusedVariables false
open Go.Proofs.YtdglpgepgmdbdaaGreatDoor.Vc
def view (l : List Se) (g k t : Int) : Bool := memS (lookD l g k) t
def dropD (l : List Se) (g k : Int) : List Se := l.filter fun s => decide (seKey s ≠ (g, k))
theorem dropD_keys {l : List Se} {g k : Int} (hn : (l.map seKey).Nodup) : ((dropD l g k).map seKey).Nodup := List.Nodup.sublist (List.Sublist.map seKey List.filter_sublist) hn
theorem dropD_mem {l : List Se} {g k : Int} (s : Se) : s ∈ dropD l g k ↔ s ∈ l ∧ seKey s ≠ (g, k) := by unfold dropD; rw [List.mem_filter, decide_eq_true_eq]
theorem view_drop {l : List Se} {g k : Int} (hn : (l.map seKey).Nodup) (g' k' t : Int) : view (dropD l g k) g' k' t = if (g', k') = (g, k) then false else view l g' k' t := by
 unfold view
 split
 ·rename_i e
  rw [lookD_none fun s hs e' => ((dropD_mem s).1 hs).2 (by rw [e', e]), memS_nil]
 ·rename_i e
  by_cases hk : ∃ s ∈ l, seKey s = (g', k')
  ·obtain ⟨s, hs, e'⟩ := hk
   rw [lookD_mem hn hs e', lookD_mem (dropD_keys hn) ((dropD_mem s).2 ⟨hs, by rw [e']; exact e⟩) e']
  ·rw [lookD_none fun s hs e' => hk ⟨s, hs, e'⟩, lookD_none fun s hs e' => hk ⟨s, ((dropD_mem s).1 hs).1, e'⟩]
theorem lookD_ne {l l' : List Se} {g k : Int} (hn : (l.map seKey).Nodup) (hn' : (l'.map seKey).Nodup) (h : ∀ s, seKey s = (g, k) → (s ∈ l' ↔ s ∈ l)) : lookD l' g k = lookD l g k := by
 by_cases hk : ∃ s ∈ l, seKey s = (g, k)
 ·obtain ⟨s, hs, e⟩ := hk
  rw [lookD_mem hn hs e, lookD_mem hn' ((h s e).2 hs) e]
 ·rw [lookD_none fun s hs e => hk ⟨s, hs, e⟩, lookD_none fun s hs e => hk ⟨s, (h s e).1 hs, e⟩]
theorem view_put {l l' : List Se} {g k : Int} {cs : List Sp} (hn : (l.map seKey).Nodup) (hn' : (l'.map seKey).Nodup)
  (hmem : ∀ s, s ∈ l' ↔ (unionD (lookD l g k) cs = [] ∧ s ∈ l) ∨ (unionD (lookD l g k) cs ≠ [] ∧ (s = ⟨g, k, unionD (lookD l g k) cs⟩ ∨ (s ∈ l ∧ seKey s ≠ (g, k))))) (g' k' t : Int) : view l' g' k' t = if (g', k') = (g, k) then (view l g k t || memS cs t) else view l g' k' t := by
 unfold view
 split
 ·rename_i e
  obtain ⟨rfl, rfl⟩ := Prod.mk.inj e
  by_cases h0 : unionD (lookD l g' k') cs = []
  ·rw [lookD_ne hn hn' fun s _ => by rw [hmem]; simp [h0]]
   have h1 := unionD_mem (lookD l g' k') cs t
   rw [h0, memS_nil] at h1
   cases hc : memS cs t with
   | false => simp
   | true => rw [hc] at h1; simp at h1
  ·rw [lookD_mem hn' (s := ⟨g', k', unionD (lookD l g' k') cs⟩) ((hmem _).2 (.inr ⟨h0, .inl rfl⟩)) rfl, unionD_mem]
 ·rename_i e
  rw [lookD_ne hn hn' fun s he => ?_]
  rw [hmem]
  constructor
  ·rintro (⟨_, h⟩ | ⟨_, rfl | ⟨h, _⟩⟩)
   ·exact h
   ·exact absurd he.symm e
   ·exact h
  ·intro h
   by_cases h0 : unionD (lookD l g k) cs = []
   ·exact .inl ⟨h0, h⟩
   ·exact .inr ⟨h0, .inr ⟨h, by rw [he]; exact e⟩⟩
theorem view_addP {l : List Se} {g k : Int} {cs : List Sp} (hn : (l.map seKey).Nodup) (g' k' t : Int) : view (addP l g k cs) g' k' t = if (g', k') = (g, k) then (view l g k t || memS cs t) else view l g' k' t := view_put hn (addP_keys hn) (addP_mem hn) g' k' t
theorem view_addS {l : List Se} {g k : Int} {cs : List Sp} (hl : l.Pairwise keyLt) (g' k' t : Int) : view (addS l g k cs) g' k' t = if (g', k') = (g, k) then (view l g k t || memS cs t) else view l g' k' t := view_put (sorted_nodup hl) (sorted_nodup (addS_sorted hl)) (addS_mem hl) g' k' t
def Full (l : List Se) : Prop := ∀ s ∈ l, Normal s.cells ∧ s.cells ≠ []
theorem full_ne {s : Se} (h : Normal s.cells ∧ s.cells ≠ []) : ∃ t, memS s.cells t = true := by
 obtain ⟨x, l, e⟩ := List.exists_cons_of_ne_nil h.2
 exact ⟨x.f, memS_iff.2 ⟨x, by rw [e]; simp, Int.le_refl _, h.1.pos x (by rw [e]; simp)⟩⟩
theorem view_none {l : List Se} (hn : (l.map seKey).Nodup) (hf : Full l) {g k : Int} (h : ∀ t, view l g k t = false) : ∀ s ∈ l, seKey s ≠ (g, k) := fun s hs e => by
 obtain ⟨t, ht⟩ := full_ne (hf s hs)
 have := h t
 unfold view at this
 rw [lookD_mem hn hs e, ht] at this
 cases this
def anyV (l : List Se) (g k t : Int) : Bool := l.any fun s => decide (seKey s = (g, k)) && memS s.cells t
def canon (l : List Se) : List Se := l.foldl (fun acc s => addS acc s.group s.grain s.cells) []
theorem addS_full {l : List Se} (h : Full l) (hl : l.Pairwise keyLt) {g k : Int} {cs : List Sp} : Full (addS l g k cs) := fun s hs => by
 rcases (addS_mem hl s).1 hs with ⟨_, h2⟩ | ⟨h1, rfl | ⟨h2, _⟩⟩
 ·exact h s h2
 ·exact ⟨unionD_normal _ _, h1⟩
 ·exact h s h2
theorem foldS_facts : ∀ (l acc : List Se), acc.Pairwise keyLt → Full acc → (l.foldl (fun acc s => addS acc s.group s.grain s.cells) acc).Pairwise keyLt ∧ Full (l.foldl (fun acc s => addS acc s.group s.grain s.cells) acc) ∧ ∀ g k t, view (l.foldl (fun acc s => addS acc s.group s.grain s.cells) acc) g k t = (view acc g k t || anyV l g k t)
 | [], acc, h1, h2 => ⟨h1, h2, fun g k t => by simp [anyV]⟩
 | s :: l, acc, h1, h2 => by
  obtain ⟨i1, i2, i3⟩ := foldS_facts l (addS acc s.group s.grain s.cells) (addS_sorted h1) (addS_full h2 h1)
  refine ⟨i1, i2, fun g k t => ?_⟩
  rw [List.foldl_cons, i3, view_addS h1]
  unfold anyV
  rw [List.any_cons]
  by_cases e : (g, k) = (s.group, s.grain)
  ·obtain ⟨rfl, rfl⟩ := Prod.mk.inj e
   simp [seKey, Bool.or_assoc]
  ·rw [if_neg e]
   have : decide (seKey s = (g, k)) = false := decide_eq_false fun h => e h.symm
   rw [this, Bool.false_and, Bool.false_or]
theorem canon_sorted (l : List Se) : (canon l).Pairwise keyLt := (foldS_facts l [] List.Pairwise.nil (by simp [Full])).1
theorem canon_full (l : List Se) : Full (canon l) := (foldS_facts l [] List.Pairwise.nil (by simp [Full])).2.1
theorem canon_view (l : List Se) (g k t : Int) : view (canon l) g k t = anyV l g k t := by
 have := (foldS_facts l [] List.Pairwise.nil (by simp [Full])).2.2 g k t
 unfold canon
 rw [this]
 simp [view, lookD, memS_nil]
/-! ### Aliases -/
def keepG (gs : List (List Int)) (p q : Int) : Int := if grpOf gs p < 0 ∨ (0 ≤ grpOf gs q ∧ grpOf gs q < grpOf gs p) then grpOf gs q else grpOf gs p
def goneG (gs : List (List Int)) (p q : Int) : Int := if grpOf gs p < 0 ∨ (0 ≤ grpOf gs q ∧ grpOf gs q < grpOf gs p) then grpOf gs p else grpOf gs q
def intoG (gs : List (List Int)) (keep : Int) : Int := if keep < 0 then gs.length else keep
def joinG (gs : List (List Int)) (keep gone : Int) : List (List Int) :=
 let all := sortI (membersD gs keep ++ membersD gs gone)
 let g1 := if keep < 0 then gs ++ [all] else gs.set keep.toNat all
 if 0 ≤ gone then g1.eraseIdx gone.toNat else g1
def mapG (gs : List (List Int)) (keep gone g : Int) : Int :=
 let g1 := if g = keep ∨ g = gone then intoG gs keep else g
 if 0 ≤ gone then upG gone g1 else g1
def aliasB (b : Bu) (p q : Int) : Bu :=
 if grpOf b.groups p = grpOf b.groups q then b else
  ⟨b.limit, joinG b.groups (keepG b.groups p q) (goneG b.groups p q), canon (b.spent.map fun s => ⟨mapG b.groups (keepG b.groups p q) (goneG b.groups p q) s.group, s.grain, s.cells⟩)⟩
theorem grpOf_bd {gs : List (List Int)} {p : Int} (hp : personB p = true) : grpOf gs p < gs.length ∧ (-1000000 ≤ grpOf gs p) ∧ (grpOf gs p < 0 → grpOf gs p = -1 - p) := by
 have := personB_bd hp
 unfold personB at hp
 simp only [Bool.and_eq_true, decide_eq_true_eq] at hp
 unfold grpOf
 split
 ·rename_i i h
  have := (List.findIdx?_eq_some_iff_getElem.1 h).1
  omega
 ·omega
structure KG (gs : List (List Int)) (keep gone : Int) : Prop where
 ne : keep ≠ gone
 lo : -1000000 ≤ keep ∧ -1000000 ≤ gone
 hi : keep < gs.length ∧ gone < gs.length
 ord : (0 ≤ keep ∧ (gone < 0 ∨ keep < gone)) ∨ (keep < 0 ∧ gone < 0)
theorem kg_of {gs : List (List Int)} {p q : Int} (hp : personB p = true) (hq : personB q = true) (hne : grpOf gs p ≠ grpOf gs q) : KG gs (keepG gs p q) (goneG gs p q) := by
 have h1 := grpOf_bd (gs := gs) hp
 have h2 := grpOf_bd (gs := gs) hq
 unfold keepG goneG
 split
 ·rename_i h; exact ⟨fun e => hne e.symm, by omega, by omega, by omega⟩
 ·rename_i h; exact ⟨hne, by omega, by omega, by omega⟩
def stepV (into from' k : Int) (V : Int → Int → Int → Bool) : Int → Int → Int → Bool := fun g k' t =>
 if k' = k ∧ from' ≠ into then (if g = into then (V into k t || V from' k t) else if g = from' then false else V g k' t) else V g k' t
def stepN (keep gone into : Int) (V : Int → Int → Int → Bool) : Nat → Int → Int → Int → Bool
 | 0 => V
 | i + 1 => stepV into gone (1 + i) (stepV into keep (1 + i) (stepN keep gone into V i))
theorem stepV_ne {into f k : Int} {V : Int → Int → Int → Bool} {g k' t : Int} (h : k' ≠ k) : stepV into f k V g k' t = V g k' t := by
 unfold stepV
 rw [if_neg fun e => h e.1]
theorem stepN_ne {keep gone into : Int} {V : Int → Int → Int → Bool} {g k t : Int} : ∀ n : Nat, (∀ i : Nat, i < n → k ≠ 1 + i) → stepN keep gone into V n g k t = V g k t
 | 0, _ => rfl
 | n + 1, h => by
  unfold stepN
  rw [stepV_ne (h n (by omega)), stepV_ne (h n (by omega)), stepN_ne n fun i hi => h i (by omega)]
theorem stepN_at {keep gone into : Int} {V : Int → Int → Int → Bool} {g k t : Int} (h1 : gone ≠ into) (h2 : keep ≠ gone) : ∀ n : Nat, (∃ i : Nat, i < n ∧ k = 1 + i) →
  stepN keep gone into V n g k t = if g = into then (V into k t || V keep k t || V gone k t) else if g = keep ∨ g = gone then false else V g k t
 | 0, ⟨i, hi, _⟩ => absurd hi (by omega)
 | n + 1, ⟨i, hi, hk⟩ => by
  by_cases hin : i = n
  ·subst hin
   have hlow : ∀ g t, stepN keep gone into V i g k t = V g k t := fun g t => stepN_ne i fun j hj => by omega
   show stepV into gone (1 + i) (stepV into keep (1 + i) (stepN keep gone into V i)) g k t = _
   rw [← hk]
   unfold stepV
   simp only [hlow, true_and, ne_eq, h1, not_false_eq_true, if_true]
   by_cases hki : keep = into
   ·subst hki
    simp only [not_true_eq_false, if_false]
    by_cases hg : g = keep
    ·subst hg; simp [Ne.symm h1]
    ·by_cases hg2 : g = gone
     ·subst hg2; simp [hg]
     ·simp [hg, hg2]
   ·simp only [hki, not_false_eq_true, if_true]
    by_cases hg : g = into
    ·subst hg
     simp [Ne.symm h2, h1]
    ·by_cases hg2 : g = gone
     ·subst hg2; simp [hg]
     ·by_cases hg3 : g = keep
      ·subst hg3; simp [hg, hg2]
      ·simp [hg, hg2, hg3]
  ·show stepV into gone (1 + n) (stepV into keep (1 + n) (stepN keep gone into V n)) g k t = _
   rw [stepV_ne (by omega), stepV_ne (by omega)]
   exact stepN_at h1 h2 n ⟨i, by omega, hk⟩
def map1 (keep gone into g : Int) : Int := if g = keep ∨ g = gone then into else g
structure OkN (n : Nat) (s : Se) : Prop where
 grp : -1000000 ≤ s.group ∧ s.group ≤ 1000000
 grain : 1 ≤ s.grain ∧ s.grain ≤ 4
 nor : Normal s.cells
 rng : rangedB s.cells = true
 ne : s.cells ≠ []
 len : s.cells.length ≤ 1000 * 2 ^ n
structure InvL (n : Nat) (V : Int → Int → Int → Bool) (l : List Se) : Prop where
 ok : ∀ s ∈ l, OkN n s
 see : ∀ g k t, view l g k t = V g k t
 cnt : l.length ≤ 1000 + n
theorem InvL.look {n : Nat} {V : Int → Int → Int → Bool} {l : List Se} (h : InvL n V l) (g k : Int) : rangedB (lookD l g k) = true ∧ (lookD l g k).length ≤ 1000 * 2 ^ n := by
 unfold lookD
 split
 ·rename_i s hs
  have := h.ok s (List.mem_of_find?_eq_some hs)
  exact ⟨this.rng, this.len⟩
 ·exact ⟨rfl, by simp⟩
theorem OkN.mono {n : Nat} {s : Se} (h : OkN n s) : OkN (n + 1) s := ⟨h.grp, h.grain, h.nor, h.rng, h.ne, Nat.le_trans h.len (by rw [Nat.pow_succ]; omega)⟩
theorem look_drop {l : List Se} {f into k : Int} (hn : (l.map seKey).Nodup) (hne : f ≠ into) : lookD (dropD l f k) into k = lookD l into k :=
 lookD_ne hn (dropD_keys hn) fun s hs => by
  rw [dropD_mem]
  refine ⟨fun h => h.1, fun h => ⟨h, fun e => ?_⟩⟩
  rw [hs] at e
  exact hne (Prod.mk.inj e).1.symm
theorem InvL.step {n : Nat} {V : Int → Int → Int → Bool} {l : List Se} (h : InvL n V l) (hn : (l.map seKey).Nodup) {into f k : Int} (hne : f ≠ into) (hi : -1000000 ≤ into ∧ into ≤ 1000000) (hk : 1 ≤ k ∧ k ≤ 4) :
  InvL (n + 1) (stepV into f k V) (addP (dropD l f k) into k (lookD l f k)) := by
 have hnd := dropD_keys (g := f) (k := k) hn
 obtain ⟨a1, a2⟩ := h.look f k
 obtain ⟨b1, b2⟩ := h.look into k
 refine ⟨fun s hs => ?_, fun g k' t => ?_, ?_⟩
 ·rcases (addP_mem hnd s).1 hs with ⟨_, h2⟩ | ⟨h1, rfl | ⟨h2, _⟩⟩
  ·exact (h.ok s ((dropD_mem s).1 h2).1).mono
  ·rw [look_drop hn hne] at h1 ⊢
   refine ⟨hi, hk, unionD_normal _ _, normD_ranged (by rw [rangedB_app, a1, b1]; rfl), h1, ?_⟩
   have := normD_len (lookD l into k ++ lookD l f k)
   rw [List.length_append] at this
   show (normD _).length ≤ _
   rw [Nat.pow_succ]; omega
  ·exact (h.ok s ((dropD_mem s).1 h2).1).mono
 ·rw [view_addP hnd, view_drop hn, view_drop hn]
  have hm : memS (lookD l f k) t = V f k t := h.see f k t
  rw [hm]
  unfold stepV
  by_cases hk' : k' = k
  ·subst hk'
   simp only [ne_eq, hne, not_false_eq_true, and_self, if_true, Prod.mk.injEq, and_true]
   by_cases hg : g = into
   ·subst hg
    simp [Ne.symm hne, h.see]
   ·by_cases hgf : g = f
    ·subst hgf; simp [hg]
    ·simp [hg, hgf, h.see]
  ·simp [hk', h.see]
 ·have h1 : (dropD l f k).length ≤ l.length := List.length_filter_le _ _
  have h2 : (addP (dropD l f k) into k (lookD l f k)).length ≤ (dropD l f k).length + 1 := by
   unfold addP putD
   split
   ·omega
   ·split <;> simp
  have := h.cnt
  omega
theorem InvL.skip {n : Nat} {V : Int → Int → Int → Bool} {l : List Se} (h : InvL n V l) {into k : Int} : InvL (n + 1) (stepV into into k V) l := by
 refine ⟨fun s hs => (h.ok s hs).mono, fun g k' t => ?_, by have := h.cnt; omega⟩
 unfold stepV
 rw [if_neg fun e => e.2 rfl]
 exact h.see g k' t
theorem map1_gone {keep gone into g : Int} (h1 : gone ≠ into) : map1 keep gone into g ≠ gone := by
 unfold map1
 split
 ·exact fun e => h1 e.symm
 ·rename_i h; exact fun e => h (.inr e)
theorem InvL.full {n : Nat} {V : Int → Int → Int → Bool} {l : List Se} (h : InvL n V l) : Full l := fun s hs => ⟨(h.ok s hs).nor, (h.ok s hs).ne⟩
theorem InvL.gone {V : Int → Int → Int → Bool} {l : List Se} {n : Nat} {keep gone into : Int} (h : InvL n (stepN keep gone into V 4) l) (hn : (l.map seKey).Nodup) (h1 : gone ≠ into) (h2 : keep ≠ gone) : ∀ s ∈ l, s.group ≠ gone := fun s hs e => by
 have hk := (h.ok s hs).grain
 refine view_none hn h.full (g := gone) (k := s.grain) (fun t => ?_) s hs (by unfold seKey; rw [e])
 rw [h.see, stepN_at h1 h2 4 ⟨(s.grain - 1).toNat, by omega, by omega⟩, if_neg h1, if_pos (.inr rfl)]
end Go.Proofs.YtdglpgepgmdbdaaGreatDoor
namespace Go.Proofs.YtdglpgepgmdbdaaGreatDoor
set_option linter.unusedSectionVars false
variable [Go.Proofs.YtdglpgepgmdbdaaGreatDoor.Vc.Drew]
set_option linter.unusedSimpArgs false
set_option linter.unusedVariables false
open Go.Proofs.YtdglpgepgmdbdaaGreatDoor.Vc
theorem HsV.set {R : RO} {hs : List Value} {gs : List (List Int)} (h : HsV R hs gs) (j : Nat) {v : Value} {x : List Int} (hv : IntV R v x) : HsV R (hs.set j v) (gs.set j x) := by
 refine ⟨by simp [h.len], fun i h1 h2 => ?_⟩
 rw [List.length_set] at h1 h2
 rw [List.getElem_set, List.getElem_set]
 split
 ·exact hv
 ·exact h.val i h1 h2
theorem HsV.erase {R : RO} {hs : List Value} {gs : List (List Int)} (h : HsV R hs gs) (j : Nat) : HsV R (hs.eraseIdx j) (gs.eraseIdx j) := by
 have hl := h.len
 refine ⟨by rw [List.length_eraseIdx, List.length_eraseIdx, hl], fun i h1 h2 => ?_⟩
 rw [List.length_eraseIdx] at h1 h2
 rw [List.getElem_eraseIdx, List.getElem_eraseIdx]
 split
 ·exact h.val i (by split at h1 <;> omega) (by split at h2 <;> omega)
 ·exact h.val (i + 1) (by split at h1 <;> omega) (by split at h2 <;> omega)
theorem inc_len {l : List Int} (h : Inc l) (hp : ∀ p ∈ l, personB p = true) : l.length ≤ 512 := by
 have hn : (l.map Int.toNat).Nodup := by
  refine List.pairwise_map.2 ?_
  have h1 : l.Pairwise fun a b => a ∈ l ∧ b ∈ l ∧ a < b := List.pairwise_iff_getElem.2 fun i j hi hj hij => ⟨List.getElem_mem hi, List.getElem_mem hj, h.get_lt hij hj⟩
  refine h1.imp fun {a b} hab e => ?_
  have h2 := hp a hab.1
  have h3 := hp b hab.2.1
  unfold personB at h2 h3
  simp only [Bool.and_eq_true, decide_eq_true_eq] at h2 h3
  omega
 have := nodup_len hn (b := List.range 512) fun x hx => by
  obtain ⟨p, hp', rfl⟩ := List.mem_map.1 hx
  have h2 := hp p hp'
  unfold personB at h2
  simp only [Bool.and_eq_true, decide_eq_true_eq] at h2
  exact List.mem_range.2 (by omega)
 simpa using this
theorem membersD_len {gs : List (List Int)} (h : ValidG gs) {g : Int} (hg : g < gs.length) : 1 ≤ (membersD gs g).length ∧ (membersD gs g).length ≤ 512 := by
 unfold membersD
 split
 ·simp
 ·rename_i hn
  have hlt : g.toNat < gs.length := by omega
  rw [List.getD_eq_getElem?_getD, List.getElem?_eq_getElem hlt]
  have hO := h.all g.toNat hlt
  refine ⟨?_, inc_len hO.inc fun p hp => (hO.mem p hp).1⟩
  show 1 ≤ gs[g.toNat].length
  have := hO.ne
  rcases Nat.eq_zero_or_pos gs[g.toNat].length with h0 | h0
  ·exact absurd (List.eq_nil_of_length_eq_zero h0) this
  ·exact h0
def gs2D (gs : List (List Int)) (keep gone : Int) : List (List Int) := if keep < 0 then gs ++ [sortI (membersD gs keep ++ membersD gs gone)] else gs.set keep.toNat (sortI (membersD gs keep ++ membersD gs gone))
end Go.Proofs.YtdglpgepgmdbdaaGreatDoor
/- Plain lemmas of our own, no statement of the seat: the reference's Total, KnownBy, Check, Known. -/
namespace Go.Proofs.YtdglpgepgmdbdaaGreatDoor
set_option linter.unusedSectionVars false
variable [Go.Proofs.YtdglpgepgmdbdaaGreatDoor.Vc.Drew]
set_option linter.unusedSimpArgs false
set_option linter.unusedVariables false
open Go.Proofs.YtdglpgepgmdbdaaGreatDoor.Vc
theorem totalD_take (g : Int) (l : List Se) (i : Nat) (hi : i < l.length) : totalD g (l.take (i + 1)) = totalD g (l.take i) + termD g l[i] := by
 rw [List.take_succ_eq_append_getElem hi, totalD_app]; simp [totalD]
set_option maxHeartbeats 1000000 in
theorem rTotal (b : Bu) (hB : OkB b) (hr : RawB b) (g : Int) (v : Value) (R : RO) (h : BuV R v b) : CallsR Tryz.prog 10 [v, .int .i64 g] R fun _ r => r = .int .i64 (totalD g b.spent) := by
 obtain ⟨gv, sv, rfl, hg, hs⟩ := h
 obtain ⟨hsl, a, cap, rfl, hc, hf⟩ := hs.form
 have hC := hB.okC hr
 have hbl := hr.len
 have hbd : ∀ i, 0 ≤ totalD g (b.spent.take i) ∧ totalD g (b.spent.take i) ≤ 4503599627370496 * 1000 := fun i => by
  have := totalD_bd (g := g) (l := b.spent.take i) fun s hs => hC s (List.mem_of_mem_take hs)
  rw [List.length_take] at this
  omega
 refine callsT mix Tryz.func10 comp10 (by simp [Tryz.ntmps10]) ?_; simp only [go_sem, ↓reduceIte, nQ1, nQ2, nQ3, nQ4, nQ5, nQ6, reduceCtorEq, vc10, rs10]
 refine vcLoop Nat (fun i => [(6, .val (.int .i64 i)), (5, .val (.int .i64 (totalD g (b.spent.take i)))), (2, .loc 0 0), (1, .val (.int .i64 g))]) (fun _ => [.box [.val (.int .i64 b.limit), .val gv, .val (.slice a b.spent.length cap)]]) (fun i _ => i ≤ b.spent.length) (fun i => b.spent.length - i) 0 ?_ ?_ ?_ ?_
 ·(try simp only [go_sem, ↓reduceIte, nQ1, nQ2, nQ3, nQ4, nQ5, nQ6, reduceCtorEq]) <;> (repeat' (first | rfl | trivial | constructor | (intro h; exact absurd rfl h)))
 ·try simp only [go_sem, ↓reduceIte, nQ1, nQ2, nQ3, nQ4, nQ5, nQ6, reduceCtorEq]
 ·exact Nat.zero_le _
 rintro i env R1 hle1 hE hi
 (simp only [go_sem] at hE; obtain ⟨e6, e5, e2, e1⟩ := hE; simp only [go_sem, ↓reduceIte, nQ1, nQ2, nQ3, nQ4, nQ5, nQ6, reduceCtorEq, e6, e5, e2, e1]; dsimp only at *)
 refine ⟨fun hlt => ?_, fun hge => ?_⟩
 ·have hlt' : i < b.spent.length := by omega
  obtain ⟨ad, u, had, hR, hu⟩ := hf i hlt'
  obtain ⟨uxl, ua, ucap, rfl, huc, huf⟩ : _ ∧ ∃ ua ucap, u = .slice ua b.spent[i].cells.length ucap ∧ _ := ⟨hu.2, hu.form⟩
  have hCi := hC _ (List.getElem_mem hlt')
  have htk := totalD_take g b.spent i hlt'
  have hb0 := hbd i
  have hb1 := hbd (i + 1)
  refine ⟨by omega, vat ad had ?_⟩
  try simp only [go_sem, ↓reduceIte, nQ1, nQ2, nQ3, nQ4, nQ5, nQ6, reduceCtorEq]
  refine vload (.int .i64 b.spent[i].group) (hle1 _ _ (hR 0 _ rfl)) ?_
  simp only [go_sem, ↓reduceIte, nQ1, nQ2, nQ3, nQ4, nQ5, nQ6, reduceCtorEq, e6, e5, e2, e1]
  refine ⟨fun hne => ⟨_, W.in64 (by omega), i + 1, by omega, ?_, by omega⟩, fun heq => ?_⟩
  ·unfold termD at htk
   rw [if_neg hne, Int.add_zero] at htk
   rw [htk]
   try simp only [go_sem, ↓reduceIte, nQ1, nQ2, nQ3, nQ4, nQ5, nQ6, reduceCtorEq]
   rfl
  ·unfold termD at htk
   rw [if_pos heq] at htk
   refine vcLoop Nat (fun k => [(7, .val (.int .i64 k)), (6, .val (.int .i64 i)), (5, .val (.int .i64 (totalD g (b.spent.take i) + countL (sizeI b.spent[i].grain) (b.spent[i].cells.take k)))), (2, .loc 0 0), (1, .val (.int .i64 g))]) (fun _ => [.box [.val (.int .i64 b.limit), .val gv, .val (.slice a b.spent.length cap)]]) (fun k _ => k ≤ b.spent[i].cells.length) (fun k => b.spent[i].cells.length - k) 0 ?_ ?_ ?_ ?_
   ·simp only [List.take_zero, countL, Int.add_zero]
    (try simp only [go_sem, ↓reduceIte, nQ1, nQ2, nQ3, nQ4, nQ5, nQ6, reduceCtorEq]) <;> (repeat' (first | rfl | trivial | constructor | (intro h; exact absurd rfl h)))
   ·try simp only [go_sem, ↓reduceIte, nQ1, nQ2, nQ3, nQ4, nQ5, nQ6, reduceCtorEq]
   ·exact Nat.zero_le _
   rintro k env R2 hle2 hE hk
   (simp only [go_sem] at hE; obtain ⟨e7, e6', e5', e2', e1'⟩ := hE; simp only [go_sem, ↓reduceIte, nQ1, nQ2, nQ3, nQ4, nQ5, nQ6, reduceCtorEq, e7, e6', e5', e2', e1']; dsimp only at *)
   have hle12 := RO.le_trans hle1 hle2
   have hl2 : ∀ {kk : SV → Prop} {t : Tok kk} {bb : List Blk}, kk (.val (.slice ua b.spent[i].cells.length ucap)) → LoadP (allR bb R2) ((ad.add (i * 3)).add 2) kk t := fun hk => vload _ (hle12 _ _ (hR 2 _ rfl)) hk
   refine ⟨by omega, vat ad had ?_⟩
   try simp only [go_sem, ↓reduceIte, nQ1, nQ2, nQ3, nQ4, nQ5, nQ6, reduceCtorEq]
   refine hl2 ?_
   simp only [go_sem, ↓reduceIte, nQ1, nQ2, nQ3, nQ4, nQ5, nQ6, reduceCtorEq, e7, e6', e5', e2', e1']
   refine ⟨fun hlt2 => ?_, fun hge2 => ?_⟩
   ·have hlt3 : k < b.spent[i].cells.length := by omega
    obtain ⟨ad2, had2, hR2⟩ := huf k hlt3
    have hm : b.spent[i].cells[k] ∈ b.spent[i].cells := List.getElem_mem hlt3
    have hp := hCi.nor.pos _ hm
    have hrg := rangedB_iff.1 hCi.rng _ hm
    have c1 := countL_range (sizeI_one b.spent[i].grain).1 hCi.nor hCi.rng k
    have c3 := countL_range (sizeI_one b.spent[i].grain).1 hCi.nor hCi.rng (k + 1)
    have c2 := ediv_le_self' (a := b.spent[i].cells[k].t - b.spent[i].cells[k].f) (n := sizeI b.spent[i].grain) (by omega) (sizeI_one _).1
    have hz := sizeI_pos b.spent[i].grain
    have htc : countL (sizeI b.spent[i].grain) (b.spent[i].cells.take (k + 1)) = countL (sizeI b.spent[i].grain) (b.spent[i].cells.take k) + (b.spent[i].cells[k].t - b.spent[i].cells[k].f) / sizeI b.spent[i].grain := by
     rw [List.take_succ_eq_append_getElem hlt3, countL_app]; simp [countL]
    refine ⟨by omega, vat ad had ?_⟩
    try simp only [go_sem, ↓reduceIte, nQ1, nQ2, nQ3, nQ4, nQ5, nQ6, reduceCtorEq]
    refine hl2 ?_
    simp only [go_sem, ↓reduceIte, nQ1, nQ2, nQ3, nQ4, nQ5, nQ6, reduceCtorEq, e7, e6', e5', e2', e1']
    refine ⟨by omega, vat ad2 had2 ?_⟩
    try simp only [go_sem, ↓reduceIte, nQ1, nQ2, nQ3, nQ4, nQ5, nQ6, reduceCtorEq]
    refine vload (.int .i64 b.spent[i].cells[k].t) (hle12 _ _ (hR2 1 _ rfl)) ?_
    simp only [go_sem, ↓reduceIte, nQ1, nQ2, nQ3, nQ4, nQ5, nQ6, reduceCtorEq, e7, e6', e5', e2', e1']
    refine ⟨by omega, vat ad had ?_⟩
    try simp only [go_sem, ↓reduceIte, nQ1, nQ2, nQ3, nQ4, nQ5, nQ6, reduceCtorEq]
    refine hl2 ?_
    simp only [go_sem, ↓reduceIte, nQ1, nQ2, nQ3, nQ4, nQ5, nQ6, reduceCtorEq, e7, e6', e5', e2', e1']
    refine ⟨by omega, vat ad2 had2 ?_⟩
    try simp only [go_sem, ↓reduceIte, nQ1, nQ2, nQ3, nQ4, nQ5, nQ6, reduceCtorEq]
    refine vload (.int .i64 b.spent[i].cells[k].f) (hle12 _ _ (hR2 0 _ rfl)) ?_
    simp only [go_sem, ↓reduceIte, nQ1, nQ2, nQ3, nQ4, nQ5, nQ6, reduceCtorEq, e7, e6', e5', e2', e1']
    refine ⟨_, W.in64 (by omega), by omega, vat ad had ?_⟩
    try simp only [go_sem, ↓reduceIte, nQ1, nQ2, nQ3, nQ4, nQ5, nQ6, reduceCtorEq]
    refine vload (.int .i64 b.spent[i].grain) (hle12 _ _ (hR 1 _ rfl)) ?_
    simp only [go_sem, ↓reduceIte, nQ1, nQ2, nQ3, nQ4, nQ5, nQ6, reduceCtorEq, e7, e6', e5', e2', e1']
    refine vcall (rSize b.spent[i].grain R2) ?_
    rintro R3 r hle3 rfl
    simp only [go_sem, ↓reduceIte, nQ1, nQ2, nQ3, nQ4, nQ5, nQ6, reduceCtorEq, e7, e6', e5', e2', e1']
    rw [tdiv_nonneg' (by omega) (by omega)]
    refine ⟨by omega, _, W.in64 (by omega), _, W.in64 (by omega), _, W.in64 (by omega), k + 1, by omega, ?_, by omega⟩
    rw [htc]
    exact ⟨rfl, by rw [Int.add_assoc]⟩
   ·obtain rfl : k = b.spent[i].cells.length := by omega
    refine ⟨_, W.in64 (by omega), i + 1, by omega, ?_, by omega⟩
    rw [htk, List.take_length]
    exact ⟨rfl, rfl⟩
 ·obtain rfl : i = b.spent.length := by omega
  rw [List.take_length]
theorem knownL_mem (l : List Se) (g k t : Int) : ∀ n, memS (knownL l g k n) t = true ↔ ∃ j : Nat, j < n ∧ view l g (k + j) t = true
 | 0 => by simp [knownL, memS_nil]
 | n + 1 => by
  rw [knownL_succ, memS_app, Bool.or_eq_true, knownL_mem l g k t n]
  constructor
  ·rintro (⟨j, hj, h⟩ | h)
   ·exact ⟨j, by omega, h⟩
   ·exact ⟨n, by omega, h⟩
  ·rintro ⟨j, hj, h⟩
   by_cases e : j = n
   ·subst e; exact .inr h
   ·exact .inl ⟨j, by omega, h⟩
end Go.Proofs.YtdglpgepgmdbdaaGreatDoor
/- Plain lemmas of our own, no statement of the seat: valid budgets stay valid. -/
namespace Go.Proofs.YtdglpgepgmdbdaaGreatDoor
set_option linter.unusedSectionVars false
variable [Go.Proofs.YtdglpgepgmdbdaaGreatDoor.Vc.Drew]
set_option linter.unusedSimpArgs false
set_option linter.unusedVariables false
open Go.Proofs.YtdglpgepgmdbdaaGreatDoor.Vc
theorem grpOf_mem {gs : List (List Int)} {x : Int} (h : 0 ≤ grpOf gs x) (hx : personB x = true) : ∃ h2 : (grpOf gs x).toNat < gs.length, x ∈ gs[(grpOf gs x).toNat] := by
 have hb := grpOf_bd (gs := gs) hx
 unfold grpOf at h hb ⊢
 split at h
 ·rename_i i hi
  obtain ⟨h1, h2, _⟩ := List.findIdx?_eq_some_iff_getElem.1 hi
  simp only [hi, Int.toNat_natCast]
  exact ⟨h1, by simpa using h2⟩
 ·simp only [personB, Bool.and_eq_true, decide_eq_true_eq] at hx
  omega
theorem valid_len {gs : List (List Int)} (h : ∀ i (hi : i < gs.length), OkG gs i gs[i]) : gs.length ≤ 512 := by
 have hh : ∀ i (hi : i < gs.length), ∃ x, x ∈ gs[i] ∧ personB x = true ∧ grpOf gs x = i := fun i hi => by
  have h1 := h i hi
  cases hg : gs[i] with
  | nil => exact absurd hg h1.ne
  | cons x l => exact ⟨x, by simp, h1.mem x (by rw [hg]; simp)⟩
 have : ∀ n, n ≤ gs.length → ∃ l : List Nat, l.length = n ∧ l.Nodup ∧ ∀ y ∈ l, y ∈ List.range 512 ∧ grpOf gs (y : Int) < n := by
  intro n
  induction n with
  | zero => exact fun _ => ⟨[], rfl, List.nodup_nil, by simp⟩
  | succ n ih =>
   intro hn
   obtain ⟨l, h1, h2, h3⟩ := ih (by omega)
   obtain ⟨x, hx, hp, hg⟩ := hh n (by omega)
   simp only [personB, Bool.and_eq_true, decide_eq_true_eq] at hp
   have hxx : ((x.toNat : Nat) : Int) = x := by omega
   refine ⟨x.toNat :: l, by simp [h1], List.nodup_cons.2 ⟨fun hm => ?_, h2⟩, fun y hy => ?_⟩
   ·have := (h3 _ hm).2
    rw [hxx] at this
    omega
   ·rcases List.mem_cons.1 hy with rfl | hy
    ·exact ⟨List.mem_range.2 (by omega), by rw [hxx]; omega⟩
    ·exact ⟨(h3 y hy).1, by have := (h3 y hy).2; omega⟩
 obtain ⟨l, h1, h2, h3⟩ := this gs.length (Nat.le_refl _)
 have := nodup_len h2 fun y hy => (h3 y hy).1
 simpa [h1] using this
structure GoneOk (gs : List (List Int)) (g : Int) : Prop where
 hi : g < gs.length
 neg : g < 0 → personB (-1 - g) = true ∧ grpOf gs (-1 - g) = g
theorem membersD_iff {gs : List (List Int)} (h : ValidG gs) {g : Int} (hg : GoneOk gs g) (x : Int) : x ∈ membersD gs g ↔ personB x = true ∧ grpOf gs x = g := by
 unfold membersD
 split
 ·rename_i hn
  simp only [List.mem_singleton]
  constructor
  ·rintro rfl; exact hg.neg hn
  ·rintro ⟨h1, h2⟩
   have := (grpOf_bd (gs := gs) h1).2.2 (by omega)
   omega
 ·rename_i hn
  have hlt : g.toNat < gs.length := by have := hg.hi; omega
  rw [List.getD_eq_getElem?_getD, List.getElem?_eq_getElem hlt]
  show x ∈ gs[g.toNat] ↔ _
  constructor
  ·intro hx
   have := (h.all _ hlt).mem x hx
   exact ⟨this.1, by rw [this.2]; omega⟩
  ·rintro ⟨h1, h2⟩
   obtain ⟨h3, h4⟩ := grpOf_mem (gs := gs) (x := x) (by omega) h1
   simpa [h2] using h4
theorem membersD_inc {gs : List (List Int)} (h : ValidG gs) {g : Int} (hg : GoneOk gs g) : Inc (membersD gs g) := by
 unfold membersD
 split
 ·exact List.pairwise_singleton _ _
 ·have hlt : g.toNat < gs.length := by have := hg.hi; omega
  rw [List.getD_eq_getElem?_getD, List.getElem?_eq_getElem hlt]
  exact (h.all _ hlt).inc
theorem sortI_mem {l : List Int} {x : Int} : x ∈ sortI l ↔ x ∈ l := List.mem_mergeSort
theorem sortI_inc {l : List Int} (h : l.Nodup) : Inc (sortI l) := by
 have h1 : (sortI l).Pairwise fun x y => decide (x ≤ y) = true := List.pairwise_mergeSort (fun a b c => by simp only [decide_eq_true_eq]; omega) (fun a b => by simp only [Bool.or_eq_true, decide_eq_true_eq]; omega) l
 have h2 : (sortI l).Nodup := (List.mergeSort_perm l _).nodup_iff.2 h
 exact (h1.and h2).imp fun {a b} ⟨p, q⟩ => by
  simp only [decide_eq_true_eq] at p
  have : a ≠ b := q
  omega
def allG (gs : List (List Int)) (keep gone : Int) : List Int := sortI (membersD gs keep ++ membersD gs gone)
theorem allG_iff {gs : List (List Int)} (h : ValidG gs) {keep gone : Int} (hk : GoneOk gs keep) (hg : GoneOk gs gone) (x : Int) : x ∈ allG gs keep gone ↔ personB x = true ∧ (grpOf gs x = keep ∨ grpOf gs x = gone) := by
 unfold allG
 rw [sortI_mem, List.mem_append, membersD_iff h hk, membersD_iff h hg]
 constructor
 ·rintro (⟨a, b⟩ | ⟨a, b⟩)
  ·exact ⟨a, .inl b⟩
  ·exact ⟨a, .inr b⟩
 ·rintro ⟨a, b | b⟩
  ·exact .inl ⟨a, b⟩
  ·exact .inr ⟨a, b⟩
theorem allG_inc {gs : List (List Int)} (h : ValidG gs) {keep gone : Int} (hk : GoneOk gs keep) (hg : GoneOk gs gone) (hne : keep ≠ gone) : Inc (allG gs keep gone) :=
 sortI_inc (List.nodup_append.2 ⟨(membersD_inc h hk).nodup, (membersD_inc h hg).nodup, fun a ha b hb e => hne (by
  rw [← ((membersD_iff h hk a).1 ha).2, ← ((membersD_iff h hg b).1 hb).2, e])⟩)
theorem g1_get {gs : List (List Int)} {keep gone : Int} (hhi : keep < gs.length) (j : Nat) (hj : j < (gs2D gs keep gone).length) : (gs2D gs keep gone)[j] = if (j : Int) = intoG gs keep then allG gs keep gone else gs.getD j [] := by
 unfold gs2D intoG allG at *
 by_cases h : keep < 0
 ·simp only [h, if_true] at hj ⊢
  rw [List.getElem_append]
  split
  ·rename_i h2
   rw [if_neg (by omega), List.getD_eq_getElem?_getD, List.getElem?_eq_getElem h2]; rfl
  ·rename_i h2
   have hjj : (j : Int) = gs.length := by simp at hj; omega
   rw [if_pos hjj]
   simp
 ·simp only [h, if_false] at hj ⊢
  rw [List.getElem_set]
  have hl : j < gs.length := by simpa using hj
  by_cases e : (j : Int) = keep
  ·rw [if_pos (by omega), if_pos e]
  ·rw [if_neg (by omega), if_neg e, List.getD_eq_getElem?_getD, List.getElem?_eq_getElem hl]; rfl
theorem gs2D_len {gs : List (List Int)} {keep gone : Int} : (gs2D gs keep gone).length = if keep < 0 then gs.length + 1 else gs.length := by
 unfold gs2D; split <;> simp
theorem joinG_eq {gs : List (List Int)} {keep gone : Int} : joinG gs keep gone = if 0 ≤ gone then (gs2D gs keep gone).eraseIdx gone.toNat else gs2D gs keep gone := rfl
def dnN (gone : Int) (i : Nat) : Nat := if 0 ≤ gone ∧ gone ≤ i then i + 1 else i
theorem joinG_get {gs : List (List Int)} {keep gone : Int} (h : KG gs keep gone) (i : Nat) (hi : i < (joinG gs keep gone).length) : ∃ hd : dnN gone i < (gs2D gs keep gone).length, (joinG gs keep gone)[i] = (gs2D gs keep gone)[dnN gone i] := by
 unfold dnN
 by_cases h0 : 0 ≤ gone
 ·simp only [joinG_eq, h0, if_true] at hi ⊢
  have hlen : gone.toNat < (gs2D gs keep gone).length := by rw [gs2D_len]; have := h.hi; split <;> omega
  rw [List.length_eraseIdx] at hi
  simp only [hlen, if_true] at hi
  rw [List.getElem_eraseIdx]
  by_cases e : gone ≤ i
  ·simp only [e, and_true, if_true]
   exact ⟨by omega, by rw [dif_neg (by omega)]⟩
  ·simp only [e, and_false, if_false]
   exact ⟨by omega, by rw [dif_pos (by omega)]⟩
 ·simp only [joinG_eq, h0, if_false, false_and] at hi ⊢
  exact ⟨hi, by first | rfl | trivial⟩
theorem dnN_ne {keep gone : Int} {gs : List (List Int)} (h : KG gs keep gone) {i : Nat} : (dnN gone i : Int) ≠ gone := by
 unfold dnN; split <;> omega
theorem dnN_inj {gone : Int} {i j : Nat} (h : dnN gone i = dnN gone j) : i = j := by
 unfold dnN at h; split at h <;> split at h <;> omega
theorem upG_dn {gone : Int} {i : Nat} : (if 0 ≤ gone then upG gone (dnN gone i) else (dnN gone i : Int)) = i := by
 unfold dnN upG
 split <;> split <;> (try split) <;> omega
theorem joinG_mem {gs : List (List Int)} (hV : ValidG gs) {keep gone : Int} (h : KG gs keep gone) (hk : GoneOk gs keep) (hg : GoneOk gs gone) (i : Nat) (hi : i < (joinG gs keep gone).length) (x : Int) :
  x ∈ (joinG gs keep gone)[i] ↔ personB x = true ∧ map1 keep gone (intoG gs keep) (grpOf gs x) = dnN gone i := by
 obtain ⟨hd, e⟩ := joinG_get h i hi
 rw [e, g1_get h.hi.1]
 have hne := dnN_ne h (i := i)
 have ho := h.ord
 have hhi := h.hi
 have hb := fun hx : personB x = true => grpOf_bd (gs := gs) hx
 have hlen := gs2D_len (gs := gs) (keep := keep) (gone := gone)
 have hin : intoG gs keep = if keep < 0 then (gs.length : Int) else keep := rfl
 unfold map1
 by_cases ei : (dnN gone i : Int) = intoG gs keep
 ·rw [if_pos ei, allG_iff hV hk hg, ei]
  refine and_congr_right fun hx => ?_
  have := hb hx
  constructor
  ·intro h1; rw [if_pos h1]
  ·intro h1
   by_cases h2 : grpOf gs x = keep ∨ grpOf gs x = gone
   ·exact h2
   ·rw [if_neg h2] at h1
    split at hin
    ·omega
    ·exact .inl (by omega)
 ·rw [if_neg ei]
  have hlt : dnN gone i < gs.length := by
   rw [hlen] at hd
   split at hin
   ·rename_i hneg; rw [if_pos hneg] at hd; omega
   ·rename_i hneg; rw [if_neg hneg] at hd; exact hd
  rw [List.getD_eq_getElem?_getD, List.getElem?_eq_getElem hlt]
  show x ∈ gs[dnN gone i] ↔ _
  constructor
  ·intro hx
   obtain ⟨h1, h2⟩ := (hV.all _ hlt).mem x hx
   refine ⟨h1, ?_⟩
   rw [if_neg, h2]
   rw [h2]
   split at hin <;> omega
  ·rintro ⟨h1, h2⟩
   split at h2
   ·exact absurd h2.symm ei
   ·obtain ⟨h3, h4⟩ := grpOf_mem (gs := gs) (x := x) (by omega) h1
    simpa [h2] using h4
theorem grpOf_join {gs : List (List Int)} (hV : ValidG gs) {keep gone : Int} (h : KG gs keep gone) (hk : GoneOk gs keep) (hg : GoneOk gs gone) {x : Int} (hx : personB x = true) : grpOf (joinG gs keep gone) x = mapG gs keep gone (grpOf gs x) := by
 have hm := fun i hi => joinG_mem hV h hk hg i hi x
 have e : mapG gs keep gone (grpOf gs x) = if 0 ≤ gone then upG gone (map1 keep gone (intoG gs keep) (grpOf gs x)) else map1 keep gone (intoG gs keep) (grpOf gs x) := rfl
 rw [e]
 by_cases hex : ∃ i, ∃ hi : i < (joinG gs keep gone).length, x ∈ (joinG gs keep gone)[i]
 ·obtain ⟨i, hi, hxi⟩ := hex
  have h1 := ((hm i hi).1 hxi).2
  rw [h1, upG_dn]
  refine grpOf_here hi (by simpa using hxi) fun j hj hji => ?_
  rw [Bool.eq_false_iff]
  intro hc
  have h2 := ((hm j hj).1 (by simpa using hc)).2
  have := dnN_inj (gone := gone) (i := i) (j := j) (by omega)
  omega
 ·have hno : ∀ i (hi : i < (joinG gs keep gone).length), (joinG gs keep gone)[i].contains x = false := fun i hi => by
   rw [Bool.eq_false_iff]
   exact fun hc => hex ⟨i, hi, by simpa using hc⟩
  rw [grpOf_none hno]
  have hb := grpOf_bd (gs := gs) hx
  have ho := h.ord
  have hhi := h.hi
  have hin : intoG gs keep = if keep < 0 then (gs.length : Int) else keep := rfl
  have hjl : (joinG gs keep gone).length = if 0 ≤ gone then (gs2D gs keep gone).length - 1 else (gs2D gs keep gone).length := by
   rw [joinG_eq]
   split
   ·rw [List.length_eraseIdx, if_pos]
    rw [gs2D_len]; split <;> omega
   ·rfl
  rw [gs2D_len] at hjl
  by_cases hn : 0 ≤ map1 keep gone (intoG gs keep) (grpOf gs x)
  ·exfalso
   have hml : map1 keep gone (intoG gs keep) (grpOf gs x) ≠ gone := map1_gone (by split at hin <;> omega)
   have hm2 : map1 keep gone (intoG gs keep) (grpOf gs x) < if keep < 0 then (gs.length : Int) + 1 else gs.length := by
    unfold map1
    split at hin <;> split <;> omega
   have hup : ∃ i : Nat, (dnN gone i : Int) = map1 keep gone (intoG gs keep) (grpOf gs x) ∧ i < (joinG gs keep gone).length := by
    refine ⟨(if 0 ≤ gone then upG gone (map1 keep gone (intoG gs keep) (grpOf gs x)) else map1 keep gone (intoG gs keep) (grpOf gs x)).toNat, ?_, ?_⟩
    ·unfold dnN upG
     split <;> split <;> (try split) <;> omega
    ·rw [hjl]
     unfold upG
     split <;> split at hm2 <;> (try split) <;> omega
   obtain ⟨i, h1, h2⟩ := hup
   exact hex ⟨i, h2, (hm i h2).2 ⟨hx, h1.symm⟩⟩
  ·have hng : ¬ (grpOf gs x = keep ∨ grpOf gs x = gone) := fun h1 => hn (by unfold map1; rw [if_pos h1]; split at hin <;> omega)
   unfold map1 at hn ⊢
   rw [if_neg hng] at hn ⊢
   have h3 := hb.2.2 (by omega)
   rw [h3]
   unfold upG
   split
   ·rw [if_neg (by omega)]
   ·rfl
theorem gone_ok {gs : List (List Int)} {p : Int} (hp : personB p = true) : GoneOk gs (grpOf gs p) := by
 have := grpOf_bd (gs := gs) hp
 refine ⟨this.1, fun h => ?_⟩
 have h2 := this.2.2 h
 rw [show -1 - grpOf gs p = p by omega]
 exact ⟨hp, rfl⟩
theorem joinG_valid {gs : List (List Int)} (hV : ValidG gs) {keep gone : Int} (h : KG gs keep gone) (hk : GoneOk gs keep) (hg : GoneOk gs gone) : ValidG (joinG gs keep gone) := by
 have key : ∀ i (hi : i < (joinG gs keep gone).length), OkG (joinG gs keep gone) i (joinG gs keep gone)[i] := fun i hi => by
  have hmem := joinG_mem hV h hk hg i hi
  obtain ⟨hd, e⟩ := joinG_get h i hi
  have e2 := e.trans (g1_get h.hi.1 (dnN gone i) hd)
  have hlen := gs2D_len (gs := gs) (keep := keep) (gone := gone)
  have hin : intoG gs keep = if keep < 0 then (gs.length : Int) else keep := rfl
  have hmp : ∀ p ∈ (joinG gs keep gone)[i], personB p = true ∧ grpOf (joinG gs keep gone) p = i := fun p hp => by
   obtain ⟨h1, h2⟩ := (hmem p).1 hp
   refine ⟨h1, ?_⟩
   rw [grpOf_join hV h hk hg h1]
   show (if 0 ≤ gone then upG gone (map1 keep gone (intoG gs keep) (grpOf gs p)) else map1 keep gone (intoG gs keep) (grpOf gs p)) = i
   rw [h2, upG_dn]
  by_cases ei : (dnN gone i : Int) = intoG gs keep
  ·rw [if_pos ei] at e2
   refine ⟨?_, by rw [e2]; exact allG_inc hV hk hg h.ne, hmp⟩
   rw [e2]
   intro hnil
   have hm := membersD_len hV hk.hi
   have : (allG gs keep gone).length = (membersD gs keep ++ membersD gs gone).length := by unfold allG sortI; rw [List.length_mergeSort]
   rw [hnil, List.length_append] at this
   simp at this
   omega
  ·rw [if_neg ei] at e2
   have hlt : dnN gone i < gs.length := by
    rw [hlen] at hd
    split at hin
    ·rename_i hneg; rw [if_pos hneg] at hd; omega
    ·rename_i hneg; rw [if_neg hneg] at hd; exact hd
   rw [List.getD_eq_getElem?_getD, List.getElem?_eq_getElem hlt] at e2
   have hO := hV.all _ hlt
   refine ⟨by rw [e2]; exact hO.ne, by rw [e2]; exact hO.inc, hmp⟩
 exact ⟨key, valid_len key⟩
end Go.Proofs.YtdglpgepgmdbdaaGreatDoor
/- Plain lemmas of our own, no statement of the seat: askB and aliasB keep budgets valid; how large they become. -/
namespace Go.Proofs.YtdglpgepgmdbdaaGreatDoor
set_option linter.unusedSectionVars false
variable [Go.Proofs.YtdglpgepgmdbdaaGreatDoor.Vc.Drew]
set_option linter.unusedSimpArgs false
set_option linter.unusedVariables false
open Go.Proofs.YtdglpgepgmdbdaaGreatDoor.Vc
def lens (l : List Se) : Nat := (l.map fun s => s.cells.length).sum
theorem lens_cons (s : Se) (l : List Se) : lens (s :: l) = s.cells.length + lens l := by unfold lens; rw [List.map_cons, List.sum_cons]
theorem lens_mem {l : List Se} {s : Se} (h : s ∈ l) : s.cells.length ≤ lens l := by
 induction l with
 | nil => cases h
 | cons x l ih =>
  rw [lens_cons]
  rcases List.mem_cons.1 h with rfl | h
  ·omega
  ·have := ih h; omega
theorem lookD_cons {y : Se} {l : List Se} {g k : Int} : lookD (y :: l) g k = if seKey y = (g, k) then y.cells else lookD l g k := by
 unfold lookD
 rw [List.find?_cons]
 by_cases h : seKey y = (g, k) <;> simp [h]
theorem lookD_nil {l : List Se} {g k : Int} (h : ∀ s ∈ l, seKey s ≠ (g, k)) : lookD l g k = [] := by
 unfold lookD
 rw [List.find?_eq_none.2 fun s hs => by simpa using h s hs]
theorem lookD_cases (l : List Se) (g k : Int) : lookD l g k = [] ∨ ∃ s ∈ l, seKey s = (g, k) ∧ lookD l g k = s.cells := by
 unfold lookD
 cases h : l.find? (fun s => decide (seKey s = (g, k))) with
 | none => exact .inl rfl
 | some s => exact .inr ⟨s, List.mem_of_find?_eq_some h, by simpa using List.find?_some h, rfl⟩
theorem insE_sum (F : Se → Int) (G : List Sp → Int) (h0 : G [] = 0) (s : Se) (hF : ∀ y : Se, seKey y = seKey s → F y = G y.cells) : ∀ l : List Se, l.Pairwise keyLt → ((insE s l).map F).sum + G (lookD l s.group s.grain) = (l.map F).sum + F s
 | [], _ => by simp [insE, lookD, h0]
 | y :: l, h => by
  obtain ⟨h1, h2⟩ := List.pairwise_cons.1 h
  unfold insE
  rw [lookD_cons]
  split
  ·rename_i hlt
   have hne : seKey y ≠ (s.group, s.grain) := fun e => keyLt_ne hlt e.symm
   rw [if_neg hne, lookD_nil fun z hz e => keyLt_ne (keyLt_trans hlt (h1 z hz)) e.symm, h0]
   simp only [List.map_cons, List.sum_cons]; omega
  ·rename_i hnl
   split
   ·rename_i hlt
    rw [if_neg (show ¬ seKey y = (s.group, s.grain) from keyLt_ne hlt)]
    have := insE_sum F G h0 s hF l h2
    simp only [List.map_cons, List.sum_cons]; omega
   ·rename_i hnl2
    have he : seKey s = seKey y := keyLt_tri hnl hnl2
    rw [if_pos (show seKey y = (s.group, s.grain) from he.symm), ← hF y he.symm]
    simp only [List.map_cons, List.sum_cons]; omega
theorem insE_len (s : Se) : ∀ l : List Se, (insE s l).length ≤ l.length + 1
 | [] => by simp [insE]
 | y :: l => by
  unfold insE
  have := insE_len s l
  split
  ·simp
  ·split
   ·simp only [List.length_cons]; omega
   ·simp
theorem addS_len {l : List Se} {g k : Int} {cs : List Sp} : (addS l g k cs).length ≤ l.length + 1 := by
 unfold addS
 split
 ·omega
 ·exact insE_len _ _
theorem lens_int (l : List Se) : (lens l : Int) = (l.map fun s => (s.cells.length : Int)).sum := by
 induction l with
 | nil => rfl
 | cons s l ih => rw [lens_cons, List.map_cons, List.sum_cons, ← ih]; omega
theorem unionD_len (a b : List Sp) : (unionD a b).length ≤ a.length + b.length := by
 have := normD_len (a ++ b)
 rw [List.length_append] at this
 exact this
theorem addS_lens {l : List Se} (h : l.Pairwise keyLt) {g k : Int} {cs : List Sp} : lens (addS l g k cs) ≤ lens l + cs.length := by
 unfold addS
 split
 ·omega
 ·have h1 := insE_sum (fun s => (s.cells.length : Int)) (fun c => (c.length : Int)) rfl ⟨g, k, unionD (lookD l g k) cs⟩ (fun _ _ => rfl) l h
  have h2 := unionD_len (lookD l g k) cs
  rw [← lens_int, ← lens_int] at h1
  simp only at h1
  omega
structure SzB (b : Bu) (n m : Nat) : Prop where
 len : b.spent.length ≤ n
 lens : lens b.spent ≤ m
theorem SzB.mono {b : Bu} {n m n' m' : Nat} (h : SzB b n m) (h1 : n ≤ n') (h2 : m ≤ m') : SzB b n' m' := ⟨Nat.le_trans h.len h1, Nat.le_trans h.lens h2⟩
theorem OkB.grp {b : Bu} (hB : OkB b) {s : Se} (hs : s ∈ b.spent) : ∃ z, personB z = true ∧ grpOf b.groups z = s.group := by
 have h := hB.each s hs
 by_cases hn : s.group < 0
 ·exact ⟨_, h.alone hn⟩
 ·have hlt : s.group.toNat < b.groups.length := by have := h.group; omega
  have hO := hB.groups.all _ hlt
  cases hg : b.groups[s.group.toNat] with
  | nil => exact absurd hg hO.ne
  | cons x l =>
   have := hO.mem x (by rw [hg]; simp)
   exact ⟨x, this.1, by rw [this.2]; omega⟩
theorem OkB.raw {b : Bu} (hB : OkB b) (h : SzB b 1000 1000) : RawB b := by
 refine ⟨fun s hs => ⟨?_, Nat.le_trans (lens_mem hs) h.lens⟩, h.len⟩
 obtain ⟨z, h1, h2⟩ := hB.grp hs
 have := grpOf_bd (gs := b.groups) h1
 have := hB.groups.len
 unfold I64
 omega
theorem okS_grp {gs : List (List Int)} {z : Int} (hz : personB z = true) : grpOf gs z < gs.length ∧ (grpOf gs z < 0 → personB (-1 - grpOf gs z) = true ∧ grpOf gs (-1 - grpOf gs z) = grpOf gs z) :=
 ⟨(gone_ok hz).hi, (gone_ok hz).neg⟩
theorem validS_of {l : List Sp} (h1 : Normal l) (h2 : rangedB l = true) : validS l = true := validS_iff.2 ⟨h1, h2⟩
theorem OkB.look {b : Bu} (hB : OkB b) (g k : Int) : Normal (lookD b.spent g k) ∧ rangedB (lookD b.spent g k) = true ∧ ((lookD b.spent g k).all fun c => alignedB c (sizeI k)) = true := by
 rcases lookD_cases b.spent g k with e | ⟨s, hs, hk, e⟩
 ·rw [e]; exact ⟨Normal.nil, rfl, rfl⟩
 ·rw [e]
  have h := hB.each s hs
  have h2 := validS_iff.1 h.nor
  have : s.grain = k := congrArg Prod.snd hk
  subst this
  exact ⟨h2.1, h2.2, h.ali⟩
theorem OkB.ask {b : Bu} (hB : OkB b) {p k : Int} {w : Sp} (hp : personB p = true) (hk : 1 ≤ k ∧ k ≤ 4) (hw : OkW k w) : OkB (askB b p k w) := by
 refine ⟨hB.lim, hB.groups, fun s hs => ?_, addS_sorted hB.ord⟩
 rcases (addS_mem hB.ord s).1 hs with ⟨_, hs⟩ | ⟨hne, rfl | ⟨hs, _⟩⟩
 ·exact hB.each s hs
 ·have hg := okS_grp (gs := b.groups) hp
  obtain ⟨l1, l2, l3⟩ := hB.look (grpOf b.groups p) k
  obtain ⟨m1, m2, m3, _⟩ := missD_facts (K := memS (knownD b.spent (grpOf b.groups p) k)) hw
  refine ⟨hk, hne, hg.1, hg.2, validS_of (unionD_normal _ _) (normD_ranged (by rw [rangedB_app, l2]; exact m2)), normD_aligned ?_⟩
  rw [List.all_append, l3]
  exact m3
 ·exact hB.each s hs
theorem askB_bd {b : Bu} (hB : OkB b) {p k : Int} {w : Sp} (hw : OkW k w) {n m c : Nat} (h : SzB b n m) (hc : ((w.t - w.f) / sizeI k).toNat ≤ c) : SzB (askB b p k w) (n + 1) (m + c) := by
 have h1 := addS_len (l := b.spent) (g := grpOf b.groups p) (k := k) (cs := missQ b p k w)
 have h2 := addS_lens hB.ord (g := grpOf b.groups p) (k := k) (cs := missQ b p k w)
 have h3 := (missD_facts (K := memS (knownD b.spent (grpOf b.groups p) k)) hw).2.2.2
 have h4 := h.len
 have h5 := h.lens
 refine ⟨Nat.le_trans h1 (by omega), Nat.le_trans h2 ?_⟩
 have : (missQ b p k w).length ≤ c := Nat.le_trans h3 hc
 omega
theorem canon_cells {l : List Se} {s : Se} (hs : s ∈ canon l) : (∃ x ∈ l, seKey x = seKey s) ∧ s.cells = normD ((l.filter fun x => decide (seKey x = seKey s)).flatMap (·.cells)) := by
 have hn := sorted_nodup (canon_sorted l)
 have hF := canon_full l s hs
 have hv : ∀ t, memS s.cells t = anyV l s.group s.grain t := fun t => by
  rw [← canon_view]
  unfold view
  rw [lookD_mem hn hs rfl]
 refine ⟨?_, hF.1.eq_normD fun t => ?_⟩
 ·obtain ⟨t, ht⟩ := full_ne hF
  rw [hv] at ht
  unfold anyV at ht
  obtain ⟨x, hx, h⟩ := List.any_eq_true.1 ht
  simp only [Bool.and_eq_true, decide_eq_true_eq] at h
  exact ⟨x, hx, h.1⟩
 ·rw [hv, Bool.eq_iff_iff]
  unfold anyV
  rw [List.any_eq_true, memS_iff]
  constructor
  ·rintro ⟨x, hx, h⟩
   simp only [Bool.and_eq_true, decide_eq_true_eq] at h
   obtain ⟨c, hc, h3⟩ := memS_iff.1 h.2
   exact ⟨c, List.mem_flatMap.2 ⟨x, List.mem_filter.2 ⟨hx, decide_eq_true h.1⟩, hc⟩, h3⟩
  ·rintro ⟨c, hc, h3⟩
   obtain ⟨x, hx, hc⟩ := List.mem_flatMap.1 hc
   obtain ⟨hx, he⟩ := List.mem_filter.1 hx
   refine ⟨x, hx, ?_⟩
   rw [Bool.and_eq_true]
   exact ⟨he, memS_iff.2 ⟨c, hc, h3⟩⟩
theorem aliasB_same {b : Bu} {p q : Int} (h : grpOf b.groups p = grpOf b.groups q) : aliasB b p q = b := by unfold aliasB; rw [if_pos h]
theorem aliasB_diff {b : Bu} {p q : Int} (h : grpOf b.groups p ≠ grpOf b.groups q) : aliasB b p q = ⟨b.limit, joinG b.groups (keepG b.groups p q) (goneG b.groups p q), canon (b.spent.map fun s => ⟨mapG b.groups (keepG b.groups p q) (goneG b.groups p q) s.group, s.grain, s.cells⟩)⟩ := by unfold aliasB; rw [if_neg h]
theorem kg_gone {gs : List (List Int)} {p q : Int} (hp : personB p = true) (hq : personB q = true) : GoneOk gs (keepG gs p q) ∧ GoneOk gs (goneG gs p q) := by
 unfold keepG goneG
 split
 ·exact ⟨gone_ok hq, gone_ok hp⟩
 ·exact ⟨gone_ok hp, gone_ok hq⟩
theorem OkB.alias {b : Bu} (hB : OkB b) {p q : Int} (hp : personB p = true) (hq : personB q = true) : OkB (aliasB b p q) := by
 by_cases he : grpOf b.groups p = grpOf b.groups q
 ·rw [aliasB_same he]; exact hB
 rw [aliasB_diff he]
 have hK := kg_of hp hq he
 obtain ⟨k1, k2⟩ := kg_gone (gs := b.groups) hp hq
 refine ⟨hB.lim, joinG_valid hB.groups hK k1 k2, fun s hs => ?_, canon_sorted _⟩
 obtain ⟨⟨x, hx, hxk⟩, hc⟩ := canon_cells hs
 have hF := canon_full _ s hs
 obtain ⟨y, hy, rfl⟩ := List.mem_map.1 hx
 have hgr : y.grain = s.grain := congrArg Prod.snd hxk
 have hgg : mapG b.groups (keepG b.groups p q) (goneG b.groups p q) y.group = s.group := congrArg Prod.fst hxk
 obtain ⟨z, hz, hzg⟩ := hB.grp hy
 rw [← hzg, ← grpOf_join hB.groups hK k1 k2 hz] at hgg
 have hg := okS_grp (gs := joinG b.groups (keepG b.groups p q) (goneG b.groups p q)) hz
 rw [hgg] at hg
 have hall : ∀ c ∈ (((b.spent.map fun s => (⟨mapG b.groups (keepG b.groups p q) (goneG b.groups p q) s.group, s.grain, s.cells⟩ : Se)).filter fun x => decide (seKey x = seKey s)).flatMap (·.cells)), ∃ y ∈ b.spent, y.grain = s.grain ∧ c ∈ y.cells := fun c hc => by
  obtain ⟨x, hx, hc⟩ := List.mem_flatMap.1 hc
  obtain ⟨hx, he⟩ := List.mem_filter.1 hx
  obtain ⟨y, hy, rfl⟩ := List.mem_map.1 hx
  simp only [decide_eq_true_eq] at he
  exact ⟨y, hy, congrArg Prod.snd he, hc⟩
 refine ⟨by rw [← hgr]; exact (hB.each y hy).grain, hF.2, hg.1, hg.2, validS_of hF.1 ?_, ?_⟩
 ·rw [hc]
  refine normD_ranged (rangedB_iff.2 fun c hc => ?_)
  obtain ⟨y, hy, _, hc⟩ := hall c hc
  exact rangedB_iff.1 (validS_iff.1 (hB.each y hy).nor).2 c hc
 ·rw [hc]
  refine normD_aligned (List.all_eq_true.2 fun c hc => ?_)
  obtain ⟨y, hy, e, hc⟩ := hall c hc
  rw [← e]
  exact List.all_eq_true.1 (hB.each y hy).ali c hc
end Go.Proofs.YtdglpgepgmdbdaaGreatDoor
/- Plain lemmas of our own, no statement of the seat: how many cells a set has; totals after asking. -/
namespace Go.Proofs.YtdglpgepgmdbdaaGreatDoor
set_option linter.unusedSectionVars false
variable [Go.Proofs.YtdglpgepgmdbdaaGreatDoor.Vc.Drew]
set_option linter.unusedSimpArgs false
set_option linter.unusedVariables false
open Go.Proofs.YtdglpgepgmdbdaaGreatDoor.Vc
def pts (p : Int → Bool) (L : Int) : Nat → Int
 | 0 => 0
 | n + 1 => pts p L n + if p (L + n) = true then 1 else 0
theorem pts_ext {p q : Int → Bool} {L : Int} (h : ∀ t, p t = q t) : ∀ n, pts p L n = pts q L n
 | 0 => rfl
 | n + 1 => by simp only [pts, pts_ext h n, h]
theorem pts_or {p q : Int → Bool} {L : Int} (h : ∀ t, ¬ (p t = true ∧ q t = true)) : ∀ n, pts (fun t => p t || q t) L n = pts p L n + pts q L n
 | 0 => rfl
 | n + 1 => by
  have := h (L + n)
  simp only [pts, pts_or h n, Bool.or_eq_true]
  by_cases hp : p (L + n) = true
  ·have hq : ¬ q (L + n) = true := fun hq => this ⟨hp, hq⟩
   simp only [hp, hq, true_or, if_true]
   simp
   omega
  ·simp only [hp, false_or]
   simp
   omega
theorem pts_none {L : Int} : ∀ n, pts (fun _ => false) L n = 0
 | 0 => rfl
 | n + 1 => by simp [pts, pts_none n]
theorem pts_span {L f t : Int} (h1 : L ≤ f) (h2 : f ≤ t) : ∀ n : Nat, pts (fun x => decide (f ≤ x) && decide (x < t)) L n = if (L + n) ≤ f then 0 else if t ≤ L + n then t - f else L + n - f
 | 0 => by simp [pts]; omega
 | n + 1 => by
  simp only [pts, pts_span h1 h2 n, Bool.and_eq_true, decide_eq_true_eq]
  rw [show ((n + 1 : Nat) : Int) = n + 1 by omega]
  split <;> split <;> split <;> (try split) <;> (try split) <;> omega
theorem countL_pts {L : Int} {n : Nat} : ∀ l : List Sp, Normal l → (∀ s ∈ l, L ≤ s.f ∧ s.t ≤ L + n) → countL 1 l = pts (memS l) L n
 | [], _, _ => by
  have : pts (memS []) L n = pts (fun _ => false) L n := rfl
  rw [this, pts_none]; rfl
 | s :: l, h, hb => by
  have hp := h.pos s (by simp)
  have hbs := hb s (by simp)
  have ho := (List.pairwise_cons.1 h.ord).1
  have ih := countL_pts l h.tail fun y hy => hb y (by simp [hy])
  have e : pts (memS (s :: l)) L n = pts (fun t => (decide (s.f ≤ t) && decide (t < s.t)) || memS l t) L n := rfl
  rw [e, pts_or (fun t => ?_), ← ih, pts_span hbs.1 (by omega)]
  ·simp only [countL, Int.ediv_one]
   rw [if_neg (by omega), if_pos hbs.2]
  ·rintro ⟨h1, h2⟩
   simp only [Bool.and_eq_true, decide_eq_true_eq] at h1
   obtain ⟨y, hy, h3⟩ := memS_iff.1 h2
   have := ho y hy
   omega
theorem rng_pts {l : List Sp} (h : Normal l) (hr : rangedB l = true) : countL 1 l = pts (memS l) (-2251799813685248) 4503599627370496 := countL_pts l h fun s hs => by
 have := rangedB_iff.1 hr s hs
 omega
theorem countL_mul {n : Int} : ∀ l : List Sp, (l.all fun c => alignedB c n) = true → n * countL n l = countL 1 l
 | [], _ => by simp [countL]
 | s :: l, h => by
  simp only [List.all_cons, Bool.and_eq_true] at h
  have ih := countL_mul l h.2
  have ha := alignedB_iff.1 h.1
  simp only [countL, Int.ediv_one, Int.mul_add, ih]
  rw [Int.mul_ediv_cancel' (Int.dvd_sub (Int.dvd_of_emod_eq_zero ha.2) (Int.dvd_of_emod_eq_zero ha.1))]
structure Whole (k : Int) (l : List Sp) : Prop where
 nor : Normal l
 rng : rangedB l = true
 ali : (l.all fun c => alignedB c (sizeI k)) = true
theorem Whole.union {k : Int} {a b : List Sp} (ha : Whole k a) (hb : Whole k b) : Whole k (unionD a b) :=
 ⟨unionD_normal _ _, normD_ranged (by rw [rangedB_app, ha.rng, hb.rng]; rfl), normD_aligned (by rw [List.all_append, ha.ali, hb.ali]; rfl)⟩
theorem Whole.count {k : Int} {l : List Sp} (h : Whole k l) : sizeI k * countL (sizeI k) l = pts (memS l) (-2251799813685248) 4503599627370496 := by rw [countL_mul l h.ali, rng_pts h.nor h.rng]
theorem mul_inj {n a b : Int} (hn : 0 < n) (h : n * a = n * b) : a = b := Int.eq_of_mul_eq_mul_left (by omega) h
theorem count_union {k : Int} {a b : List Sp} (ha : Whole k a) (hb : Whole k b) (hd : ∀ t, ¬ (memS a t = true ∧ memS b t = true)) : countL (sizeI k) (unionD a b) = countL (sizeI k) a + countL (sizeI k) b := by
 refine mul_inj (sizeI_pos k) ?_
 rw [Int.mul_add, ha.count, hb.count, (ha.union hb).count, ← pts_or hd]
 exact pts_ext (fun t => unionD_mem a b t) _
theorem OkB.whole {b : Bu} (hB : OkB b) (g k : Int) : Whole k (lookD b.spent g k) := ⟨(hB.look g k).1, (hB.look g k).2.1, (hB.look g k).2.2⟩
theorem missQ_whole {b : Bu} {p k : Int} {w : Sp} (hw : OkW k w) : Whole k (missQ b p k w) := by
 obtain ⟨h1, h2, h3, _⟩ := missD_facts (K := memS (knownD b.spent (grpOf b.groups p) k)) hw
 exact ⟨h1, h2, h3⟩
theorem known_look {l : List Se} {g k t : Int} (hk : 1 ≤ k ∧ k ≤ 4) (h : memS (lookD l g k) t = true) : memS (knownD l g k) t = true := by
 unfold knownD
 rw [normD_mem, knownL_mem]
 refine ⟨0, by omega, ?_⟩
 unfold view
 simpa using h
theorem sizeI_cases (k : Int) : sizeI k = 1440 ∨ sizeI k = 30 ∨ sizeI k = 1 := by
 unfold sizeI
 split
 ·exact .inl rfl
 ·split
  ·exact .inr (.inl rfl)
  ·exact .inr (.inr rfl)
theorem cell_in {n f t a x : Int} (hn : n = 1440 ∨ n = 30 ∨ n = 1) (h1 : f % n = 0) (h2 : t % n = 0) (h3 : a % n = 0) (h4 : a ≤ x) (h5 : x < a + n) (h6 : f ≤ x) (h7 : x < t) : f ≤ a ∧ a + n ≤ t := by
 rcases hn with rfl | rfl | rfl <;> omega
theorem missC_mem {k : Int} {K : Int → Bool} {w c : Sp} (hw : OkW k w) (hc : c ∈ missC (sizeI k) K w) : c.f % sizeI k = 0 ∧ c.t = c.f + sizeI k ∧ w.f ≤ c.f ∧ c.t ≤ w.t ∧ ∃ t, c.f ≤ t ∧ t < c.t ∧ K t = false := by
 have hali := alignedB_iff.1 hw.ali
 have hp := hw.pos
 obtain ⟨h1, h2⟩ := List.mem_filter.1 hc
 obtain ⟨c1, c2, c3, c4⟩ := (cellsW_mem (sizeI_pos k) hali.1 hali.2 (by omega)).1 h1
 refine ⟨c1, c2, c3, c4, ?_⟩
 refine Classical.byContradiction fun hno => ?_
 have : covered (sizeI k) K c = true := (covered_iff (sizeI_pos k) c2).2 fun t h3 h4 => by
  cases hK : K t with
  | true => rfl
  | false => exact absurd ⟨t, h3, h4, hK⟩ hno
 rw [this] at h2
 cases h2
theorem miss_apart {b : Bu} (hB : OkB b) {p k : Int} {w : Sp} (hk : 1 ≤ k ∧ k ≤ 4) (hw : OkW k w) (t : Int) : ¬ (memS (lookD b.spent (grpOf b.groups p) k) t = true ∧ memS (missQ b p k w) t = true) := by
 rintro ⟨h1, h2⟩
 unfold missQ missD at h2
 rw [normD_mem] at h2
 obtain ⟨c, hc, h3, h4⟩ := memS_iff.1 h2
 obtain ⟨c1, c2, _, _, u, u1, u2, u3⟩ := missC_mem hw hc
 obtain ⟨s, hs, h5, h6⟩ := memS_iff.1 h1
 have hal := alignedB_iff.1 (List.all_eq_true.1 (hB.look (grpOf b.groups p) k).2.2 s hs)
 have := cell_in (sizeI_cases k) hal.1 hal.2 c1 h3 (by omega) h5 h6
 have hku := known_look hk (memS_iff.2 ⟨s, hs, show s.f ≤ u by omega, show u < s.t by omega⟩)
 rw [hku] at u3
 cases u3
theorem totalD_sum (g : Int) (l : List Se) : totalD g l = (l.map (termD g)).sum := by
 induction l with
 | nil => rfl
 | cons s l ih => rw [totalD, List.map_cons, List.sum_cons, ih]
theorem total_addS {l : List Se} (h : l.Pairwise keyLt) {g g0 k : Int} {cs : List Sp} (hN : Normal (lookD l g0 k)) : totalD g (addS l g0 k cs) + (if g = g0 then countL (sizeI k) (lookD l g0 k) else 0) = totalD g l + (if g = g0 then countL (sizeI k) (unionD (lookD l g0 k) cs) else 0) := by
 unfold addS
 split
 ·rename_i he
  have : lookD l g0 k = [] := hN.ext Normal.nil fun t => by
   have h1 := unionD_mem (lookD l g0 k) cs t
   rw [he, memS_nil] at h1
   rw [memS_nil]
   cases hm : memS (lookD l g0 k) t with
   | false => rfl
   | true => rw [hm] at h1; cases h1
  rw [he, this]
 ·have h1 := insE_sum (termD g) (fun c => if g = g0 then countL (sizeI k) c else 0) (by simp [countL]) ⟨g0, k, unionD (lookD l g0 k) cs⟩ (fun y hy => by
   have e1 : y.group = g0 := congrArg Prod.fst hy
   have e2 : y.grain = k := congrArg Prod.snd hy
   unfold termD
   rw [e1, e2]
   by_cases e : g = g0
   ·rw [if_pos e, if_pos e.symm]
   ·rw [if_neg e, if_neg fun e' => e e'.symm]) l h
  rw [totalD_sum, totalD_sum]
  simp only at h1
  rw [h1]
  unfold termD
  by_cases e : g = g0
  ·rw [if_pos e, if_pos e.symm]
  ·rw [if_neg e, if_neg fun e' => e e'.symm]
theorem total_ask {b : Bu} (hB : OkB b) {p k : Int} {w : Sp} (hk : 1 ≤ k ∧ k ≤ 4) (hw : OkW k w) (g : Int) : totalD g (askB b p k w).spent = totalD g b.spent + if g = grpOf b.groups p then costQ b p k w else 0 := by
 have h1 := total_addS hB.ord (g := g) (g0 := grpOf b.groups p) (k := k) (cs := missQ b p k w) (hB.look _ _).1
 have h2 := count_union (hB.whole (grpOf b.groups p) k) (missQ_whole (b := b) (p := p) hw) (miss_apart hB hk hw)
 rw [h2] at h1
 show totalD g (addS b.spent (grpOf b.groups p) k (missQ b p k w)) = _
 unfold costQ
 split <;> rename_i e
 ·rw [if_pos e, if_pos e] at h1; omega
 ·rw [if_neg e, if_neg e] at h1; omega
end Go.Proofs.YtdglpgepgmdbdaaGreatDoor
/- Plain lemmas of our own, no statement of the seat: the questions that are made; asked, cost. -/
namespace Go.Proofs.YtdglpgepgmdbdaaGreatDoor
set_option linter.unusedSectionVars false
variable [Go.Proofs.YtdglpgepgmdbdaaGreatDoor.Vc.Drew]
set_option linter.unusedSimpArgs false
set_option linter.unusedVariables false
open Go.Proofs.YtdglpgepgmdbdaaGreatDoor.Vc
theorem rIndex (x n : Int) (h : 1 ≤ n ∧ n ≤ 1000) (R : RO) : CallsR Tryz.prog 14 [.int .i64 x, .int .i64 n] R fun _ v => v = .int .i64 (x % n) := by
 refine callsT mix Tryz.func14 comp14 (by simp [Tryz.ntmps14]) ?_; simp only [go_sem, ↓reduceIte, nQ1, nQ2, nQ3, nQ4, nQ5, nQ6, reduceCtorEq, vc14, rs14]
 have h1 := tmod_fix x n h.1
 have h2 := tmod_bd x n h.1
 refine ⟨by omega, fun h => ⟨_, W.in64 (by omega), ?_⟩, fun h => ?_⟩
 ·rw [if_pos h] at h1; rw [h1]
 ·rw [if_neg h] at h1; rw [h1]
structure Dd where
 alias : Bool
 person : Int
 other : Int
 grain : Int
 day : Int
 half : Int
 length : Int
def Dd.cells (d : Dd) : List Value := [.bool d.alias, .int .i64 d.person, .int .i64 d.other, .int .i64 d.grain, .int .i64 d.day, .int .i64 d.half, .int .i64 d.length]
def DdV (R : RO) (v : Value) (ds : List Dd) : Prop := SlK R v 7 (ds.map Dd.cells) ∧ ds.length ≤ 4398046511104
theorem DdV.form {R : RO} {v : Value} {xs : List Dd} (h : DdV R v xs) : ∃ a cap, v = .slice a xs.length cap ∧ xs.length ≤ cap ∧ ∀ i (hi : i < xs.length), ∃ ad, a = some ad ∧ ∀ j u, (xs[i].cells)[j]? = some u → R ((ad.add (i * 7)).add j) u := by
 obtain ⟨⟨a, cap, rfl, hc, hf⟩, _⟩ := h
 rw [List.length_map] at hc
 refine ⟨a, cap, by rw [List.length_map], hc, fun i hi => ?_⟩
 obtain ⟨_, ad, ha, hR⟩ := hf i (xs[i].cells) (by rw [List.getElem?_map, List.getElem?_eq_getElem hi]; rfl)
 exact ⟨ad, ha, hR⟩
structure Qn where
 person : Int
 grain : Int
 w : Sp
def Qn.val (q : Qn) : Value := .agg #[.int .i64 q.person, .int .i64 q.grain, .int .i64 q.w.f, .int .i64 q.w.t]
def fromQ (d : Dd) : Int := if sizeI (1 + d.grain % 4) < 1440 then d.day % 4 * 1440 + d.half % 48 * 30 else d.day % 4 * 1440
def toQ (d : Dd) : Int := if 1 + d.grain % 4 = 1 then fromQ d + 1440 * (1 + d.length % 3) else fromQ d + sizeI (1 + d.grain % 4) * (1 + d.length % 40)
def madeQ (d : Dd) : Qn := ⟨d.person % 6, 1 + d.grain % 4, ⟨fromQ d, toQ d⟩⟩
set_option maxHeartbeats 1000000 in
theorem rMadeQ (d : Dd) (R : RO) : CallsR Tryz.prog 6 [.agg d.cells.toArray] R fun _ v => v = (madeQ d).val := by
 simp only [Dd.cells, madeQ, Qn.val]
 refine callsT mix Tryz.func6 comp6 (by simp [Tryz.ntmps6]) ?_; simp only [go_sem, ↓reduceIte, nQ1, nQ2, nQ3, nQ4, nQ5, nQ6, reduceCtorEq, vc6, rs6]
 refine vcall (rIndex d.person 6 (by omega) R) ?_
 rintro R1 v h1 rfl
 try simp only [go_sem, ↓reduceIte, nQ1, nQ2, nQ3, nQ4, nQ5, nQ6, reduceCtorEq, iQ1, iQ2, iQ3, iQ4, iQ5, iQ6]
 refine vcall (rIndex d.grain 4 (by omega) R1) ?_
 rintro R2 v h2 rfl
 try simp only [go_sem, ↓reduceIte, nQ1, nQ2, nQ3, nQ4, nQ5, nQ6, reduceCtorEq, iQ1, iQ2, iQ3, iQ4, iQ5, iQ6]
 refine ⟨_, W.in64 (by omega), ?_⟩
 try simp only [go_sem, ↓reduceIte, nQ1, nQ2, nQ3, nQ4, nQ5, nQ6, reduceCtorEq, iQ1, iQ2, iQ3, iQ4, iQ5, iQ6]
 refine vcall (rSize (1 + d.grain % 4) R2) ?_
 rintro R3 v h3 rfl
 try simp only [go_sem, ↓reduceIte, nQ1, nQ2, nQ3, nQ4, nQ5, nQ6, reduceCtorEq, iQ1, iQ2, iQ3, iQ4, iQ5, iQ6]
 refine vcall (rIndex d.day 4 (by omega) R3) ?_
 rintro R4 v h4 rfl
 try simp only [go_sem, ↓reduceIte, nQ1, nQ2, nQ3, nQ4, nQ5, nQ6, reduceCtorEq, iQ1, iQ2, iQ3, iQ4, iQ5, iQ6]
 refine ⟨_, W.in64 (by omega), ?_⟩
 have hprod : 0 ≤ sizeI (1 + d.grain % 4) * (1 + d.length % 40) ∧ sizeI (1 + d.grain % 4) * (1 + d.length % 40) ≤ 57600 := by
  rcases sizeI_cases (1 + d.grain % 4) with e | e | e <;> rw [e] <;> omega
 refine ⟨fun hlt => ?_, fun hge => ?_⟩
 ·have hf : fromQ d = d.day % 4 * 1440 + d.half % 48 * 30 := by unfold fromQ; rw [if_pos hlt]
  refine vcall (rIndex d.half 48 (by omega) R4) ?_
  rintro R5 v h5 rfl
  try simp only [go_sem, ↓reduceIte, nQ1, nQ2, nQ3, nQ4, nQ5, nQ6, reduceCtorEq, iQ1, iQ2, iQ3, iQ4, iQ5, iQ6]
  refine ⟨_, W.in64 (by omega), ?_⟩
  try simp only [go_sem, ↓reduceIte, nQ1, nQ2, nQ3, nQ4, nQ5, nQ6, reduceCtorEq, iQ1, iQ2, iQ3, iQ4, iQ5, iQ6]
  refine ⟨_, W.in64 (by omega), ?_⟩
  try simp only [go_sem, ↓reduceIte, nQ1, nQ2, nQ3, nQ4, nQ5, nQ6, reduceCtorEq, iQ1, iQ2, iQ3, iQ4, iQ5, iQ6]
  refine vcall (rIndex d.length 40 (by omega) R5) ?_
  rintro R6 v h6 rfl
  try simp only [go_sem, ↓reduceIte, nQ1, nQ2, nQ3, nQ4, nQ5, nQ6, reduceCtorEq, iQ1, iQ2, iQ3, iQ4, iQ5, iQ6]
  refine ⟨_, W.in64 (by omega), ?_⟩
  try simp only [go_sem, ↓reduceIte, nQ1, nQ2, nQ3, nQ4, nQ5, nQ6, reduceCtorEq, iQ1, iQ2, iQ3, iQ4, iQ5, iQ6]
  refine ⟨_, W.in64 (by omega), ?_⟩
  try simp only [go_sem, ↓reduceIte, nQ1, nQ2, nQ3, nQ4, nQ5, nQ6, reduceCtorEq, iQ1, iQ2, iQ3, iQ4, iQ5, iQ6]
  refine ⟨_, W.in64 (by omega), ?_⟩
  try simp only [go_sem, ↓reduceIte, nQ1, nQ2, nQ3, nQ4, nQ5, nQ6, reduceCtorEq, iQ1, iQ2, iQ3, iQ4, iQ5, iQ6]
  refine ⟨fun h1g => ?_, fun h1g => ?_⟩
  ·have ht : toQ d = fromQ d + 1440 * (1 + d.length % 3) := by unfold toQ; rw [if_pos h1g]
   rw [ht, hf]
   refine vcall (rIndex d.length 3 (by omega) R6) ?_
   rintro R7 v h7 rfl
   try simp only [go_sem, ↓reduceIte, nQ1, nQ2, nQ3, nQ4, nQ5, nQ6, reduceCtorEq, iQ1, iQ2, iQ3, iQ4, iQ5, iQ6]
   refine ⟨_, W.in64 (by omega), ?_⟩
   try simp only [go_sem, ↓reduceIte, nQ1, nQ2, nQ3, nQ4, nQ5, nQ6, reduceCtorEq, iQ1, iQ2, iQ3, iQ4, iQ5, iQ6]
   refine ⟨_, W.in64 (by omega), ?_⟩
   try simp only [go_sem, ↓reduceIte, nQ1, nQ2, nQ3, nQ4, nQ5, nQ6, reduceCtorEq, iQ1, iQ2, iQ3, iQ4, iQ5, iQ6]
   refine ⟨_, W.in64 (by omega), ?_⟩
   try simp only [go_sem, ↓reduceIte, nQ1, nQ2, nQ3, nQ4, nQ5, nQ6, reduceCtorEq, iQ1, iQ2, iQ3, iQ4, iQ5, iQ6]
  ·have ht : toQ d = fromQ d + sizeI (1 + d.grain % 4) * (1 + d.length % 40) := by unfold toQ; rw [if_neg h1g]
   rw [ht, hf]
 ·have hf : fromQ d = d.day % 4 * 1440 := by unfold fromQ; rw [if_neg hge]
  refine vcall (rIndex d.length 40 (by omega) R4) ?_
  rintro R6 v h6 rfl
  try simp only [go_sem, ↓reduceIte, nQ1, nQ2, nQ3, nQ4, nQ5, nQ6, reduceCtorEq, iQ1, iQ2, iQ3, iQ4, iQ5, iQ6]
  refine ⟨_, W.in64 (by omega), ?_⟩
  try simp only [go_sem, ↓reduceIte, nQ1, nQ2, nQ3, nQ4, nQ5, nQ6, reduceCtorEq, iQ1, iQ2, iQ3, iQ4, iQ5, iQ6]
  refine ⟨_, W.in64 (by omega), ?_⟩
  try simp only [go_sem, ↓reduceIte, nQ1, nQ2, nQ3, nQ4, nQ5, nQ6, reduceCtorEq, iQ1, iQ2, iQ3, iQ4, iQ5, iQ6]
  refine ⟨_, W.in64 (by omega), ?_⟩
  try simp only [go_sem, ↓reduceIte, nQ1, nQ2, nQ3, nQ4, nQ5, nQ6, reduceCtorEq, iQ1, iQ2, iQ3, iQ4, iQ5, iQ6]
  refine ⟨fun h1g => ?_, fun h1g => ?_⟩
  ·have ht : toQ d = fromQ d + 1440 * (1 + d.length % 3) := by unfold toQ; rw [if_pos h1g]
   rw [ht, hf]
   refine vcall (rIndex d.length 3 (by omega) R6) ?_
   rintro R7 v h7 rfl
   try simp only [go_sem, ↓reduceIte, nQ1, nQ2, nQ3, nQ4, nQ5, nQ6, reduceCtorEq, iQ1, iQ2, iQ3, iQ4, iQ5, iQ6]
   refine ⟨_, W.in64 (by omega), ?_⟩
   try simp only [go_sem, ↓reduceIte, nQ1, nQ2, nQ3, nQ4, nQ5, nQ6, reduceCtorEq, iQ1, iQ2, iQ3, iQ4, iQ5, iQ6]
   refine ⟨_, W.in64 (by omega), ?_⟩
   try simp only [go_sem, ↓reduceIte, nQ1, nQ2, nQ3, nQ4, nQ5, nQ6, reduceCtorEq, iQ1, iQ2, iQ3, iQ4, iQ5, iQ6]
   refine ⟨_, W.in64 (by omega), ?_⟩
   try simp only [go_sem, ↓reduceIte, nQ1, nQ2, nQ3, nQ4, nQ5, nQ6, reduceCtorEq, iQ1, iQ2, iQ3, iQ4, iQ5, iQ6]
  ·have ht : toQ d = fromQ d + sizeI (1 + d.grain % 4) * (1 + d.length % 40) := by unfold toQ; rw [if_neg h1g]
   rw [ht, hf]
theorem madeQ_ok (d : Dd) : (0 ≤ (madeQ d).person ∧ (madeQ d).person < 6) ∧ (1 ≤ (madeQ d).grain ∧ (madeQ d).grain ≤ 4) ∧ OkW (madeQ d).grain (madeQ d).w ∧ ((madeQ d).w.t - (madeQ d).w.f) / sizeI (madeQ d).grain ≤ 40 ∧ 0 ≤ (madeQ d).w.f ∧ (madeQ d).w.t ≤ 100000 := by
 have e1 : (madeQ d).person = d.person % 6 := rfl
 have e2 : (madeQ d).grain = 1 + d.grain % 4 := rfl
 have e3 : (madeQ d).w = ⟨fromQ d, toQ d⟩ := rfl
 rw [e1, e2, e3]
 have hf : fromQ d = if sizeI (1 + d.grain % 4) < 1440 then d.day % 4 * 1440 + d.half % 48 * 30 else d.day % 4 * 1440 := rfl
 have ht : toQ d = if 1 + d.grain % 4 = 1 then fromQ d + 1440 * (1 + d.length % 3) else fromQ d + sizeI (1 + d.grain % 4) * (1 + d.length % 40) := rfl
 have hs : sizeI (1 + d.grain % 4) = if 1 + d.grain % 4 = 1 then 1440 else if 1 + d.grain % 4 = 2 ∨ 1 + d.grain % 4 = 3 then 30 else 1 := rfl
 have key : (fromQ d < toQ d ∧ 0 ≤ fromQ d ∧ toQ d ≤ 100000) ∧ (fromQ d % sizeI (1 + d.grain % 4) = 0 ∧ toQ d % sizeI (1 + d.grain % 4) = 0) ∧ (toQ d - fromQ d) / sizeI (1 + d.grain % 4) ≤ 40 := by
  rcases (by omega : 1 + d.grain % 4 = 1 ∨ 1 + d.grain % 4 = 2 ∨ 1 + d.grain % 4 = 3 ∨ 1 + d.grain % 4 = 4) with e | e | e | e <;> rw [e] at hf ht hs ⊢ <;> simp only [show sizeI 1 = 1440 from rfl, show sizeI 2 = 30 from rfl, show sizeI 3 = 30 from rfl, show sizeI 4 = 1 from rfl] at hf ht ⊢ <;> simp at hf ht <;> omega
 obtain ⟨⟨k1, k2, k3⟩, k4, k5⟩ := key
 exact ⟨by omega, by omega, ⟨k1, show -2251799813685248 ≤ fromQ d by omega, show toQ d ≤ 2251799813685248 by omega, alignedB_iff.2 k4⟩, k5, k2, k3⟩
theorem AskV.mono {R R' : RO} {r : Value} {b : Bu} {p k : Int} {w : Sp} (h : AskV R r b p k w) (hle : RO.le R R') : AskV R' r b p k w := by
 rcases h with h | h | ⟨h1, h2, bv, h3, h4⟩
 ·exact Or.inl h
 ·exact Or.inr (Or.inl h)
 ·exact Or.inr (Or.inr ⟨h1, h2, bv, h3, h4.mono hle⟩)
end Go.Proofs.YtdglpgepgmdbdaaGreatDoor
/- Plain lemmas of our own, no statement of the seat: what was asked costs nothing; sanity. -/
namespace Go.Proofs.YtdglpgepgmdbdaaGreatDoor
set_option linter.unusedSectionVars false
variable [Go.Proofs.YtdglpgepgmdbdaaGreatDoor.Vc.Drew]
set_option linter.unusedSimpArgs false
set_option linter.unusedVariables false
open Go.Proofs.YtdglpgepgmdbdaaGreatDoor.Vc
theorem cell_of {k : Int} {w : Sp} (hw : OkW k w) {t : Int} (h1 : w.f ≤ t) (h2 : t < w.t) : ∃ c ∈ cellsW (sizeI k) w, c.f ≤ t ∧ t < c.t := by
 have hali := alignedB_iff.1 hw.ali
 have hp := hw.pos
 have hn := sizeI_pos k
 have e1 := Int.emod_nonneg t (show sizeI k ≠ 0 by omega)
 have e2 := Int.emod_lt_of_pos t hn
 refine ⟨⟨t - t % sizeI k, t - t % sizeI k + sizeI k⟩, (cellsW_mem hn hali.1 hali.2 (by omega)).2 ⟨?_, rfl, ?_, ?_⟩, show t - t % sizeI k ≤ t by omega, show t < t - t % sizeI k + sizeI k by omega⟩
 ·show (t - t % sizeI k) % sizeI k = 0
  rcases sizeI_cases k with e | e | e <;> rw [e] <;> omega
 ·show w.f ≤ t - t % sizeI k
  have := hali.1
  rcases sizeI_cases k with e | e | e <;> rw [e] at this ⊢ <;> omega
 ·show t - t % sizeI k + sizeI k ≤ w.t
  have := hali.2
  rcases sizeI_cases k with e | e | e <;> rw [e] at this ⊢ <;> omega
theorem knownS_mem (l : List Se) (g k t : Int) : memS (knownD l g k) t = true ↔ ∃ j : Nat, j < (5 - k).toNat ∧ view l g (k + j) t = true := by
 unfold knownD
 rw [normD_mem, knownL_mem]
/-! ### Sanity -/
def s1 : Bu := ⟨50, [[3, 5]], []⟩
def s2 : Bu := askB s1 3 1 ⟨0, 2880⟩
def s3 : Bu := askB s2 5 2 ⟨0, 1440⟩
theorem check_of {b : Bu} (hB : OkB b) {p k : Int} {w : Sp} (hp : personB p = true) (hk : 1 ≤ k ∧ k ≤ 4) (hw : OkW k w) (hc : (w.t - w.f) / sizeI k ≤ 65536) : checkI b p k w = 0 := checkI_zero.2 ⟨⟨okB_iff.2 hB, hp, hk, hw⟩, hc⟩
end Go.Proofs.YtdglpgepgmdbdaaGreatDoor
namespace Go.Proofs.YtdglpgepgmdbdaaGreatDoor
set_option linter.unusedSectionVars false
variable [Go.Proofs.YtdglpgepgmdbdaaGreatDoor.Vc.Drew]
set_option linter.unusedSimpArgs false
set_option linter.unusedVariables false
open Go.Proofs.YtdglpgepgmdbdaaGreatDoor.Vc
def AgT (l m : List Mk) (k t : Int) : Prop := cellV l k (t - t % sizeI k) (sizeI k) = cellV m k (t - t % sizeI k) (sizeI k)
def AgW (l m : List Mk) (k : Int) (w : Sp) : Prop := ∀ t, w.f ≤ t → t < w.t → AgT l m k t
def AgB (l m : List Mk) (b : Bu) (g : Int) : Prop := ∀ k t, 1 ≤ k → k ≤ 4 → view b.spent g k t = true → AgT l m k t
theorem cells_nest {k k' t s : Int} (h0 : 1 ≤ k) (h3 : k ≤ k') (h4 : k' ≤ 4) (h1 : t - t % sizeI k ≤ s) (h2 : s < t - t % sizeI k + sizeI k) : t - t % sizeI k ≤ s - s % sizeI k' ∧ s - s % sizeI k' + sizeI k' ≤ t - t % sizeI k + sizeI k := by
 have e1 : sizeI 1 = 1440 := rfl
 have e2 : sizeI 2 = 30 := rfl
 have e3 : sizeI 3 = 30 := rfl
 have e4 : sizeI 4 = 1 := rfl
 rcases (by omega : k = 1 ∨ k = 2 ∨ k = 3 ∨ k = 4) with rfl | rfl | rfl | rfl <;> rcases (by omega : k' = 1 ∨ k' = 2 ∨ k' = 3 ∨ k' = 4) with rfl | rfl | rfl | rfl <;> simp only [e1, e2, e3, e4] at h1 h2 ⊢ <;> omega
theorem miss_in {b : Bu} {p k : Int} {w : Sp} (hw : OkW k w) {t : Int} (h : memS (missQ b p k w) t = true) : w.f ≤ t ∧ t < w.t := by
 unfold missQ missD at h
 rw [normD_mem] at h
 obtain ⟨c, hc, h1, h2⟩ := memS_iff.1 h
 obtain ⟨_, _, h3, h4, _⟩ := missC_mem hw hc
 omega
theorem AgB.ask {l m : List Mk} {b : Bu} (hB : OkB b) {p k : Int} {w : Sp} (hw : OkW k w) {g : Int} (h : AgB l m b g) (hA : AgW l m k w) : AgB l m (askB b p k w) g := by
 intro k' t h1 h4 hv
 have e := (view_addS hB.ord (g := grpOf b.groups p) (k := k) (cs := missQ b p k w) g k' t).symm.trans hv
 split at e
 ·rename_i e0
  have e1 : g = grpOf b.groups p := congrArg Prod.fst e0
  have e2 : k' = k := congrArg Prod.snd e0
  rcases Bool.or_eq_true _ _ ▸ e with e | e
  ·exact h k' t h1 h4 (by rw [e1, e2]; exact e)
  ·have := miss_in hw e
   rw [e2]
   exact hA t this.1 this.2
 ·exact h k' t h1 h4 e
theorem AgB.free {l m : List Mk} (hl : OkM l) (hm : OkM m) {b : Bu} {p k : Int} {w : Sp} (hk : 1 ≤ k ∧ k ≤ 4) (hw : OkW k w) (h : AgB l m b (grpOf b.groups p)) (hc : missQ b p k w = []) : AgW l m k w := by
 intro t ht1 ht2
 have hn := sizeI_pos k
 have hali := alignedB_iff.1 hw.ali
 have hp := hw.pos
 refine agree_cover hl hm hn fun s hs1 hs2 => ?_
 have e1 := Int.emod_nonneg t (show sizeI k ≠ 0 by omega)
 have e2 := Int.emod_lt_of_pos t hn
 have hin : w.f ≤ s ∧ s < w.t := by
  have h1 := hali.1
  have h2 := hali.2
  rcases sizeI_cases k with e | e | e <;> rw [e] at h1 h2 hs1 hs2 <;> omega
 -- known
 have hkn : memS (knownD b.spent (grpOf b.groups p) k) s = true := by
  obtain ⟨c, hc1, h3, h4⟩ := cell_of hw hin.1 hin.2
  by_cases hcov : covered (sizeI k) (memS (knownD b.spent (grpOf b.groups p) k)) c = true
  ·have c2 := ((cellsW_mem hn hali.1 hali.2 (by omega)).1 hc1).2.1
   exact (covered_iff hn c2).1 hcov s h3 h4
  ·exfalso
   have hmem : memS (missQ b p k w) s = true := by
    unfold missQ missD
    rw [normD_mem]
    exact memS_iff.2 ⟨c, List.mem_filter.2 ⟨hc1, by simpa using hcov⟩, h3, h4⟩
   rw [hc, memS_nil] at hmem
   cases hmem
 obtain ⟨j, hj, hv⟩ := (knownS_mem _ _ _ _).1 hkn
 have ha := h (k + j) s (by omega) (by omega) hv
 have hn' := sizeI_pos (k + j)
 have f1 := Int.emod_nonneg s (show sizeI (k + j) ≠ 0 by omega)
 have f2 := Int.emod_lt_of_pos s hn'
 obtain ⟨g1, g2⟩ := cells_nest (k' := k + j) (s := s) hk.1 (by omega) (by omega) hs1 hs2
 exact ⟨k + j, s - s % sizeI (k + j), sizeI (k + j), by omega, hn', by omega, by omega, g1, g2, ha⟩
def viewC (l : List Mk) (k : Int) (w : Sp) : List Int := (List.range ((w.t - w.f) / sizeI k).toNat).map fun i : Nat => cellV l k (w.f + i * sizeI k) (sizeI k)
theorem viewC_eq {l m : List Mk} {k : Int} {w : Sp} (hw : OkW k w) : viewC l k w = viewC m k w ↔ AgW l m k w := by
 have hn := sizeI_pos k
 have hali := alignedB_iff.1 hw.ali
 have hp := hw.pos
 unfold viewC
 rw [List.map_inj_left]
 constructor
 ·intro h t h1 h2
  have e1 := Int.emod_nonneg t (show sizeI k ≠ 0 by omega)
  have e2 := Int.emod_lt_of_pos t hn
  have hi := h ((t - t % sizeI k - w.f) / sizeI k).toNat (List.mem_range.2 (by
   have g1 := hali.1
   have g2 := hali.2
   rcases sizeI_cases k with e | e | e <;> rw [e] at g1 g2 ⊢ <;> omega))
  have e3 : w.f + (((t - t % sizeI k - w.f) / sizeI k).toNat : Int) * sizeI k = t - t % sizeI k := by
   have g1 := hali.1
   rcases sizeI_cases k with e | e | e <;> rw [e] at g1 ⊢ <;> omega
  rw [e3] at hi
  exact hi
 ·intro h i hi
  have hi' := List.mem_range.1 hi
  have hb : w.f ≤ w.f + i * sizeI k ∧ w.f + i * sizeI k < w.t := by
   have g1 := hali.1
   have g2 := hali.2
   rcases sizeI_cases k with e | e | e <;> rw [e] at g1 g2 hi' ⊢ <;> omega
  have := h _ hb.1 hb.2
  unfold AgT at this
  have e : w.f + i * sizeI k - (w.f + i * sizeI k) % sizeI k = w.f + i * sizeI k := by
   have g1 := hali.1
   rcases sizeI_cases k with e | e | e <;> rw [e] at g1 ⊢ <;> omega
  rwa [e] at this
end Go.Proofs.YtdglpgepgmdbdaaGreatDoor
namespace Go.Proofs.YtdglpgepgmdbdaaGreatDoor
set_option linter.unusedSectionVars false
variable [Go.Proofs.YtdglpgepgmdbdaaGreatDoor.Vc.Drew]
set_option linter.unusedSimpArgs false
set_option linter.unusedVariables false
open Go.Proofs.YtdglpgepgmdbdaaGreatDoor.Vc
def Mk.cells (m : Mk) : List Value := [.int .i64 m.f, .int .i64 m.t, .int .i64 m.kind]
def okMk (m : Mk) : Prop := -2251799813685248 ≤ m.f ∧ m.f < m.t ∧ m.t ≤ 2251799813685248 ∧ 1 ≤ m.kind ∧ m.kind ≤ 8
theorem cWindow (w : Sp) (h1 : -2251799813685248 ≤ w.f) (h2 : w.f ≤ w.t) (h3 : w.t ≤ 2251799813685248) (R : RO) : CallsR Tryz.prog 51 [.agg w.cells.toArray] R fun _ r => r = .bool true := by
 simp only [Sp.cells]
 refine callsT mix Tryz.func51 comp51 (by simp [Tryz.ntmps51]) ?_; simp only [go_sem, ↓reduceIte, nQ1, nQ2, nQ3, nQ4, nQ5, nQ6, reduceCtorEq, vc51, rs51]
 try simp only [go_sem, ↓reduceIte, nQ1, nQ2, nQ3, nQ4, nQ5, nQ6, reduceCtorEq, iQ1, iQ2, iQ3, iQ4, iQ5, iQ6, h1, h2, h3]
theorem cValid1 (m : Mk) (h : okMk m) (R : RO) : CallsR Tryz.prog 50 [.agg m.cells.toArray] R fun _ r => r = .bool false := by
 obtain ⟨h1, h2, h3, h4, h5⟩ := h
 have hW := fun R' => cWindow ⟨m.f, m.t⟩ h1 (by show m.f ≤ m.t; omega) h3 R'
 have k4 : ¬ m.kind < 1 := by omega
 have k5 : ¬ 8 < m.kind := by omega
 have k2 : ¬ m.f = m.t := by omega
 simp only [Sp.cells] at hW
 simp only [Mk.cells]
 refine callsT mix Tryz.func50 comp50 (by simp [Tryz.ntmps50]) ?_; simp only [go_sem, ↓reduceIte, nQ1, nQ2, nQ3, nQ4, nQ5, nQ6, reduceCtorEq, vc50, rs50]
 try simp only [go_sem, ↓reduceIte, nQ1, nQ2, nQ3, nQ4, nQ5, nQ6, reduceCtorEq, iQ1, iQ2, iQ3, iQ4, iQ5, iQ6, k4, k5]
 refine vcall (hW R) ?_
 rintro R1 r hle1 rfl
 try simp only [go_sem, ↓reduceIte, nQ1, nQ2, nQ3, nQ4, nQ5, nQ6, reduceCtorEq, iQ1, iQ2, iQ3, iQ4, iQ5, iQ6, k2]
theorem cIndexFunc (f : FuncId) (hb : hasBody Tryz.prog f = true) (xs : List Mk) (v : Value) (R : RO) (h : EncV Mk.cells 3 R v xs)
  (hf : ∀ (s : Mk) (R' : RO), s ∈ xs → RO.le R R' → CallsR Tryz.prog f [.agg s.cells.toArray] R' fun _ u => u = .bool false) : CallsR Tryz.prog 76 [v, .func (.func f) #[] #[]] R fun _ u => u = .int .i64 (-1) := by
 have hxl := h.2
 obtain ⟨a, cap, rfl, hc, hg⟩ := h.form
 refine callsT mix Tryz.func76 comp76 (by simp [Tryz.ntmps76]) ?_; simp only [go_sem, ↓reduceIte, nQ1, nQ2, nQ3, nQ4, nQ5, nQ6, reduceCtorEq, vc76, rs76]
 refine vcLoop Nat (fun i => [(8, .val (.int .i64 i)), (7, .val (.int .i64 xs.length)), (0, .val (.slice a xs.length cap)), (1, .val (.func (.func f) #[] #[]))]) (fun _ => []) (fun i _ => i ≤ xs.length) (fun i => xs.length - i) 0 ?_ ?_ ?_ ?_
 ·(try simp only [go_sem, ↓reduceIte, nQ1, nQ2, nQ3, nQ4, nQ5, nQ6, reduceCtorEq]) <;> (repeat' (first | rfl | trivial | constructor | (intro h; exact absurd rfl h)))
 ·try simp only [go_sem, ↓reduceIte, nQ1, nQ2, nQ3, nQ4, nQ5, nQ6, reduceCtorEq]
 ·exact Nat.zero_le _
 rintro i env R1 hle1 hE hi
 (simp only [go_sem] at hE; obtain ⟨e8, e7, e0, e1⟩ := hE; simp only [go_sem, ↓reduceIte, nQ1, nQ2, nQ3, nQ4, nQ5, nQ6, reduceCtorEq, e8, e7, e0, e1]; dsimp only at *)
 refine fun hlt => ?_
 have hlt' : i < xs.length := by omega
 obtain ⟨ad, had, hR⟩ := hg i hlt'
 refine ⟨by omega, vat ad had ?_⟩
 try simp only [go_sem, ↓reduceIte, nQ1, nQ2, nQ3, nQ4, nQ5, nQ6, reduceCtorEq]
 refine vloadn (xs[i]).cells rfl (fun j u hj => hle1 _ _ (hR j u hj)) ?_
 simp only [go_sem, ↓reduceIte, nQ1, nQ2, nQ3, nQ4, nQ5, nQ6, reduceCtorEq, Mk.cells, e8, e7, e0, e1]
 have hF := hf xs[i] R1 (List.getElem_mem hlt') hle1
 simp only [Mk.cells] at hF
 refine ⟨hb, vcall hF ?_⟩
 rintro R2 v hle2 rfl
 simp only [go_sem, ↓reduceIte, nQ1, nQ2, nQ3, nQ4, nQ5, nQ6, reduceCtorEq, e8, e7, e0, e1]
 refine ⟨_, W.in64 (by omega), i + 1, by omega, ?_, by omega⟩
 try simp only [go_sem, ↓reduceIte, nQ1, nQ2, nQ3, nQ4, nQ5, nQ6, reduceCtorEq]
 rfl
theorem hbVal1 : hasBody Tryz.prog 50 = true := by kernel_rfl
theorem cValid (xs : List Mk) (v : Value) (R : RO) (h : EncV Mk.cells 3 R v xs) (hok : ∀ m ∈ xs, okMk m) : CallsR Tryz.prog 26 [v] R fun _ r => r = .bool true := by
 have hI := cIndexFunc 50 hbVal1 xs v R h (fun s R' hs _ => cValid1 s (hok s hs) R')
 obtain ⟨a, cap, rfl, _⟩ := h.form
 have hC : CallsR Tryz.prog 49 [.slice a xs.length cap, .func (.func 50) #[] #[]] R fun _ r => r = .bool false := by
  refine callsT mix Tryz.func49 comp49 (by simp [Tryz.ntmps49]) ?_; simp only [go_sem, ↓reduceIte, nQ1, nQ2, nQ3, nQ4, nQ5, nQ6, reduceCtorEq, vc49, rs49]
  refine vcall hI ?_
  rintro R1 r hle1 rfl
  try simp only [go_sem, ↓reduceIte, nQ1, nQ2, nQ3, nQ4, nQ5, nQ6, reduceCtorEq, iQ1, iQ2, iQ3, iQ4, iQ5, iQ6]
 refine callsT mix Tryz.func26 comp26 (by simp [Tryz.ntmps26]) ?_; simp only [go_sem, ↓reduceIte, nQ1, nQ2, nQ3, nQ4, nQ5, nQ6, reduceCtorEq, vc26, rs26]
 refine vcall hC ?_
 rintro R1 r hle1 rfl
 try simp only [go_sem, ↓reduceIte, nQ1, nQ2, nQ3, nQ4, nQ5, nQ6, reduceCtorEq, iQ1, iQ2, iQ3, iQ4, iQ5, iQ6]
theorem cSize (g : Int) (hg : 1 ≤ g ∧ g ≤ 4) (R : RO) : CallsR Tryz.prog 29 [.int .i64 g] R fun _ r => r = .int .i64 (sizeI g) := by
 rcases (by omega : g = 1 ∨ g = 2 ∨ g = 3 ∨ g = 4) with rfl | rfl | rfl | rfl
 all_goals (refine callsT mix Tryz.func29 comp29 (by simp [Tryz.ntmps29]) ?_; simp only [go_sem, ↓reduceIte, nQ1, nQ2, nQ3, nQ4, nQ5, nQ6, reduceCtorEq, vc29, rs29]; try simp only [go_sem, ↓reduceIte, nQ1, nQ2, nQ3, nQ4, nQ5, nQ6, reduceCtorEq, iQ1, iQ2, iQ3, iQ4, iQ5, iQ6]; try rfl)
end Go.Proofs.YtdglpgepgmdbdaaGreatDoor
namespace Go.Proofs.YtdglpgepgmdbdaaGreatDoor
set_option linter.unusedSectionVars false
variable [Go.Proofs.YtdglpgepgmdbdaaGreatDoor.Vc.Drew]
set_option linter.unusedSimpArgs false
set_option linter.unusedVariables false
open Go.Proofs.YtdglpgepgmdbdaaGreatDoor.Vc
theorem cCells (k : Int) (w : Sp) (hk : 1 ≤ k ∧ k ≤ 4) (hw : OkW k w) (h0 : 0 ≤ w.f) (hn : (w.t - w.f) / sizeI k ≤ 65536) (R : RO) : CallsR Tryz.prog 27 [.int .i64 k, .agg w.cells.toArray] R fun _ r => r = .tuple #[.int .i64 ((w.t - w.f) / sizeI k), .int .i64 0] := by
 have hS := fun R' => cSize k hk R'
 have hp := hw.pos
 have hlo := hw.lo
 have hhi := hw.hi
 have hali := alignedB_iff.1 hw.ali
 have hsz := sizeI_pos k
 have hW := fun R' => cWindow w hw.lo (by omega) hw.hi R'
 have k1 : ¬ k < 0 := by omega
 have k2 : ¬ 4 < k := by omega
 have k3 : ¬ k = 0 := by omega
 have k4 : ¬ sizeI k = 0 := by omega
 have m1 : w.f.tmod (sizeI k) = 0 := by rw [Int.tmod_eq_emod_of_nonneg h0]; exact hali.1
 have m2 : w.t.tmod (sizeI k) = 0 := by rw [Int.tmod_eq_emod_of_nonneg (by omega)]; exact hali.2
 have m3 : (w.t - w.f).tdiv (sizeI k) = (w.t - w.f) / sizeI k := Int.tdiv_eq_ediv_of_nonneg (by omega)
 have m4 : ¬ 65536 < (w.t - w.f) / sizeI k := by omega
 simp only [Sp.cells] at hW ⊢
 refine callsT mix Tryz.func27 comp27 (by simp [Tryz.ntmps27]) ?_; simp only [go_sem, ↓reduceIte, nQ1, nQ2, nQ3, nQ4, nQ5, nQ6, reduceCtorEq, vc27, rs27]
 try simp only [go_sem, ↓reduceIte, nQ1, nQ2, nQ3, nQ4, nQ5, nQ6, reduceCtorEq, iQ1, iQ2, iQ3, iQ4, iQ5, iQ6, k1, k2, k3]
 refine vcall (hW R) ?_
 rintro R1 r hle1 rfl
 try simp only [go_sem, ↓reduceIte, nQ1, nQ2, nQ3, nQ4, nQ5, nQ6, reduceCtorEq, iQ1, iQ2, iQ3, iQ4, iQ5, iQ6, k1, k2, k3]
 refine vcall (hS R1) ?_
 rintro R2 r hle2 rfl
 try simp only [go_sem, ↓reduceIte, nQ1, nQ2, nQ3, nQ4, nQ5, nQ6, reduceCtorEq, iQ1, iQ2, iQ3, iQ4, iQ5, iQ6, k4, m1]
 refine vcall (hS R2) ?_
 rintro R3 r hle3 rfl
 try simp only [go_sem, ↓reduceIte, nQ1, nQ2, nQ3, nQ4, nQ5, nQ6, reduceCtorEq, iQ1, iQ2, iQ3, iQ4, iQ5, iQ6, k4, m2]
 refine ⟨_, W.in64 (by omega), ?_⟩
 try simp only [go_sem, ↓reduceIte, nQ1, nQ2, nQ3, nQ4, nQ5, nQ6, reduceCtorEq, iQ1, iQ2, iQ3, iQ4, iQ5, iQ6, k4, m2]
 refine vcall (hS R3) ?_
 rintro R4 r hle4 rfl
 try simp only [go_sem, ↓reduceIte, nQ1, nQ2, nQ3, nQ4, nQ5, nQ6, reduceCtorEq, iQ1, iQ2, iQ3, iQ4, iQ5, iQ6, k4, m3, m4]
 have q0 : 0 ≤ (w.t - w.f) / sizeI k := Int.ediv_nonneg (by omega) (by omega)
 exact ⟨_, W.in64 (by omega), fun h => absurd h m4, fun _ => rfl⟩
theorem eEqual (xs ys : List Int) (v u : Value) (R : RO) (h : Ints R v xs) (k : Ints R u ys) (hl : xs.length ≤ 1099511627776) : CallsR Tryz.prog 25 [v, u] R fun _ r => r = .bool (decide (xs = ys)) := by
 obtain ⟨a, cap, rfl, hc, hf⟩ := h.form
 obtain ⟨b, cap', rfl, hc', hf'⟩ := k.form
 refine callsT mix Tryz.func25 comp25 (by simp [Tryz.ntmps25]) ?_; simp only [go_sem, ↓reduceIte, nQ1, nQ2, nQ3, nQ4, nQ5, nQ6, reduceCtorEq, vc25, rs25]
 refine ⟨fun hne => ?_, fun he => ?_⟩
 ·rw [decide_eq_false]; rintro rfl; exact hne rfl
 have he' : xs.length = ys.length := by omega
 refine vcLoop Nat (fun i => [(13, .val (.int .i64 i)), (0, .val (.slice a xs.length cap)), (11, .val (.slice a xs.length cap)), (12, .val (.int .i64 xs.length)), (1, .val (.slice b ys.length cap'))]) (fun _ => []) (fun i _ => i ≤ xs.length ∧ xs.take i = ys.take i) (fun i => xs.length - i) 0 ?_ rfl ?_ ?_
 ·(try simp only [go_sem, ↓reduceIte, nQ1, nQ2, nQ3, nQ4, nQ5, nQ6, reduceCtorEq]) <;> (repeat' (first | rfl | trivial | constructor | (intro h; exact absurd rfl h)))
 ·exact ⟨Nat.zero_le _, rfl⟩
 rintro i env R1 hle hE ⟨hi, hp⟩
 (simp only [go_sem] at hE; obtain ⟨e13, e0, e11, e12, e1⟩ := hE; simp only [go_sem, ↓reduceIte, nQ1, nQ2, nQ3, nQ4, nQ5, nQ6, reduceCtorEq, e13, e0, e11, e12, e1]; dsimp only at *)
 refine ⟨fun hlt => ⟨hlt, ?_⟩, fun hge => ?_⟩
 ·have hlt' : i < xs.length := by omega
  obtain ⟨ad, had, hR⟩ := hf i hlt'
  obtain ⟨ad', had', hR'⟩ := hf' i (by omega)
  refine vat ad had ?_
  try simp only [go_sem, ↓reduceIte, nQ1, nQ2, nQ3, nQ4, nQ5, nQ6, reduceCtorEq]
  refine vload _ (hle _ _ hR) ?_
  simp only [go_sem, ↓reduceIte, nQ1, nQ2, nQ3, nQ4, nQ5, nQ6, reduceCtorEq, e13, e0, e11, e12, e1]
  refine ⟨by omega, vat ad' had' ?_⟩
  try simp only [go_sem, ↓reduceIte, nQ1, nQ2, nQ3, nQ4, nQ5, nQ6, reduceCtorEq]
  refine vload _ (hle _ _ hR') ?_
  simp only [go_sem, ↓reduceIte, nQ1, nQ2, nQ3, nQ4, nQ5, nQ6, reduceCtorEq, e13, e0, e11, e12, e1]
  refine ⟨fun hne => ?_, fun heq => ?_⟩
  ·rw [decide_eq_false]; rintro rfl; exact hne rfl
  ·refine ⟨_, W.in64 (by omega), i + 1, by omega, by constructor, by omega, ?_⟩
   rw [List.take_succ_eq_append_getElem hlt', List.take_succ_eq_append_getElem (by omega : i < ys.length), hp, heq]
 ·obtain rfl : i = xs.length := by omega
  rw [List.take_length, he', List.take_length] at hp
  simp [hp]
theorem cSame (k : Int) (w : Sp) (l m : List Mk) (v u : Value) (R : RO) (hl : EncV Mk.cells 3 R v l) (hm : EncV Mk.cells 3 R u m) (hn : (viewC l k w).length ≤ 65536)
  (hV : ∀ (xs : List Mk) (x : Value) (R' : RO), EncV Mk.cells 3 R' x xs → (xs = l ∨ xs = m) → CallsR Tryz.prog 11 [x, .int .i64 k, .agg w.cells.toArray] R' fun R2 r => ∃ y, r = .tuple #[y, .int .i64 0] ∧ Ints R2 y (viewC xs k w)) :
  CallsR Tryz.prog 8 [v, u, .int .i64 k, .agg w.cells.toArray] R fun _ r => r = .tuple #[.bool (decide (viewC l k w = viewC m k w)), .int .i64 0] := by
 have h1 := hV l v R hl (.inl rfl)
 have h2 := fun R' (hle : RO.le R R') => hV m u R' (hm.mono hle) (.inr rfl)
 obtain ⟨a, cap, rfl, _⟩ := hl.form
 obtain ⟨b, cap', rfl, _⟩ := hm.form
 simp only [Sp.cells] at h1 h2 ⊢
 refine callsT mix Tryz.func8 comp8 (by simp [Tryz.ntmps8]) ?_; simp only [go_sem, ↓reduceIte, nQ1, nQ2, nQ3, nQ4, nQ5, nQ6, reduceCtorEq, vc8, rs8]
 refine vcall h1 ?_
 rintro R1 r hle1 ⟨y1, rfl, hy1⟩
 obtain ⟨y1a, y1c, rfl, _⟩ := hy1.form
 try simp only [go_sem, ↓reduceIte, nQ1, nQ2, nQ3, nQ4, nQ5, nQ6, reduceCtorEq, iQ1, iQ2, iQ3, iQ4, iQ5, iQ6]
 refine vcall (h2 R1 hle1) ?_
 rintro R2 r hle2 ⟨y2, rfl, hy2⟩
 obtain ⟨y2a, y2c, rfl, _⟩ := hy2.form
 try simp only [go_sem, ↓reduceIte, nQ1, nQ2, nQ3, nQ4, nQ5, nQ6, reduceCtorEq, iQ1, iQ2, iQ3, iQ4, iQ5, iQ6]
 refine vcall (eEqual _ _ _ _ R2 (hy1.mono hle2) hy2 (by omega)) ?_
 rintro R3 r hle3 rfl
 try simp only [go_sem, ↓reduceIte, nQ1, nQ2, nQ3, nQ4, nQ5, nQ6, reduceCtorEq, iQ1, iQ2, iQ3, iQ4, iQ5, iQ6]
/-! ### The law's marks -/
structure U3 where
 a : Int
 b : Int
 c : Int
def U3.cells (x : U3) : List Value := [.int .u8 x.a, .int .u8 x.b, .int .u8 x.c]
def U3.ok (x : U3) : Prop := (0 ≤ x.a ∧ x.a ≤ 255) ∧ (0 ≤ x.b ∧ x.b ≤ 255) ∧ 0 ≤ x.c ∧ x.c ≤ 255
def U3V (R : RO) (v : Value) (xs : List U3) : Prop := SlK R v 3 (xs.map U3.cells)
theorem U3V.form {R : RO} {v : Value} {xs : List U3} (h : U3V R v xs) : ∃ a cap, v = .slice a xs.length cap ∧ xs.length ≤ cap ∧ ∀ i (hi : i < xs.length), ∃ ad, a = some ad ∧ ∀ j u, (xs[i].cells)[j]? = some u → R ((ad.add (i * 3)).add j) u := by
 obtain ⟨a, cap, rfl, hc, hf⟩ := h
 rw [List.length_map] at hc
 refine ⟨a, cap, by rw [List.length_map], hc, fun i hi => ?_⟩
 obtain ⟨_, ad, ha, hR⟩ := hf i (xs[i].cells) (by rw [List.getElem?_map, List.getElem?_eq_getElem hi]; rfl)
 exact ⟨ad, ha, hR⟩
def mkOf (x : U3) : Mk := ⟨12 * x.a, 12 * x.a + 1 + x.b, 1 + x.c % 8⟩
def marksD (xs : List U3) : List Mk := (xs.take 6).map mkOf
theorem marksD_ok {xs : List U3} (h : ∀ x ∈ xs, x.ok) : ∀ m ∈ marksD xs, okMk m := fun m hm => by
 obtain ⟨x, hx, rfl⟩ := List.mem_map.1 hm
 obtain ⟨h1, h2, h3⟩ := h x (List.mem_of_mem_take hx)
 unfold okMk mkOf
 dsimp only
 omega
theorem rowM_len (l : List Mk) : ((l.map Mk.cells).flatten).length = l.length * 3 := by
 rw [length_flattenK (k := 3) (fun us hus => by obtain ⟨x, _, rfl⟩ := List.mem_map.1 hus; rfl)]
 simp
set_option maxHeartbeats 2000000 in
theorem cMarks (xs : List U3) (v : Value) (R : RO) (h : U3V R v xs) (hok : ∀ x ∈ xs, x.ok) : CallsR Tryz.prog 5 [v] R fun R' r => EncV Mk.cells 3 R' r (marksD xs) := by
 obtain ⟨a, cap, rfl, hc, hg⟩ := h.form
 refine callsT mix Tryz.func5 comp5 (by simp [Tryz.ntmps5]) ?_; simp only [go_sem, ↓reduceIte, nQ1, nQ2, nQ3, nQ4, nQ5, nQ6, reduceCtorEq, vc5, rs5]
 refine vcLoopR Nat (fun i => [(4, .val (.int .i64 i)), (0, .val (.slice a xs.length cap)), (3, .sl 0 i)]) (fun i => [.row 52 3 (((xs.take i).map mkOf).map Mk.cells).flatten]) (fun i _ => i ≤ xs.length ∧ i ≤ 6) (fun i => xs.length - i) 0 [0] ?_ ?_ ?_ ?_
 ·(try simp only [go_sem, ↓reduceIte, nQ1, nQ2, nQ3, nQ4, nQ5, nQ6, reduceCtorEq]) <;> (repeat' (first | rfl | trivial | constructor | (intro h; exact absurd rfl h)))
 ·try simp only [go_sem, ↓reduceIte, nQ1, nQ2, nQ3, nQ4, nQ5, nQ6, reduceCtorEq]
  try decide
 ·exact ⟨Nat.zero_le _, by omega⟩
 rintro i env R1 hle1 hE ⟨hi, hi6⟩
 (simp only [go_sem] at hE; obtain ⟨e4, e0, e3⟩ := hE; simp only [go_sem, ↓reduceIte, nQ1, nQ2, nQ3, nQ4, nQ5, nQ6, reduceCtorEq, e4, e0, e3]; dsimp only at *)
 refine ⟨fun hlt => ⟨fun h6 => ?_, fun h6 => ?_⟩, fun hge => ?_⟩
 ·have hlt' : i < xs.length := by omega
  obtain ⟨ad, had, hR⟩ := hg i hlt'
  obtain ⟨⟨a0, a1⟩, ⟨b0, b1⟩, c0, c1⟩ := hok xs[i] (List.getElem_mem hlt')
  refine ⟨hlt, vat ad had ?_⟩
  try simp only [go_sem, ↓reduceIte, nQ1, nQ2, nQ3, nQ4, nQ5, nQ6, reduceCtorEq, iQ1, iQ2, iQ3, iQ4, iQ5, iQ6]
  refine vload (.int .u8 (xs[i]).a) (hle1 _ _ (by have := hR 0 _ rfl; rwa [Addr.add_zero'] at this)) ?_
  try simp only [go_sem, ↓reduceIte, nQ1, nQ2, nQ3, nQ4, nQ5, nQ6, reduceCtorEq, iQ1, iQ2, iQ3, iQ4, iQ5, iQ6, e4, e0, e3]
  refine ⟨_, W.in64 (by omega), _, W.in64 (by omega), _, W.in64 (by omega), hlt, vat ad had ?_⟩
  try simp only [go_sem, ↓reduceIte, nQ1, nQ2, nQ3, nQ4, nQ5, nQ6, reduceCtorEq, iQ1, iQ2, iQ3, iQ4, iQ5, iQ6]
  refine vload (.int .u8 (xs[i]).b) (hle1 _ _ (hR 1 _ rfl)) ?_
  try simp only [go_sem, ↓reduceIte, nQ1, nQ2, nQ3, nQ4, nQ5, nQ6, reduceCtorEq, iQ1, iQ2, iQ3, iQ4, iQ5, iQ6, e4, e0, e3]
  refine ⟨_, W.in64 (by omega), _, W.in64 (by omega), hlt, vat ad had ?_⟩
  try simp only [go_sem, ↓reduceIte, nQ1, nQ2, nQ3, nQ4, nQ5, nQ6, reduceCtorEq, iQ1, iQ2, iQ3, iQ4, iQ5, iQ6]
  refine vload (.int .u8 (xs[i]).c) (hle1 _ _ (hR 2 _ rfl)) ?_
  try simp only [go_sem, ↓reduceIte, nQ1, nQ2, nQ3, nQ4, nQ5, nQ6, reduceCtorEq, iQ1, iQ2, iQ3, iQ4, iQ5, iQ6, e4, e0, e3]
  have ht : (xs[i]).c.tmod 8 = (xs[i]).c % 8 := Int.tmod_eq_emod_of_nonneg c0
  have hln : (((xs.take i).map mkOf).map Mk.cells).flatten.length = i * 3 := by rw [rowM_len, List.length_map, List.length_take]; omega
  refine ⟨_, W.in64 (by omega), _, W.in64 (by omega), ?_⟩
  refine vappO (((xs.take i).map mkOf).map Mk.cells).flatten rfl hln (by omega) ?_
  try simp only [go_sem, ↓reduceIte, nQ1, nQ2, nQ3, nQ4, nQ5, nQ6, reduceCtorEq, iQ1, iQ2, iQ3, iQ4, iQ5, iQ6, e4, e0, e3]
  refine ⟨_, W.in64 (by omega), i + 1, [2], by omega, ?_, by decide, by omega, by omega⟩
  refine ⟨⟨by norm_cast, rfl⟩, ?_⟩
  rw [List.take_succ_eq_append_getElem hlt', List.map_append, List.map_append, List.flatten_append, ht]
  rfl
 ·obtain rfl : i = 6 := by omega
  intro b cap R' hle hrow hcap hfr
  have := RowIn.enc (xs := (xs.take 6).map mkOf) (enc := Mk.cells) (fun _ => rfl) (by omega) hrow hcap (by simp; omega)
  rwa [List.length_map, List.length_take, show min 6 xs.length = 6 by omega] at this
 ·obtain rfl : i = xs.length := by omega
  intro b cap R' hle hrow hcap hfr
  have := RowIn.enc (xs := (xs.take xs.length).map mkOf) (enc := Mk.cells) (fun _ => rfl) (by omega) hrow hcap (by simp; omega)
  rw [List.length_map, List.length_take, Nat.min_self] at this
  unfold marksD
  rw [List.take_of_length_le (by omega : xs.length ≤ 6)]
  rwa [List.take_length] at this
end Go.Proofs.YtdglpgepgmdbdaaGreatDoor
namespace Go.Proofs.YtdglpgepgmdbdaaGreatDoor
set_option linter.unusedSectionVars false
variable [Go.Proofs.YtdglpgepgmdbdaaGreatDoor.Vc.Drew]
set_option linter.unusedSimpArgs false
set_option linter.unusedVariables false
open Go.Proofs.YtdglpgepgmdbdaaGreatDoor.Vc
structure Bx where
 b : Bu
 ga : Option Addr
 gc : Nat
 sa : Option Addr
 sc : Nat
abbrev Bx.cells (x : Bx) : List Value := [.int .i64 x.b.limit, .slice x.ga x.b.groups.length x.gc, .slice x.sa x.b.spent.length x.sc]
structure BxV (R : RO) (x : Bx) : Prop where
 val : BuV R (.agg x.cells.toArray) x.b
theorem BxV.mono {R R' : RO} {x : Bx} (h : BxV R x) (hle : RO.le R R') : BxV R' x := ⟨h.val.mono hle⟩
theorem BxV.of {R : RO} {l : Int} {b : Bu} {ga sa : Option Addr} {gc sc : Nat} (h : BuV R (.agg #[.int .i64 l, .slice ga b.groups.length gc, .slice sa b.spent.length sc]) b) : BxV R ⟨b, ga, gc, sa, sc⟩ := by
 have hl := h.groups.1
 subst hl
 exact ⟨h⟩
structure LimI (n : Nat) (b : Bu) : Prop where
 ok : OkB b
 sz : SzB b n (40 * n)
 tot : ∀ g, totalD g b.spent ≤ b.limit
theorem person6 {p : Int} (h0 : 0 ≤ p) (h1 : p < 6) : personB p = true := by unfold personB; simp; omega
theorem LimI.raw {n : Nat} {b : Bu} (h : LimI n b) (hn : n ≤ 20) : RawB b := h.ok.raw (h.sz.mono (by omega) (by omega))
theorem LimI.next {n : Nat} {b : Bu} (h : LimI n b) : LimI (n + 1) b := ⟨h.ok, h.sz.mono (by omega) (by omega), h.tot⟩
theorem LimI.ask {n : Nat} {b : Bu} (h : LimI n b) {p k : Int} {w : Sp} (hp : personB p = true) (hk : 1 ≤ k ∧ k ≤ 4) (hw : OkW k w) (hc : (w.t - w.f) / sizeI k ≤ 40) (hl : ¬ b.limit < totalD (grpOf b.groups p) b.spent + costQ b p k w) : LimI (n + 1) (askB b p k w) := by
 refine ⟨h.ok.ask hp hk hw, (askB_bd h.ok hw h.sz (c := 40) (by omega)).mono (Nat.le_refl _) (by omega), fun g => ?_⟩
 rw [total_ask h.ok hk hw]
 show _ ≤ b.limit
 have := h.tot g
 split
 ·rename_i e; rw [e]; omega
 ·omega
end Go.Proofs.YtdglpgepgmdbdaaGreatDoor
