/- Lemmas of our own, no statement of the seat; the last one of the claim's texts proves the law. -/
import Derived.Shelf.SlicesE.Delete
import Derived.Ground.SlgnProg
import Derived.Shelf.Spec.SlicesGrow
import Derived.Ground.Names7Prog
import Derived.Test.YtclkibjonbhldaaGreatDoorBsd
open Nat renaming reduceEqDiff → nQ1, reduceAdd → nQ2, reduceMul → nQ3, reduceLeDiff → nQ4, reduceLT → nQ5, reduceBNe → nQ6
open Int renaming reduceLE → iQ1, reduceLT → iQ2, reduceToNat → iQ3, cast_ofNat_Int → iQ4, reduceEq → iQ5, reduceNe → iQ6
/- Plain lemmas of our own, no statement of the seat: what a question and its answer are: plain. -/
namespace Go.Proofs.YtclkibjonbhldaaGreatDoor
set_option linter.unusedSimpArgs false
set_option linter.unusedVariables false
open Go.Proofs.YtclkibjonbhldaaGreatDoor.Vc
/-! ### Lists in order -/
theorem keyLt_irrefl (a : Se) : ¬ keyLt a a := by unfold keyLt; omega
theorem sorted_nodup {l : List Se} (h : l.Pairwise keyLt) : (l.map seKey).Nodup := by
 refine List.pairwise_map.2 (h.imp fun {a b} hab e => ?_)
 unfold keyLt at hab
 unfold seKey at e
 simp only [Prod.mk.injEq] at e
 omega
theorem sorted_ext : ∀ {a b : List Se}, a.Pairwise keyLt → b.Pairwise keyLt → (∀ s, s ∈ a ↔ s ∈ b) → a = b
 | [], [], _, _, _ => rfl
 | [], y :: b, _, _, h => absurd ((h y).2 (by simp)) (by simp)
 | x :: a, [], _, _, h => absurd ((h x).1 (by simp)) (by simp)
 | x :: a, y :: b, ha, hb, h => by
  have oa := (List.pairwise_cons.1 ha).1
  have ob := (List.pairwise_cons.1 hb).1
  have hxy : x = y := by
   rcases List.mem_cons.1 ((h x).1 (by simp)) with e | hx
   ·exact e
   ·rcases List.mem_cons.1 ((h y).2 (by simp)) with e | hy
    ·exact e.symm
    ·exact absurd (keyLt_trans (ob x hx) (oa y hy)) (keyLt_irrefl y)
  subst hxy
  have hr : ∀ s, s ∈ a ↔ s ∈ b := fun s => by
   constructor
   ·intro hs
    rcases List.mem_cons.1 ((h s).1 (by simp [hs])) with e | hs'
    ·subst e; exact absurd (oa s hs) (keyLt_irrefl s)
    ·exact hs'
   ·intro hs
    rcases List.mem_cons.1 ((h s).2 (by simp [hs])) with e | hs'
    ·subst e; exact absurd (ob s hs) (keyLt_irrefl s)
    ·exact hs'
  rw [sorted_ext (List.pairwise_cons.1 ha).2 (List.pairwise_cons.1 hb).2 hr]
def insE (s : Se) : List Se → List Se
 | [] => [s]
 | x :: l => if keyLt s x then s :: x :: l else if keyLt x s then x :: insE s l else s :: l
theorem keyLt_tri {a b : Se} (h1 : ¬ keyLt a b) (h2 : ¬ keyLt b a) : seKey a = seKey b := by
 unfold keyLt at h1 h2
 unfold seKey
 simp only [Prod.mk.injEq]
 omega
theorem keyLt_ne {a b : Se} (h : keyLt a b) : seKey a ≠ seKey b := fun e => by
 unfold keyLt at h
 unfold seKey at e
 simp only [Prod.mk.injEq] at e
 omega
theorem keyLt_key {a b c : Se} (h : keyLt a b) (e : seKey b = seKey c) : keyLt a c := by
 unfold keyLt at *
 unfold seKey at e
 simp only [Prod.mk.injEq] at e
 omega
theorem keyLt_key' {a b c : Se} (h : keyLt b a) (e : seKey b = seKey c) : keyLt c a := by
 unfold keyLt at *
 unfold seKey at e
 simp only [Prod.mk.injEq] at e
 omega
theorem insE_mem {s : Se} : ∀ {l : List Se}, l.Pairwise keyLt → ∀ y, y ∈ insE s l ↔ y = s ∨ (y ∈ l ∧ seKey y ≠ seKey s)
 | [], _, y => by simp [insE]
 | x :: l, h, y => by
  have ho := (List.pairwise_cons.1 h).1
  unfold insE
  split
  ·rename_i h1
   rw [List.mem_cons]
   refine or_congr Iff.rfl ⟨fun hy => ⟨hy, ?_⟩, fun hy => hy.1⟩
   rcases List.mem_cons.1 hy with rfl | hy
   ·exact (keyLt_ne h1).symm
   ·exact (keyLt_ne (keyLt_trans h1 (ho y hy))).symm
  ·split
   ·rename_i h1 h2
    rw [List.mem_cons, insE_mem (List.pairwise_cons.1 h).2, List.mem_cons]
    constructor
    ·rintro (rfl | rfl | ⟨hy, hk⟩)
     ·exact .inr ⟨.inl rfl, keyLt_ne h2⟩
     ·exact .inl rfl
     ·exact .inr ⟨.inr hy, hk⟩
    ·rintro (rfl | ⟨rfl | hy, hk⟩)
     ·exact .inr (.inl rfl)
     ·exact .inl rfl
     ·exact .inr (.inr ⟨hy, hk⟩)
   ·rename_i h1 h2
    have e := keyLt_tri h1 h2
    rw [List.mem_cons, List.mem_cons]
    constructor
    ·rintro (rfl | hy)
     ·exact .inl rfl
     ·exact .inr ⟨.inr hy, fun e' => keyLt_ne (ho y hy) (e.symm.trans e'.symm)⟩
    ·rintro (rfl | ⟨rfl | hy, hk⟩)
     ·exact .inl rfl
     ·exact absurd e.symm hk
     ·exact .inr hy
theorem insE_sorted {s : Se} : ∀ {l : List Se}, l.Pairwise keyLt → (insE s l).Pairwise keyLt
 | [], _ => List.pairwise_singleton _ _
 | x :: l, h => by
  have ho := (List.pairwise_cons.1 h).1
  have ht := (List.pairwise_cons.1 h).2
  unfold insE
  split
  ·rename_i h1
   refine List.pairwise_cons.2 ⟨fun y hy => ?_, h⟩
   rcases List.mem_cons.1 hy with rfl | hy
   ·exact h1
   ·exact keyLt_trans h1 (ho y hy)
  ·split
   ·rename_i h1 h2
    refine List.pairwise_cons.2 ⟨fun y hy => ?_, insE_sorted ht⟩
    rcases (insE_mem ht y).1 hy with rfl | ⟨hy, _⟩
    ·exact h2
    ·exact ho y hy
   ·rename_i h1 h2
    have e := keyLt_tri h1 h2
    exact List.pairwise_cons.2 ⟨fun y hy => keyLt_key' (ho y hy) e.symm, ht⟩
def addS (l : List Se) (g k : Int) (cs : List Sp) : List Se := if unionD (lookD l g k) cs = [] then l else insE ⟨g, k, unionD (lookD l g k) cs⟩ l
theorem addS_sorted {l : List Se} {g k : Int} {cs : List Sp} (h : l.Pairwise keyLt) : (addS l g k cs).Pairwise keyLt := by
 unfold addS
 split
 ·exact h
 ·exact insE_sorted h
theorem lookD_congr {a b : List Se} (ha : (a.map seKey).Nodup) (hb : (b.map seKey).Nodup) (h : ∀ s, s ∈ a ↔ s ∈ b) (g k : Int) : lookD a g k = lookD b g k := by
 by_cases hk : ∃ s ∈ a, seKey s = (g, k)
 ·obtain ⟨s, hs, e⟩ := hk
  rw [lookD_mem ha hs e, lookD_mem hb ((h s).1 hs) e]
 ·rw [lookD_none fun s hs e => hk ⟨s, hs, e⟩, lookD_none fun s hs e => hk ⟨s, (h s).2 hs, e⟩]
theorem addP_mem {l : List Se} {g k : Int} {cs : List Sp} (hn : (l.map seKey).Nodup) (s : Se) : s ∈ addP l g k cs ↔ (unionD (lookD l g k) cs = [] ∧ s ∈ l) ∨ (unionD (lookD l g k) cs ≠ [] ∧ (s = ⟨g, k, unionD (lookD l g k) cs⟩ ∨ (s ∈ l ∧ seKey s ≠ (g, k)))) := by
 unfold addP
 split
 ·rename_i h; simp [h]
 ·rename_i h; rw [putD_mem hn]; simp [h]
theorem addS_mem {l : List Se} {g k : Int} {cs : List Sp} (hl : l.Pairwise keyLt) (s : Se) : s ∈ addS l g k cs ↔ (unionD (lookD l g k) cs = [] ∧ s ∈ l) ∨ (unionD (lookD l g k) cs ≠ [] ∧ (s = ⟨g, k, unionD (lookD l g k) cs⟩ ∨ (s ∈ l ∧ seKey s ≠ (g, k)))) := by
 unfold addS
 split
 ·rename_i h; simp [h]
 ·rename_i h; rw [insE_mem hl]; simp [h, seKey]
theorem addP_keys {l : List Se} {g k : Int} {cs : List Sp} (hn : (l.map seKey).Nodup) : ((addP l g k cs).map seKey).Nodup := by
 unfold addP
 split
 ·exact hn
 ·exact putD_keys hn
theorem addP_addS {l l' : List Se} {g k : Int} {cs : List Sp} (hl : l.Pairwise keyLt) (hn' : (l'.map seKey).Nodup) (h : ∀ s, s ∈ l' ↔ s ∈ l) (s : Se) : s ∈ addP l' g k cs ↔ s ∈ addS l g k cs := by
 rw [addP_mem hn', addS_mem hl, lookD_congr hn' (sorted_nodup hl) h]
 simp only [h]
/-! ### Questions -/
/-- What a question must be. -/
def OkQ (b : Bu) (p k : Int) (w : Sp) : Prop := okB b = true ∧ personB p = true ∧ (1 ≤ k ∧ k ≤ 4) ∧ OkW k w
noncomputable def checkI (b : Bu) (p k : Int) (w : Sp) : Int := if @decide (OkQ b p k w) (Classical.propDecidable _) = true then (if 65536 < (w.t - w.f) / sizeI k then 2 else 0) else 1
theorem checkI_no {b : Bu} {p k : Int} {w : Sp} (h : ¬ OkQ b p k w) : checkI b p k w = 1 := by
 unfold checkI
 rw [@decide_eq_false _ (Classical.propDecidable _) h]; rfl
theorem checkI_yes {b : Bu} {p k : Int} {w : Sp} (h : OkQ b p k w) : checkI b p k w = if 65536 < (w.t - w.f) / sizeI k then 2 else 0 := by
 unfold checkI
 rw [@decide_eq_true _ (Classical.propDecidable _) h]; rfl
theorem checkI_zero {b : Bu} {p k : Int} {w : Sp} : checkI b p k w = 0 ↔ OkQ b p k w ∧ (w.t - w.f) / sizeI k ≤ 65536 := by
 by_cases h : OkQ b p k w
 ·rw [checkI_yes h]
  by_cases h2 : 65536 < (w.t - w.f) / sizeI k
  ·rw [if_pos h2]; constructor
   ·intro e; cases e
   ·rintro ⟨_, h3⟩; omega
  ·rw [if_neg h2]; exact ⟨fun _ => ⟨h, by omega⟩, fun _ => rfl⟩
 ·rw [checkI_no h]
  constructor
  ·intro e; cases e
  ·exact fun h2 => absurd h2.1 h
def missQ (b : Bu) (p k : Int) (w : Sp) : List Sp := missD (sizeI k) (memS (knownD b.spent (grpOf b.groups p) k)) w
def costQ (b : Bu) (p k : Int) (w : Sp) : Int := countL (sizeI k) (missQ b p k w)
def askB (b : Bu) (p k : Int) (w : Sp) : Bu := ⟨b.limit, b.groups, addS b.spent (grpOf b.groups p) k (missQ b p k w)⟩
theorem OkB.keys {b : Bu} (h : OkB b) : (b.spent.map seKey).Nodup := sorted_nodup h.ord
theorem validS_iff {l : List Sp} : validS l = true ↔ Normal l ∧ rangedB l = true := by unfold validS; rw [Bool.and_eq_true, decide_eq_true_eq]
theorem OkB.okC {b : Bu} (h : OkB b) (hr : RawB b) : ∀ s ∈ b.spent, OkC s := fun s hs => by
 have h1 := h.each s hs
 have h2 := validS_iff.1 h1.nor
 exact ⟨h1.grain, h2.1, h2.2, h1.ne, Nat.le_trans (hr.spent s hs).len (by omega)⟩
theorem OkB.small {b : Bu} (h : OkB b) (hr : RawB b) : SmallL b.spent := ⟨fun s hs => (h.okC hr s hs).rng, fun s hs => Nat.le_trans (hr.spent s hs).len (by omega)⟩
theorem cellsW_len {n : Int} (w : Sp) : (cellsW n w).length = ((w.t - w.f) / n).toNat := by simp [cellsW]
theorem missC_len {n : Int} (K : Int → Bool) (w : Sp) : (missC n K w).length ≤ ((w.t - w.f) / n).toNat := by
 unfold missC
 exact Nat.le_trans (List.length_filter_le _ _) (by rw [cellsW_len]; exact Nat.le_refl _)
theorem missC_facts {k : Int} {K : Int → Bool} {w : Sp} (hw : OkW k w) : rangedB (missC (sizeI k) K w) = true ∧ (missC (sizeI k) K w).all (fun c => alignedB c (sizeI k)) = true := by
 have hali := alignedB_iff.1 hw.ali
 have hp := hw.pos
 have hl := hw.lo
 have hh := hw.hi
 have hn := sizeI_one k
 have hall : ∀ c ∈ missC (sizeI k) K w, c.f % sizeI k = 0 ∧ c.t = c.f + sizeI k ∧ w.f ≤ c.f ∧ c.t ≤ w.t := fun c hc => (cellsW_mem (by omega) hali.1 hali.2 (by omega)).1 (List.mem_filter.1 hc).1
 refine ⟨rangedB_iff.2 fun c hc => ?_, List.all_eq_true.2 fun c hc => alignedB_iff.2 ?_⟩
 ·have := hall c hc; omega
 ·obtain ⟨h1, h2, _⟩ := hall c hc
  exact ⟨h1, by rw [h2, Int.add_emod_right]; exact h1⟩
theorem missD_facts {k : Int} {K : Int → Bool} {w : Sp} (hw : OkW k w) : Normal (missD (sizeI k) K w) ∧ rangedB (missD (sizeI k) K w) = true ∧ (missD (sizeI k) K w).all (fun c => alignedB c (sizeI k)) = true ∧ (missD (sizeI k) K w).length ≤ ((w.t - w.f) / sizeI k).toNat := by
 obtain ⟨h1, h2⟩ := missC_facts (K := K) hw
 exact ⟨normD_normal _, normD_ranged h1, normD_aligned h2, Nat.le_trans (normD_len _) (missC_len K w)⟩
end Go.Proofs.YtclkibjonbhldaaGreatDoor
/- Plain lemmas of our own, no statement of the seat: budget.check, Cost, Known. -/
namespace Go.Proofs.YtclkibjonbhldaaGreatDoor
set_option linter.unusedSimpArgs false
set_option linter.unusedVariables false
open Go.Proofs.YtclkibjonbhldaaGreatDoor.Vc
set_option maxHeartbeats 2000000 in
set_option maxRecDepth 4000 in
theorem bCheck (b : Bu) (hr : RawB b) (p k : Int) (w : Sp) (v : Value) (R : RO) (hz : SzR R) (h : BuV R v b) : CallsR Tryz.prog 69 [v, .int .i64 p, .int .i64 k, .agg w.cells.toArray] R fun _ r => r = .int .i64 (checkI b p k w) := by
 have hV := fun R' hle => bValid b hr v R' (SzR.mono (R' := R') hz hle) (BuV.mono (R' := R') h hle)
 have hA := fun hk R' => bAligned w (sizeI k) hk R'
 obtain ⟨gv, sv, rfl, hg, hs⟩ := h
 simp only [Sp.cells] at hA ⊢
 have hbad : ¬ OkQ b p k w → Value.int .i64 1 = Value.int .i64 (checkI b p k w) := fun hn => by rw [checkI_no hn]
 have hgr : grainB k = true ↔ (1 ≤ k ∧ k ≤ 4) := by unfold grainB; simp
 refine callsT mix Tryz.func69 comp69 (by simp [Tryz.ntmps69]) ?_; simp only [go_sem, ↓reduceIte, nQ1, nQ2, nQ3, nQ4, nQ5, nQ6, reduceCtorEq, vc69, rs69]
 refine vcall (hV R (RO.le_refl _)) ?_
 rintro R1 r hle1 rfl
 try simp only [go_sem, ↓reduceIte, nQ1, nQ2, nQ3, nQ4, nQ5, nQ6, reduceCtorEq]
 refine ⟨fun h1 => ?_, fun h1 => hbad fun hO => by rw [hO.1] at h1; cases h1⟩
 refine vcall (bPerson p R1) ?_
 rintro R2 r hle2 rfl
 try simp only [go_sem, ↓reduceIte, nQ1, nQ2, nQ3, nQ4, nQ5, nQ6, reduceCtorEq]
 refine ⟨fun h2 => ?_, fun h2 => hbad fun hO => by rw [hO.2.1] at h2; cases h2⟩
 refine vcall (bGrain k R2) ?_
 rintro R3 r hle3 rfl
 try simp only [go_sem, ↓reduceIte, nQ1, nQ2, nQ3, nQ4, nQ5, nQ6, reduceCtorEq]
 refine ⟨fun h3 => ?_, fun h3 => hbad fun hO => by rw [hgr.2 hO.2.2.1] at h3; cases h3⟩
 have h3 := hgr.1 h3
 have hle13 := RO.le_trans hle1 (RO.le_trans hle2 hle3)
 refine ⟨fun h4 => ⟨fun h5 => ⟨fun h6 => ⟨by omega, by omega, ?_⟩, fun h6 => hbad fun hO => by have := hO.2.2.2.hi; omega⟩, fun h5 => hbad fun hO => by have := hO.2.2.2.lo; omega⟩, fun h4 => hbad fun hO => by have := hO.2.2.2.pos; omega⟩
 refine vload _ ((hz.mono hle13).get h3) ?_
 try simp only [go_sem, ↓reduceIte, nQ1, nQ2, nQ3, nQ4, nQ5, nQ6, reduceCtorEq]
 refine vcall (hA (sizeI_pos _) R3) ?_
 rintro R4 r hle4 rfl
 try simp only [go_sem, ↓reduceIte, nQ1, nQ2, nQ3, nQ4, nQ5, nQ6, reduceCtorEq]
 refine ⟨fun h7 => hbad fun hO => (by have := hO.2.2.2.ali; rw [h7] at this; cases this), fun h7 => ?_⟩
 have hQ : OkQ b p k w := ⟨h1, h2, h3, ⟨by omega, by omega, by omega, h7⟩⟩
 rw [checkI_yes hQ]
 refine ⟨by omega, by omega, ?_⟩
 refine vload _ ((hz.mono (RO.le_trans hle13 hle4)).get h3) ?_
 try simp only [go_sem, ↓reduceIte, nQ1, nQ2, nQ3, nQ4, nQ5, nQ6, reduceCtorEq]
 intro b1 cap1 R5 hle5 hrow5 hcap5 hfr5
 refine vfreeze ?_
 try simp only [go_sem, ↓reduceIte, nQ1, nQ2, nQ3, nQ4, nQ5, nQ6, reduceCtorEq]
 intro b2 cap2 R6 hle6 hrow6 hcap6 hfr6
 have hw1 : Normal [w] := ⟨fun s hs => by simp only [List.mem_cons, List.not_mem_nil, or_false] at hs; subst hs; omega, List.pairwise_singleton _ _⟩
 have hrw : rangedB [w] = true := rangedB_iff.2 fun s hs => by
  simp only [List.mem_cons, List.not_mem_nil, or_false] at hs
  subst hs
  omega
 have hwv : SpV R5 (.slice (some ⟨b1, 0, none⟩) 1 cap1) [w] := RowIn.enc (xs := [w]) (enc := Sp.cells) (k := 2) (fun _ => rfl) (by omega) hrow5 hcap5 (by simp)
 refine vcall (bCount (sizeI k) (sizeI_one k).1 [w] hw1 hrw _ ⟨b2, 0, none⟩ cap2 R6 (hrow6 0 _ rfl) (hwv.mono hle6)) ?_
 rintro R7 r hle7 rfl
 try simp only [go_sem, ↓reduceIte, nQ1, nQ2, nQ3, nQ4, nQ5, nQ6, reduceCtorEq]
 simp only [countL, Int.add_zero]
 refine ⟨fun h8 => by rw [if_pos h8], fun h8 => by rw [if_neg h8]⟩
noncomputable def costV (b : Bu) (p k : Int) (w : Sp) : Value := .tuple #[.int .i64 (if checkI b p k w = 0 then costQ b p k w else 0), .int .i64 (checkI b p k w)]
theorem personB_bd {p : Int} (h : personB p = true) : -1000000 ≤ p ∧ p ≤ 1000000 := by
 unfold personB at h
 simp only [Bool.and_eq_true, decide_eq_true_eq] at h
 omega
theorem BuV.groups {R : RO} {b : Bu} {gv sv : Value} {l : Int} (h : BuV R (.agg #[.int .i64 l, gv, sv]) b) : l = b.limit ∧ GV R gv b.groups ∧ SpentV R sv b.spent := by
 obtain ⟨gv', sv', e, h1, h2⟩ := h
 simp only [Value.agg.injEq, Array.mk.injEq, List.cons.injEq, Value.int.injEq, and_true, true_and] at e
 obtain ⟨rfl, rfl, rfl⟩ := e
 exact ⟨rfl, h1, h2⟩
set_option maxHeartbeats 2000000 in
theorem bCost (b : Bu) (hr : RawB b) (p k : Int) (w : Sp) (v : Value) (R : RO) (hz : SzR R) (h : BuV R v b) : CallsR Tryz.prog 35 [v, .int .i64 p, .int .i64 k, .agg w.cells.toArray] R fun _ r => r = costV b p k w := by
 have hC := fun R' hle => bCheck b hr p k w v R' (SzR.mono (R' := R') hz hle) (BuV.mono (R' := R') h hle)
 have hO := fun hk R' hle => bOpen b hk v R' (BuV.mono (R' := R') h hle)
 have hM := fun ps c hk hw R' hle hL hs => bMissing ps c (grpOf b.groups p) k w hk hw R' (SzR.mono (R' := R') hz hle) hL hs
 obtain ⟨gv, sv, rfl, hg, hs⟩ := h
 simp only [Sp.cells] at hC hM ⊢
 refine callsT mix Tryz.func35 comp35 (by simp [Tryz.ntmps35]) ?_; simp only [go_sem, ↓reduceIte, nQ1, nQ2, nQ3, nQ4, nQ5, nQ6, reduceCtorEq, vc35, rs35]
 refine vcall (hC R (RO.le_refl _)) ?_
 rintro R1 r hle1 rfl
 try simp only [go_sem, ↓reduceIte, nQ1, nQ2, nQ3, nQ4, nQ5, nQ6, reduceCtorEq]
 unfold costV
 refine ⟨fun h1 => by rw [if_neg h1], fun h1 => ?_⟩
 rw [if_pos h1]
 obtain ⟨⟨q1, q2, q3, q4⟩, q5⟩ := checkI_zero.1 h1
 have hB := okB_iff.1 q1
 refine ⟨by omega, by omega, vload _ ((hz.mono hle1).get q3) ?_⟩
 try simp only [go_sem, ↓reduceIte, nQ1, nQ2, nQ3, nQ4, nQ5, nQ6, reduceCtorEq]
 refine vhandE (hO hB.keys R1 hle1) rfl ?_
 rintro R2 bs r hle2 ⟨rfl, ps, c, cs, rfl, rfl, hL, hps⟩
 try simp only [go_sem, ↓reduceIte, nQ1, nQ2, nQ3, nQ4, nQ5, nQ6, reduceCtorEq]
 refine vcall (bGroupOf b.groups p (personB_bd q2) gv R2 (hg.mono hle1)) ?_
 rintro R3 r hle3 rfl
 try simp only [go_sem, ↓reduceIte, nQ1, nQ2, nQ3, nQ4, nQ5, nQ6, reduceCtorEq]
 have hsm : SmallL (ps.map (·.1)) := by rw [hps]; exact hB.small hr
 refine vshow [3] [.mp 0, .val (.int .i64 (grpOf b.groups p)), .val (.int .i64 k), .val (.agg #[.int .i64 w.f, .int .i64 w.t])] [.mp (ents ps) c] (hM ps c q3 q4 R3 (RO.le_trans hle1 hle3) (hL.mono hle3) hsm) rfl rfl rfl ?_ (by simp) rfl rfl (fun R' bs' r h => by rw [h.1]; rfl) ?_
 ·try simp only [go_sem, ↓reduceIte, nQ1, nQ2, nQ3, nQ4, nQ5, nQ6, reduceCtorEq]
  rfl
 rintro R4 bs r hle4 ⟨rfl, mv, rfl, hmv⟩ _
 have hmv := hmv.mono newR_le
 rw [hps] at hmv
 have hmf := missD_facts (K := memS (knownD b.spent (grpOf b.groups p) k)) q4
 obtain ⟨ma, mcap, rfl, -, -⟩ := hmv.form
 simp only [go_sem, ↓reduceIte, nQ1, nQ2, nQ3, nQ4, nQ5, nQ6, reduceCtorEq, setG, rn]
 refine vfreeze ?_
 try simp only [go_sem, ↓reduceIte, nQ1, nQ2, nQ3, nQ4, nQ5, nQ6, reduceCtorEq]
 intro b2 cap2 R6 hle6 hrow6 hcap6 hfr6
 refine vcall (bCount (sizeI k) (sizeI_one k).1 _ hmf.1 hmf.2.1 _ ⟨b2, 0, none⟩ cap2 R6 (hrow6 0 _ rfl) (hmv.mono hle6)) ?_
 rintro R7 r hle7 rfl
 try simp only [go_sem, ↓reduceIte, nQ1, nQ2, nQ3, nQ4, nQ5, nQ6, reduceCtorEq]
 rw [h1]; rfl
def KnownV (R : RO) (r : Value) (b : Bu) (p k : Int) (ok : Bool) : Prop :=
 if ok = true ∧ personB p = true ∧ grainB k = true then ∃ v, r = .tuple #[v, .int .i64 0] ∧ SpV R v (knownD b.spent (grpOf b.groups p) k) else r = .tuple #[.slice none 0 0, .int .i64 1]
set_option maxHeartbeats 2000000 in
theorem bKnownP (b : Bu) (hr : RawB b) (p k : Int) (v : Value) (R : RO) (hz : SzR R) (h : BuV R v b) : CallsR Tryz.prog 27 [v, .int .i64 p, .int .i64 k] R fun R' r => KnownV (newR R R') r b p k (okB b) := by
 have hV := fun R' hle => bValid b hr v R' (SzR.mono (R' := R') hz hle) (BuV.mono (R' := R') h hle)
 have hO := fun hk R' hle => bOpen b hk v R' (BuV.mono (R' := R') h hle)
 obtain ⟨gv, sv, rfl, hg, hs⟩ := h
 have hgr : grainB k = true ↔ (1 ≤ k ∧ k ≤ 4) := by unfold grainB; simp
 refine callsT mix Tryz.func27 comp27 (by simp [Tryz.ntmps27]) ?_; simp only [go_sem, ↓reduceIte, nQ1, nQ2, nQ3, nQ4, nQ5, nQ6, reduceCtorEq, vc27, rs27]
 refine vcall (hV R (RO.le_refl _)) ?_
 rintro R1 r hle1 rfl
 try simp only [go_sem, ↓reduceIte, nQ1, nQ2, nQ3, nQ4, nQ5, nQ6, reduceCtorEq]
 unfold KnownV
 refine ⟨fun h1 => ?_, fun h1 => by simp [h1]⟩
 refine vcall (bPerson p R1) ?_
 rintro R2 r hle2 rfl
 try simp only [go_sem, ↓reduceIte, nQ1, nQ2, nQ3, nQ4, nQ5, nQ6, reduceCtorEq]
 refine ⟨fun h2 => ?_, fun h2 => by simp [h2]⟩
 refine vcall (bGrain k R2) ?_
 rintro R3 r hle3 rfl
 try simp only [go_sem, ↓reduceIte, nQ1, nQ2, nQ3, nQ4, nQ5, nQ6, reduceCtorEq]
 refine ⟨fun h3 => by simp [h3], fun h3 => ?_⟩
 have q3 := hgr.1 h3
 have hB := okB_iff.1 h1
 have hle13 := RO.le_trans hle1 (RO.le_trans hle2 hle3)
 refine vhandE (hO hB.keys R3 hle13) rfl ?_
 rintro R4 bs r hle4 ⟨rfl, ps, c, cs, rfl, rfl, hL, hps⟩
 try simp only [go_sem, ↓reduceIte, nQ1, nQ2, nQ3, nQ4, nQ5, nQ6, reduceCtorEq]
 refine vcall (bGroupOf b.groups p (personB_bd h2) gv R4 (hg.mono hle13)) ?_
 rintro R5 r hle5 rfl
 try simp only [go_sem, ↓reduceIte, nQ1, nQ2, nQ3, nQ4, nQ5, nQ6, reduceCtorEq]
 have hsm : SmallL (ps.map (·.1)) := by rw [hps]; exact hB.small hr
 have hK := bKnown ps c (grpOf b.groups p) k q3 R5 (hL.mono hle5) hsm
 refine vshow [2] [.mp 0, .val (.int .i64 (grpOf b.groups p)), .val (.int .i64 k)] [.mp (ents ps) c] hK rfl rfl rfl ?_ (by simp) rfl rfl (fun R' bs' r h => by rw [h.1]; rfl) ?_
 ·try simp only [go_sem, ↓reduceIte, nQ1, nQ2, nQ3, nQ4, nQ5, nQ6, reduceCtorEq]
  rfl
 rintro R6 bs r hle6 ⟨rfl, mv, rfl, hmv⟩ _
 rw [hps] at hmv
 obtain ⟨ma, mcap, rfl, -, -⟩ := hmv.form
 simp only [go_sem, ↓reduceIte, nQ1, nQ2, nQ3, nQ4, nQ5, nQ6, reduceCtorEq, setG, rn]
 rw [if_pos ⟨h1, h2, h3⟩]
 exact ⟨_, rfl, hmv.mono (newR_sub (RO.le_trans hle13 hle5))⟩
end Go.Proofs.YtclkibjonbhldaaGreatDoor
/- Plain lemmas of our own, no statement of the seat: budget.Ask. -/
namespace Go.Proofs.YtclkibjonbhldaaGreatDoor
set_option linter.unusedSimpArgs false
set_option linter.unusedVariables false
open Go.Proofs.YtclkibjonbhldaaGreatDoor.Vc
theorem SpentV.of {R : RO} {v : Value} {qs : List Pe} {l : List Se} (h : EncV Pe.cells 3 R v qs) (hl : qs.map (·.1) = l) (hv : ∀ q ∈ qs, SpV R q.val q.1.cells) : SpentV R v l := by
 refine ⟨qs.map fun q => (q.1, q.val), ⟨?_, by simpa using h.2⟩, by rw [List.map_map]; exact hl, fun p hp => ?_⟩
 ·rw [List.map_map]; exact h.1
 ·obtain ⟨q, hq, rfl⟩ := List.mem_map.1 hp
  exact hv q hq
theorem SpentV.nil (R : RO) : SpentV R (.slice none 0 0) [] := SpentV.of (qs := []) (EncV.nil _ _ _) rfl (by simp)
theorem GV.nil (R : RO) : GV R (.slice none 0 0) [] := ⟨[], EncV.nil _ _ _, rfl, fun i h => absurd h (by simp)⟩
theorem rowV {R : RO} {b cap : Nat} {hs : List Value} (h : RowIn R b hs) (hc : hs.length ≤ cap * 1) (hl : hs.length ≤ 1000000000) : EncV (fun x : Value => [x]) 1 R (.slice (some ⟨b, 0, none⟩) hs.length cap) hs :=
 RowIn.enc (enc := fun x : Value => [x]) (k := 1) (fun _ => rfl) (by omega) (by rw [flatV]; exact h) (by rw [flatV]; exact hc) hl
def zeroBu : Value := .agg #[.int .i64 0, .slice none 0 0, .slice none 0 0]
def AskV (R : RO) (r : Value) (b : Bu) (p k : Int) (w : Sp) : Prop :=
 (checkI b p k w ≠ 0 ∧ r = .tuple #[zeroBu, .int .i64 (checkI b p k w)]) ∨
 (checkI b p k w = 0 ∧ b.limit < totalD (grpOf b.groups p) b.spent + costQ b p k w ∧ r = .tuple #[zeroBu, .int .i64 13]) ∨
 (checkI b p k w = 0 ∧ ¬ b.limit < totalD (grpOf b.groups p) b.spent + costQ b p k w ∧ ∃ bv, r = .tuple #[bv, .int .i64 0] ∧ BuV R bv (askB b p k w))
theorem leaf_gs {j n : Nat} {s : St} {kl : Value → St → Prop} {tl : Tok kl} (h0 : n = 0 → kl (.slice none 0 0) s) (h1 : n ≠ 0 → LeafT (.sl j n) s kl tl) : LeafT (gs j n) s kl tl := by
 by_cases h : n = 0
 ·subst h; exact h0 rfl
 ·rw [gs_pos h]; exact h1 h
theorem addS_facts {b : Bu} (hB : OkB b) (hr : RawB b) {p k : Int} {w : Sp} (hw : OkW k w) (hc : (w.t - w.f) / sizeI k ≤ 65536) : (lookD b.spent (grpOf b.groups p) k).length + (missQ b p k w).length ≤ 10000000 ∧ rangedB (lookD b.spent (grpOf b.groups p) k) = true ∧ rangedB (missQ b p k w) = true := by
 have h1 := (hB.small hr).look (grpOf b.groups p) k
 have h2 := missD_facts (K := memS (knownD b.spent (grpOf b.groups p) k)) hw
 unfold missQ
 exact ⟨by omega, h1.1, h2.2.1⟩
def AskQ (b : Bu) (p k : Int) (gv sv mv : Value) (ps : List Le) (c : Nat) (w : Sp) (R : RO) (s : St) : Prop :=
 ∃ env R1 z x y, s = ⟨env, [.box [.val (.int .i64 b.limit), .val gv, .val sv], .box [.val (.int .i64 w.f), .val (.int .i64 w.t)], .box [.val (.int .i64 0), .val (.slice none 0 0), .val (.slice none 0 0)], z, .mp (ents ps) c, .dead, x, y], R1⟩ ∧ RO.le R R1 ∧
  env 2 = .val (.int .i64 k) ∧ env 4 = .loc 0 0 ∧ env 8 = .loc 2 0 ∧ env 11 = .val (.int .i64 (grpOf b.groups p)) ∧ env 12 = .mp 4 ∧ env 13 = .val mv ∧ env 46 = .val (.bool (decide (b.limit < totalD (grpOf b.groups p) b.spent + costQ b p k w)))
set_option maxHeartbeats 4000000 in
theorem bAsk (b : Bu) (hr : RawB b) (p k : Int) (w : Sp) (v : Value) (R : RO) (hz : SzR R) (h : BuV R v b) : CallsR Tryz.prog 36 [v, .int .i64 p, .int .i64 k, .agg w.cells.toArray] R fun R' r => AskV (newR R R') r b p k w := by
 have hC := fun R' hle => bCheck b hr p k w v R' (SzR.mono (R' := R') hz hle) (BuV.mono (R' := R') h hle)
 have hO := fun hk R' hle => bOpen b hk v R' (BuV.mono (R' := R') h hle)
 have hM := fun ps c hk hw R' hle hL hs => bMissing ps c (grpOf b.groups p) k w hk hw R' (SzR.mono (R' := R') hz hle) hL hs
 obtain ⟨gv, sv, rfl, hg, hs⟩ := h
 simp only [Sp.cells] at hC hM ⊢
 refine callsT mix Tryz.func36 comp36 (by simp [Tryz.ntmps36]) ?_; simp only [go_sem, ↓reduceIte, nQ1, nQ2, nQ3, nQ4, nQ5, nQ6, reduceCtorEq, vc36, rs36]
 refine vcall (hC R (RO.le_refl _)) ?_
 rintro R1 r hle1 rfl
 try simp only [go_sem, ↓reduceIte, nQ1, nQ2, nQ3, nQ4, nQ5, nQ6, reduceCtorEq]
 refine ⟨fun h1 => .inl ⟨h1, rfl⟩, fun h1 => ?_⟩
 obtain ⟨⟨q1, q2, q3, q4⟩, q5⟩ := checkI_zero.1 h1
 have hB := okB_iff.1 q1
 refine vcall (bGroupOf b.groups p (personB_bd q2) gv R1 (hg.mono hle1)) ?_
 rintro R2 r hle2 rfl
 try simp only [go_sem, ↓reduceIte, nQ1, nQ2, nQ3, nQ4, nQ5, nQ6, reduceCtorEq]
 have hle12 := RO.le_trans hle1 hle2
 refine vhandE (hO hB.keys R2 hle12) rfl ?_
 rintro R3 bs r hle3 ⟨rfl, ps, c, cs, rfl, rfl, hL, hps⟩
 try simp only [go_sem, ↓reduceIte, nQ1, nQ2, nQ3, nQ4, nQ5, nQ6, reduceCtorEq]
 have hsm : SmallL (ps.map (·.1)) := by rw [hps]; exact hB.small hr
 refine vshow [4] [.mp 0, .val (.int .i64 (grpOf b.groups p)), .val (.int .i64 k), .val (.agg #[.int .i64 w.f, .int .i64 w.t])] [.mp (ents ps) c] (hM ps c q3 q4 R3 hle12 hL hsm) rfl rfl rfl ?_ (by simp) rfl rfl (fun R' bs' r h => by rw [h.1]; rfl) ?_
 ·try simp only [go_sem, ↓reduceIte, nQ1, nQ2, nQ3, nQ4, nQ5, nQ6, reduceCtorEq]
  rfl
 rintro R4 bs r hle4 ⟨rfl, mv, rfl, hmv⟩ _
 have hmv := hmv.mono newR_le
 rw [hps] at hmv
 have hmf := missD_facts (K := memS (knownD b.spent (grpOf b.groups p) k)) q4
 have hcnt := countL_range (sizeI_one k).1 hmf.1 hmf.2.1 (missQ b p k w).length
 have htake : (missD (sizeI k) (memS (knownD b.spent (grpOf b.groups p) k)) w).take (missQ b p k w).length = missQ b p k w := by unfold missQ; rw [List.take_length]
 rw [htake] at hcnt
 have htot := totalD_bd (g := grpOf b.groups p) (hB.okC hr)
 have hbl := hr.len
 obtain ⟨ma, mcap, rfl, -, -⟩ := hmv.form
 have hle14 := RO.le_trans hle12 hle4
 have hLO : ∀ s ∈ ps.map (·.1), OkC s := by rw [hps]; exact hB.okC hr
 have hpl : ps.length ≤ 1000 := by
  have := congrArg List.length hps
  rw [List.length_map] at this
  omega
 (refine cutS (fun s' => s' = ?_) ?_ ?_; rotate_left; (try simp only [go_sem, ↓reduceIte, nQ1, nQ2, nQ3, nQ4, nQ5, nQ6, reduceCtorEq, setG, rn]; rfl); rintro _ rfl)
 rw [tCode_seq, tCode_seq]
 refine cutT (AskQ b p k gv sv (.slice ma (missD (sizeI k) (memS (knownD b.spent (grpOf b.groups p) k)) w).length mcap) ps c w R4) ?_ ?_
 ·try simp only [go_sem, ↓reduceIte, nQ1, nQ2, nQ3, nQ4, nQ5, nQ6, reduceCtorEq]
  refine ⟨by omega, by omega, vload _ ((hz.mono hle14).get q3) ?_⟩
  try simp only [go_sem, ↓reduceIte, nQ1, nQ2, nQ3, nQ4, nQ5, nQ6, reduceCtorEq]
  refine ⟨?_, ?_⟩
  ·refine vshow [4] [.mp 0, .val (.int .i64 (grpOf b.groups p))] [.mp (ents ps) c] (bTotal ps c (grpOf b.groups p) R4 (hz.mono hle14) (hL.mono hle4) hLO hpl) rfl rfl rfl ?_ (by simp) rfl rfl (fun R' bs' r h => by obtain ⟨b1, rfl, _⟩ := h; rfl) ?_
   {try simp only [go_sem, ↓reduceIte, nQ1, nQ2, nQ3, nQ4, nQ5, nQ6, reduceCtorEq]
    rfl }
   rintro R5 bs r hle5 ⟨b1, rfl, rfl⟩ _
   rw [hps]
   simp only [go_sem, ↓reduceIte, nQ1, nQ2, nQ3, nQ4, nQ5, nQ6, reduceCtorEq, setG, rn]
   refine vfreeze ?_
   try simp only [go_sem, ↓reduceIte, nQ1, nQ2, nQ3, nQ4, nQ5, nQ6, reduceCtorEq]
   intro b2 cap2 R6 hle6 hrow6 hcap6 hfr6
   refine vcall (bCount (sizeI k) (sizeI_one k).1 _ hmf.1 hmf.2.1 _ ⟨b2, 0, none⟩ cap2 R6 (hrow6 0 _ rfl) (hmv.mono (RO.le_trans hle5 hle6))) ?_
   rintro R7 r hle7 rfl
   try simp only [go_sem, ↓reduceIte, nQ1, nQ2, nQ3, nQ4, nQ5, nQ6, reduceCtorEq]
   have hsum : totalD (grpOf b.groups p) b.spent + countL (sizeI k) (missD (sizeI k) (memS (knownD b.spent (grpOf b.groups p) k)) w) = totalD (grpOf b.groups p) b.spent + costQ b p k w := rfl
   have hcq : costQ b p k w = countL (sizeI k) (missQ b p k w) := rfl
   refine ⟨_, W.in64 (by omega), ?_⟩
   rw [hsum]
   refine ⟨_, _, _, _, _, rfl, RO.le_trans hle5 (RO.le_trans hle6 hle7), ?_⟩
   try simp only [go_sem, ↓reduceIte, nQ1, nQ2, nQ3, nQ4, nQ5, nQ6, reduceCtorEq]
   rfl
  ·refine vshow [4] [.mp 0, .val (.int .i64 (grpOf b.groups p))] [.mp (ents ps) c] (bTotal ps c (grpOf b.groups p) R4 (hz.mono hle14) (hL.mono hle4) hLO hpl) rfl rfl rfl ?_ (by simp) rfl rfl (fun R' bs' r h => by obtain ⟨b1, rfl, _⟩ := h; rfl) ?_
   {try simp only [go_sem, ↓reduceIte, nQ1, nQ2, nQ3, nQ4, nQ5, nQ6, reduceCtorEq]
    rfl }
   rintro R5 bs r hle5 ⟨b1, rfl, rfl⟩ _
   rw [hps]
   simp only [go_sem, ↓reduceIte, nQ1, nQ2, nQ3, nQ4, nQ5, nQ6, reduceCtorEq, setG, rn]
   refine vfreeze ?_
   try simp only [go_sem, ↓reduceIte, nQ1, nQ2, nQ3, nQ4, nQ5, nQ6, reduceCtorEq]
   intro b2 cap2 R6 hle6 hrow6 hcap6 hfr6
   refine vcall (bCount (sizeI k) (sizeI_one k).1 _ hmf.1 hmf.2.1 _ ⟨b2, 0, none⟩ cap2 R6 (hrow6 0 _ rfl) (hmv.mono (RO.le_trans hle5 hle6))) ?_
   rintro R7 r hle7 rfl
   try simp only [go_sem, ↓reduceIte, nQ1, nQ2, nQ3, nQ4, nQ5, nQ6, reduceCtorEq]
   have hsum : totalD (grpOf b.groups p) b.spent + countL (sizeI k) (missD (sizeI k) (memS (knownD b.spent (grpOf b.groups p) k)) w) = totalD (grpOf b.groups p) b.spent + costQ b p k w := rfl
   have hcq : costQ b p k w = countL (sizeI k) (missQ b p k w) := rfl
   refine ⟨_, W.in64 (by omega), ?_⟩
   rw [hsum]
   refine ⟨_, _, _, _, _, rfl, RO.le_trans hle5 (RO.le_trans hle6 hle7), ?_⟩
   try simp only [go_sem, ↓reduceIte, nQ1, nQ2, nQ3, nQ4, nQ5, nQ6, reduceCtorEq]
   rfl
 ·rintro s' ⟨env, R5, z, x, y, rfl, hle5, e2, e4, e8, e11, e12, e13, e46⟩
  simp only [go_sem, ↓reduceIte, nQ1, nQ2, nQ3, nQ4, nQ5, nQ6, reduceCtorEq, e2, e4, e8, e11, e12, e13, e46]
  refine ⟨fun h2 => .inr (.inl ⟨h1, h2, rfl⟩), fun h2 => ?_⟩
  have hle15 := RO.le_trans hle14 hle5
  obtain ⟨f1, f2, f3⟩ := addS_facts (p := p) hB hr q4 q5
  rw [← hps] at f1 f2
  refine vhand [4] [.mp 0, .val (accV (grpOf b.groups p) k), .val (.slice ma (missD (sizeI k) (memS (knownD b.spent (grpOf b.groups p) k)) w).length mcap)] [.mp (ents ps) c] (bAdd ps c (grpOf b.groups p) k (missQ b p k w) _ R5 (hL.mono (RO.le_trans hle4 hle5)) (hmv.mono hle5) f2 f3 f1) rfl rfl rfl ?_ (by simp) rfl rfl ?_
  ·try simp only [go_sem, ↓reduceIte, nQ1, nQ2, nQ3, nQ4, nQ5, nQ6, reduceCtorEq]
  rintro R6 bs r hle6 ⟨ps', c', bx, rfl, rfl, hL', hps'⟩ _
  simp only [go_sem, ↓reduceIte, nQ1, nQ2, nQ3, nQ4, nQ5, nQ6, reduceCtorEq, setG, rn, e2, e4, e8, e11, e12, e13, e46]
  have hle16 := RO.le_trans hle15 hle6
  refine vhandE (bCloned b.groups gv R6 (hg.mono hle16)) rfl ?_
  rintro R7 bs r hle7 ⟨hs, rfl, rfl, hH⟩
  simp only [go_sem, ↓reduceIte, nQ1, nQ2, nQ3, nQ4, nQ5, nQ6, reduceCtorEq, renB_gb, e2, e4, e8, e11, e12, e13, e46]
  have hpl' : ps'.length ≤ 1000000 := by
   have h3 := congrArg List.length hps'
   rw [List.length_map] at h3
   have h4 : (addP (ps.map (·.1)) (grpOf b.groups p) k (missQ b p k w)).length ≤ (ps.map (·.1)).length + 1 := by
    unfold addP putD
    split
    ·omega
    ·split <;> simp
   rw [List.length_map] at h4
   omega
  refine vshow [4] [.mp 0] [.mp (ents ps') c'] (bClose ps' c' R7 (hL'.mono hle7) hpl') rfl rfl rfl ?_ (by simp) rfl rfl (fun R' bs' r h => by obtain ⟨b1, qs, rfl, _⟩ := h; rfl) ?_
  ·try simp only [go_sem, ↓reduceIte, nQ1, nQ2, nQ3, nQ4, nQ5, nQ6, reduceCtorEq]
   rfl
  rintro R8 bs r hle8 ⟨b1, qs, rfl, rfl, hq1, hq2, hq3⟩ _
  simp only [go_sem, ↓reduceIte, nQ1, nQ2, nQ3, nQ4, nQ5, nQ6, reduceCtorEq, renB_gb, setG, rn, ren_gs, e2, e4, e8, e11, e12, e13, e46]
  have hr1 : (List.range' 9 1).getD 0 0 = 9 := rfl
  rw [hr1]
  have hr2 : gs ((4 :: List.range' 10 (3 - 1)).getD 2 2) qs.length = gs 11 qs.length := rfl
  have hhl := hH.len
  have hgl := (hg.form).1
  have hsp : qs.map (·.1) = (askB b p k w).spent := sorted_ext hq2 (addS_sorted hB.ord) fun s => by
   rw [hq1.mem_iff, hps']
   exact addP_addS hB.ord (by rw [hps]; exact hB.keys) (fun s => by rw [hps]) s
  have hql : qs.length ≤ 1000000 := by
   have h3 := hq1.length_eq
   rw [List.length_map, List.length_map] at h3
   omega
  have fin : ∀ (R9 : RO) (gv' sv' : Value), GV (newR R R9) gv' b.groups → SpentV (newR R R9) sv' (askB b p k w).spent → AskV (newR R R9) (.tuple #[.agg #[.int .i64 b.limit, gv', sv'], .int .i64 0]) b p k w := fun R9 gv' sv' hg' hs' => .inr (.inr ⟨h1, h2, _, rfl, _, _, rfl, hg', hs'⟩)
  have hr3 : (List.range' 10 (3 - 1)).getD 1 2 = 11 := rfl
  have hqne : qs.length ≠ 0 → rowP qs ≠ [] := fun h e => by
   have := rowP_len qs
   rw [e] at this
   simp at this
   omega
  have hgnil : hs.length = 0 → b.groups = [] := fun h => List.eq_nil_of_length_eq_zero (by omega)
  have hsnil : qs.length = 0 → (askB b p k w).spent = [] := fun h => by rw [← hsp, List.eq_nil_of_length_eq_zero h]; rfl
  have hle78 := RO.le_trans hle7 hle8
  have hle17 := RO.le_trans hle16 hle7
  have hGs : ∀ (R9 : RO) b2 cap2, RO.le R8 R9 → RowIn R9 b2 hs → hs.length ≤ cap2 → Fresh R8 b2 → ∀ R10, RO.le R9 R10 → GV (newR R R10) (.slice (some ⟨b2, 0, none⟩) hs.length cap2) b.groups := fun R9 b2 cap2 hle9 hrow hcap hfr R10 hle10 =>
   (hH.mono (fun a u hn => ⟨hle10 _ _ (hle9 _ _ (hle8 _ _ hn.1)), (newR_sub hle16 _ _ hn).2⟩)).gv (rowV (fun i v hi => newR_mono hle10 _ _ ((hrow.new hfr (RO.le_trans hle17 hle8)) i v hi)) (by omega) (by omega))
  have hSs : ∀ (R9 : RO) b2 cap2, RO.le R8 R9 → RowIn R9 b2 (rowP qs) → (rowP qs).length ≤ cap2 * 3 → Fresh R8 b2 → SpentV (newR R R9) (.slice (some ⟨b2, 0, none⟩) qs.length cap2) (askB b p k w).spent := fun R9 b2 cap2 hle9 hrow hcap hfr =>
   SpentV.of (RowIn.enc (enc := Pe.cells) (k := 3) (fun _ => rfl) (by omega) (hrow.new hfr (RO.le_trans hle17 hle8)) hcap (by omega)) hsp fun q hq => (hq3 q hq).mono fun a u hn => ⟨hle9 _ _ hn.1, (newR_sub hle17 _ _ hn).2⟩
  refine leaf_gs (fun h0 => ?_) (fun h0 => ?_)
  ·have hg0 := hgnil h0
   try simp only [go_sem, ↓reduceIte, nQ1, nQ2, nQ3, nQ4, nQ5, nQ6, reduceCtorEq]
   refine leaf_gs (fun h3 => ?_) (fun h3 => ?_)
   ·simp only [go_sem, ↓reduceIte, nQ1, nQ2, nQ3, nQ4, nQ5, nQ6, reduceCtorEq, e2, e4, e8, e11, e12, e13, e46]
    refine fin R8 _ _ ?_ ?_
    ·rw [hg0]; exact GV.nil _
    ·rw [hsnil h3]; exact SpentV.nil _
   ·rw [gb_ne (hqne h3)]
    simp only [go_sem, ↓reduceIte, nQ1, nQ2, nQ3, nQ4, nQ5, nQ6, reduceCtorEq, hr3]
    intro b2 cap2 R9 hle9 hrow hcap hfr
    simp only [go_sem, ↓reduceIte, nQ1, nQ2, nQ3, nQ4, nQ5, nQ6, reduceCtorEq, e2, e4, e8, e11, e12, e13, e46]
    refine fin R9 _ _ ?_ ?_
    ·rw [hg0]; exact GV.nil _
    ·exact hSs R9 b2 cap2 hle9 hrow hcap hfr
  ·rw [gb_ne (show hs ≠ [] from fun e => h0 (by rw [e]; rfl))]
   simp only [go_sem, ↓reduceIte, nQ1, nQ2, nQ3, nQ4, nQ5, nQ6, reduceCtorEq, hr3]
   intro b2 cap2 R9 hle9 hrow hcap hfr
   try simp only [go_sem, ↓reduceIte, nQ1, nQ2, nQ3, nQ4, nQ5, nQ6, reduceCtorEq, hr3]
   refine leaf_gs (fun h3 => ?_) (fun h3 => ?_)
   ·simp only [go_sem, ↓reduceIte, nQ1, nQ2, nQ3, nQ4, nQ5, nQ6, reduceCtorEq, e2, e4, e8, e11, e12, e13, e46]
    refine fin R9 _ _ (hGs R9 b2 cap2 hle9 hrow hcap hfr R9 (RO.le_refl _)) ?_
    rw [hsnil h3]; exact SpentV.nil _
   ·rw [gb_ne (hqne h3)]
    simp only [go_sem, ↓reduceIte, nQ1, nQ2, nQ3, nQ4, nQ5, nQ6, reduceCtorEq, hr3]
    intro b3 cap3 R10 hle10 hrow3 hcap3 hfr3
    simp only [go_sem, ↓reduceIte, nQ1, nQ2, nQ3, nQ4, nQ5, nQ6, reduceCtorEq, e2, e4, e8, e11, e12, e13, e46]
    exact fin R10 _ _ (hGs R9 b2 cap2 hle9 hrow hcap hfr R10 hle10) (hSs R10 b3 cap3 (RO.le_trans hle9 hle10) hrow3 hcap3 fun a u hx => hfr3 a u (hle9 _ _ hx))
end Go.Proofs.YtclkibjonbhldaaGreatDoor
/- Plain lemmas of our own, no statement of the seat: the ledger's moved; members. -/
namespace Go.Proofs.YtclkibjonbhldaaGreatDoor
set_option linter.unusedSimpArgs false
set_option linter.unusedVariables false
open Go.Proofs.YtclkibjonbhldaaGreatDoor.Vc
def upG (gone g : Int) : Int := if gone < g then g - 1 else g
def upS (gone : Int) (s : Se) : Se := ⟨upG gone s.group, s.grain, s.cells⟩
theorem putD_new {l : List Se} {g k : Int} {cs : List Sp} (h : ∀ s ∈ l, seKey s ≠ (g, k)) : putD l g k cs = l ++ [⟨g, k, cs⟩] := by
 unfold putD
 rw [List.findIdx?_eq_none_iff.2 fun x hx => by simpa using h x hx]
theorem born_key {R : RO} {ps : List Le} {c : Nat} (hL : LedOK R ps c) {p q : Le} (hp : p ∈ ps) (hq : q ∈ ps) (h : seKey p.1 = seKey q.1) : p = q := by
 obtain ⟨i, hi, rfl⟩ := List.mem_iff_getElem.1 hp
 obtain ⟨j, hj, rfl⟩ := List.mem_iff_getElem.1 hq
 have h1 : (ps.map fun p => seKey p.1)[i]'(by simpa using hi) = (ps.map fun p => seKey p.1)[j]'(by simpa using hj) := by simpa using h
 have := nodup_inj hL.keys h1
 subst this; rfl
set_option maxHeartbeats 1000000 in
theorem bMoved (ps : List Le) (c : Nat) (gone : Int) (R : RO) (hL : LedOK R ps c) (hg : ∀ p ∈ ps, p.1.group ≠ gone) (hr : ∀ p ∈ ps, I64 p.1.group) (hgn : -1000000 ≤ gone) : CallsS Tryz.prog 50 [.mp 0, .val (.int .i64 gone)] [.mp (ents ps) c] R fun R' bs r =>
  R' = R ∧ ∃ ps' c' b2, bs = [.mp (ents ps) c, .mp (ents ps') c', b2] ∧ r = .mp 1 ∧ LedOK R ps' c' ∧ (ps'.map (·.1)).Perm ((ps.map (·.1)).map (upS gone)) := by
 have hborn : ((ents ps).map (·.born)).Nodup := by rw [ents_born]; exact hL.born
 refine callsTS mix Tryz.func50 comp50 (by simp [Tryz.ntmps50]) rfl rfl ?_; simp only [go_sem, ↓reduceIte, nQ1, nQ2, nQ3, nQ4, nQ5, nQ6, reduceCtorEq, vc50, rs50]
 refine vcLoopR (List Le × List Le × Nat) (fun x => [(10, .loc 2 0), (5, .mp 1), (0, .mp 0), (1, .val (.int .i64 gone))]) (fun x => [.mp (ents ps) c, .mp (ents x.2.1) x.2.2, .it 0 c (x.1.map fun p => p.2.2) c])
  (fun x R' => R' = R ∧ Vis ps x.1 ∧ LedOK R x.2.1 x.2.2 ∧ x.2.1.map (·.1) = (x.1.map (·.1)).map (upS gone)) (fun x => ps.length - x.1.length) ([], [], 0) [] ?_ ?_ ?_ ?_
 ·(try simp only [go_sem, ↓reduceIte, nQ1, nQ2, nQ3, nQ4, nQ5, nQ6, reduceCtorEq]) <;> (repeat' (first | rfl | trivial | constructor | (intro h; exact absurd rfl h)))
 ·simp only [go_sem, ↓reduceIte, nQ1, nQ2, nQ3, nQ4, nQ5, nQ6, reduceCtorEq, inScope, rnInj_nil]
  decide
 ·exact ⟨rfl, Vis.nil ps, ⟨by simp, by simp, by simp, by simp⟩, rfl⟩
 rintro ⟨vs, qs, c2⟩ env R1 hle1 hE ⟨rfl, hv, hQ, hq⟩
 (simp only [go_sem] at hE; obtain ⟨e10, e5, e0, e1⟩ := hE; simp only [go_sem, ↓reduceIte, nQ1, nQ2, nQ3, nQ4, nQ5, nQ6, reduceCtorEq, e10, e5, e0, e1]; dsimp only at *)
 refine ⟨fun e he => ?_, fun hall => ?_, fun e' he' hun => ?_⟩
 ·obtain ⟨p, hp, rfl⟩ := List.mem_map.1 he
  exact hL.lt p hp
 ·have hp : vs.Perm ps := hv.perm hL.born fun p hp => by
   have := hall (ledEnt p) (List.mem_map_of_mem hp)
   rwa [List.contains_iff_mem] at this
  exact ⟨qs, c2, _, ⟨rfl, rfl, rfl⟩, hQ, by rw [hq]; exact (hp.map _).map _⟩
 ·obtain ⟨p, hp, rfl⟩ := List.mem_map.1 he'
  have hun' : p.2.2 ∉ vs.map fun p => p.2.2 := mem_born.1 hun
  have hv' := hv.step hp hun'
  have hvl' := hv'.le
  rw [List.length_append, List.length_singleton] at hvl'
  refine vmentry (vs.map fun p => p.2.2) (ledEnt p) rfl rfl (List.mem_map_of_mem hp) hborn ?_
  have hpv := hL.val p hp
  have hpr := hr p hp
  unfold I64 at hpr
  obtain ⟨va, vcap, hval, -, -⟩ := hpv.form
  rw [hval] at hpv
  simp only [ledEnt, hval]
  obtain ⟨r, ps', c', q1, q2, q3, q4⟩ := hQ.put (upG gone p.1.group) p.1.grain hpv
  have hnew : ∀ s ∈ qs.map (·.1), seKey s ≠ (upG gone p.1.group, p.1.grain) := fun s hs e => by
   rw [hq] at hs
   obtain ⟨s', hs', rfl⟩ := List.mem_map.1 hs
   obtain ⟨x, hx, rfl⟩ := List.mem_map.1 hs'
   have h1 := hg p hp
   have h2 := hg x (hv.sub x hx)
   have hxp : seKey x.1 = seKey p.1 := by
    unfold seKey upS at e
    unfold seKey
    simp only [Prod.mk.injEq] at e ⊢
    unfold upG at e
    refine ⟨?_, e.2⟩
    have e1 := e.1
    split at e1 <;> split at e1 <;> omega
   have := born_key hL (hv.sub x hx) hp hxp
   subst this
   exact hun' (List.mem_map_of_mem hx)
  rw [putD_new hnew] at q4
  have hend : ps'.map (·.1) = ((vs ++ [p]).map (·.1)).map (upS gone) := by
   rw [q4, hq, List.map_append, List.map_append]; rfl
  simp only [go_sem, ↓reduceIte, nQ1, nQ2, nQ3, nQ4, nQ5, nQ6, reduceCtorEq, e10, e5, e0, e1]
  refine ⟨fun hgt => ⟨_, W.in64 (by omega), ?_⟩, fun hle => ?_⟩
  ·rw [show upG gone p.1.group = p.1.group - 1 from if_pos hgt] at q1 q2
   refine ⟨mEq_pair (p.1.group - 1, p.1.grain) (p.1.group - 1, p.1.grain) |>.trans (by simp), vmput (ents qs) c2 r rfl q1 ?_⟩
   rw [q2]
   simp only [go_sem, ↓reduceIte, nQ1, nQ2, nQ3, nQ4, nQ5, nQ6, reduceCtorEq, e10, e5, e0, e1]
   refine ⟨(vs ++ [p], ps', c'), [], by show _ - (vs ++ [p]).length < _; rw [List.length_append, List.length_singleton]; omega, ?_, ?_, hv', q3, hend⟩
   ·show _ ∧ _
    rw [List.map_append]
    try simp only [go_sem, ↓reduceIte, nQ1, nQ2, nQ3, nQ4, nQ5, nQ6, reduceCtorEq]
   ·simp only [go_sem, ↓reduceIte, nQ1, nQ2, nQ3, nQ4, nQ5, nQ6, reduceCtorEq, inScope, rnInj_nil]
    decide
  ·rw [show upG gone p.1.group = p.1.group from if_neg hle] at q1 q2
   refine ⟨mEq_pair (p.1.group, p.1.grain) (p.1.group, p.1.grain) |>.trans (by simp), vmput (ents qs) c2 r rfl q1 ?_⟩
   rw [q2]
   simp only [go_sem, ↓reduceIte, nQ1, nQ2, nQ3, nQ4, nQ5, nQ6, reduceCtorEq, e10, e5, e0, e1]
   refine ⟨(vs ++ [p], ps', c'), [], by show _ - (vs ++ [p]).length < _; rw [List.length_append, List.length_singleton]; omega, ?_, ?_, hv', q3, hend⟩
   ·show _ ∧ _
    rw [List.map_append]
    try simp only [go_sem, ↓reduceIte, nQ1, nQ2, nQ3, nQ4, nQ5, nQ6, reduceCtorEq]
   ·simp only [go_sem, ↓reduceIte, nQ1, nQ2, nQ3, nQ4, nQ5, nQ6, reduceCtorEq, inScope, rnInj_nil]
    decide
def membersD (gs : List (List Int)) (g : Int) : List Int := if g < 0 then [-1 - g] else gs.getD g.toNat []
theorem bMembers (gl : List (List Int)) (hs : List Value) (g : Int) (hgl : g < gl.length) (hlo : -1000000 ≤ g) (a : Option Addr) (cap : Nat) (R : RO) (hH : HsV R hs gl) (hv : EncV (fun x : Value => [x]) 1 R (.slice a hs.length cap) hs) : CallsR Tryz.prog 46 [.slice a hs.length cap, .int .i64 g] R fun R' r =>
  (0 ≤ g → some r = hs[g.toNat]?) ∧ (g < 0 → IntV (newR R R') r [-1 - g]) := by
 have hhl := hH.len
 obtain ⟨a', cap', e, hc, hf⟩ := hv.form
 simp only [Value.slice.injEq] at e
 obtain ⟨rfl, -, rfl⟩ := e
 refine callsT mix Tryz.func46 comp46 (by simp [Tryz.ntmps46]) ?_; simp only [go_sem, ↓reduceIte, nQ1, nQ2, nQ3, nQ4, nQ5, nQ6, reduceCtorEq, vc46, rs46]
 refine ⟨fun hn => ⟨_, W.in64 (by omega), ?_⟩, fun hn => ?_⟩
 ·intro b2 cap2 R2 hle2 hrow hcap hfr
  refine ⟨fun h => by omega, fun _ => ?_⟩
  exact RowIn.enc (enc := fun x : Int => [Value.int .i64 x]) (k := 1) (xs := [-1 - g]) (fun _ => rfl) (by omega) (hrow.new hfr (RO.le_refl _)) (by simpa using hcap) (by simp)
 ·have hlt : g.toNat < hs.length := by omega
  obtain ⟨ad, had, hR⟩ := hf g.toNat hlt
  refine ⟨by omega, by omega, vat ad had ?_⟩
  try simp only [go_sem, ↓reduceIte, nQ1, nQ2, nQ3, nQ4, nQ5, nQ6, reduceCtorEq]
  have h0 := hR 0 _ rfl
  rw [add_add, Nat.mul_one, Nat.add_zero] at h0
  refine vload _ h0 ?_
  try simp only [go_sem, ↓reduceIte, nQ1, nQ2, nQ3, nQ4, nQ5, nQ6, reduceCtorEq]
  exact ⟨fun _ => by rw [List.getElem?_eq_getElem hlt], fun h => by omega⟩
end Go.Proofs.YtclkibjonbhldaaGreatDoor
/- Plain lemmas of our own, no statement of the seat: slices.Sort, Delete, Grow, Concat, at memory of the caller's own. -/
namespace Go.Proofs.YtclkibjonbhldaaGreatDoor
set_option linter.unusedSimpArgs false
set_option linter.unusedVariables false
open Go.Proofs.YtclkibjonbhldaaGreatDoor.Vc Go.Shelf Go.Sort Go.RowKit
def Tryz.sortA_ren : Go.Shelf.Ren := ⟨fun | 5 => 47 | 8 => 84 | 7 => 83 | 19 => 108 | 20 => 109 | 10 => 99 | 11 => 100 | 12 => 101 | 13 => 102 | 14 => 103 | 15 => 104 | 16 => 105 | 17 => 106 | 18 => 107 | 30 => 124 | 31 => 125 | 32 => 126 | 33 => 127 | 34 => 128 | 35 => 112 | 40 => 134 | n => n, fun | 23 => 64 | 25 => 3 | 3 => 3 | 32 => 113 | 22 => 64 | 0 => 0 | 44 => 134 | 46 => 136 | 4 => 4 | 36 => 126 | 35 => 125 | 41 => 131 | 5 => 5 | 9 => 9 | 53 => 147 | 57 => 151 | 63 => 157 | 64 => 158 | n => n, fun | n => n⟩
theorem Tryz.sortA : Go.Proofs.SlLaysM.n5 Tryz.prog Tryz.sortA_ren := {
 mixed := by kernel_rfl
 f5 := ⟨Tryz.f47.name, by decide, Tryz.func47.trans (congrArg some (by kernel_rfl))⟩
 f7 := ⟨Tryz.f83.name, by decide, Tryz.func83.trans (congrArg some (by kernel_rfl))⟩
 f8 := Tryz.func84.trans (congrArg some (by kernel_rfl))
 f10 := ⟨Tryz.f99.name, by decide, Tryz.func99.trans (congrArg some (by kernel_rfl))⟩
 f11 := ⟨Tryz.f100.name, by decide, Tryz.func100.trans (congrArg some (by kernel_rfl))⟩
 f12 := ⟨Tryz.f101.name, by decide, Tryz.func101.trans (congrArg some (by kernel_rfl))⟩
 f13 := ⟨Tryz.f102.name, by decide, Tryz.func102.trans (congrArg some (by kernel_rfl))⟩
 f14 := ⟨Tryz.f103.name, by decide, Tryz.func103.trans (congrArg some (by kernel_rfl))⟩
 f15 := ⟨Tryz.f104.name, by decide, Tryz.func104.trans (congrArg some (by kernel_rfl))⟩
 f16 := ⟨Tryz.f105.name, by decide, Tryz.func105.trans (congrArg some (by kernel_rfl))⟩
 f17 := ⟨Tryz.f106.name, by decide, Tryz.func106.trans (congrArg some (by kernel_rfl))⟩
 f18 := ⟨Tryz.f107.name, by decide, Tryz.func107.trans (congrArg some (by kernel_rfl))⟩
 f19 := Tryz.func108.trans (congrArg some (by kernel_rfl))
 f20 := Tryz.func109.trans (congrArg some (by kernel_rfl))
 f30 := ⟨Tryz.f124.name, by decide, Tryz.func124.trans (congrArg some (by kernel_rfl))⟩
 f31 := Tryz.func125.trans (congrArg some (by kernel_rfl))
 f32 := Tryz.func126.trans (congrArg some (by kernel_rfl))
 f33 := ⟨Tryz.f127.name, by decide, Tryz.func127.trans (congrArg some (by kernel_rfl))⟩
 f34 := ⟨Tryz.f128.name, by decide, Tryz.func128.trans (congrArg some (by kernel_rfl))⟩
 f35 := ⟨Tryz.f112.name, by decide, Tryz.func112.trans (congrArg some (by kernel_rfl))⟩
 f40 := ⟨Tryz.f134.name, by decide, Tryz.func134.trans (congrArg some (by kernel_rfl))⟩
 t0 := Tryz.underlying0
 a0 := Tryz.isAgg0
 z0 := Tryz.sizeOf0
 v0 := Tryz.zeroValue0
 t3 := Tryz.underlying3
 a3 := Tryz.isAgg3
 z3 := Tryz.sizeOf3
 v3 := Tryz.zeroValue3
 t4 := Tryz.underlying4
 a4 := Tryz.isAgg4
 z4 := Tryz.sizeOf4
 v4 := Tryz.zeroValue4
 t5 := Tryz.underlying5
 a5 := Tryz.isAgg5
 z5 := Tryz.sizeOf5
 v5 := Tryz.zeroValue5
 t9 := Tryz.underlying9
 a9 := Tryz.isAgg9
 z9 := Tryz.sizeOf9
 v9 := Tryz.zeroValue9
 t22 := Tryz.underlying64
 a22 := Tryz.isAgg64
 z22 := Tryz.sizeOf64
 v22 := Tryz.zeroValue64
 t23 := Tryz.underlying64
 a23 := Tryz.isAgg64
 z23 := Tryz.sizeOf64
 v23 := Tryz.zeroValue64
 t25 := Tryz.underlying3
 a25 := Tryz.isAgg3
 z25 := Tryz.sizeOf3
 v25 := Tryz.zeroValue3
 t32 := Tryz.underlying113
 a32 := Tryz.isAgg113
 z32 := Tryz.sizeOf113
 v32 := Tryz.zeroValue113
 t35 := Tryz.underlying125
 a35 := Tryz.isAgg125
 z35 := Tryz.sizeOf125
 v35 := Tryz.zeroValue125
 t36 := Tryz.underlying126
 a36 := Tryz.isAgg126
 z36 := Tryz.sizeOf126
 v36 := Tryz.zeroValue126
 t41 := Tryz.underlying131
 a41 := Tryz.isAgg131
 z41 := Tryz.sizeOf131
 v41 := Tryz.zeroValue131
 t44 := Tryz.underlying134
 a44 := Tryz.isAgg134
 z44 := Tryz.sizeOf134
 v44 := Tryz.zeroValue134
 t46 := Tryz.underlying136
 a46 := Tryz.isAgg136
 z46 := Tryz.sizeOf136
 v46 := Tryz.zeroValue136
 t53 := Tryz.underlying147
 a53 := Tryz.isAgg147
 z53 := Tryz.sizeOf147
 v53 := Tryz.zeroValue147
 t57 := Tryz.underlying151
 a57 := Tryz.isAgg151
 z57 := Tryz.sizeOf151
 v57 := Tryz.zeroValue151
 t63 := Tryz.underlying157
 a63 := Tryz.isAgg157
 z63 := Tryz.sizeOf157
 v63 := Tryz.zeroValue157
 t64 := Tryz.underlying158
 a64 := Tryz.isAgg158
 z64 := Tryz.sizeOf158
 v64 := Tryz.zeroValue158 }
def Tryz.delA_ren : Go.Shelf.Ren := ⟨fun | 45 => 49 | n => n, fun | 22 => 25 | 23 => 64 | 3 => 3 | 4 => 4 | 0 => 0 | n => n, fun | n => n⟩
theorem Tryz.delA : Go.Proofs.SlLaysE.n45 Tryz.prog Tryz.delA_ren := {
 mixed := by kernel_rfl
 f45 := ⟨Tryz.f49.name, by decide, Tryz.func49.trans (congrArg some (by kernel_rfl))⟩
 t0 := Tryz.underlying0
 a0 := Tryz.isAgg0
 z0 := Tryz.sizeOf0
 v0 := Tryz.zeroValue0
 t3 := Tryz.underlying3
 a3 := Tryz.isAgg3
 z3 := Tryz.sizeOf3
 v3 := Tryz.zeroValue3
 t4 := Tryz.underlying4
 a4 := Tryz.isAgg4
 z4 := Tryz.sizeOf4
 v4 := Tryz.zeroValue4
 t22 := Tryz.underlying25
 a22 := Tryz.isAgg25
 z22 := Tryz.sizeOf25
 v22 := Tryz.zeroValue25
 a23 := Tryz.isAgg64
 z23 := Tryz.sizeOf64 }
def Tryz.growA_ren : Go.Shelf.Ren := ⟨fun | 4 => 82 | n => n, fun | 22 => 64 | 25 => 3 | 3 => 3 | 4 => 4 | 9 => 9 | 20 => 20 | 0 => 0 | n => n, fun | n => n⟩
theorem Tryz.growA : Go.Proofs.Lays8.n4 Tryz.prog Tryz.growA_ren := {
 mixed := by kernel_rfl
 f4 := ⟨Tryz.f82.name, by decide, Tryz.func82.trans (congrArg some (by kernel_rfl))⟩
 t0 := Tryz.underlying0
 a0 := Tryz.isAgg0
 z0 := Tryz.sizeOf0
 v0 := Tryz.zeroValue0
 t3 := Tryz.underlying3
 a3 := Tryz.isAgg3
 z3 := Tryz.sizeOf3
 v3 := Tryz.zeroValue3
 t4 := Tryz.underlying4
 a4 := Tryz.isAgg4
 z4 := Tryz.sizeOf4
 v4 := Tryz.zeroValue4
 t9 := Tryz.underlying9
 a9 := Tryz.isAgg9
 z9 := Tryz.sizeOf9
 v9 := Tryz.zeroValue9
 t20 := Tryz.underlying20
 a20 := Tryz.isAgg20
 z20 := Tryz.sizeOf20
 v20 := Tryz.zeroValue20
 t22 := Tryz.underlying64
 a22 := Tryz.isAgg64
 z22 := Tryz.sizeOf64
 v22 := Tryz.zeroValue64 }
def sortI (xs : List Int) : List Int := xs.mergeSort fun x y => decide (x ≤ y)
theorem bSortI (xs : List Int) (hl : xs.length ≤ 1000000000) (R : RO) : CallsS Tryz.prog 47 [.sl 0 xs.length] [.row 3 1 (xs.map (.int .i64))] R fun R' bs r => R' = R ∧ bs = [.row 3 1 ((sortI xs).map (.int .i64))] ∧ r = .val (.tuple #[]) := sortIntsS Tryz.sortA 3 xs (by omega) R
/-! ### Delete -/
abbrev Sl3 := Option Addr × Nat × Nat
def Sl3.val (x : Sl3) : Value := .slice x.1 x.2.1 x.2.2
theorem sl3_of {hs : List Value} (h : ∀ v ∈ hs, ∃ a n c, v = .slice a n c) : ∃ xs : List Sl3, hs = xs.map Sl3.val := by
 induction hs with
 | nil => exact ⟨[], rfl⟩
 | cons v hs ih =>
  obtain ⟨xs, rfl⟩ := ih fun v hv => h v (by simp [hv])
  obtain ⟨a, n, c, rfl⟩ := h v (by simp)
  exact ⟨(a, n, c) :: xs, rfl⟩
theorem bDelete (hs : List Value) (h : ∀ v ∈ hs, ∃ a n c, v = .slice a n c) (i : Nat) (hi : i < hs.length) (hl : hs.length ≤ 1000000000) (R : RO) :
  CallsS Tryz.prog 49 [.sl 0 hs.length, .val (.int .i64 i), .val (.int .i64 (i + 1 : Nat))] [.row 64 1 hs] R fun R' bs r => R' = R ∧ bs = [.row 64 1 (hs.eraseIdx i ++ [.slice none 0 0])] ∧ r = .sl 0 (hs.length - 1) := by
 obtain ⟨xs, rfl⟩ := sl3_of h
 have key := Go.Proofs.YtclkibjonbhldaaGreatDoor.Vc.rowS (P := Tryz.prog) (f := 49) (vs := [.int .i64 i, .int .i64 (i + 1 : Nat)]) (n := (xs.map Sl3.val).length) (T := 64) (sz := 1) (cs := xs.map Sl3.val) (R := R)
  (Q := fun cs' r => cs' = (xs.map Sl3.val).eraseIdx i ++ [.slice none 0 0] ∧ r = .sl 0 ((xs.map Sl3.val).length - 1)) ?_
 ·intro w β κ hG
  refine (key w β κ hG).mono ?_
  rintro e w' ⟨β', κ', bs', r, R', h1, h2, h3, h4, h5, h6, h7, h8, h9, h10, h11, cs', h12, _, h13, h14⟩
  exact ⟨β', κ', bs', r, R', h1, h2, h3, h4, h5, h6, h7, h8, h9, h10, h11, by rw [h12, h13], h14⟩
 ·intro w β κ arr hb hp hs' hm
  rw [List.length_map] at hi hl
  have hH : Holds Sl3.val w (β 0) 0 xs.toArray := by
   intro j hj
   have hj' : j < xs.length := by simpa using hj
   refine ⟨?_, by simp [World.frozen?, hb]⟩
   have h1 : arr.toList[j]? = (xs.map Sl3.val)[j]? := by
    obtain ⟨rest, hrest⟩ := hp
    rw [← hrest, List.getElem?_append_left (by simpa using hj')]
   have h2 : arr[j]? = (xs.map Sl3.val)[j]? := by rw [← Array.getElem?_toList]; exact h1
   simp only [World.cell?, hb, Nat.zero_add, Option.isSome_none, Bool.false_eq_true, if_false]
   rw [h2, List.getElem?_map, List.getElem?_eq_getElem hj']
   simp [hj']
  have hcap : xs.length ≤ κ 0 := by
   have := hp.length_le
   simp at this
   omega
  obtain ⟨i0, hi0, hz1⟩ : ∃ i0, Tryz.prog.info? 64 = some i0 ∧ i0.size = 1 := by
   have hz := Tryz.sizeOf64 w
   simp only [Go.sizeOf, typeInfo] at hz
   cases hi : Tryz.prog.info? 64 with
   | none => simp [hi] at hz
   | some i0 => simp [hi] at hz; exact ⟨i0, rfl, hz⟩
  have hd := AnyE.slices_Delete Tryz.delA Sl3.val (fun _ => rfl) ((none, 0, 0) : Sl3) (fun w => Tryz.zeroValue64 w) i0 hi0 hz1 (β 0) 0 (κ 0) i (i + 1) xs.toArray w hH (by simpa using hcap) (by unfold maxLen at hm; omega) (by omega) (by simp; omega)
  simp only [List.size_toArray] at hd
  rw [List.length_map]
  refine hd.mono ?_
  rintro e w' ⟨rfl, q, rfl⟩
  refine ⟨.sl 0 (xs.length - 1), (xs.map Sl3.val).eraseIdx i ++ [.slice none 0 0], q, #[], ?_, rfl, ?_, ⟨rfl, rfl⟩, ?_⟩
  ·rw [show i + 1 - i = 1 by omega]; rfl
  ·rw [List.length_append, List.length_eraseIdx, List.length_map, if_pos hi]; simp; omega
  ·rw [putRow_map, grow_empty]
   refine congrArg (putRow id (Sort.ahead w q) (β 0) 0) ?_
   simp only [List.map_toArray, List.map_append, List.map_take, List.map_drop, List.map_replicate]
   rw [List.eraseIdx_eq_take_drop_succ]
   simp [Sl3.val]
/-! ### Grow, Concat -/
theorem bGrow (n : Nat) (h1 : 1 ≤ n) (hn : n ≤ 1000000000) (R : RO) : CallsS Tryz.prog 82 [.val (.slice none 0 0), .val (.int .i64 n)] [] R fun R' bs r => R' = R ∧ bs = [.row 3 1 []] ∧ r = .sl 0 0 := by
 intro w β κ hG
 obtain ⟨i0, hi0, hs0⟩ : ∃ i0, Tryz.prog.info? 3 = some i0 ∧ i0.size = 1 := by
  have hz := Tryz.sizeOf3 w
  simp only [Go.sizeOf, typeInfo] at hz
  cases hi : Tryz.prog.info? 3 with
  | none => simp [hi] at hz
  | some i0 => simp [hi] at hz; exact ⟨i0, rfl, hz⟩
 have hz0 : i0.zero = some (.int .i64 0) := by
  have hz := Tryz.zeroValue3 w
  simp only [zeroValue, Sem.run_bind, run_typeInfo' hi0, Result.andThen_ok] at hz
  cases hq : i0.zero with
  | none => simp [hq] at hz
  | some z => simp [hq] at hz; rw [hz]
 have hby : i0.bytes = 8 := by
  have h : (Tryz.prog.info? 3).map (·.bytes) = some 8 := by kernel_rfl
  rw [hi0] at h
  simpa using h
 have hg := Any8.slices_Grow_grow Tryz.growA i0 (.int .i64 0) hi0 hz0 (by omega) none 0 0 n [] w (Nat.le_refl _) (by omega) (by rw [hby]; omega) (by omega) (by simp) (fun _ => rfl) (fun a e => by cases e)
 rw [show Tryz.growA_ren.t 25 = 3 from rfl] at hg
 refine hg.mono ?_
 rintro e w' ⟨rfl, rfl⟩
 have hge := grownCap_ge w n 0 3
 have hext : Ext w (w.drew.alloc (.cells (([] : List Value).toArray ++ Builtin.zeroCells (Value.int .i64 0).cells (0 + n - 0) ++ Builtin.zeroCells (Value.int .i64 0).cells (grownCap w (0 + n) 0 3 - (0 + n))) 3)) := Ext.tr (b := w.drew) ⟨rfl, rfl, rfl, Nat.le_refl _, fun _ _ => rfl, Nat.le_succ _⟩ (ext_alloc _ _)
 have hnew := heap_new w.drew (.cells (([] : List Value).toArray ++ Builtin.zeroCells (Value.int .i64 0).cells (0 + n - 0) ++ Builtin.zeroCells (Value.int .i64 0).cells (grownCap w (0 + n) 0 3 - (0 + n))) 3)
 refine ⟨fun _ => w.heap.size, fun _ => grownCap w n 0 3, [.row 3 1 []], .sl 0 0, R, ?_, fun _ _ h => h, ⟨?_, ?_, ?_⟩, rfl, by simp, by simp [Blk.noShr], fun i hi => absurd hi (by simp), ?_, fun a v ha => .inl ha, KeptG.of_ext hext, rfl, rfl, rfl⟩
 ·simp [den]
 ·intro j b hj
  cases j with
  | zero =>
   simp only [List.getElem?_cons_zero, Option.some.injEq] at hj
   subst hj
   refine ⟨trivial, _, hnew, by simp, ?_, Nat.zero_le _, grownCap_le_maxLen w n 0 3 (by unfold maxLen; omega)⟩
   simp only [Array.size_append, size_zeroCells, Nat.zero_add]
   simp [Value.cells]
   omega
  | succ j => simp at hj
 ·intro i j b b' hi hj _ _ _
  have h1 := (List.getElem?_eq_some_iff.1 hi).1
  have h2 := (List.getElem?_eq_some_iff.1 hj).1
  simp only [List.length_cons, List.length_nil] at h1 h2
  omega
 ·intro a v ha
  have h1 := (hG.ro a v ha).1
  have h2 := World.block_lt_of_cell? w a h1
  exact ⟨by rw [hext.cell h2]; exact h1, fun j b _ _ => by omega⟩
 ·intro j b _ _
  exact .inl (Nat.le_refl _)
theorem bConcat (hs : List Value) (gl : List (List Int)) (R : RO) (hH : HsV R hs gl) (h1 : 1 ≤ gl.flatten.length) (hl : gl.flatten.length ≤ 1000000) (hll : gl.length ≤ 1000000) : CallsS Tryz.prog 45 [.sl 0 hs.length] [.row 64 1 hs] R fun R' bs r =>
  R' = R ∧ ∃ b0, bs = [b0, .row 3 1 (gl.flatten.map (.int .i64))] ∧ r = .sl 1 gl.flatten.length := by
 have hhl := hH.len
 have hfl : ∀ i, i ≤ gl.length → (gl.take i).flatten.length ≤ gl.flatten.length := fun i hi => by
  conv => rhs; rw [← List.take_append_drop i gl, List.flatten_append, List.length_append]
  omega
 have hfs : ∀ i (hi : i < gl.length), (gl.take (i + 1)).flatten = (gl.take i).flatten ++ gl[i] := fun i hi => by
  rw [List.take_succ_eq_append_getElem hi, List.flatten_append]; simp
 refine callsTS mix Tryz.func45 comp45 (by simp [Tryz.ntmps45]) rfl rfl ?_; simp only [go_sem, ↓reduceIte, nQ1, nQ2, nQ3, nQ4, nQ5, nQ6, reduceCtorEq, vc45, rs45]
 refine vcLoopR Nat (fun i => [(11, .val (.int .i64 i)), (10, .val (.int .i64 hs.length)), (9, .sl 0 hs.length), (0, .sl 0 hs.length), (3, .val (.int .i64 (gl.take i).flatten.length))]) (fun _ => [.row 64 1 hs]) (fun i R' => R' = R ∧ i ≤ hs.length) (fun i => hs.length - i) 0 [] ?_ ?_ ?_ ?_
 ·(try simp only [go_sem, ↓reduceIte, nQ1, nQ2, nQ3, nQ4, nQ5, nQ6, reduceCtorEq]) <;> (repeat' (first | rfl | trivial | constructor | (intro h; exact absurd rfl h)))
 ·simp only [go_sem, ↓reduceIte, nQ1, nQ2, nQ3, nQ4, nQ5, nQ6, reduceCtorEq, inScope, rnInj_nil]
  decide
 ·exact ⟨rfl, Nat.zero_le _⟩
 rintro i env R1 hle1 hE ⟨rfl, hi⟩
 (simp only [go_sem] at hE; obtain ⟨e11, e10, e9, e0, e3⟩ := hE; simp only [go_sem, ↓reduceIte, nQ1, nQ2, nQ3, nQ4, nQ5, nQ6, reduceCtorEq, e11, e10, e9, e0, e3]; dsimp only at *)
 refine ⟨fun hlt => ?_, fun hge => ?_⟩
 ·have hlt' : i < hs.length := by omega
  have hlg : i < gl.length := by omega
  have hu := hH.val i hlt' hlg
  obtain ⟨ua, ucap, hue, -, -⟩ := EncV.form hu
  refine ⟨by omega, _, List.getElem?_eq_getElem hlt', ?_⟩
  rw [hue]
  simp only [go_sem, ↓reduceIte, nQ1, nQ2, nQ3, nQ4, nQ5, nQ6, reduceCtorEq, e11, e10, e9, e0, e3]
  have h3 := hfl (i + 1) (by omega)
  have h4 := hfs i hlg
  have h5 := congrArg List.length h4
  rw [List.length_append] at h5
  refine ⟨_, W.in64 (by omega), fun hneg => by omega, fun _ => ⟨_, W.in64 (by omega), i + 1, [], by omega, ⟨⟨rfl, rfl, rfl, ?_⟩, rfl⟩, ?_, by omega⟩⟩
  ·rw [h5]; simp
  ·simp only [go_sem, ↓reduceIte, nQ1, nQ2, nQ3, nQ4, nQ5, nQ6, reduceCtorEq, inScope, rnInj_nil]
   decide
 ·obtain rfl : i = hs.length := by omega
  have htk : gl.take hs.length = gl := by rw [hhl, List.take_length]
  rw [htk]
  refine vhandE (bGrow gl.flatten.length h1 (by omega) R1) rfl ?_
  rintro R2 bs r hle2 ⟨rfl, rfl, rfl⟩
  simp only [go_sem, ↓reduceIte, nQ1, nQ2, nQ3, nQ4, nQ5, nQ6, reduceCtorEq, e11, e10, e9, e0, e3]
  have hfl1 : ∀ i, i < gl.length → (gl.take (i + 1)).flatten.map (Value.int .i64) = (gl.take i).flatten.map (Value.int .i64) ++ gl[i]!.map (Value.int .i64) := fun i hi => by
   rw [hfs i hi, List.map_append, getElem!_pos gl i hi]
  refine vcLoopR Nat (fun i => [(27, .val (.int .i64 i)), (26, .val (.int .i64 hs.length)), (25, .sl 0 hs.length), (6, .sl 1 (gl.take i).flatten.length)]) (fun i => [.row 64 1 hs, .row 3 1 ((gl.take i).flatten.map (.int .i64))]) (fun i R' => R' = R2 ∧ i ≤ hs.length) (fun i => hs.length - i) 0 [] ?_ ?_ ?_ ?_
  ·(try simp only [go_sem, ↓reduceIte, nQ1, nQ2, nQ3, nQ4, nQ5, nQ6, reduceCtorEq]) <;> (repeat' (first | rfl | trivial | constructor | (intro h; exact absurd rfl h)))
  ·simp only [go_sem, ↓reduceIte, nQ1, nQ2, nQ3, nQ4, nQ5, nQ6, reduceCtorEq, inScope, rnInj_nil]
   decide
  ·exact ⟨rfl, Nat.zero_le _⟩
  rintro i env R3 hle3 hE ⟨rfl, hi⟩
  (simp only [go_sem] at hE; obtain ⟨e27, e26, e25, e6⟩ := hE; simp only [go_sem, ↓reduceIte, nQ1, nQ2, nQ3, nQ4, nQ5, nQ6, reduceCtorEq, e27, e26, e25, e6]; dsimp only at *)
  refine ⟨fun hlt => ?_, fun hge => ?_⟩
  ·have hlt' : i < hs.length := by omega
   have hlg : i < gl.length := by omega
   have hu := hH.val i hlt' hlg
   obtain ⟨ua, ucap, hue, -, -⟩ := EncV.form hu
   refine ⟨by omega, _, List.getElem?_eq_getElem hlt', ?_⟩
   rw [hue] at hu ⊢
   simp only [go_sem, ↓reduceIte, nQ1, nQ2, nQ3, nQ4, nQ5, nQ6, reduceCtorEq, e27, e26, e25, e6]
   have h3 := hfl (i + 1) (by omega)
   have h4 := hfs i hlg
   have h5 := congrArg List.length h4
   rw [List.length_append] at h5
   have hml := hfl1 i hlg
   rw [getElem!_pos gl i hlg] at hml
   refine EncV.src hu rfl (by omega) (fun _ => rfl) (by simp [Value.oneCell']) ?_
   rw [flat1]
   simp only [go_sem, ↓reduceIte, nQ1, nQ2, nQ3, nQ4, nQ5, nQ6, reduceCtorEq, e27, e26, e25, e6]
   refine vappO ((gl.take i).flatten.map (.int .i64)) rfl (by rw [List.length_map, Nat.mul_one]) (by omega) ?_
   simp only [go_sem, ↓reduceIte, nQ1, nQ2, nQ3, nQ4, nQ5, nQ6, reduceCtorEq, e27, e26, e25, e6]
   refine ⟨_, W.in64 (by omega), i + 1, [0, 2], by omega, ⟨⟨rfl, ?_, ?_⟩, rfl, ?_⟩, ?_, by omega⟩
   ·rfl
   ·rw [h5]; rfl
   ·rw [hml]; rfl
   ·simp only [go_sem, ↓reduceIte, nQ1, nQ2, nQ3, nQ4, nQ5, nQ6, reduceCtorEq, inScope, rnInj_nil]
    decide
  ·obtain rfl : i = hs.length := by omega
   rw [htk]
   exact ⟨_, ⟨rfl, rfl⟩, rfl⟩
end Go.Proofs.YtclkibjonbhldaaGreatDoor
namespace Go.Proofs.YtclkibjonbhldaaGreatDoor
set_option linter.unusedSimpArgs false
set_option linter.unusedVariables false
open Go.Proofs.YtclkibjonbhldaaGreatDoor.Vc
def view (l : List Se) (g k t : Int) : Bool := memS (lookD l g k) t
def dropD (l : List Se) (g k : Int) : List Se := l.filter fun s => decide (seKey s ≠ (g, k))
theorem dropD_keys {l : List Se} {g k : Int} (hn : (l.map seKey).Nodup) : ((dropD l g k).map seKey).Nodup := List.Nodup.sublist (List.Sublist.map seKey List.filter_sublist) hn
theorem dropD_mem {l : List Se} {g k : Int} (s : Se) : s ∈ dropD l g k ↔ s ∈ l ∧ seKey s ≠ (g, k) := by unfold dropD; rw [List.mem_filter, decide_eq_true_eq]
theorem LedOK.del {R : RO} {ps : List Le} {c : Nat} (h : LedOK R ps c) (g k : Int) : ∃ r ps', mfind (some [0, 0]) (accV g k) (ents ps) 0 = some r ∧ mdrop (ents ps) c r = .mp (ents ps') c ∧ LedOK R ps' c ∧ ps'.map (·.1) = dropD (ps.map (·.1)) g k := by
 obtain ⟨r, h1, h2⟩ := led_find ps g k
 refine ⟨r, ?_⟩
 rcases h2 with ⟨rfl, h3⟩ | ⟨j, p, rfl, h3, h4⟩
 ·refine ⟨ps, h1, rfl, h, ?_⟩
  unfold dropD
  rw [List.filter_eq_self.2 fun s hs => by
   obtain ⟨p, hp, rfl⟩ := List.mem_map.1 hs
   simpa using h3 p hp]
 ·have hj := (List.getElem?_eq_some_iff.1 h3).1
  have hpj : ps[j] = p := (List.getElem?_eq_some_iff.1 h3).2
  have hsub : (ps.eraseIdx j).Sublist ps := List.eraseIdx_sublist ps j
  refine ⟨ps.eraseIdx j, h1, ?_, ⟨h.keys.sublist (hsub.map _), h.born.sublist (hsub.map _), fun p hp => h.lt p (hsub.subset hp), fun p hp => h.val p (hsub.subset hp)⟩, ?_⟩
  ·simp only [mdrop, ents]
   congr 1
   rw [List.eraseIdx_eq_take_drop_succ, List.eraseIdx_eq_take_drop_succ, List.map_append, List.map_take, List.map_drop]
  ·have hsplit : ps = ps.take j ++ p :: ps.drop (j + 1) := by rw [← hpj, ← List.drop_eq_getElem_cons hj, List.take_append_drop]
   have hne : ∀ x ∈ ps.eraseIdx j, seKey x.1 ≠ (g, k) := by
    intro x hx e
    have hnd := h.keys
    rw [hsplit, List.map_append, List.map_cons, List.nodup_append, List.nodup_cons] at hnd
    rw [List.eraseIdx_eq_take_drop_succ] at hx
    rcases List.mem_append.1 hx with hx | hx
    ·exact hnd.2.2 (seKey x.1) (List.mem_map_of_mem (f := fun p : Le => seKey p.1) hx) (seKey p.1) (by simp) (by rw [e, h4])
    ·exact hnd.2.1.1 (by rw [h4, ← e]; exact List.mem_map_of_mem (f := fun p : Le => seKey p.1) hx)
   have h5 : dropD (ps.map (·.1)) g k = dropD ((ps.eraseIdx j).map (·.1)) g k := by
    conv => lhs; rw [hsplit]
    rw [List.eraseIdx_eq_take_drop_succ]
    unfold dropD
    rw [List.map_append, List.map_cons, List.filter_append, List.map_append, List.filter_append, List.filter_cons_of_neg (by simp [h4])]
   rw [h5]
   unfold dropD
   rw [List.filter_eq_self.2 fun s hs => by
    obtain ⟨p, hp, rfl⟩ := List.mem_map.1 hs
    simpa using hne p hp]
theorem view_drop {l : List Se} {g k : Int} (hn : (l.map seKey).Nodup) (g' k' t : Int) : view (dropD l g k) g' k' t = if (g', k') = (g, k) then false else view l g' k' t := by
 unfold view
 split
 ·rename_i e
  rw [lookD_none fun s hs e' => ((dropD_mem s).1 hs).2 (by rw [e', e]), memS_nil]
 ·rename_i e
  by_cases hk : ∃ s ∈ l, seKey s = (g', k')
  ·obtain ⟨s, hs, e'⟩ := hk
   rw [lookD_mem hn hs e', lookD_mem (dropD_keys hn) ((dropD_mem s).2 ⟨hs, by rw [e']; exact e⟩) e']
  ·rw [lookD_none fun s hs e' => hk ⟨s, hs, e'⟩, lookD_none fun s hs e' => hk ⟨s, ((dropD_mem s).1 hs).1, e'⟩]
theorem lookD_ne {l l' : List Se} {g k : Int} (hn : (l.map seKey).Nodup) (hn' : (l'.map seKey).Nodup) (h : ∀ s, seKey s = (g, k) → (s ∈ l' ↔ s ∈ l)) : lookD l' g k = lookD l g k := by
 by_cases hk : ∃ s ∈ l, seKey s = (g, k)
 ·obtain ⟨s, hs, e⟩ := hk
  rw [lookD_mem hn hs e, lookD_mem hn' ((h s e).2 hs) e]
 ·rw [lookD_none fun s hs e => hk ⟨s, hs, e⟩, lookD_none fun s hs e => hk ⟨s, (h s e).1 hs, e⟩]
theorem view_put {l l' : List Se} {g k : Int} {cs : List Sp} (hn : (l.map seKey).Nodup) (hn' : (l'.map seKey).Nodup)
  (hmem : ∀ s, s ∈ l' ↔ (unionD (lookD l g k) cs = [] ∧ s ∈ l) ∨ (unionD (lookD l g k) cs ≠ [] ∧ (s = ⟨g, k, unionD (lookD l g k) cs⟩ ∨ (s ∈ l ∧ seKey s ≠ (g, k))))) (g' k' t : Int) : view l' g' k' t = if (g', k') = (g, k) then (view l g k t || memS cs t) else view l g' k' t := by
 unfold view
 split
 ·rename_i e
  obtain ⟨rfl, rfl⟩ := Prod.mk.inj e
  by_cases h0 : unionD (lookD l g' k') cs = []
  ·rw [lookD_ne hn hn' fun s _ => by rw [hmem]; simp [h0]]
   have h1 := unionD_mem (lookD l g' k') cs t
   rw [h0, memS_nil] at h1
   cases hc : memS cs t with
   | false => simp
   | true => rw [hc] at h1; simp at h1
  ·rw [lookD_mem hn' (s := ⟨g', k', unionD (lookD l g' k') cs⟩) ((hmem _).2 (.inr ⟨h0, .inl rfl⟩)) rfl, unionD_mem]
 ·rename_i e
  rw [lookD_ne hn hn' fun s he => ?_]
  rw [hmem]
  constructor
  ·rintro (⟨_, h⟩ | ⟨_, rfl | ⟨h, _⟩⟩)
   ·exact h
   ·exact absurd he.symm e
   ·exact h
  ·intro h
   by_cases h0 : unionD (lookD l g k) cs = []
   ·exact .inl ⟨h0, h⟩
   ·exact .inr ⟨h0, .inr ⟨h, by rw [he]; exact e⟩⟩
theorem view_addP {l : List Se} {g k : Int} {cs : List Sp} (hn : (l.map seKey).Nodup) (g' k' t : Int) : view (addP l g k cs) g' k' t = if (g', k') = (g, k) then (view l g k t || memS cs t) else view l g' k' t := view_put hn (addP_keys hn) (addP_mem hn) g' k' t
theorem view_addS {l : List Se} {g k : Int} {cs : List Sp} (hl : l.Pairwise keyLt) (g' k' t : Int) : view (addS l g k cs) g' k' t = if (g', k') = (g, k) then (view l g k t || memS cs t) else view l g' k' t := view_put (sorted_nodup hl) (sorted_nodup (addS_sorted hl)) (addS_mem hl) g' k' t
theorem view_perm {a b : List Se} (ha : (a.map seKey).Nodup) (hp : b.Perm a) (g k t : Int) : view b g k t = view a g k t := by
 unfold view
 rw [lookD_congr ((hp.map seKey).nodup_iff.2 ha) ha fun s => hp.mem_iff]
def Full (l : List Se) : Prop := ∀ s ∈ l, Normal s.cells ∧ s.cells ≠ []
theorem full_ne {s : Se} (h : Normal s.cells ∧ s.cells ≠ []) : ∃ t, memS s.cells t = true := by
 obtain ⟨x, l, e⟩ := List.exists_cons_of_ne_nil h.2
 exact ⟨x.f, memS_iff.2 ⟨x, by rw [e]; simp, Int.le_refl _, h.1.pos x (by rw [e]; simp)⟩⟩
theorem view_none {l : List Se} (hn : (l.map seKey).Nodup) (hf : Full l) {g k : Int} (h : ∀ t, view l g k t = false) : ∀ s ∈ l, seKey s ≠ (g, k) := fun s hs e => by
 obtain ⟨t, ht⟩ := full_ne (hf s hs)
 have := h t
 unfold view at this
 rw [lookD_mem hn hs e, ht] at this
 cases this
theorem view_ext {a b : List Se} (ha : a.Pairwise keyLt) (hb : b.Pairwise keyLt) (fa : Full a) (fb : Full b) (h : ∀ g k t, view a g k t = view b g k t) : a = b := by
 have key : ∀ {a b : List Se}, a.Pairwise keyLt → b.Pairwise keyLt → Full a → Full b → (∀ g k t, view a g k t = view b g k t) → ∀ s, s ∈ a → s ∈ b := fun {a b} ha hb fa fb h s hs => by
  obtain ⟨t, ht⟩ := full_ne (fa s hs)
  have hv := h s.group s.grain
  by_cases hk : ∃ x ∈ b, seKey x = (s.group, s.grain)
  ·obtain ⟨x, hx, e⟩ := hk
   have hc : s.cells = x.cells := (fa s hs).1.ext (fb x hx).1 fun t => by
    have := hv t
    unfold view at this
    rwa [lookD_mem (sorted_nodup ha) hs rfl, lookD_mem (sorted_nodup hb) hx e] at this
   obtain ⟨e1, e2⟩ := Prod.mk.inj e
   have : x = s := by
    cases x; cases s
    simp only at e1 e2 hc
    subst e1 e2 hc; rfl
   rw [← this]; exact hx
  ·have := hv t
   unfold view at this
   rw [lookD_mem (sorted_nodup ha) hs rfl, ht, lookD_none fun x hx e => hk ⟨x, hx, e⟩, memS_nil] at this
   cases this
 exact sorted_ext ha hb fun s => ⟨key ha hb fa fb h s, key hb ha fb fa (fun g k t => (h g k t).symm) s⟩
def anyV (l : List Se) (g k t : Int) : Bool := l.any fun s => decide (seKey s = (g, k)) && memS s.cells t
theorem view_any {l : List Se} (hn : (l.map seKey).Nodup) (g k t : Int) : view l g k t = anyV l g k t := by
 unfold view anyV
 rw [Bool.eq_iff_iff, List.any_eq_true]
 constructor
 ·intro h
  by_cases hk : ∃ x ∈ l, seKey x = (g, k)
  ·obtain ⟨x, hx, e⟩ := hk
   rw [lookD_mem hn hx e] at h
   exact ⟨x, hx, by simp [e, h]⟩
  ·rw [lookD_none fun x hx e => hk ⟨x, hx, e⟩, memS_nil] at h
   cases h
 ·rintro ⟨x, hx, h⟩
  simp only [Bool.and_eq_true, decide_eq_true_eq] at h
  rw [lookD_mem hn hx h.1]; exact h.2
def canon (l : List Se) : List Se := l.foldl (fun acc s => addS acc s.group s.grain s.cells) []
theorem addS_full {l : List Se} (h : Full l) (hl : l.Pairwise keyLt) {g k : Int} {cs : List Sp} : Full (addS l g k cs) := fun s hs => by
 rcases (addS_mem hl s).1 hs with ⟨_, h2⟩ | ⟨h1, rfl | ⟨h2, _⟩⟩
 ·exact h s h2
 ·exact ⟨unionD_normal _ _, h1⟩
 ·exact h s h2
theorem foldS_facts : ∀ (l acc : List Se), acc.Pairwise keyLt → Full acc → (l.foldl (fun acc s => addS acc s.group s.grain s.cells) acc).Pairwise keyLt ∧ Full (l.foldl (fun acc s => addS acc s.group s.grain s.cells) acc) ∧ ∀ g k t, view (l.foldl (fun acc s => addS acc s.group s.grain s.cells) acc) g k t = (view acc g k t || anyV l g k t)
 | [], acc, h1, h2 => ⟨h1, h2, fun g k t => by simp [anyV]⟩
 | s :: l, acc, h1, h2 => by
  obtain ⟨i1, i2, i3⟩ := foldS_facts l (addS acc s.group s.grain s.cells) (addS_sorted h1) (addS_full h2 h1)
  refine ⟨i1, i2, fun g k t => ?_⟩
  rw [List.foldl_cons, i3, view_addS h1]
  unfold anyV
  rw [List.any_cons]
  by_cases e : (g, k) = (s.group, s.grain)
  ·obtain ⟨rfl, rfl⟩ := Prod.mk.inj e
   simp [seKey, Bool.or_assoc]
  ·rw [if_neg e]
   have : decide (seKey s = (g, k)) = false := decide_eq_false fun h => e h.symm
   rw [this, Bool.false_and, Bool.false_or]
theorem canon_sorted (l : List Se) : (canon l).Pairwise keyLt := (foldS_facts l [] List.Pairwise.nil (by simp [Full])).1
theorem canon_full (l : List Se) : Full (canon l) := (foldS_facts l [] List.Pairwise.nil (by simp [Full])).2.1
theorem canon_view (l : List Se) (g k t : Int) : view (canon l) g k t = anyV l g k t := by
 have := (foldS_facts l [] List.Pairwise.nil (by simp [Full])).2.2 g k t
 unfold canon
 rw [this]
 simp [view, lookD, memS_nil]
/-! ### Aliases -/
def keepG (gs : List (List Int)) (p q : Int) : Int := if grpOf gs p < 0 ∨ (0 ≤ grpOf gs q ∧ grpOf gs q < grpOf gs p) then grpOf gs q else grpOf gs p
def goneG (gs : List (List Int)) (p q : Int) : Int := if grpOf gs p < 0 ∨ (0 ≤ grpOf gs q ∧ grpOf gs q < grpOf gs p) then grpOf gs p else grpOf gs q
def intoG (gs : List (List Int)) (keep : Int) : Int := if keep < 0 then gs.length else keep
def joinG (gs : List (List Int)) (keep gone : Int) : List (List Int) :=
 let all := sortI (membersD gs keep ++ membersD gs gone)
 let g1 := if keep < 0 then gs ++ [all] else gs.set keep.toNat all
 if 0 ≤ gone then g1.eraseIdx gone.toNat else g1
def mapG (gs : List (List Int)) (keep gone g : Int) : Int :=
 let g1 := if g = keep ∨ g = gone then intoG gs keep else g
 if 0 ≤ gone then upG gone g1 else g1
def aliasB (b : Bu) (p q : Int) : Bu :=
 if grpOf b.groups p = grpOf b.groups q then b else
  ⟨b.limit, joinG b.groups (keepG b.groups p q) (goneG b.groups p q), canon (b.spent.map fun s => ⟨mapG b.groups (keepG b.groups p q) (goneG b.groups p q) s.group, s.grain, s.cells⟩)⟩
theorem grpOf_bd {gs : List (List Int)} {p : Int} (hp : personB p = true) : grpOf gs p < gs.length ∧ (-1000000 ≤ grpOf gs p) ∧ (grpOf gs p < 0 → grpOf gs p = -1 - p) := by
 have := personB_bd hp
 unfold personB at hp
 simp only [Bool.and_eq_true, decide_eq_true_eq] at hp
 unfold grpOf
 split
 ·rename_i i h
  have := (List.findIdx?_eq_some_iff_getElem.1 h).1
  omega
 ·omega
structure KG (gs : List (List Int)) (keep gone : Int) : Prop where
 ne : keep ≠ gone
 lo : -1000000 ≤ keep ∧ -1000000 ≤ gone
 hi : keep < gs.length ∧ gone < gs.length
 ord : (0 ≤ keep ∧ (gone < 0 ∨ keep < gone)) ∨ (keep < 0 ∧ gone < 0)
theorem kg_of {gs : List (List Int)} {p q : Int} (hp : personB p = true) (hq : personB q = true) (hne : grpOf gs p ≠ grpOf gs q) : KG gs (keepG gs p q) (goneG gs p q) := by
 have h1 := grpOf_bd (gs := gs) hp
 have h2 := grpOf_bd (gs := gs) hq
 unfold keepG goneG
 split
 ·rename_i h; exact ⟨fun e => hne e.symm, by omega, by omega, by omega⟩
 ·rename_i h; exact ⟨hne, by omega, by omega, by omega⟩
def stepV (into from' k : Int) (V : Int → Int → Int → Bool) : Int → Int → Int → Bool := fun g k' t =>
 if k' = k ∧ from' ≠ into then (if g = into then (V into k t || V from' k t) else if g = from' then false else V g k' t) else V g k' t
def stepN (keep gone into : Int) (V : Int → Int → Int → Bool) : Nat → Int → Int → Int → Bool
 | 0 => V
 | i + 1 => stepV into gone (1 + i) (stepV into keep (1 + i) (stepN keep gone into V i))
theorem stepV_ne {into f k : Int} {V : Int → Int → Int → Bool} {g k' t : Int} (h : k' ≠ k) : stepV into f k V g k' t = V g k' t := by
 unfold stepV
 rw [if_neg fun e => h e.1]
theorem stepN_ne {keep gone into : Int} {V : Int → Int → Int → Bool} {g k t : Int} : ∀ n : Nat, (∀ i : Nat, i < n → k ≠ 1 + i) → stepN keep gone into V n g k t = V g k t
 | 0, _ => rfl
 | n + 1, h => by
  unfold stepN
  rw [stepV_ne (h n (by omega)), stepV_ne (h n (by omega)), stepN_ne n fun i hi => h i (by omega)]
theorem stepN_at {keep gone into : Int} {V : Int → Int → Int → Bool} {g k t : Int} (h1 : gone ≠ into) (h2 : keep ≠ gone) : ∀ n : Nat, (∃ i : Nat, i < n ∧ k = 1 + i) →
  stepN keep gone into V n g k t = if g = into then (V into k t || V keep k t || V gone k t) else if g = keep ∨ g = gone then false else V g k t
 | 0, ⟨i, hi, _⟩ => absurd hi (by omega)
 | n + 1, ⟨i, hi, hk⟩ => by
  by_cases hin : i = n
  ·subst hin
   have hlow : ∀ g t, stepN keep gone into V i g k t = V g k t := fun g t => stepN_ne i fun j hj => by omega
   show stepV into gone (1 + i) (stepV into keep (1 + i) (stepN keep gone into V i)) g k t = _
   rw [← hk]
   unfold stepV
   simp only [hlow, true_and, ne_eq, h1, not_false_eq_true, if_true]
   by_cases hki : keep = into
   ·subst hki
    simp only [not_true_eq_false, if_false]
    by_cases hg : g = keep
    ·subst hg; simp [Ne.symm h1]
    ·by_cases hg2 : g = gone
     ·subst hg2; simp [hg]
     ·simp [hg, hg2]
   ·simp only [hki, not_false_eq_true, if_true]
    by_cases hg : g = into
    ·subst hg
     simp [Ne.symm h2, h1]
    ·by_cases hg2 : g = gone
     ·subst hg2; simp [hg]
     ·by_cases hg3 : g = keep
      ·subst hg3; simp [hg, hg2]
      ·simp [hg, hg2, hg3]
  ·show stepV into gone (1 + n) (stepV into keep (1 + n) (stepN keep gone into V n)) g k t = _
   rw [stepV_ne (by omega), stepV_ne (by omega)]
   exact stepN_at h1 h2 n ⟨i, by omega, hk⟩
def map1 (keep gone into g : Int) : Int := if g = keep ∨ g = gone then into else g
def setG' (m : Int → Int) (s : Se) : Se := ⟨m s.group, s.grain, s.cells⟩
theorem anyV_map (m : Int → Int) (l : List Se) (g k t : Int) : anyV (l.map (setG' m)) g k t = l.any fun s => decide (m s.group = g ∧ s.grain = k) && memS s.cells t := by
 unfold anyV
 rw [List.any_map]
 congr 1
 funext s
 simp only [Function.comp_apply, setG', seKey]
 congr 1
 exact decide_eq_decide.2 (by rw [Prod.mk.injEq])
theorem any_or {α : Type} (l : List α) (p q r : α → Bool) (h : ∀ x ∈ l, r x = (p x || q x)) : l.any r = (l.any p || l.any q) := by
 rw [Bool.eq_iff_iff, Bool.or_eq_true, List.any_eq_true, List.any_eq_true, List.any_eq_true]
 constructor
 ·rintro ⟨x, hx, h1⟩
  rw [h x hx, Bool.or_eq_true] at h1
  exact h1.imp (fun h2 => ⟨x, hx, h2⟩) (fun h2 => ⟨x, hx, h2⟩)
 ·rintro (⟨x, hx, h1⟩ | ⟨x, hx, h1⟩)
  ·exact ⟨x, hx, by rw [h x hx, h1]; rfl⟩
  ·exact ⟨x, hx, by rw [h x hx, h1, Bool.or_true]⟩
theorem anyV_map1 {l : List Se} {keep gone into : Int} (g k t : Int) : anyV (l.map (setG' (map1 keep gone into))) g k t = if g = into then (anyV l into k t || anyV l keep k t || anyV l gone k t) else if g = keep ∨ g = gone then false else anyV l g k t := by
 rw [anyV_map]
 have key : ∀ (g : Int), anyV l g k t = l.any fun s => decide (s.group = g ∧ s.grain = k) && memS s.cells t := fun g => by
  unfold anyV seKey
  simp only [Prod.mk.injEq]
 split
 ·rename_i e
  subst e
  rw [key, key, key, ← any_or l _ _ _ fun x _ => rfl, ← any_or l _ _ _ fun x _ => rfl]
  congr 1
  funext s
  unfold map1
  cases memS s.cells t with
  | false => simp
  | true =>
   simp only [Bool.and_true]
   rw [Bool.eq_iff_iff]
   simp only [Bool.or_eq_true, decide_eq_true_eq]
   split <;> rename_i h <;> omega
 ·rename_i e
  split
  ·rename_i h
   rw [List.any_eq_false]
   intro s _
   unfold map1
   split <;> rename_i h2
   ·simp; intro h3; exact absurd h3.symm e
   ·simp; intro h3; omega
  ·rename_i h
   rw [key]
   congr 1
   funext s
   unfold map1
   have : ((if s.group = keep ∨ s.group = gone then into else s.group) = g) ↔ s.group = g := by
    split <;> rename_i h2
    ·constructor
     ·intro h3; exact absurd h3.symm e
     ·intro h3; omega
    ·exact Iff.rfl
   simp only [this]
def dnG (gone g : Int) : Int := if g < gone then g else g + 1
theorem anyV_up {l : List Se} {gone : Int} (h : ∀ s ∈ l, s.group ≠ gone) (g k t : Int) : anyV (l.map (upS gone)) g k t = anyV l (dnG gone g) k t := by
 unfold anyV
 rw [List.any_map, Bool.eq_iff_iff, List.any_eq_true, List.any_eq_true]
 have key : ∀ s ∈ l, (seKey (upS gone s) = (g, k)) ↔ (seKey s = (dnG gone g, k)) := fun s hs => by
  have := h s hs
  unfold seKey upS upG dnG
  simp only [Prod.mk.injEq]
  split <;> split <;> omega
 constructor
 ·rintro ⟨s, hs, h1⟩
  refine ⟨s, hs, ?_⟩
  simp only [Function.comp_apply, Bool.and_eq_true, decide_eq_true_eq] at h1 ⊢
  exact ⟨(key s hs).1 h1.1, h1.2⟩
 ·rintro ⟨s, hs, h1⟩
  refine ⟨s, hs, ?_⟩
  simp only [Function.comp_apply, Bool.and_eq_true, decide_eq_true_eq] at h1 ⊢
  exact ⟨(key s hs).2 h1.1, h1.2⟩
structure OkN (n : Nat) (s : Se) : Prop where
 grp : -1000000 ≤ s.group ∧ s.group ≤ 1000000
 grain : 1 ≤ s.grain ∧ s.grain ≤ 4
 nor : Normal s.cells
 rng : rangedB s.cells = true
 ne : s.cells ≠ []
 len : s.cells.length ≤ 1000 * 2 ^ n
structure InvL (n : Nat) (V : Int → Int → Int → Bool) (l : List Se) : Prop where
 ok : ∀ s ∈ l, OkN n s
 see : ∀ g k t, view l g k t = V g k t
 cnt : l.length ≤ 1000 + n
theorem InvL.look {n : Nat} {V : Int → Int → Int → Bool} {l : List Se} (h : InvL n V l) (g k : Int) : rangedB (lookD l g k) = true ∧ (lookD l g k).length ≤ 1000 * 2 ^ n := by
 unfold lookD
 split
 ·rename_i s hs
  have := h.ok s (List.mem_of_find?_eq_some hs)
  exact ⟨this.rng, this.len⟩
 ·exact ⟨rfl, by simp⟩
theorem OkN.mono {n : Nat} {s : Se} (h : OkN n s) : OkN (n + 1) s := ⟨h.grp, h.grain, h.nor, h.rng, h.ne, Nat.le_trans h.len (by rw [Nat.pow_succ]; omega)⟩
theorem look_drop {l : List Se} {f into k : Int} (hn : (l.map seKey).Nodup) (hne : f ≠ into) : lookD (dropD l f k) into k = lookD l into k :=
 lookD_ne hn (dropD_keys hn) fun s hs => by
  rw [dropD_mem]
  refine ⟨fun h => h.1, fun h => ⟨h, fun e => ?_⟩⟩
  rw [hs] at e
  exact hne (Prod.mk.inj e).1.symm
theorem InvL.step {n : Nat} {V : Int → Int → Int → Bool} {l : List Se} (h : InvL n V l) (hn : (l.map seKey).Nodup) {into f k : Int} (hne : f ≠ into) (hi : -1000000 ≤ into ∧ into ≤ 1000000) (hk : 1 ≤ k ∧ k ≤ 4) :
  InvL (n + 1) (stepV into f k V) (addP (dropD l f k) into k (lookD l f k)) := by
 have hnd := dropD_keys (g := f) (k := k) hn
 obtain ⟨a1, a2⟩ := h.look f k
 obtain ⟨b1, b2⟩ := h.look into k
 refine ⟨fun s hs => ?_, fun g k' t => ?_, ?_⟩
 ·rcases (addP_mem hnd s).1 hs with ⟨_, h2⟩ | ⟨h1, rfl | ⟨h2, _⟩⟩
  ·exact (h.ok s ((dropD_mem s).1 h2).1).mono
  ·rw [look_drop hn hne] at h1 ⊢
   refine ⟨hi, hk, unionD_normal _ _, normD_ranged (by rw [rangedB_app, a1, b1]; rfl), h1, ?_⟩
   have := normD_len (lookD l into k ++ lookD l f k)
   rw [List.length_append] at this
   show (normD _).length ≤ _
   rw [Nat.pow_succ]; omega
  ·exact (h.ok s ((dropD_mem s).1 h2).1).mono
 ·rw [view_addP hnd, view_drop hn, view_drop hn]
  have hm : memS (lookD l f k) t = V f k t := h.see f k t
  rw [hm]
  unfold stepV
  by_cases hk' : k' = k
  ·subst hk'
   simp only [ne_eq, hne, not_false_eq_true, and_self, if_true, Prod.mk.injEq, and_true]
   by_cases hg : g = into
   ·subst hg
    simp [Ne.symm hne, h.see]
   ·by_cases hgf : g = f
    ·subst hgf; simp [hg]
    ·simp [hg, hgf, h.see]
  ·simp [hk', h.see]
 ·have h1 : (dropD l f k).length ≤ l.length := List.length_filter_le _ _
  have h2 : (addP (dropD l f k) into k (lookD l f k)).length ≤ (dropD l f k).length + 1 := by
   unfold addP putD
   split
   ·omega
   ·split <;> simp
  have := h.cnt
  omega
theorem InvL.skip {n : Nat} {V : Int → Int → Int → Bool} {l : List Se} (h : InvL n V l) {into k : Int} : InvL (n + 1) (stepV into into k V) l := by
 refine ⟨fun s hs => (h.ok s hs).mono, fun g k' t => ?_, by have := h.cnt; omega⟩
 unfold stepV
 rw [if_neg fun e => e.2 rfl]
 exact h.see g k' t
def stepJ (keep gone into : Int) (V : Int → Int → Int → Bool) (i : Nat) : Nat → Int → Int → Int → Bool
 | 0 => stepN keep gone into V i
 | 1 => stepV into keep (1 + i) (stepN keep gone into V i)
 | _ => stepN keep gone into V (i + 1)
def frJ (keep gone : Int) (j : Nat) : Int := if j = 0 then keep else gone
theorem stepJ_succ {keep gone into : Int} {V : Int → Int → Int → Bool} {i j : Nat} (hj : j < 2) : stepJ keep gone into V i (j + 1) = stepV into (frJ keep gone j) (1 + i) (stepJ keep gone into V i j) := by
 match j, hj with
 | 0, _ => rfl
 | 1, _ => rfl
theorem final_view {l : List Se} {keep gone into : Int} (hn : (l.map seKey).Nodup) (hg : ∀ s ∈ l, 1 ≤ s.grain ∧ s.grain ≤ 4) (h1 : gone ≠ into) (h2 : keep ≠ gone) (g k t : Int) :
  stepN keep gone into (view l) 4 g k t = anyV (l.map (setG' (map1 keep gone into))) g k t := by
 by_cases hk : 1 ≤ k ∧ k ≤ 4
 ·rw [stepN_at h1 h2 4 ⟨(k - 1).toNat, by omega, by omega⟩, anyV_map1]
  simp only [view_any hn]
 ·rw [stepN_ne 4 fun i hi => by omega, view_any hn]
  have e : ∀ (m : Int → Int), anyV (l.map (setG' m)) g k t = false := fun m => by
   rw [anyV_map, List.any_eq_false]
   intro s hs
   have := hg s hs
   have : ¬ (m s.group = g ∧ s.grain = k) := fun e => by omega
   simp [this]
  rw [e]
  unfold anyV
  rw [List.any_eq_false]
  intro s hs
  have := hg s hs
  have : ¬ (seKey s = (g, k)) := fun e => by
   unfold seKey at e
   simp only [Prod.mk.injEq] at e
   omega
  simp [this]
theorem map1_gone {keep gone into g : Int} (h1 : gone ≠ into) : map1 keep gone into g ≠ gone := by
 unfold map1
 split
 ·exact fun e => h1 e.symm
 ·rename_i h; exact fun e => h (.inr e)
theorem InvL.full {n : Nat} {V : Int → Int → Int → Bool} {l : List Se} (h : InvL n V l) : Full l := fun s hs => ⟨(h.ok s hs).nor, (h.ok s hs).ne⟩
theorem InvL.gone {V : Int → Int → Int → Bool} {l : List Se} {n : Nat} {keep gone into : Int} (h : InvL n (stepN keep gone into V 4) l) (hn : (l.map seKey).Nodup) (h1 : gone ≠ into) (h2 : keep ≠ gone) : ∀ s ∈ l, s.group ≠ gone := fun s hs e => by
 have hk := (h.ok s hs).grain
 refine view_none hn h.full (g := gone) (k := s.grain) (fun t => ?_) s hs (by unfold seKey; rw [e])
 rw [h.see, stepN_at h1 h2 4 ⟨(s.grain - 1).toNat, by omega, by omega⟩, if_neg h1, if_pos (.inr rfl)]
theorem alias_spent {l q ps : List Se} {keep gone into : Int} {n : Nat} (hl : (l.map seKey).Nodup) (hg : ∀ s ∈ l, 1 ≤ s.grain ∧ s.grain ≤ 4) (h1 : gone ≠ into) (h2 : keep ≠ gone) (hn : (ps.map seKey).Nodup) (hI : InvL n (stepN keep gone into (view l) 4) ps) (hq : q.Pairwise keyLt)
  (hp : (gone < 0 ∧ q.Perm ps) ∨ (0 ≤ gone ∧ q.Perm (ps.map (upS gone)))) : q = canon (l.map fun s => ⟨if 0 ≤ gone then upG gone (map1 keep gone into s.group) else map1 keep gone into s.group, s.grain, s.cells⟩) := by
 refine view_ext hq (canon_sorted _) ?_ (canon_full _) fun g k t => ?_
 ·rcases hp with ⟨_, hp⟩ | ⟨_, hp⟩
  ·exact fun s hs => hI.full s (hp.mem_iff.1 hs)
  ·intro s hs
   obtain ⟨x, hx, rfl⟩ := List.mem_map.1 (hp.mem_iff.1 hs)
   exact hI.full x hx
 ·rw [canon_view]
  rcases hp with ⟨h0, hp⟩ | ⟨h0, hp⟩
  ·rw [view_perm hn hp, hI.see, final_view hl hg h1 h2]
   simp only [show ¬ 0 ≤ gone by omega, if_false]
   rfl
  ·have hno := hI.gone hn h1 h2
   have hqn : (q.map seKey).Nodup := sorted_nodup hq
   rw [view_any hqn]
   have e1 : anyV q g k t = anyV (ps.map (upS gone)) g k t := by
    unfold anyV
    rw [Bool.eq_iff_iff, List.any_eq_true, List.any_eq_true]
    exact ⟨fun ⟨x, hx, h⟩ => ⟨x, hp.mem_iff.1 hx, h⟩, fun ⟨x, hx, h⟩ => ⟨x, hp.mem_iff.2 hx, h⟩⟩
   have e2 : (l.map fun s => (⟨if 0 ≤ gone then upG gone (map1 keep gone into s.group) else map1 keep gone into s.group, s.grain, s.cells⟩ : Se)) = (l.map (setG' (map1 keep gone into))).map (upS gone) := by
    rw [List.map_map]
    refine List.map_congr_left fun s _ => ?_
    rw [if_pos h0]; rfl
   rw [e1, anyV_up hno, e2, anyV_up fun s hs => ?_, ← view_any hn, hI.see, final_view hl hg h1 h2]
   obtain ⟨x, _, rfl⟩ := List.mem_map.1 hs
   exact map1_gone h1
end Go.Proofs.YtclkibjonbhldaaGreatDoor
namespace Go.Proofs.YtclkibjonbhldaaGreatDoor
set_option linter.unusedSimpArgs false
set_option linter.unusedVariables false
open Go.Proofs.YtclkibjonbhldaaGreatDoor.Vc
theorem vlendG {P : PG} {b : Bool} {xs : List SV} {m : Bool} {f : FuncId} {args : List Operand} {s : St} {k : SV → St → Prop} {t : Tok k}
  (h : ∀ β κ R', LendR s β κ R' → ∃ Post, CallsR P.P f (xs.map (den β κ)) R' Post ∧ ∀ R'' v R3, RO.le R' R'' → Post R'' v → RO.le s.R R3 → (∀ a u, R'' a u → Fresh R' a.block → R3 a u) → k (.val v) ⟨s.env, s.blk, R3⟩) : CallT P b xs m f args s k t := by
 unfold CallT
 split
 ·exact .inr (.inr (.inl h))
 ·exact .inr (.inl h)
theorem gsV {s : St} {β κ : Nat → Nat} {R' : RO} {j T : Nat} {hs : List Value} (hL : LendR s β κ R') (hj : s.blk[j]? = some (gb T 1 hs)) (hl : hs.length ≤ 1000000000) : ∃ a cap, den β κ (gs j hs.length) = .slice a hs.length cap ∧ EncV (fun x : Value => [x]) 1 R' (.slice a hs.length cap) hs := by
 by_cases h : hs.length = 0
 ·rw [h]
  have h0 : hs = [] := List.eq_nil_of_length_eq_zero h
  subst h0
  exact ⟨none, 0, rfl, EncV.nil _ _ _⟩
 ·rw [gs_pos h]
  rw [gb_ne (show hs ≠ [] from fun e => h (by rw [e]; rfl))] at hj
  obtain ⟨h1, h2⟩ := hL.2 j _ hj
  exact ⟨_, _, rfl, rowV h1 h2 hl⟩
def AliasV (R : RO) (r : Value) (b : Bu) (p q : Int) (ok : Bool) : Prop :=
 if ok = true ∧ personB p = true ∧ personB q = true then ∃ bv, r = .tuple #[bv, .int .i64 0] ∧ BuV R bv (aliasB b p q) else r = .tuple #[zeroBu, .int .i64 1]
theorem rowX {R : RO} {b cap : Nat} {hs ex : List Value} (h : RowIn R b (hs ++ ex)) (hc : (hs ++ ex).length ≤ cap * 1) (hl : hs.length ≤ 1000000000) : EncV (fun x : Value => [x]) 1 R (.slice (some ⟨b, 0, none⟩) hs.length cap) hs :=
 rowV (fun i v hi => h i v (by rw [List.getElem?_append_left (List.getElem?_eq_some_iff.1 hi).1]; exact hi)) (by rw [List.length_append] at hc; omega) hl
theorem HsV.push {R : RO} {hs : List Value} {gs : List (List Int)} (h : HsV R hs gs) {v : Value} {x : List Int} (hv : IntV R v x) : HsV R (hs ++ [v]) (gs ++ [x]) := by
 have hl := h.len
 refine ⟨by simp [hl], fun i h1 h2 => ?_⟩
 by_cases hi : i < hs.length
 ·rw [List.getElem_append_left hi, List.getElem_append_left (by omega)]
  exact h.val i hi (by omega)
 ·rw [List.length_append, List.length_singleton] at h1
  obtain rfl : i = hs.length := by omega
  rw [List.getElem_append_right (by omega), List.getElem_append_right (by omega)]
  simpa using hv
theorem HsV.set {R : RO} {hs : List Value} {gs : List (List Int)} (h : HsV R hs gs) (j : Nat) {v : Value} {x : List Int} (hv : IntV R v x) : HsV R (hs.set j v) (gs.set j x) := by
 refine ⟨by simp [h.len], fun i h1 h2 => ?_⟩
 rw [List.length_set] at h1 h2
 rw [List.getElem_set, List.getElem_set]
 split
 ·exact hv
 ·exact h.val i h1 h2
theorem HsV.erase {R : RO} {hs : List Value} {gs : List (List Int)} (h : HsV R hs gs) (j : Nat) : HsV R (hs.eraseIdx j) (gs.eraseIdx j) := by
 have hl := h.len
 refine ⟨by rw [List.length_eraseIdx, List.length_eraseIdx, hl], fun i h1 h2 => ?_⟩
 rw [List.length_eraseIdx] at h1 h2
 rw [List.getElem_eraseIdx, List.getElem_eraseIdx]
 split
 ·exact h.val i (by split at h1 <;> omega) (by split at h2 <;> omega)
 ·exact h.val (i + 1) (by split at h1 <;> omega) (by split at h2 <;> omega)
theorem seqA {P : PG} {a b c : VCode} {s : St} {kn : St → Prop} {ke : Nat → St → Prop} {kr : St → Prop} {tn : Tok kn} {te : Tok ke} {tr : Tok kr} (h : CodeT P (.seq (.seq a b) c) s kn ke kr .mk .mk .mk) : CodeT P (.seq a (.seq b c)) s kn ke kr tn te tr := h
theorem inc_len {l : List Int} (h : Inc l) (hp : ∀ p ∈ l, personB p = true) : l.length ≤ 512 := by
 have hn : (l.map Int.toNat).Nodup := by
  refine List.pairwise_map.2 ?_
  have h1 : l.Pairwise fun a b => a ∈ l ∧ b ∈ l ∧ a < b := List.pairwise_iff_getElem.2 fun i j hi hj hij => ⟨List.getElem_mem hi, List.getElem_mem hj, h.get_lt hij hj⟩
  refine h1.imp fun {a b} hab e => ?_
  have h2 := hp a hab.1
  have h3 := hp b hab.2.1
  unfold personB at h2 h3
  simp only [Bool.and_eq_true, decide_eq_true_eq] at h2 h3
  omega
 have := nodup_len hn (b := List.range 512) fun x hx => by
  obtain ⟨p, hp', rfl⟩ := List.mem_map.1 hx
  have h2 := hp p hp'
  unfold personB at h2
  simp only [Bool.and_eq_true, decide_eq_true_eq] at h2
  exact List.mem_range.2 (by omega)
 simpa using this
theorem membersD_len {gs : List (List Int)} (h : ValidG gs) {g : Int} (hg : g < gs.length) : 1 ≤ (membersD gs g).length ∧ (membersD gs g).length ≤ 512 := by
 unfold membersD
 split
 ·simp
 ·rename_i hn
  have hlt : g.toNat < gs.length := by omega
  rw [List.getD_eq_getElem?_getD, List.getElem?_eq_getElem hlt]
  have hO := h.all g.toNat hlt
  refine ⟨?_, inc_len hO.inc fun p hp => (hO.mem p hp).1⟩
  show 1 ≤ gs[g.toNat].length
  have := hO.ne
  rcases Nat.eq_zero_or_pos gs[g.toNat].length with h0 | h0
  ·exact absurd (List.eq_nil_of_length_eq_zero h0) this
  ·exact h0
def gs2D (gs : List (List Int)) (keep gone : Int) : List (List Int) := if keep < 0 then gs ++ [sortI (membersD gs keep ++ membersD gs gone)] else gs.set keep.toNat (sortI (membersD gs keep ++ membersD gs gone))
def AlQ3 (b : Bu) (gv sv : Value) (ps : List Le) (c : Nat) (R R17 : RO) (keep gone : Int) (s : St) : Prop :=
 ∃ env bk jg hs2 R18, s = ⟨env, bk, R18⟩ ∧ RO.le R17 R18 ∧ bk[0]? = some (.box [.val (.int .i64 b.limit), .val gv, .val sv]) ∧ bk[1]? = some (.box [.val (.int .i64 0), .val (.slice none 0 0), .val (.slice none 0 0)]) ∧ bk[4]? = some (.mp (ents ps) c) ∧
  bk[jg]? = some (.row 64 1 hs2) ∧ (jg = 2 ∨ jg = 8) ∧ env 3 = .loc 0 0 ∧ env 6 = .loc 1 0 ∧ env 8 = .sl jg hs2.length ∧ env 9 = .mp 4 ∧ env 10 = .val (.int .i64 keep) ∧ env 11 = .val (.int .i64 gone) ∧ env 13 = .val (.int .i64 (intoG b.groups keep)) ∧
  HsV (newR R R18) hs2 (gs2D b.groups keep gone)
def AlQ (b : Bu) (gv sv : Value) (hs0 : List Value) (ps : List Le) (c : Nat) (R : RO) (x y : Int) (s : St) : Prop :=
 ∃ env z, s = ⟨env, [.box [.val (.int .i64 b.limit), .val gv, .val sv], .box [.val (.int .i64 0), .val (.slice none 0 0), .val (.slice none 0 0)], gb 64 1 hs0, z, .mp (ents ps) c], R⟩ ∧
  env 3 = .loc 0 0 ∧ env 6 = .loc 1 0 ∧ env 8 = gs 2 hs0.length ∧ env 9 = .mp 4 ∧ env 10 = .val (.int .i64 x) ∧ env 11 = .val (.int .i64 y)
set_option maxHeartbeats 4000000 in
theorem bAlias (b : Bu) (hr : RawB b) (p q : Int) (v : Value) (R : RO) (hz : SzR R) (h : BuV R v b) : CallsR Tryz.prog 18 [v, .int .i64 p, .int .i64 q] R fun R' r => AliasV (newR R R') r b p q (okB b) := by
 have hV := fun R' hle => bValid b hr v R' (SzR.mono (R' := R') hz hle) (BuV.mono (R' := R') h hle)
 have hO := fun hk R' hle => bOpen b hk v R' (BuV.mono (R' := R') h hle)
 obtain ⟨gv, sv, rfl, hg, hs⟩ := h
 obtain ⟨hgl, -⟩ := hg.form
 refine callsT mix Tryz.func18 comp18 (by simp [Tryz.ntmps18]) ?_; simp only [go_sem, ↓reduceIte, nQ1, nQ2, nQ3, nQ4, nQ5, nQ6, reduceCtorEq, vc18, rs18]
 refine vcall (hV R (RO.le_refl _)) ?_
 rintro R1 r hle1 rfl
 try simp only [go_sem, ↓reduceIte, nQ1, nQ2, nQ3, nQ4, nQ5, nQ6, reduceCtorEq]
 have hno : ∀ R' : RO, ¬ (okB b = true ∧ personB p = true ∧ personB q = true) → AliasV (newR R R') (.tuple #[zeroBu, .int .i64 1]) b p q (okB b) := fun R' hn => by unfold AliasV; rw [if_neg hn]
 refine ⟨fun h1 => ?_, fun h1 => hno _ fun hh => by rw [hh.1] at h1; cases h1⟩
 refine vcall (bPerson p R1) ?_
 rintro R2 r hle2 rfl
 try simp only [go_sem, ↓reduceIte, nQ1, nQ2, nQ3, nQ4, nQ5, nQ6, reduceCtorEq]
 refine ⟨fun h2 => ?_, fun h2 => hno _ fun hh => by rw [hh.2.1] at h2; cases h2⟩
 refine vcall (bPerson q R2) ?_
 rintro R3 r hle3 rfl
 try simp only [go_sem, ↓reduceIte, nQ1, nQ2, nQ3, nQ4, nQ5, nQ6, reduceCtorEq]
 refine ⟨fun h3 => hno _ fun hh => (by rw [hh.2.2] at h3; cases h3), fun h3 => ?_⟩
 have hB := okB_iff.1 h1
 have hle13 := RO.le_trans hle1 (RO.le_trans hle2 hle3)
 refine vhandE (bCloned b.groups gv R3 (hg.mono hle13)) rfl ?_
 rintro R4 bs r hle4 ⟨hs0, rfl, rfl, hH⟩
 simp only [go_sem, ↓reduceIte, nQ1, nQ2, nQ3, nQ4, nQ5, nQ6, reduceCtorEq, renB_gb, ren_gs]
 have hle14 := RO.le_trans hle13 hle4
 refine vhandE (hO hB.keys R4 hle14) rfl ?_
 rintro R5 bs r hle5 ⟨rfl, ps, c, cs, rfl, rfl, hL, hps⟩
 simp only [go_sem, ↓reduceIte, nQ1, nQ2, nQ3, nQ4, nQ5, nQ6, reduceCtorEq, renB_gb, ren_gs]
 have e0 : (List.range' 2 1).getD 0 0 = 2 := rfl
 have e1 : (List.range' 3 2).getD 1 1 = 4 := rfl
 rw [e0]
 have hle15 := hle14
 have hHl := hH.len
 have hN : ∀ R' : RO, RO.le R5 R' → HsV R' hs0 b.groups := fun R' hle => hH.mono (RO.le_trans newR_le hle)
 have hcall : ∀ (x : Int) (hx : personB x = true) (R' : RO) (a : Option Addr) (cap : Nat), RO.le R5 R' → EncV (fun x : Value => [x]) 1 R' (.slice a hs0.length cap) hs0 → CallsR Tryz.prog 43 [.slice a hs0.length cap, .int .i64 x] R' fun _ r => r = .int .i64 (grpOf b.groups x) := fun x hx R' a cap hle hv => bGroupOf b.groups x (personB_bd hx) _ R' ((hN R' hle).gv hv)
 refine vlendG ?_
 intro β κ R6 hL6
 obtain ⟨a6, cap6, e6, hv6⟩ := gsV (j := 2) (hs := hs0) hL6 rfl (by omega)
 refine ⟨_, (by rw [List.map_cons, List.map_cons, List.map_nil, e6]; exact hcall p h2 R6 a6 cap6 hL6.1 hv6), ?_⟩
 rintro R7 r R8 hle7 rfl hle8 -
 try simp only [go_sem, ↓reduceIte, nQ1, nQ2, nQ3, nQ4, nQ5, nQ6, reduceCtorEq, e0, e1]
 refine vlendG ?_
 intro β' κ' R9 hL9
 obtain ⟨a9, cap9, e9, hv9⟩ := gsV (j := 2) (hs := hs0) hL9 rfl (by omega)
 have hle58 : RO.le R5 R8 := hle8
 refine ⟨_, (by rw [List.map_cons, List.map_cons, List.map_nil, e9]; exact hcall q h3 R9 a9 cap9 (RO.le_trans hle58 hL9.1) hv9), ?_⟩
 rintro R10 r R11 hle10 rfl hle11 -
 have hle5b := RO.le_trans hle58 hle11
 have fin : ∀ (R9 : RO) (gv' sv' : Value) (B : Bu), aliasB b p q = B → GV (newR R R9) gv' B.groups → SpentV (newR R R9) sv' B.spent → AliasV (newR R R9) (.tuple #[.agg #[.int .i64 B.limit, gv', sv'], .int .i64 0]) b p q (okB b) := fun R9 gv' sv' B hBe hg' hs' => by
  unfold AliasV
  rw [if_pos ⟨h1, h2, h3⟩, hBe]
  exact ⟨_, rfl, _, _, rfl, hg', hs'⟩
 have hpl : ps.length ≤ 1000 := by
  have := congrArg List.length hps
  rw [List.length_map] at this
  have := hr.len
  omega
 (refine cutS (fun s' => s' = ?_) ?_ ?_; rotate_left; (try simp only [go_sem, ↓reduceIte, nQ1, nQ2, nQ3, nQ4, nQ5, nQ6, reduceCtorEq, e0, e1]; rfl); rintro _ rfl)
 rw [tCode_seq]
 refine cutT (fun s' => grpOf b.groups p ≠ grpOf b.groups q ∧ AlQ b gv sv hs0 ps c R11 (grpOf b.groups p) (grpOf b.groups q) s') ?_ ?_
 ·try simp only [go_sem, ↓reduceIte, nQ1, nQ2, nQ3, nQ4, nQ5, nQ6, reduceCtorEq, e0, e1]
  refine ⟨fun heq => ?_, fun hne => ⟨hne, _, _, rfl, rfl, rfl, rfl, rfl, rfl, rfl⟩⟩
  have hBe : aliasB b p q = b := by unfold aliasB; rw [if_pos heq]
  refine vshow [4] [.mp 0] [.mp (ents ps) c] (bClose ps c R11 (hL.mono hle5b) (by omega)) rfl rfl rfl ?_ (by simp) rfl rfl (fun R' bs' r h => by obtain ⟨b1, qs, rfl, _⟩ := h; rfl) ?_
  {try simp only [go_sem, ↓reduceIte, nQ1, nQ2, nQ3, nQ4, nQ5, nQ6, reduceCtorEq]
   rfl }
  rintro R12 bs r hle12 ⟨b1, qs, rfl, rfl, hq1, hq2, hq3⟩ _
  simp only [go_sem, ↓reduceIte, nQ1, nQ2, nQ3, nQ4, nQ5, nQ6, reduceCtorEq, renB_gb, setG, rn, ren_gs]
  have hsp : qs.map (·.1) = b.spent := sorted_ext hq2 hB.ord fun s => by rw [hq1.mem_iff, hps]
  have hr3 : (List.range' 5 (3 - 1)).getD 1 2 = 6 := rfl
  have hql : qs.length ≤ 1000000 := by
   have h3 := hq1.length_eq
   rw [List.length_map, List.length_map] at h3
   omega
  have hqne : qs.length ≠ 0 → rowP qs ≠ [] := fun h e => by
   have := rowP_len qs
   rw [e] at this
   simp at this
   omega
  have hgnil : hs0.length = 0 → b.groups = [] := fun h => List.eq_nil_of_length_eq_zero (by omega)
  have hsnil : qs.length = 0 → b.spent = [] := fun h => by rw [← hsp, List.eq_nil_of_length_eq_zero h]; rfl
  have hle012 : RO.le R R12 := RO.le_trans hle14 (RO.le_trans hle5b hle12)
  have hle011 : RO.le R R11 := RO.le_trans hle14 hle5b
  have hGs : ∀ (R13 : RO) b2 cap2, RO.le R12 R13 → RowIn R13 b2 hs0 → hs0.length ≤ cap2 → Fresh R12 b2 → ∀ R14, RO.le R13 R14 → GV (newR R R14) (.slice (some ⟨b2, 0, none⟩) hs0.length cap2) b.groups := fun R13 b2 cap2 hle13' hrow hcap hfr R14 hle14' =>
   (hH.mono (fun a u hn => ⟨hle14' _ _ (hle13' _ _ (hle12 _ _ (hle5b _ _ hn.1))), (newR_sub hle13 _ _ hn).2⟩)).gv (rowV (fun i v hi => newR_mono hle14' _ _ ((hrow.new hfr hle012) i v hi)) (by omega) (by omega))
  have hSs : ∀ (R13 : RO) b2 cap2, RO.le R12 R13 → RowIn R13 b2 (rowP qs) → (rowP qs).length ≤ cap2 * 3 → Fresh R12 b2 → SpentV (newR R R13) (.slice (some ⟨b2, 0, none⟩) qs.length cap2) b.spent := fun R13 b2 cap2 hle13' hrow hcap hfr =>
   SpentV.of (RowIn.enc (enc := Pe.cells) (k := 3) (fun _ => rfl) (by omega) (hrow.new hfr hle012) hcap (by omega)) hsp fun q hq => (hq3 q hq).mono fun a u hn => ⟨hle13' _ _ hn.1, (newR_sub hle011 _ _ hn).2⟩
  refine leaf_gs (fun h0 => ?_) (fun h0 => ?_)
  ·have hg0 := hgnil h0
   try simp only [go_sem, ↓reduceIte, nQ1, nQ2, nQ3, nQ4, nQ5, nQ6, reduceCtorEq]
   refine leaf_gs (fun h3 => ?_) (fun h3 => ?_)
   ·try simp only [go_sem, ↓reduceIte, nQ1, nQ2, nQ3, nQ4, nQ5, nQ6, reduceCtorEq]
    refine fin R12 _ _ b hBe ?_ ?_
    ·rw [hg0]; exact GV.nil _
    ·rw [hsnil h3]; exact SpentV.nil _
   ·rw [gb_ne (hqne h3)]
    simp only [go_sem, ↓reduceIte, nQ1, nQ2, nQ3, nQ4, nQ5, nQ6, reduceCtorEq, hr3]
    intro b2 cap2 R9 hle9 hrow hcap hfr
    try simp only [go_sem, ↓reduceIte, nQ1, nQ2, nQ3, nQ4, nQ5, nQ6, reduceCtorEq]
    refine fin R9 _ _ b hBe ?_ ?_
    ·rw [hg0]; exact GV.nil _
    ·exact hSs R9 b2 cap2 hle9 hrow hcap hfr
  ·rw [gb_ne (show hs0 ≠ [] from fun e => h0 (by rw [e]; rfl))]
   simp only [go_sem, ↓reduceIte, nQ1, nQ2, nQ3, nQ4, nQ5, nQ6, reduceCtorEq, hr3]
   intro b2 cap2 R9 hle9 hrow hcap hfr
   try simp only [go_sem, ↓reduceIte, nQ1, nQ2, nQ3, nQ4, nQ5, nQ6, reduceCtorEq, hr3]
   refine leaf_gs (fun h3 => ?_) (fun h3 => ?_)
   ·try simp only [go_sem, ↓reduceIte, nQ1, nQ2, nQ3, nQ4, nQ5, nQ6, reduceCtorEq]
    refine fin R9 _ _ b hBe (hGs R9 b2 cap2 hle9 hrow hcap hfr R9 (RO.le_refl _)) ?_
    rw [hsnil h3]; exact SpentV.nil _
   ·rw [gb_ne (hqne h3)]
    simp only [go_sem, ↓reduceIte, nQ1, nQ2, nQ3, nQ4, nQ5, nQ6, reduceCtorEq, hr3]
    intro b3 cap3 R10 hle10 hrow3 hcap3 hfr3
    try simp only [go_sem, ↓reduceIte, nQ1, nQ2, nQ3, nQ4, nQ5, nQ6, reduceCtorEq]
    exact fin R10 _ _ b hBe (hGs R9 b2 cap2 hle9 hrow hcap hfr R10 hle10) (hSs R10 b3 cap3 (RO.le_trans hle9 hle10) hrow3 hcap3 fun a u hx => hfr3 a u (hle9 _ _ hx))
 rintro s' ⟨hne, env, z, rfl, e3, e6, e8, e9, e10, e11⟩
 have hKG := kg_of h2 h3 hne
 rw [tCode_seq]
 refine cutT (AlQ b gv sv hs0 ps c R11 (keepG b.groups p q) (goneG b.groups p q)) ?_ ?_
 ·try simp only [go_sem, ↓reduceIte, nQ1, nQ2, nQ3, nQ4, nQ5, nQ6, reduceCtorEq, e3, e6, e8, e9, e10, e11]
  have hsw : ∀ {x y : Int}, x = keepG b.groups p q → y = goneG b.groups p q → SV.val (.int .i64 x) = SV.val (.int .i64 (keepG b.groups p q)) ∧ SV.val (.int .i64 y) = SV.val (.int .i64 (goneG b.groups p q)) := fun h1 h2 => by rw [h1, h2]; exact ⟨rfl, rfl⟩
  have hpos : (grpOf b.groups p < 0 ∨ (0 ≤ grpOf b.groups q ∧ grpOf b.groups q < grpOf b.groups p)) → keepG b.groups p q = grpOf b.groups q ∧ goneG b.groups p q = grpOf b.groups p := fun h => by unfold keepG goneG; rw [if_pos h, if_pos h]; exact ⟨rfl, rfl⟩
  have hneg : ¬ (grpOf b.groups p < 0 ∨ (0 ≤ grpOf b.groups q ∧ grpOf b.groups q < grpOf b.groups p)) → keepG b.groups p q = grpOf b.groups p ∧ goneG b.groups p q = grpOf b.groups q := fun h => by unfold keepG goneG; rw [if_neg h, if_neg h]; exact ⟨rfl, rfl⟩
  refine ⟨fun a1 => ⟨fun a2 => ⟨fun a3 => ?_, fun a3 => ?_⟩, fun a2 => ?_⟩, fun a1 => ?_⟩
  ·obtain ⟨u1, u2⟩ := hpos (by omega)
   refine ⟨_, _, rfl, ?_⟩
   try simp only [go_sem, ↓reduceIte, nQ1, nQ2, nQ3, nQ4, nQ5, nQ6, reduceCtorEq, e3, e6, e8, e9, e10, e11]
   rw [u1, u2]; exact ⟨rfl, rfl⟩
  ·obtain ⟨u1, u2⟩ := hneg (by omega)
   refine ⟨_, _, rfl, ?_⟩
   try simp only [go_sem, ↓reduceIte, nQ1, nQ2, nQ3, nQ4, nQ5, nQ6, reduceCtorEq, e3, e6, e8, e9, e10, e11]
   rw [u1, u2]; exact ⟨rfl, rfl⟩
  ·obtain ⟨u1, u2⟩ := hneg (by omega)
   refine ⟨_, _, rfl, ?_⟩
   try simp only [go_sem, ↓reduceIte, nQ1, nQ2, nQ3, nQ4, nQ5, nQ6, reduceCtorEq, e3, e6, e8, e9, e10, e11]
   rw [u1, u2]; exact ⟨rfl, rfl⟩
  ·obtain ⟨u1, u2⟩ := hpos (by omega)
   refine ⟨_, _, rfl, ?_⟩
   try simp only [go_sem, ↓reduceIte, nQ1, nQ2, nQ3, nQ4, nQ5, nQ6, reduceCtorEq, e3, e6, e8, e9, e10, e11]
   rw [u1, u2]; exact ⟨rfl, rfl⟩
 obtain ⟨keep, hkeep⟩ : ∃ x, x = keepG b.groups p q := ⟨_, rfl⟩
 obtain ⟨gone, hgone⟩ : ∃ x, x = goneG b.groups p q := ⟨_, rfl⟩
 rw [← hkeep, ← hgone] at hKG ⊢
 rintro s' ⟨env, z, rfl, e3, e6, e8, e9, e10, e11⟩
 have hmem : ∀ (x : Int) (hx : x < b.groups.length) (hlo : -1000000 ≤ x) (R' : RO) (a : Option Addr) (cap : Nat), RO.le R5 R' → EncV (fun x : Value => [x]) 1 R' (.slice a hs0.length cap) hs0 → CallsR Tryz.prog 46 [.slice a hs0.length cap, .int .i64 x] R' fun R'' r => (0 ≤ x → some r = hs0[x.toNat]?) ∧ (x < 0 → IntV (newR R' R'') r [-1 - x]) := fun x hx hlo R' a cap hle hv => bMembers b.groups hs0 x hx hlo a cap R' (hN R' hle) hv
 -- what members hands back can be read
 have hmv : ∀ (x : Int) (hx : x < b.groups.length) (r : Value) (R' R'' R3 : RO), RO.le R5 R3 → RO.le (newR R' R'') R3 → (0 ≤ x → some r = hs0[x.toNat]?) ∧ (x < 0 → IntV (newR R' R'') r [-1 - x]) → IntV R3 r (membersD b.groups x) := fun x hx r R' R'' R3 hle hn ⟨g1, g2⟩ => by
  unfold membersD
  split
  ·rename_i h; exact (g2 h).mono hn
  ·rename_i h
   have hlt : x.toNat < hs0.length := by omega
   have hlt' : x.toNat < b.groups.length := by omega
   have := g1 (by omega)
   rw [List.getElem?_eq_getElem hlt, Option.some.injEq] at this
   rw [this, List.getD_eq_getElem?_getD, List.getElem?_eq_getElem hlt']
   exact (hN R3 hle).val x.toNat hlt hlt'
 try simp only [go_sem, ↓reduceIte, nQ1, nQ2, nQ3, nQ4, nQ5, nQ6, reduceCtorEq, e3, e6, e8, e9, e10, e11]
 refine vlendG ?_
 intro β κ R12 hL12
 obtain ⟨a12, cap12, e12, hv12⟩ := gsV (j := 2) (hs := hs0) hL12 rfl (by omega)
 refine ⟨_, (by rw [List.map_cons, List.map_cons, List.map_nil, e12]; exact hmem keep hKG.hi.1 hKG.lo.1 R12 a12 cap12 (RO.le_trans hle5b hL12.1) hv12), ?_⟩
 intro R13 v1 R14 hle13' hpost1 hle14' hnew1
 have hv1 := hmv keep hKG.hi.1 v1 R12 R13 R14 (RO.le_trans hle5b hle14') (fun a u hn => hnew1 a u hn.1 hn.2) hpost1
 try simp only [go_sem, ↓reduceIte, nQ1, nQ2, nQ3, nQ4, nQ5, nQ6, reduceCtorEq, e3, e6, e8, e9, e10, e11]
 refine vlendG ?_
 intro β2 κ2 R15 hL15
 obtain ⟨a15, cap15, e15, hv15⟩ := gsV (j := 2) (hs := hs0) hL15 rfl (by omega)
 refine ⟨_, (by rw [List.map_cons, List.map_cons, List.map_nil, e15]; exact hmem gone hKG.hi.2 hKG.lo.2 R15 a15 cap15 (RO.le_trans (RO.le_trans hle5b hle14') hL15.1) hv15), ?_⟩
 intro R16 v2 R17 hle16' hpost2 hle17' hnew2
 have hv2 := hmv gone hKG.hi.2 v2 R15 R16 R17 (RO.le_trans (RO.le_trans hle5b hle14') hle17') (fun a u hn => hnew2 a u hn.1 hn.2) hpost2
 have hv1' := hv1.mono hle17'
 have hml1 := membersD_len hB.groups hKG.hi.1
 have hml2 := membersD_len hB.groups hKG.hi.2
 obtain ⟨m1, hm1⟩ : ∃ m, m = membersD b.groups keep := ⟨_, rfl⟩
 obtain ⟨m2, hm2⟩ : ∃ m, m = membersD b.groups gone := ⟨_, rfl⟩
 rw [← hm1] at hml1 hv1'
 rw [← hm2] at hml2 hv2
 obtain ⟨va1, vc1, rfl, -, -⟩ := EncV.form hv1'
 obtain ⟨va2, vc2, rfl, -, -⟩ := EncV.form hv2
 try simp only [go_sem, ↓reduceIte, nQ1, nQ2, nQ3, nQ4, nQ5, nQ6, reduceCtorEq, e3, e6, e8, e9, e10, e11]
 have hHH : HsV R17 [.slice va1 m1.length vc1, .slice va2 m2.length vc2] [m1, m2] := ⟨rfl, fun i h h' => by
  match i, h, h' with
  | 0, _, _ => exact hv1'
  | 1, _, _ => exact hv2⟩
 have hflat : [m1, m2].flatten = m1 ++ m2 := by simp
 have hC := bConcat [.slice va1 m1.length vc1, .slice va2 m2.length vc2] [m1, m2] R17 hHH (by rw [hflat, List.length_append]; omega) (by rw [hflat, List.length_append]; omega) (by simp)
 rw [hflat] at hC
 refine vhand [5] [.sl 0 2] [.row 64 1 [.slice va1 m1.length vc1, .slice va2 m2.length vc2]] hC rfl rfl rfl ?_ (by simp) rfl rfl ?_
 ·try simp only [go_sem, ↓reduceIte, nQ1, nQ2, nQ3, nQ4, nQ5, nQ6, reduceCtorEq]
 rintro R18 bs r hle18 ⟨rfl, b5, rfl, rfl⟩ _
 try simp only [go_sem, ↓reduceIte, nQ1, nQ2, nQ3, nQ4, nQ5, nQ6, reduceCtorEq, setG, rn, e3, e6, e8, e9, e10, e11]
 have hr4 : (5 :: List.range' 6 (2 - 1)).getD 1 1 = 6 := rfl
 refine vhand [6] [.sl 0 (m1 ++ m2).length] [.row 3 1 ((m1 ++ m2).map (.int .i64))] (bSortI (m1 ++ m2) (by rw [List.length_append]; omega) R18) ?_ rfl rfl ?_ (by simp) rfl rfl ?_
 ·rw [List.length_append]; rfl
 ·try simp only [go_sem, ↓reduceIte, nQ1, nQ2, nQ3, nQ4, nQ5, nQ6, reduceCtorEq]
  rfl
 rintro R19 bs r hle19 ⟨rfl, rfl, rfl⟩ _
 (refine cutS (fun s' => s' = ?_) ?_ ?_; rotate_left; (try simp only [go_sem, ↓reduceIte, nQ1, nQ2, nQ3, nQ4, nQ5, nQ6, reduceCtorEq, setG, rn, e3, e6, e8, e9, e10, e11]; rfl); rintro _ rfl)
 refine seqA (seqA ?_)
 rw [tCode_seq]
 refine cutT (AlQ3 b gv sv ps c R R19 keep gone) ?_ ?_
 ·try simp only [go_sem, ↓reduceIte, nQ1, nQ2, nQ3, nQ4, nQ5, nQ6, reduceCtorEq, e3, e6, e8, e9, e10, e11]
  have hsl := List.length_mergeSort (m1 ++ m2) (le := fun x y => decide (x ≤ y))
  have hnew : ∀ (R20 : RO) b2 cap2, RO.le R19 R20 → RowIn R20 b2 ((sortI (m1 ++ m2)).map (.int .i64)) → (sortI (m1 ++ m2)).length ≤ cap2 * 1 → Fresh R19 b2 → IntV (newR R R20) (.slice (some ⟨b2, 0, none⟩) (m1 ++ m2).length cap2) (sortI (m1 ++ m2)) := fun R20 b2 cap2 hle hrow hcap hfr => by
   have h1 : IntV (newR R R20) (.slice (some ⟨b2, 0, none⟩) (sortI (m1 ++ m2)).length cap2) (sortI (m1 ++ m2)) := RowIn.enc (enc := fun x : Int => [Value.int .i64 x]) (k := 1) (fun _ => rfl) (by omega) (by rw [flat1]; exact hrow.new hfr (RO.le_trans hle14 (RO.le_trans hle5b (RO.le_trans hle14' hle17')))) (by rw [flat1, List.length_map]; exact hcap) (by unfold sortI; rw [hsl, List.length_append]; omega)
   have h2 : (sortI (m1 ++ m2)).length = (m1 ++ m2).length := hsl
   rw [h2] at h1
   exact h1
  have hHn : ∀ R20 : RO, RO.le R19 R20 → HsV (newR R R20) hs0 b.groups := fun R20 hle => hH.mono fun a u hn => ⟨hle _ _ (hle17' _ _ (hle14' _ _ (hle5b _ _ hn.1))), (newR_sub hle13 _ _ hn).2⟩
  refine ⟨fun hk0 => ?_, fun hk0 => ?_⟩
  ·refine vgrow hs0 (fun h0 => by rw [gb_ne h0]; rfl) (fun h0 => by rw [h0, gb_nil]; rfl) (by omega) (by omega) (by omega) (by omega) ?_
   try simp only [go_sem, ↓reduceIte, nQ1, nQ2, nQ3, nQ4, nQ5, nQ6, reduceCtorEq, e3, e6, e8, e9, e10, e11]
   have hr5 : (List.range' 6 (2 - 1)).getD 0 1 = 6 := rfl
   refine ⟨by omega, ?_⟩
   try simp only [go_sem, ↓reduceIte, nQ1, nQ2, nQ3, nQ4, nQ5, nQ6, reduceCtorEq, hr5]
   intro b2 cap2 R20 hle20 hrow hcap hfr
   try simp only [go_sem, ↓reduceIte, nQ1, nQ2, nQ3, nQ4, nQ5, nQ6, reduceCtorEq, hr5, e3, e6, e8, e9, e10, e11]
   have hput : putAt hs0.length (hs0 ++ [Value.slice none 0 0]) [Value.slice (some ⟨b2, 0, none⟩) (m1 ++ m2).length cap2] = hs0 ++ [Value.slice (some ⟨b2, 0, none⟩) (m1 ++ m2).length cap2] := by simp [putAt]
   refine ⟨_, _, 8, hs0 ++ [Value.slice (some ⟨b2, 0, none⟩) (m1 ++ m2).length cap2], _, rfl, hle20, ?_⟩
   try simp only [go_sem, ↓reduceIte, nQ1, nQ2, nQ3, nQ4, nQ5, nQ6, reduceCtorEq, hr5, e3, e6, e8, e9, e10, e11]
   rw [← List.length_append]
   refine ⟨by simp, .inr trivial, by unfold intoG; rw [if_pos hk0, hHl], ?_⟩
   unfold gs2D
   rw [if_pos hk0, ← hm1, ← hm2]
   exact (hHn R20 hle20).push (hnew R20 b2 cap2 hle20 hrow (by simpa using hcap) hfr)
  ·have hkh := hKG.hi
   have hrb : ∀ ρ T sz cs, renB ρ (.row T sz cs) = .row T sz cs := fun _ _ _ _ => rfl
   have hgs : gs 2 hs0.length = .sl 2 hs0.length := gs_pos (by omega)
   have hr5 : (List.range' 6 (2 - 1)).getD 0 1 = 6 := rfl
   rw [gb_ne (show hs0 ≠ [] from fun e => by rw [e] at hHl; have := hKG.hi.1; simp at hHl; omega)]
   try simp only [go_sem, ↓reduceIte, nQ1, nQ2, nQ3, nQ4, nQ5, nQ6, reduceCtorEq, hgs, hrb, hr5, e3, e6, e8, e9, e10, e11]
   refine ⟨by omega, by omega, ?_⟩
   intro b2 cap2 R20 hle20 hrow hcap hfr
   try simp only [go_sem, ↓reduceIte, nQ1, nQ2, nQ3, nQ4, nQ5, nQ6, reduceCtorEq, hgs, hrb, hr5, e3, e6, e8, e9, e10, e11]
   refine ⟨by omega, _, _, 2, hs0.set keep.toNat (Value.slice (some ⟨b2, 0, none⟩) (m1 ++ m2).length cap2), _, rfl, hle20, ?_⟩
   try simp only [go_sem, ↓reduceIte, nQ1, nQ2, nQ3, nQ4, nQ5, nQ6, reduceCtorEq, hgs, hrb, hr5, e3, e6, e8, e9, e10, e11]
   rw [← List.length_append]
   refine ⟨by unfold intoG; rw [if_neg hk0], ?_⟩
   unfold gs2D
   rw [if_neg hk0, ← hm1, ← hm2]
   exact (hHn R20 hle20).set keep.toNat (hnew R20 b2 cap2 hle20 hrow (by simpa using hcap) hfr)
 rintro s' ⟨env, bk, jg, hs2, R20, rfl, hle20, hb0, hb1, hb4, hbj, hjg, e3, e6, e8, e9, e10, e11, e13, hH2⟩
 have hinto : keep ≠ intoG b.groups keep ∨ keep = intoG b.groups keep := by omega
 obtain ⟨into, hi0⟩ : ∃ x, x = intoG b.groups keep := ⟨_, rfl⟩
 rw [← hi0] at e13 hinto
 have hgi : gone ≠ into := by
  have h1 := hKG.hi
  have h2 := hKG.ne
  have h3 := hKG.ord
  rw [hi0]
  unfold intoG
  split <;> omega
 have hib : -1000000 ≤ into ∧ into ≤ 1000000 := by
  have h1 := hKG.hi
  have h2 := hKG.lo
  have h3 := hB.groups.len
  rw [hi0]
  unfold intoG
  split <;> omega
 have hle520 : RO.le R5 R20 := RO.le_trans hle5b (RO.le_trans hle14' (RO.le_trans hle17' hle20))
 obtain ⟨V0, hV0⟩ : ∃ V, V = view b.spent := ⟨_, rfl⟩
 have hI0 : InvL 0 (stepJ keep gone into V0 0 0) (ps.map (·.1)) := by
  refine ⟨fun s hs => ?_, fun g k t => ?_, by rw [hps]; exact hr.len⟩
  ·rw [hps] at hs
   have h1 := hB.okC hr s hs
   have h2 := hB.each s hs
   have h3 := hB.groups.len
   have h4 := h2.group
   have h5 := h2.alone
   refine ⟨?_, h1.grain, h1.nor, h1.rng, h1.ne, by have := (hr.spent s hs).len; simpa using this⟩
   rcases Int.lt_or_le s.group 0 with hneg | hpos
   ·have := personB_bd (h5 hneg).1
    have h6 := (h5 hneg).1
    unfold personB at h6
    simp only [Bool.and_eq_true, decide_eq_true_eq] at h6
    omega
   ·omega
  ·rw [hV0, hps]; rfl
 try simp only [go_sem, ↓reduceIte, nQ1, nQ2, nQ3, nQ4, nQ5, nQ6, reduceCtorEq, e3, e6, e8, e9, e10, e11, e13]
 refine vcLoopR (Nat × List Le × Nat) (fun x => [(14, .val (.int .i64 (1 + x.1))), (3, .loc 0 0), (6, .loc 1 0), (8, .sl 2 hs2.length), (9, .mp 3), (10, .val (.int .i64 keep)), (11, .val (.int .i64 gone)), (13, .val (.int .i64 into))])
  (fun x => [.box [.val (.int .i64 b.limit), .val gv, .val sv], .box [.val (.int .i64 0), .val (.slice none 0 0), .val (.slice none 0 0)], .row 64 1 hs2, .mp (ents x.2.1) x.2.2])
  (fun x R' => x.1 ≤ 4 ∧ LedOK R' x.2.1 x.2.2 ∧ InvL (2 * x.1) (stepJ keep gone into V0 x.1 0) (x.2.1.map (·.1))) (fun x => 4 - x.1) (0, ps, c) [0, 1, jg, 4] ?_ ?_ ?_ ?_
 ·try simp only [go_sem, ↓reduceIte, nQ1, nQ2, nQ3, nQ4, nQ5, nQ6, reduceCtorEq, e3, e6, e8, e9, e10, e11, e13]
  exact ⟨rfl, hb0, hb1, hbj, hb4⟩
 ·rcases hjg with rfl | rfl
  ·simp only [go_sem, ↓reduceIte, nQ1, nQ2, nQ3, nQ4, nQ5, nQ6, reduceCtorEq, inScope]
   decide
  ·simp only [go_sem, ↓reduceIte, nQ1, nQ2, nQ3, nQ4, nQ5, nQ6, reduceCtorEq, inScope]
   decide
 ·exact ⟨Nat.zero_le _, hL.mono hle520, hI0⟩
 rintro ⟨i, ps1, c1⟩ env1 R21 hle21 hE ⟨hi, hL1, hI1⟩
 (simp only [go_sem] at hE; obtain ⟨e14, e3', e6', e8', e9', e10', e11', e13'⟩ := hE; simp only [go_sem, ↓reduceIte, nQ1, nQ2, nQ3, nQ4, nQ5, nQ6, reduceCtorEq, e14, e3', e6', e8', e9', e10', e11', e13']; dsimp only at *)
 refine ⟨fun hlt => ?_, fun hge => ?_⟩
 ·refine vcLoopR (Nat × List Le × Nat) (fun x => [(96, .val (.int .i64 x.1)), (95, .val (.int .i64 2)), (94, .sl 4 2), (14, .val (.int .i64 (1 + i))), (3, .loc 0 0), (6, .loc 1 0), (8, .sl 2 hs2.length), (9, .mp 3), (10, .val (.int .i64 keep)), (11, .val (.int .i64 gone)), (13, .val (.int .i64 into))])
   (fun x => [.box [.val (.int .i64 b.limit), .val gv, .val sv], .box [.val (.int .i64 0), .val (.slice none 0 0), .val (.slice none 0 0)], .row 64 1 hs2, .mp (ents x.2.1) x.2.2, .row 3 1 [.int .i64 keep, .int .i64 gone]])
   (fun x R' => x.1 ≤ 2 ∧ LedOK R' x.2.1 x.2.2 ∧ InvL (2 * i + x.1) (stepJ keep gone into V0 i x.1) (x.2.1.map (·.1))) (fun x => 2 - x.1) (0, ps1, c1) [] ?_ ?_ ?_ ?_
  ·(try simp only [go_sem, ↓reduceIte, nQ1, nQ2, nQ3, nQ4, nQ5, nQ6, reduceCtorEq]) <;> (repeat' (first | rfl | trivial | constructor | (intro h; exact absurd rfl h)))
  ·try simp only [go_sem, ↓reduceIte, nQ1, nQ2, nQ3, nQ4, nQ5, nQ6, reduceCtorEq]
  ·exact ⟨Nat.zero_le _, hL1, hI1⟩
  rintro ⟨j, ps2, c2⟩ env2 R22 hle22 hE ⟨hj, hL2, hI2⟩
  (simp only [go_sem] at hE; obtain ⟨e96, e95, e94, e14'', e3'', e6'', e8'', e9'', e10'', e11'', e13''⟩ := hE; simp only [go_sem, ↓reduceIte, nQ1, nQ2, nQ3, nQ4, nQ5, nQ6, reduceCtorEq, e96, e95, e94, e14'', e3'', e6'', e8'', e9'', e10'', e11'', e13'']; dsimp only at *)
  refine ⟨fun hlt2 => ?_, fun hge2 => ?_⟩
  ·have hj2 : j < 2 := by omega
   have hfr : [Value.int .i64 keep, Value.int .i64 gone][j]? = some (.int .i64 (frJ keep gone j)) := by
    match j, hj2 with
    | 0, _ => rfl
    | 1, _ => rfl
   have hj3 := stepJ_succ (keep := keep) (gone := gone) (into := into) (V := V0) (i := i) hj2
   refine ⟨by omega, _, hfr, ?_⟩
   try simp only [go_sem, ↓reduceIte, nQ1, nQ2, nQ3, nQ4, nQ5, nQ6, reduceCtorEq, e96, e95, e94, e14'', e3'', e6'', e8'', e9'', e10'', e11'', e13'']
   refine ⟨fun hne => ?_, fun heq => ?_⟩
   ·obtain ⟨r1, v1, g1, g2, g3⟩ := hL2.get (frJ keep gone j) (1 + i)
    have hlk := hI2.look (frJ keep gone j) (1 + i)
    have hpow : (2 : Nat) ^ (2 * i + j) ≤ 2 ^ 8 := Nat.pow_le_pow_right (by omega) (by omega)
    refine vmget (ents ps2) c2 r1 (mEq_pair (frJ keep gone j, 1 + i) (frJ keep gone j, 1 + i) |>.trans (by simp)) rfl g1 ?_
    rw [g2]
    obtain ⟨va, vcap, rfl, -, -⟩ := g3.form
    try simp only [go_sem, ↓reduceIte, nQ1, nQ2, nQ3, nQ4, nQ5, nQ6, reduceCtorEq, e96, e95, e94, e14'', e3'', e6'', e8'', e9'', e10'', e11'', e13'']
    obtain ⟨r2, ps3, d1, d2, d3, d4⟩ := hL2.del (frJ keep gone j) (1 + i)
    refine ⟨mEq_pair (frJ keep gone j, 1 + i) (frJ keep gone j, 1 + i) |>.trans (by simp), vmdel (ents ps2) c2 r2 rfl d1 ?_⟩
    rw [d2]
    try simp only [go_sem, ↓reduceIte, nQ1, nQ2, nQ3, nQ4, nQ5, nQ6, reduceCtorEq, e96, e95, e94, e14'', e3'', e6'', e8'', e9'', e10'', e11'', e13'']
    have hk2 : (ps2.map (·.1) |>.map seKey).Nodup := by rw [List.map_map]; exact hL2.keys
    have hld := look_drop (f := frJ keep gone j) (into := into) (k := 1 + i) hk2 hne
    have hlk2 := hI2.look into (1 + i)
    have hstep := hI2.step hk2 (k := 1 + i) hne hib (by omega)
    rw [← d4] at hld hstep
    refine vhand [3] [.mp 0, .val (accV into (1 + i)), .val (.slice va (lookD (ps2.map (·.1)) (frJ keep gone j) (1 + i)).length vcap)] [.mp (ents ps3) c2] (bAdd ps3 c2 into (1 + i) _ _ R22 d3 g3 (by rw [hld]; exact hlk2.1) hlk.1 (by rw [hld]; omega)) rfl rfl rfl ?_ (by simp) rfl rfl ?_
    ·try simp only [go_sem, ↓reduceIte, nQ1, nQ2, nQ3, nQ4, nQ5, nQ6, reduceCtorEq]
    rintro R23 bs r hle23 ⟨ps4, c4, bx, rfl, rfl, hL4, hps4⟩ _
    try simp only [go_sem, ↓reduceIte, nQ1, nQ2, nQ3, nQ4, nQ5, nQ6, reduceCtorEq, setG, rn, e96, e95, e94, e14'', e3'', e6'', e8'', e9'', e10'', e11'', e13'']
    rw [← hps4, ← hj3] at hstep
    refine ⟨_, W.in64 (by omega), (j + 1, ps4, c4), [], by show 2 - (j + 1) < _; omega, ?_, ?_, by show j + 1 ≤ 2; omega, hL4, hstep⟩
    ·try simp only [go_sem, ↓reduceIte, nQ1, nQ2, nQ3, nQ4, nQ5, nQ6, reduceCtorEq]
     exact ⟨rfl, rfl⟩
    ·try simp only [go_sem, ↓reduceIte, nQ1, nQ2, nQ3, nQ4, nQ5, nQ6, reduceCtorEq]
     exact rnInj_nil _
   ·rw [heq] at hj3
    have hstep := hI2.skip (into := into) (k := 1 + i)
    rw [← hj3] at hstep
    refine ⟨_, W.in64 (by omega), (j + 1, ps2, c2), [], by show 2 - (j + 1) < _; omega, ?_, ?_, by show j + 1 ≤ 2; omega, hL2, hstep⟩
    ·try simp only [go_sem, ↓reduceIte, nQ1, nQ2, nQ3, nQ4, nQ5, nQ6, reduceCtorEq]
     rfl
    ·try simp only [go_sem, ↓reduceIte, nQ1, nQ2, nQ3, nQ4, nQ5, nQ6, reduceCtorEq]
     exact rnInj_nil _
  ·obtain rfl : j = 2 := by omega
   try simp only [go_sem, ↓reduceIte, nQ1, nQ2, nQ3, nQ4, nQ5, nQ6, reduceCtorEq, e96, e95, e94, e14'', e3'', e6'', e8'', e9'', e10'', e11'', e13'']
   refine ⟨_, W.in64 (by omega), (i + 1, ps2, c2), [], by show 4 - (i + 1) < _; omega, ?_, ?_, by show i + 1 ≤ 4; omega, hL2, hI2⟩
   ·try simp only [go_sem, ↓reduceIte, nQ1, nQ2, nQ3, nQ4, nQ5, nQ6, reduceCtorEq]
    rw [show (1 : Int) + i + 1 = 1 + ((i + 1 : Nat) : Int) by omega]
   ·try simp only [go_sem, ↓reduceIte, nQ1, nQ2, nQ3, nQ4, nQ5, nQ6, reduceCtorEq]
    exact rnInj_nil _
 ·obtain rfl : i = 4 := by omega
  have hk1 : (ps1.map (·.1) |>.map seKey).Nodup := by rw [List.map_map]; exact hL1.keys
  have hl2 := hH2.len
  have hps1 : ps1.length ≤ 5000 := by have := hI1.cnt; rw [List.length_map] at this; omega
  have hkh := hKG.hi
  have hgl5 := hB.groups.len
  have hlen2 : hs2.length ≤ 1000000 := by
   rw [hl2]
   have := hB.groups.len
   unfold gs2D
   split <;> simp <;> omega
  have hle0c : RO.le R R21 := RO.le_trans hle14 (RO.le_trans hle520 hle21)
  have hlec : RO.le R20 R21 := hle21
  have hBs : (aliasB b p q).spent = canon (b.spent.map fun s => ⟨if 0 ≤ gone then upG gone (map1 keep gone into s.group) else map1 keep gone into s.group, s.grain, s.cells⟩) := by
   unfold aliasB
   rw [if_neg hne, ← hkeep, ← hgone, hi0]
   rfl
  have hBg0 : (aliasB b p q).groups = if 0 ≤ gone then (gs2D b.groups keep gone).eraseIdx gone.toNat else gs2D b.groups keep gone := by
   unfold aliasB
   rw [if_neg hne, ← hkeep, ← hgone]
   rfl
  have hBl : (aliasB b p q).limit = b.limit := by
   unfold aliasB
   rw [if_neg hne]
  refine ⟨fun hg0 => ⟨_, W.in64 (by omega), ?_⟩, fun hg0 => ?_⟩
  ·have hBg : (aliasB b p q).groups = (gs2D b.groups keep gone).eraseIdx gone.toNat := by rw [hBg0, if_pos hg0]
   have hgn : (gone.toNat : Int) = gone := by omega
   have hslices : ∀ v ∈ hs2, ∃ a n c, v = .slice a n c := fun v hv => by
    obtain ⟨x, hx, rfl⟩ := List.mem_iff_getElem.1 hv
    obtain ⟨a, c, e, -, -⟩ := EncV.form (hH2.val x hx (by omega))
    exact ⟨a, _, c, e⟩
   have hlt2 : gone.toNat < hs2.length := by
    rw [hl2]
    unfold gs2D
    split <;> simp <;> omega
   refine vhand [2] [.sl 0 hs2.length, .val (.int .i64 (gone.toNat : Nat)), .val (.int .i64 (gone.toNat + 1 : Nat))] [.row 64 1 hs2] (bDelete hs2 hslices gone.toNat hlt2 (by omega) R21) ?_ rfl rfl ?_ (by simp) rfl rfl ?_
   ·rw [show ((gone.toNat : Nat) : Int) = gone from hgn, show ((gone.toNat + 1 : Nat) : Int) = gone + 1 by omega]; rfl
   ·try simp only [go_sem, ↓reduceIte, nQ1, nQ2, nQ3, nQ4, nQ5, nQ6, reduceCtorEq]
   rintro R22 bs r hle22 ⟨rfl, rfl, rfl⟩ _
   try simp only [go_sem, ↓reduceIte, nQ1, nQ2, nQ3, nQ4, nQ5, nQ6, reduceCtorEq, setG, rn, e14, e3', e6', e8', e9', e10', e11', e13']
   refine vhand [3] [.mp 0, .val (.int .i64 gone)] [.mp (ents ps1) c1] (bMoved ps1 c1 gone R22 hL1 (fun p hp => hI1.gone hk1 hgi hKG.ne _ (List.mem_map_of_mem hp)) (fun p hp => by have := (hI1.ok _ (List.mem_map_of_mem hp)).grp; unfold I64; omega) (by omega)) rfl rfl rfl ?_ (by simp) rfl rfl ?_
   ·try simp only [go_sem, ↓reduceIte, nQ1, nQ2, nQ3, nQ4, nQ5, nQ6, reduceCtorEq]
   rintro R23 bs r hle23 ⟨rfl, ps5, c5, bz, rfl, rfl, hL5, hp5⟩ _
   try simp only [go_sem, ↓reduceIte, nQ1, nQ2, nQ3, nQ4, nQ5, nQ6, reduceCtorEq, setG, rn, e14, e3', e6', e8', e9', e10', e11', e13']
   have hel : (hs2.eraseIdx gone.toNat).length = hs2.length - 1 := by rw [List.length_eraseIdx, if_pos hlt2]
   have hps5 : ps5.length ≤ 5000 := by
    have := hp5.length_eq
    rw [List.length_map, List.length_map, List.length_map] at this
    omega
   refine vshow [4] [.mp 0] [.mp (ents ps5) c5] (bClose ps5 c5 R23 hL5 (show ps5.length ≤ 1000000 by omega)) rfl rfl rfl ?_ (by simp) rfl rfl (fun R' bs' r h => by obtain ⟨b1, qs, rfl, _⟩ := h; rfl) ?_
   {try simp only [go_sem, ↓reduceIte, nQ1, nQ2, nQ3, nQ4, nQ5, nQ6, reduceCtorEq]
    try rfl }
   rintro R30 bs r hle30 ⟨b1, qs, rfl, rfl, hq1, hq2, hq3⟩ _
   have hrb : ∀ ρ T sz cs, renB ρ (.row T sz cs) = .row T sz cs := fun _ _ _ _ => rfl
   try simp only [go_sem, ↓reduceIte, nQ1, nQ2, nQ3, nQ4, nQ5, nQ6, reduceCtorEq, hrb, renB_gb, setG, rn, ren_gs, e14, e3', e6', e8', e9', e10', e11', e13']
   have hsp : qs.map (·.1) = (aliasB b p q).spent := by
    rw [hBs]
    exact alias_spent hB.keys (fun s hs => (hB.okC hr s hs).grain) hgi hKG.ne hk1 (by rw [← hV0]; exact hI1) hq2 (.inr ⟨hg0, hq1.trans hp5⟩)
   have hr3 : (List.range' 6 (3 - 1)).getD 1 2 = 7 := rfl
   have hql : qs.length ≤ 1000000 := by
    have h3 := hq1.length_eq
    rw [List.length_map, List.length_map] at h3
    have := (show ps5.length ≤ 1000000 by omega)
    omega
   have hqne : qs.length ≠ 0 → rowP qs ≠ [] := fun h e => by
    have := rowP_len qs
    rw [e] at this
    simp at this
    omega
   have hsnil : qs.length = 0 → (aliasB b p q).spent = [] := fun h => by rw [← hsp, List.eq_nil_of_length_eq_zero h]; rfl
   have hle030 : RO.le R R30 := RO.le_trans hle0c hle30
   intro b2 cap2 R31 hle31 hrow hcap hfr
   have hGs : ∀ R32, RO.le R31 R32 → GV (newR R R32) (.slice (some ⟨b2, 0, none⟩) (hs2.eraseIdx gone.toNat).length cap2) (aliasB b p q).groups := fun R32 hle32 => by
    rw [hBg]
    exact ((hH2.erase gone.toNat).mono (fun a u hn => ⟨hle32 _ _ (hle31 _ _ (hle30 _ _ (hlec _ _ hn.1))), hn.2⟩)).gv (rowX (ex := [.slice none 0 0]) (fun i v hi => newR_mono hle32 _ _ ((hrow.new hfr hle030) i v (by simpa using hi))) (by simpa using hcap) (by rw [hel]; omega))
   have hSs : ∀ (R32 : RO) b3 cap3, RO.le R31 R32 → RowIn R32 b3 (rowP qs) → (rowP qs).length ≤ cap3 * 3 → Fresh R31 b3 → SpentV (newR R R32) (.slice (some ⟨b3, 0, none⟩) qs.length cap3) (aliasB b p q).spent := fun R32 b3 cap3 hle32 hrow hcap hfr =>
    SpentV.of (RowIn.enc (enc := Pe.cells) (k := 3) (fun _ => rfl) (by omega) (hrow.new hfr (RO.le_trans hle030 hle31)) hcap (by omega)) hsp fun q hq => (hq3 q hq).mono fun a u hn => ⟨hle32 _ _ (hle31 _ _ hn.1), (newR_sub hle0c _ _ hn).2⟩
   try simp only [go_sem, ↓reduceIte, nQ1, nQ2, nQ3, nQ4, nQ5, nQ6, reduceCtorEq, hrb, renB_gb, setG, rn, ren_gs, hr3, e14, e3', e6', e8', e9', e10', e11', e13']
   refine leaf_gs (fun h3 => ?_) (fun h3 => ?_)
   ·try simp only [go_sem, ↓reduceIte, nQ1, nQ2, nQ3, nQ4, nQ5, nQ6, reduceCtorEq, hrb, hr3, e14, e3', e6', e8', e9', e10', e11', e13']
    have hf := fin R31 _ _ (aliasB b p q) rfl (hGs R31 (RO.le_refl _)) (show SpentV (newR R R31) (.slice none 0 0) (aliasB b p q).spent by rw [hsnil h3]; exact SpentV.nil _)
    rw [hBl, hel] at hf
    exact hf
   ·rw [gb_ne (hqne h3)]
    try simp only [go_sem, ↓reduceIte, nQ1, nQ2, nQ3, nQ4, nQ5, nQ6, reduceCtorEq, hrb, hr3, e14, e3', e6', e8', e9', e10', e11', e13']
    intro b3 cap3 R32 hle32 hrow3 hcap3 hfr3
    try simp only [go_sem, ↓reduceIte, nQ1, nQ2, nQ3, nQ4, nQ5, nQ6, reduceCtorEq, hrb, hr3, e14, e3', e6', e8', e9', e10', e11', e13']
    have hf := fin R32 _ _ (aliasB b p q) rfl (hGs R32 hle32) (hSs R32 b3 cap3 hle32 hrow3 hcap3 hfr3)
    rw [hBl, hel] at hf
    exact hf
  ·have hBg : (aliasB b p q).groups = gs2D b.groups keep gone := by rw [hBg0, if_neg hg0]
   refine vshow [3] [.mp 0] [.mp (ents ps1) c1] (bClose ps1 c1 R21 hL1 (show ps1.length ≤ 1000000 by omega)) rfl rfl rfl ?_ (by simp) rfl rfl (fun R' bs' r h => by obtain ⟨b1, qs, rfl, _⟩ := h; rfl) ?_
   {try simp only [go_sem, ↓reduceIte, nQ1, nQ2, nQ3, nQ4, nQ5, nQ6, reduceCtorEq]
    try rfl }
   rintro R30 bs r hle30 ⟨b1, qs, rfl, rfl, hq1, hq2, hq3⟩ _
   have hrb : ∀ ρ T sz cs, renB ρ (.row T sz cs) = .row T sz cs := fun _ _ _ _ => rfl
   try simp only [go_sem, ↓reduceIte, nQ1, nQ2, nQ3, nQ4, nQ5, nQ6, reduceCtorEq, hrb, renB_gb, setG, rn, ren_gs, e14, e3', e6', e8', e9', e10', e11', e13']
   have hsp : qs.map (·.1) = (aliasB b p q).spent := by
    rw [hBs]
    exact alias_spent hB.keys (fun s hs => (hB.okC hr s hs).grain) hgi hKG.ne hk1 (by rw [← hV0]; exact hI1) hq2 (.inl ⟨by omega, hq1⟩)
   have hr3 : (List.range' 4 (3 - 1)).getD 1 2 = 5 := rfl
   have hql : qs.length ≤ 1000000 := by
    have h3 := hq1.length_eq
    rw [List.length_map, List.length_map] at h3
    have := (show ps1.length ≤ 1000000 by omega)
    omega
   have hqne : qs.length ≠ 0 → rowP qs ≠ [] := fun h e => by
    have := rowP_len qs
    rw [e] at this
    simp at this
    omega
   have hsnil : qs.length = 0 → (aliasB b p q).spent = [] := fun h => by rw [← hsp, List.eq_nil_of_length_eq_zero h]; rfl
   have hle030 : RO.le R R30 := RO.le_trans hle0c hle30
   intro b2 cap2 R31 hle31 hrow hcap hfr
   have hGs : ∀ R32, RO.le R31 R32 → GV (newR R R32) (.slice (some ⟨b2, 0, none⟩) (hs2).length cap2) (aliasB b p q).groups := fun R32 hle32 => by
    rw [hBg]
    exact ((hH2).mono (fun a u hn => ⟨hle32 _ _ (hle31 _ _ (hle30 _ _ (hlec _ _ hn.1))), hn.2⟩)).gv (rowX (ex := []) (fun i v hi => newR_mono hle32 _ _ ((hrow.new hfr hle030) i v (by simpa using hi))) (by simpa using hcap) (by have := hlen2; omega))
   have hSs : ∀ (R32 : RO) b3 cap3, RO.le R31 R32 → RowIn R32 b3 (rowP qs) → (rowP qs).length ≤ cap3 * 3 → Fresh R31 b3 → SpentV (newR R R32) (.slice (some ⟨b3, 0, none⟩) qs.length cap3) (aliasB b p q).spent := fun R32 b3 cap3 hle32 hrow hcap hfr =>
    SpentV.of (RowIn.enc (enc := Pe.cells) (k := 3) (fun _ => rfl) (by omega) (hrow.new hfr (RO.le_trans hle030 hle31)) hcap (by omega)) hsp fun q hq => (hq3 q hq).mono fun a u hn => ⟨hle32 _ _ (hle31 _ _ hn.1), (newR_sub hle0c _ _ hn).2⟩
   try simp only [go_sem, ↓reduceIte, nQ1, nQ2, nQ3, nQ4, nQ5, nQ6, reduceCtorEq, hrb, renB_gb, setG, rn, ren_gs, hr3, e14, e3', e6', e8', e9', e10', e11', e13']
   refine leaf_gs (fun h3 => ?_) (fun h3 => ?_)
   ·try simp only [go_sem, ↓reduceIte, nQ1, nQ2, nQ3, nQ4, nQ5, nQ6, reduceCtorEq, hrb, hr3, e14, e3', e6', e8', e9', e10', e11', e13']
    have hf := fin R31 _ _ (aliasB b p q) rfl (hGs R31 (RO.le_refl _)) (show SpentV (newR R R31) (.slice none 0 0) (aliasB b p q).spent by rw [hsnil h3]; exact SpentV.nil _)
    rw [hBl] at hf
    exact hf
   ·rw [gb_ne (hqne h3)]
    try simp only [go_sem, ↓reduceIte, nQ1, nQ2, nQ3, nQ4, nQ5, nQ6, reduceCtorEq, hrb, hr3, e14, e3', e6', e8', e9', e10', e11', e13']
    intro b3 cap3 R32 hle32 hrow3 hcap3 hfr3
    try simp only [go_sem, ↓reduceIte, nQ1, nQ2, nQ3, nQ4, nQ5, nQ6, reduceCtorEq, hrb, hr3, e14, e3', e6', e8', e9', e10', e11', e13']
    have hf := fin R32 _ _ (aliasB b p q) rfl (hGs R32 hle32) (hSs R32 b3 cap3 hle32 hrow3 hcap3 hfr3)
    rw [hBl] at hf
    exact hf
end Go.Proofs.YtclkibjonbhldaaGreatDoor
