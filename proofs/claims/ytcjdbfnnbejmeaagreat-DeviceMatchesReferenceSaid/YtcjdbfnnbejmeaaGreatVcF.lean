/- Plain lemmas of our own, no statement of the seat: the operations that make or write memory. -/
import Derived.Test.YtcjdbfnnbejmeaaGreatVcK
namespace Go.Proofs.YtcjdbfnnbejmeaaGreat.Vc
set_option linter.unusedSimpArgs false
set_option linter.unusedVariables false
open Go.RowKit
section
variable {P : Program} {X : Ctx} {β κ : Nat → Nat} {s : St} {tm : Array Value} {w w' : World}

def updN (f : Nat → Nat) (i v : Nat) : Nat → Nat := fun j => if j = i then v else f j
theorem capV_updN {L g : Nat} {cs : List Cap} (h : cs.all (Cap.ok L) = true) : cs.map (capV (updN β L g)) = cs.map (capV β) := by
  refine List.map_congr_left fun c hc => ?_
  have := List.all_eq_true.1 h c hc
  cases c with
  | v x => rfl
  | l k o => simp only [Cap.ok, decide_eq_true_eq] at this; simp only [capV, updN]; rw [if_neg (by omega)]
theorem den_updN {L g c : Nat} {x : SV} (h : SV.ok L x = true) : den (updN β L g) (updN κ L c) x = den β κ x := by
  cases x with
  | val v => rfl
  | loc k o => simp only [SV.ok, decide_eq_true_eq] at h; simp only [den, updN]; rw [if_neg (by omega)]
  | sl k n => simp only [SV.ok, decide_eq_true_eq] at h; simp only [den, updN]; rw [if_neg (by omega), if_neg (by omega)]
  | sw k z e n =>
    simp only [SV.ok, decide_eq_true_eq] at h
    have h1 : updN β L g k = β k := by simp only [updN]; rw [if_neg (by omega)]
    have h2 : updN κ L c k = κ k := by simp only [updN]; rw [if_neg (by omega)]
    simp only [den, h1, h2]
  | fn f cs => simp only [SV.ok] at h; simp only [den, capV_updN h]
  | mp k => simp only [SV.ok, decide_eq_true_eq] at h; simp only [den, updN]; rw [if_neg (by omega)]
theorem ok_succ {L : Nat} {x : SV} (h : SV.ok L x = true) : SV.ok (L + 1) x = true := ok_mono (Nat.le_succ L) h

theorem Rel.grow (h : Rel X β κ s tm w) (he : Ext w w') (g c : Nat) (b : Blk) (hnew : ∀ i b, s.blk[i]? = some b → b.live = true → β i ≠ g) (hR : ∀ a v, s.R a v → a.block ≠ g)
    (hk : ∀ p, p ∈ X.keep → p.1 ≠ g) (hsh : ∀ (j b cap T sz : Nat) (cs : List Value), s.blk[j]? = some (Blk.shr b cap T sz cs) → b ≠ g) (how : ∀ (j : Nat) (F : RO), s.blk[j]? = some (Blk.own F) → ∀ a v, F a v → a.block ≠ g) (hbl : b.live = true) (hb : BlkOK (updN β s.blk.length g) (updN κ s.blk.length c) w' X.own (s.blk.length + 1) s.blk.length b) :
    Rel X (updN β s.blk.length g) (updN κ s.blk.length c) { s with blk := s.blk ++ [b] } tm w' := by
  have h' := h.ext he
  have hget : ∀ i b', (s.blk ++ [b])[i]? = some b' → (i < s.blk.length ∧ s.blk[i]? = some b') ∨ (i = s.blk.length ∧ b' = b) := by
    intro i b' hi
    rcases Nat.lt_or_ge i s.blk.length with hlt | hge
    · rw [List.getElem?_append_left hlt] at hi; exact .inl ⟨hlt, hi⟩
    · rw [List.getElem?_append_right hge] at hi
      have hi' := (List.getElem?_eq_some_iff.1 hi).1
      simp only [List.length_cons, List.length_nil] at hi'
      have : i = s.blk.length := by omega
      subst this
      simp at hi
      exact .inr ⟨rfl, hi.symm⟩
  have hold : ∀ i, i < s.blk.length → updN β s.blk.length g i = β i := fun i hi => by simp only [updN]; rw [if_neg (by omega)]
  have holdk : ∀ i, i < s.blk.length → updN κ s.blk.length c i = κ i := fun i hi => by simp only [updN]; rw [if_neg (by omega)]
  have hat : updN β s.blk.length g s.blk.length = g := by simp [updN]
  refine { size := h.size, env := fun t => ?_, ok := fun t => ?_, below := h'.below, le := h.le, blk := fun i b' hi => ?_, inj := fun i j b1 b2 hi hj hl1 hl2 hij => ?_, ro := fun a v ha => ?_, kept := fun p hp => ?_, shr := fun i b' cap' T' sz' cs' hi => ?_, own := fun i F hi => ?_, pos := fun i hi => by have h1 := h.len; rw [hold i (by omega), holdk i (by omega)]; exact h.pos i hi, len := by have := h.len; simp only [List.length_append, List.length_cons, List.length_nil]; omega }
  · rw [den_updN (h.ok t)]; exact h.env t
  · simp only [List.length_append, List.length_cons, List.length_nil]; exact ok_succ (h.ok t)
  · simp only [List.length_append, List.length_cons, List.length_nil]
    rcases hget i b' hi with ⟨hlt, hi⟩ | ⟨rfl, rfl⟩
    · have h1 := h'.blk i b' hi
      cases b' with
      | dead => trivial
      | shr => trivial
      | own => trivial
      | box cs =>
        obtain ⟨g1, g2, T, g3⟩ := h1
        refine ⟨by rw [hold i hlt]; exact g1, fun x hx => ok_succ (g2 x hx), T, ?_⟩
        rw [hold i hlt, g3]
        congr 3
        exact List.map_congr_left fun x hx => (den_updN (g2 x hx)).symm
      | row T sz cs =>
        obtain ⟨g1, arr, g2, g3, g4, g5, g6⟩ := h1
        exact ⟨by rw [hold i hlt]; exact g1, arr, by rw [hold i hlt]; exact g2, g3, by rw [holdk i hlt]; exact g4, by rw [holdk i hlt]; exact g5, by rw [holdk i hlt]; exact g6⟩
      | mp es c => exact ⟨by rw [hold i hlt]; exact h1.1, by rw [hold i hlt]; exact h1.2⟩
      | it m a b c => exact ⟨by rw [hold i hlt]; exact h1.1, Nat.lt_succ_of_lt h1.2.1, by rw [hold i hlt, hold m h1.2.1]; exact h1.2.2⟩
    · exact hb
  · rcases hget i b1 hi with ⟨hlt, hi⟩ | ⟨rfl, hb1⟩
    · rcases hget j b2 hj with ⟨hlt', hj⟩ | ⟨rfl, hb2⟩
      · rw [hold i hlt, hold j hlt'] at hij; exact h.inj i j b1 b2 hi hj hl1 hl2 hij
      · rw [hold i hlt, hat] at hij; exact absurd hij (hnew i b1 hi hl1)
    · rcases hget j b2 hj with ⟨hlt', hj⟩ | ⟨rfl, hb2⟩
      · rw [hat, hold j hlt'] at hij; exact absurd hij.symm (hnew j b2 hj hl2)
      · rfl
  · obtain ⟨g1, g2, g3⟩ := h'.ro a v ha
    refine ⟨g1, g2, fun i b' hi hl => ?_⟩
    rcases hget i b' hi with ⟨hlt, hi⟩ | ⟨rfl, rfl⟩
    · rw [hold i hlt]; exact g3 i b' hi hl
    · rw [hat]; exact hR a v ha
  · obtain ⟨g1, g2, g3, g4⟩ := h'.kept p hp
    refine ⟨g1, g2, fun i b' hi hl => ?_, g4⟩
    rcases hget i b' hi with ⟨hlt, hi⟩ | ⟨rfl, rfl⟩
    · rw [hold i hlt]; exact g3 i b' hi hl
    · rw [hat]; exact (hk p hp).symm
  · have hold' : ∀ (i b' cap' T' sz' : Nat) (cs' : List Value), (s.blk ++ [b])[i]? = some (Blk.shr b' cap' T' sz' cs') → s.blk[i]? = some (Blk.shr b' cap' T' sz' cs') := by
      intro i b' cap' T' sz' cs' hi
      rcases hget i _ hi with ⟨_, hi⟩ | ⟨_, e⟩
      · exact hi
      · rw [← e] at hbl; cases hbl
    have h1 := h'.shr _ _ _ _ _ _ (hold' _ _ _ _ _ _ hi)
    refine ⟨h1.base, h1.heap, fun i' c hc hl => ?_, h1.facts, h1.row, fun j' b'' cap'' T'' sz'' cs'' hj' e => h1.one _ _ _ _ _ _ (hold' _ _ _ _ _ _ hj') e, h1.kept⟩
    rcases hget i' c hc with ⟨hlt, hc⟩ | ⟨rfl, rfl⟩
    · rw [hold i' hlt]; exact h1.apart i' c hc hl
    · rw [hat]; exact (hsh _ _ _ _ _ _ (hold' _ _ _ _ _ _ hi)).symm
  · have holdS : ∀ (i b' cap' T' sz' : Nat) (cs' : List Value), (s.blk ++ [b])[i]? = some (Blk.shr b' cap' T' sz' cs') → s.blk[i]? = some (Blk.shr b' cap' T' sz' cs') := by
      intro i b' cap' T' sz' cs' hi
      rcases hget i _ hi with ⟨_, hi⟩ | ⟨_, e⟩
      · exact hi
      · rw [← e] at hbl; cases hbl
    have hold' : ∀ (i : Nat) (F : RO), (s.blk ++ [b])[i]? = some (Blk.own F) → s.blk[i]? = some (Blk.own F) := by
      intro i F hi
      rcases hget i _ hi with ⟨_, hi⟩ | ⟨_, e⟩
      · exact hi
      · rw [← e] at hbl; cases hbl
    have h1 := h'.own _ _ (hold' _ _ hi)
    refine h1.move (fun a v hf => rfl) (fun a v hf i' c hc hl => ?_) h1.ro (fun a v hf i' b' cap' T' sz' cs' hi' => h1.shr a v hf _ _ _ _ _ _ (holdS _ _ _ _ _ _ hi')) (fun a v hf i' G hi' hne => h1.one a v hf i' G (hold' _ _ hi') hne)
    rcases hget i' c hc with ⟨hlt, hc⟩ | ⟨rfl, rfl⟩
    · rw [hold i' hlt]; exact h1.apart a v hf i' c hc hl
    · rw [hat]; exact (how _ _ (hold' _ _ hi) a v hf).symm

theorem Rel.modify (h : Rel X β κ s tm w) {j : Nat} {b : Blk} (hj : s.blk[j]? = some b) (hl : b.live = true) (hw : Grown w w' (some (β j))) (b' : Blk) (hns : ∀ b cap T sz cs, b' ≠ Blk.shr b cap T sz cs) (hno : ∀ F, b' ≠ Blk.own F)
    (hb' : BlkOK β κ w' X.own s.blk.length j b') : Rel X β κ { s with blk := s.blk.set j b' } tm w' := by
  have hB := (h.blk j b hj).base hl
  have hlt := (h.blk j b hj).lt hl
  have hget : ∀ i c, (s.blk.set j b')[i]? = some c → (i ≠ j ∧ s.blk[i]? = some c) ∨ (i = j ∧ c = b') := by
    intro i c hi
    rw [List.getElem?_set] at hi
    split at hi
    · rename_i hij
      split at hi
      · exact .inr ⟨hij.symm, by cases hi; rfl⟩
      · cases hi
    · rename_i hij; exact .inl ⟨fun e => hij e.symm, hi⟩
  refine { size := h.size, env := h.env, ok := fun t => ?_, below := ?_, le := h.le, blk := fun i c hi => ?_, inj := fun i i' c c' hi hi' hc hc' he => ?_, ro := fun a v ha => ?_, kept := fun p hp => ?_, shr := fun i bb cap T sz cs hi => ?_, own := fun i F hi => ?_, pos := h.pos, len := by simp only [List.length_set]; exact h.len }
  · simp only [List.length_set]; exact h.ok t
  · exact h.below.grown hw hB
  · simp only [List.length_set]
    rcases hget i c hi with ⟨hne, hi⟩ | ⟨rfl, rfl⟩
    · refine (h.blk i c hi).heap fun hcl => hw.block _ ((h.blk i c hi).lt hcl) fun e => ?_
      simp only [Option.some.injEq] at e
      exact hne (h.inj i j c b hi hj hcl hl e)
    · exact hb'
  · have lift : ∀ (i : Nat) (c : Blk), (s.blk.set j b')[i]? = some c → c.live = true → ∃ d : Blk, s.blk[i]? = some d ∧ d.live = true := by
      intro i c hi hc
      rcases hget i c hi with ⟨_, hi⟩ | ⟨rfl, rfl⟩
      · exact ⟨c, hi, hc⟩
      · exact ⟨b, hj, hl⟩
    obtain ⟨d, hd, hdl⟩ := lift i c hi hc
    obtain ⟨d', hd', hdl'⟩ := lift i' c' hi' hc'
    exact h.inj i i' d d' hd hd' hdl hdl' he
  · obtain ⟨g1, g2, g3⟩ := h.ro a v ha
    have this : w'.heap[a.block]? = w.heap[a.block]? := hw.block _ (block_lt_of_cell g1) (fun e => by simp only [Option.some.injEq] at e; exact g3 j b hj hl e)
    refine ⟨?_, g2.imp id fun hh => ⟨hh.1, hh.2.of_eq this⟩, fun i c hi hc => ?_⟩
    · rw [World.cell?_of_block this]; exact g1
    · rcases hget i c hi with ⟨_, hi⟩ | ⟨rfl, rfl⟩
      · exact g3 i c hi hc
      · exact g3 i b hj hl
  · obtain ⟨g1, g2, g3, g4⟩ := h.kept p hp
    refine ⟨?_, g2, fun i c hi hc => ?_, g4⟩
    · rw [hw.block _ (Array.getElem?_eq_some_iff.1 g1).1 (fun e => by simp only [Option.some.injEq] at e; exact g3 j b hj hl e.symm)]; exact g1
    · rcases hget i c hi with ⟨_, hi⟩ | ⟨rfl, rfl⟩
      · exact g3 i c hi hc
      · exact g3 i b hj hl
  · have hold' : ∀ (i bb cap T sz : Nat) (cs : List Value), (s.blk.set j b')[i]? = some (Blk.shr bb cap T sz cs) → s.blk[i]? = some (Blk.shr bb cap T sz cs) := by
      intro i bb cap T sz cs hi
      rcases hget i _ hi with ⟨_, hi⟩ | ⟨_, e⟩
      · exact hi
      · exact absurd e.symm (hns _ _ _ _ _)
    have h1 := h.shr _ _ _ _ _ _ (hold' _ _ _ _ _ _ hi)
    obtain ⟨arr, g1, g2⟩ := h1.heap
    refine ⟨h1.base, ⟨arr, ?_, g2⟩, fun i' c hc hl' => ?_, h1.facts, h1.row, fun j' b'' cap'' T'' sz'' cs'' hj' e => h1.one _ _ _ _ _ _ (hold' _ _ _ _ _ _ hj') e, h1.kept⟩
    · rw [hw.block _ (Array.getElem?_eq_some_iff.1 g1).1 (fun e => by simp only [Option.some.injEq] at e; exact h1.apart j b hj hl e.symm)]; exact g1
    · rcases hget i' c hc with ⟨_, hc⟩ | ⟨rfl, rfl⟩
      · exact h1.apart i' c hc hl'
      · exact h1.apart _ b hj hl
  · have holdS : ∀ (i bb cap T sz : Nat) (cs : List Value), (s.blk.set j b')[i]? = some (Blk.shr bb cap T sz cs) → s.blk[i]? = some (Blk.shr bb cap T sz cs) := by
      intro i bb cap T sz cs hi
      rcases hget i _ hi with ⟨_, hi⟩ | ⟨_, e⟩
      · exact hi
      · exact absurd e.symm (hns _ _ _ _ _)
    have hold' : ∀ (i : Nat) (F : RO), (s.blk.set j b')[i]? = some (Blk.own F) → s.blk[i]? = some (Blk.own F) := by
      intro i F hi
      rcases hget i _ hi with ⟨_, hi⟩ | ⟨_, e⟩
      · exact hi
      · exact absurd e.symm (hno _)
    have h1 := h.own _ _ (hold' _ _ hi)
    refine h1.move (fun a v hf => hw.block _ (h1.lt hf) fun e => by simp only [Option.some.injEq] at e; exact h1.apart a v hf j b hj hl e.symm) (fun a v hf i' c hc hl' => ?_) h1.ro (fun a v hf i' b' cap' T' sz' cs' hi' => h1.shr a v hf _ _ _ _ _ _ (holdS _ _ _ _ _ _ hi')) (fun a v hf i' G hi' hne => h1.one a v hf i' G (hold' _ _ hi') hne)
    rcases hget i' c hc with ⟨_, hc⟩ | ⟨rfl, rfl⟩
    · exact h1.apart a v hf i' c hc hl'
    · exact h1.apart a v hf _ b hj hl
/-- A store into facts of one's own. -/
theorem Rel.putOwn (h : Rel X β κ s tm w) {j : Nat} {F : RO} (hj : s.blk[j]? = some (.own F)) {b0 : Nat} (hb0 : ∃ a v, F a v ∧ a.block = b0) (hw : Grown w w' (some b0)) (hlo : Loose w' b0) {F' : RO} (hF : ∀ a v, F' a v → w'.cell? a = some v ∧ (a.block = b0 ∨ F a v)) :
    Rel X β κ { s with blk := s.blk.set j (.own F') } tm w' := by
  obtain ⟨a0, v0, hf0, rfl⟩ := hb0
  have hO := h.own j F hj
  have hget : ∀ (i : Nat) (c : Blk), (s.blk.set j (.own F'))[i]? = some c → (i ≠ j ∧ s.blk[i]? = some c) ∨ (i = j ∧ c = .own F') := by
    intro i c hi
    rw [List.getElem?_set] at hi
    split at hi
    · rename_i hij
      split at hi
      · exact .inr ⟨hij.symm, by cases hi; rfl⟩
      · cases hi
    · rename_i hij; exact .inl ⟨fun e => hij e.symm, hi⟩
  have hlive : ∀ (i : Nat) (c : Blk), (s.blk.set j (.own F'))[i]? = some c → c.live = true → s.blk[i]? = some c := fun i c hi hl => by
    rcases hget i c hi with ⟨_, hi⟩ | ⟨_, rfl⟩
    · exact hi
    · cases hl
  have hshr : ∀ (i b cap T sz : Nat) (cs : List Value), (s.blk.set j (.own F'))[i]? = some (.shr b cap T sz cs) → s.blk[i]? = some (.shr b cap T sz cs) := fun i b cap T sz cs hi => by
    rcases hget i _ hi with ⟨_, hi⟩ | ⟨_, e⟩
    · exact hi
    · cases e
  have hrep : ∀ a v, F' a v → ∃ a1 v1, F a1 v1 ∧ a1.block = a.block := fun a v hf => by
    rcases (hF a v hf).2 with e | e
    · exact ⟨a0, v0, hf0, e.symm⟩
    · exact ⟨a, v, e, rfl⟩
  have hk : ∀ k, k < w.heap.size → k ≠ a0.block → w'.heap[k]? = w.heap[k]? := fun k hk hne => hw.block k hk fun e => by simp only [Option.some.injEq] at e; first | exact hne e | exact hne e.symm
  refine { size := h.size, env := h.env, ok := fun t => ?_, below := h.below.grown hw (hO.own a0 v0 hf0).1, le := h.le, blk := fun i c hi => ?_, inj := fun i i' c c' hi hi' hc hc' he => h.inj i i' c c' (hlive i c hi hc) (hlive i' c' hi' hc') hc hc' he, ro := fun a v ha => ?_, kept := fun p hp => ?_, shr := fun i b cap T sz cs hi => ?_, own := fun i G hi => ?_, pos := h.pos, len := by simp only [List.length_set]; exact h.len }
  · simp only [List.length_set]; exact h.ok t
  · simp only [List.length_set]
    rcases hget i c hi with ⟨_, hi⟩ | ⟨_, rfl⟩
    · exact (h.blk i c hi).heap fun hl => hk _ ((h.blk i c hi).lt hl) (hO.apart a0 v0 hf0 i c hi hl)
    · trivial
  · obtain ⟨g1, g2, g3⟩ := h.ro a v ha
    have e := hk _ (block_lt_of_cell g1) (hO.ro a0 v0 hf0 a v ha)
    exact ⟨by rw [World.cell?_of_block e]; exact g1, g2.imp id fun hh => ⟨hh.1, hh.2.of_eq e⟩, fun i c hi hl => g3 i c (hlive i c hi hl) hl⟩
  · obtain ⟨g1, g2, g3, g4⟩ := h.kept p hp
    exact ⟨by rw [hk _ (Array.getElem?_eq_some_iff.1 g1).1 (hO.kept a0 v0 hf0 p hp)]; exact g1, g2, fun i c hi hl => g3 i c (hlive i c hi hl) hl, g4⟩
  · have h1 := h.shr _ _ _ _ _ _ (hshr _ _ _ _ _ _ hi)
    obtain ⟨arr, g1, g2⟩ := h1.heap
    exact { h1 with
      heap := ⟨arr, by rw [hk _ (Array.getElem?_eq_some_iff.1 g1).1 (hO.shr a0 v0 hf0 _ _ _ _ _ _ (hshr _ _ _ _ _ _ hi))]; exact g1, g2⟩
      apart := fun i' c hc hl => h1.apart i' c (hlive i' c hc hl) hl
      one := fun j' b' cap' T' sz' cs' hj' e => h1.one _ _ _ _ _ _ (hshr _ _ _ _ _ _ hj') e }
  · rcases hget i _ hi with ⟨hne, hi⟩ | ⟨rfl, e⟩
    · have h1 := h.own i G hi
      refine h1.move (fun a v hf => hk _ (h1.lt hf) fun e => h1.one a v hf j F hj (Ne.symm hne) a0 v0 hf0 e.symm) (fun a v hf i' c hc hl => h1.apart a v hf i' c (hlive i' c hc hl) hl) h1.ro (fun a v hf i' b cap T sz cs hi' => h1.shr a v hf _ _ _ _ _ _ (hshr _ _ _ _ _ _ hi')) (fun a v hf i' G' hi' hne' a' v' hf' => ?_)
      rcases hget i' _ hi' with ⟨_, hi'⟩ | ⟨rfl, e⟩
      · exact h1.one a v hf i' G' hi' hne' a' v' hf'
      · simp only [Blk.own.injEq] at e
        subst e
        obtain ⟨a1, v1, hf1, e1⟩ := hrep a' v' hf'
        rw [← e1]
        exact h1.one a v hf i' F hj hne' a1 v1 hf1
    · simp only [Blk.own.injEq] at e
      subst e
      refine ⟨fun a v hf => (hF a v hf).1, fun a v hf => ?_, fun a v hf i' c hc hl => ?_, fun a v hf a' v' ha' => ?_, fun a v hf i' b cap T sz cs hi' => ?_, fun a v hf p hp => ?_, fun a v hf i' G' hi' hne' a' v' hf' => ?_⟩
      · obtain ⟨a1, v1, hf1, e1⟩ := hrep a v hf
        refine ⟨by rw [← e1]; exact (hO.own a1 v1 hf1).1, ?_⟩
        by_cases hb : a.block = a0.block
        · rw [hb]; exact hlo
        · rw [← e1] at hb ⊢
          exact (hO.own a1 v1 hf1).2.of_eq (hk _ (hO.lt hf1) hb)
      · obtain ⟨a1, v1, hf1, e1⟩ := hrep a v hf
        rw [← e1]; exact hO.apart a1 v1 hf1 i' c (hlive i' c hc hl) hl
      · obtain ⟨a1, v1, hf1, e1⟩ := hrep a v hf
        rw [← e1]; exact hO.ro a1 v1 hf1 a' v' ha'
      · obtain ⟨a1, v1, hf1, e1⟩ := hrep a v hf
        rw [← e1]; exact hO.shr a1 v1 hf1 _ _ _ _ _ _ (hshr _ _ _ _ _ _ hi')
      · obtain ⟨a1, v1, hf1, e1⟩ := hrep a v hf
        rw [← e1]; exact hO.kept a1 v1 hf1 p hp
      · obtain ⟨a1, v1, hf1, e1⟩ := hrep a v hf
        rcases hget i' _ hi' with ⟨_, hi'⟩ | ⟨rfl, _⟩
        · rw [← e1]; exact hO.one a1 v1 hf1 i' G' hi' hne' a' v' hf'
        · exact absurd rfl hne'

theorem ext_alloc (w : World) (o : Obj) : Ext w (w.alloc o) :=
  have h := (Below.refl w.heap.size w).alloc (Nat.le_refl _) o
  ⟨h.os, h.tape, h.output, h.size, h.block, Nat.le_refl _⟩
theorem Rel.fresh (h : Rel X β κ s tm w) : (∀ i b, s.blk[i]? = some b → b.live = true → β i ≠ w.heap.size) ∧ (∀ a v, s.R a v → a.block ≠ w.heap.size) ∧ (∀ p, p ∈ X.keep → p.1 ≠ w.heap.size) ∧ (∀ (j b cap T sz : Nat) (cs : List Value), s.blk[j]? = some (Blk.shr b cap T sz cs) → b ≠ w.heap.size) ∧ ∀ (j : Nat) (F : RO), s.blk[j]? = some (Blk.own F) → ∀ a v, F a v → a.block ≠ w.heap.size :=
  ⟨fun i b hi hl => by have := (h.blk i b hi).lt hl; omega, fun a v ha => by have := block_lt_of_cell (h.ro a v ha).1; omega, fun p hp => by have := (Array.getElem?_eq_some_iff.1 (h.kept p hp).1).1; omega, fun j b cap T sz cs hj => by obtain ⟨arr, g, _⟩ := (h.shr _ _ _ _ _ _ hj).heap; have := (Array.getElem?_eq_some_iff.1 g).1; omega, fun j F hj a v hf => by have := (h.own j F hj).lt hf; omega⟩
theorem heap_new (w : World) (o : Obj) : (w.alloc o).heap[w.heap.size]? = some o := heap_alloc_new w o

/-- A shared row grows: in place, or in a new block. -/
theorem Rel.shrGrow (h : Rel X β κ s tm w) {j b cap T sz : Nat} {cs : List Value} (hj : s.blk[j]? = some (Blk.shr b cap T sz cs)) (hw : Grown w w' (some b)) (hlob : Loose w' b) (hcell : ∀ a v, s.R a v → w'.cell? a = some v) (ys : List Value) (b' cap' : Nat)
    (hb' : b' = b ∨ b' = w.heap.size) (arr' : Array Value) (hh : w'.heap[b']? = some (.cells arr' T (0, 0))) (hp : cs ++ ys <+: arr'.toList) (h1 : cap' * sz = arr'.size) (h2 : (cs ++ ys).length ≤ cap' * sz) (h3 : cap' ≤ maxLen) :
    ∃ R', RO.le s.R R' ∧ RowIn R' b' (cs ++ ys) ∧ Rel X β κ { s with blk := s.blk.set j (.shr b' cap' T sz (cs ++ ys)), R := R' } tm w' := by
  have hS := h.shr _ _ _ _ _ _ hj
  have hbase := hS.base
  have hbelow := h.below.size
  have hlt : ∀ i c, s.blk[i]? = some c → c.live = true → β i ≠ b' := by
    intro i c hi hl
    rcases hb' with rfl | rfl
    · exact hS.apart i c hi hl
    · have := (h.blk i c hi).lt hl; omega
  have hget : ∀ i c, (s.blk.set j (.shr b' cap' T sz (cs ++ ys)))[i]? = some c → (i ≠ j ∧ s.blk[i]? = some c) ∨ (i = j ∧ c = Blk.shr b' cap' T sz (cs ++ ys)) := by
    intro i c hi
    rw [List.getElem?_set] at hi
    split at hi
    · rename_i hij
      split at hi
      · exact .inr ⟨hij.symm, by cases hi; rfl⟩
      · cases hi
    · rename_i hij; exact .inl ⟨fun e => hij e.symm, hi⟩
  have hlive : ∀ (i : Nat) (c : Blk), (s.blk.set j (.shr b' cap' T sz (cs ++ ys)))[i]? = some c → c.live = true → s.blk[i]? = some c := by
    intro i c hi hl
    rcases hget i c hi with ⟨_, hi⟩ | ⟨_, rfl⟩
    · exact hi
    · cases hl
  have hother : ∀ (i bb cc TT zz : Nat) (ss : List Value), i ≠ j → s.blk[i]? = some (Blk.shr bb cc TT zz ss) → bb ≠ b' ∧ bb ≠ b := by
    intro i bb cc TT zz ss hne hi
    have hn : bb ≠ b := fun e => hne (hS.one _ _ _ _ _ _ hi e)
    refine ⟨?_, hn⟩
    rcases hb' with rfl | rfl
    · exact hn
    · obtain ⟨arr, g, _⟩ := (h.shr _ _ _ _ _ _ hi).heap
      have := (Array.getElem?_eq_some_iff.1 g).1
      omega
  have hone : ∀ (j1 b1 c1 T1 z1 : Nat) (s1 : List Value) (j2 b2 c2 T2 z2 : Nat) (s2 : List Value), (s.blk.set j (.shr b' cap' T sz (cs ++ ys)))[j1]? = some (Blk.shr b1 c1 T1 z1 s1) → (s.blk.set j (.shr b' cap' T sz (cs ++ ys)))[j2]? = some (Blk.shr b2 c2 T2 z2 s2) → b1 = b2 → j1 = j2 := by
    intro j1 b1 c1 T1 z1 s1 j2 b2 c2 T2 z2 s2 h1 h2 he
    rcases hget _ _ h1 with ⟨hn1, k1⟩ | ⟨rfl, e1⟩
    · rcases hget _ _ h2 with ⟨hn2, k2⟩ | ⟨rfl, e2⟩
      · exact (h.shr _ _ _ _ _ _ k2).one _ _ _ _ _ _ k1 he
      · simp only [Blk.shr.injEq] at e2
        exact absurd (he.trans e2.1) (hother _ _ _ _ _ _ hn1 k1).1
    · rcases hget _ _ h2 with ⟨hn2, k2⟩ | ⟨rfl, e2⟩
      · simp only [Blk.shr.injEq] at e1
        exact absurd (he.symm.trans e1.1) (hother _ _ _ _ _ _ hn2 k2).1
      · rfl
  refine ⟨fun a v => s.R a v ∨ (a.block = b' ∧ a.spot = none ∧ (cs ++ ys)[a.off]? = some v), fun a v ha => .inl ha, fun i v hi => .inr ⟨rfl, rfl, hi⟩, ?_⟩
  refine { size := h.size, env := h.env, ok := fun t => ?_, below := ?_, le := fun a v ha => .inl (h.le a v ha), blk := fun i c hi => ?_, inj := fun i i' c c' hi hi' hc hc' he => h.inj i i' c c' (hlive _ _ hi hc) (hlive _ _ hi' hc') hc hc' he, ro := fun a v ha => ?_, kept := fun p hp => ?_, shr := fun i bb cc TT zz ss hi => ?_, own := fun i F hi => ?_, pos := h.pos, len := by simp only [List.length_set]; exact h.len }
  · simp only [List.length_set]; exact h.ok t
  · exact h.below.grown hw hbase
  · simp only [List.length_set]
    rcases hget i c hi with ⟨hne, hi⟩ | ⟨rfl, rfl⟩
    · refine (h.blk i c hi).heap fun hcl => hw.block _ ((h.blk i c hi).lt hcl) fun e => ?_
      simp only [Option.some.injEq] at e
      exact hS.apart i c hi hcl e
    · trivial
  · rcases ha with ha | ⟨ha, hs, hc⟩
    · obtain ⟨g1, g2, g3⟩ := h.ro a v ha
      refine ⟨hcell a v ha, g2.imp id fun hh2 => ⟨hh2.1, ?_⟩, fun i c hi hc => g3 i c (hlive _ _ hi hc) hc⟩
      by_cases hab : a.block = b
      · rw [hab]; exact hlob
      · exact hh2.2.of_eq (hw.block _ (block_lt_of_cell g1) fun e => by simp only [Option.some.injEq] at e; first | exact hab e | exact hab e.symm)
    · refine ⟨?_, .inr (by rw [ha]; exact ⟨by rcases hb' with rfl | rfl; exact hbase; exact .inl hbelow, arr', T, hh⟩), fun i c hi hc => by rw [ha]; exact (hlt i c (hlive _ _ hi hc) hc).symm⟩
      obtain ⟨ab, ao, asp⟩ := a
      simp only at ha hs hc
      subst ha hs
      obtain ⟨rest, hrest⟩ := hp
      have h2 : arr'.toList[ao]? = some v := by
        rw [← hrest, List.getElem?_append_left (List.getElem?_eq_some_iff.1 hc).1]; exact hc
      simp only [World.cell?, hh, Option.isSome_none, Bool.false_eq_true, if_false]
      simpa using h2
  · obtain ⟨g1, g2, g3, g4⟩ := h.kept p hp
    have hpb := hS.kept p hp
    have hpl := (Array.getElem?_eq_some_iff.1 g1).1
    refine ⟨by rw [hw.block _ hpl (fun e => by simp only [Option.some.injEq] at e; exact hpb e)]; exact g1, g2, fun i c hi hc => g3 i c (hlive _ _ hi hc) hc, fun a v ha => ?_⟩
    rcases ha with ha | ⟨ha, _⟩
    · exact g4 a v ha
    · rw [ha]
      rcases hb' with rfl | rfl
      · exact hpb.symm
      · omega
  · have hi0 := hi
    rcases hget _ _ hi with ⟨hne, hi⟩ | ⟨rfl, e⟩
    · have g := h.shr _ _ _ _ _ _ hi
      obtain ⟨arr, g1, g2⟩ := g.heap
      have ho := hother _ _ _ _ _ _ hne hi
      refine ⟨g.base, ⟨arr, ?_, g2⟩, fun i' c hc hl => g.apart i' c (hlive _ _ hc hl) hl, fun a v ha hab => ?_, fun o v ho => .inl (g.row o v ho), fun j' b'' cap'' T'' sz'' cs'' hj' e => hone _ _ _ _ _ _ _ _ _ _ _ _ hj' hi0 e, g.kept⟩
      · rw [hw.block _ (Array.getElem?_eq_some_iff.1 g1).1 (fun e => by simp only [Option.some.injEq] at e; exact ho.2 e)]; exact g1
      · rcases ha with ha | ⟨ha, _⟩
        · exact g.facts a v ha hab
        · exact absurd (hab.symm.trans ha) ho.1
    · simp only [Blk.shr.injEq] at e
      obtain ⟨rfl, rfl, rfl, rfl, rfl⟩ := e
      refine ⟨by rcases hb' with rfl | rfl; exact hbase; exact .inl hbelow, ⟨arr', hh, hp, h1, h2, h3⟩, fun i' c hc hl => hlt i' c (hlive _ _ hc hl) hl, fun a v ha hab => ?_, fun o v ho => .inr ⟨rfl, rfl, ho⟩, fun j' b'' cap'' T'' sz'' cs'' hj' e => hone _ _ _ _ _ _ _ _ _ _ _ _ hj' hi0 e, fun p hp => ?_⟩
      · rcases ha with ha | ⟨_, _, ha⟩
        · rcases hb' with rfl | rfl
          · have := hS.facts a v ha hab
            simp only [List.length_append]; omega
          · have := block_lt_of_cell (h.ro a v ha).1; omega
        · exact (List.getElem?_eq_some_iff.1 ha).1
      · rcases hb' with rfl | rfl
        · exact hS.kept p hp
        · have := (Array.getElem?_eq_some_iff.1 (h.kept p hp).1).1; omega
  · have hownO : ∀ (i : Nat) (F : RO), (s.blk.set j (.shr b' cap' T sz (cs ++ ys)))[i]? = some (Blk.own F) → s.blk[i]? = some (Blk.own F) := fun i F hi => by
      rcases hget i _ hi with ⟨_, hi⟩ | ⟨_, e⟩
      · exact hi
      · cases e
    have g := h.own _ _ (hownO _ _ hi)
    have hFb : ∀ a v, F a v → b' ≠ a.block := fun a v hf => by
      rcases hb' with rfl | rfl
      · exact g.shr a v hf _ _ _ _ _ _ hj
      · have := g.lt hf; omega
    refine g.move (fun a v hf => hw.block _ (g.lt hf) fun e => by simp only [Option.some.injEq] at e; first | exact g.shr a v hf _ _ _ _ _ _ hj e | exact g.shr a v hf _ _ _ _ _ _ hj e.symm) (fun a v hf i' c hc hl => g.apart a v hf i' c (hlive _ _ hc hl) hl) (fun a v hf a' v' ha' => ?_) (fun a v hf i' bb cap T sz cs hi' => ?_) (fun a v hf i' G hi' hne => g.one a v hf i' G (hownO _ _ hi') hne)
    · rcases ha' with ha' | ⟨ha', _⟩
      · exact g.ro a v hf a' v' ha'
      · rw [ha']; exact hFb a v hf
    · rcases hget _ _ hi' with ⟨_, hi'⟩ | ⟨_, e⟩
      · exact g.shr a v hf _ _ _ _ _ _ hi'
      · simp only [Blk.shr.injEq] at e
        rw [e.1]; exact hFb a v hf

theorem Rel.newBox (h : Rel X β κ s tm w) (cs : List SV) (hcs : ∀ c ∈ cs, SV.ok s.blk.length c = true) (T : TypeId) :
    Rel X (updN β s.blk.length w.heap.size) (updN κ s.blk.length 0) { s with blk := s.blk ++ [.box cs] } tm (w.alloc (.cells (cs.map (den β κ)).toArray T)) := by
  refine h.grow (ext_alloc _ _) _ _ _ h.fresh.1 h.fresh.2.1 h.fresh.2.2.1 h.fresh.2.2.2.1 h.fresh.2.2.2.2 rfl ⟨?_, fun c hc => ok_succ (hcs c hc), T, ?_⟩
  · simp only [updN, if_true]; exact .inl h.below.size
  · simp only [updN, if_true]
    rw [heap_new]
    congr 3
    exact List.map_congr_left fun x hx => (den_updN (hcs x hx)).symm
theorem Rel.newRow (h : Rel X β κ s tm w) (cs : List Value) (arr : Array Value) (T sz cap : Nat) (hp : cs <+: arr.toList) (h1 : cap * sz = arr.size) (h2 : cs.length ≤ cap * sz) (h3 : cap ≤ maxLen) :
    Rel X (updN β s.blk.length w.heap.size) (updN κ s.blk.length cap) { s with blk := s.blk ++ [.row T sz cs] } tm (w.alloc (.cells arr T)) := by
  refine h.grow (ext_alloc _ _) _ _ _ h.fresh.1 h.fresh.2.1 h.fresh.2.2.1 h.fresh.2.2.2.1 h.fresh.2.2.2.2 rfl ⟨?_, arr, ?_, hp, ?_, ?_, ?_⟩
  · simp only [updN, if_true]; exact .inl h.below.size
  · simp only [updN, if_true]; exact heap_new _ _
  · simp only [updN, if_true]; exact h1
  · simp only [updN, if_true]; exact h2
  · simp only [updN, if_true]; exact h3

theorem cells_den (x : SV) : (den β κ x).cells = ((cellsOf x).map (den β κ)).toArray := by
  cases x with
  | val v =>
    cases v <;> first | rfl | (simp only [den, Value.cells, cellsOf, List.map_map]; apply Array.ext'; simp [Function.comp_def, den])
  | _ => rfl
theorem cellsOf_ok {L : Nat} {x : SV} (h : SV.ok L x = true) : ∀ c ∈ cellsOf x, SV.ok L c = true := by
  intro c hc
  cases x with
  | val v =>
    cases v <;> simp only [cellsOf, List.mem_singleton, List.mem_map] at hc <;> first | (subst hc; rfl) | (obtain ⟨_, _, rfl⟩ := hc; rfl)
  | _ => simp only [cellsOf, List.mem_singleton] at hc; subst hc; exact h

theorem getElem?_repCells (z : List Value) : ∀ (n i : Nat), i < n * z.length → (repCells z n)[i]? = z[i % z.length]?
  | 0, i, h => by simp at h
  | n + 1, i, h => by
    simp only [repCells]
    rcases Nat.lt_or_ge i z.length with hlt | hge
    · rw [List.getElem?_append_left hlt, Nat.mod_eq_of_lt hlt]
    · rw [List.getElem?_append_right hge, getElem?_repCells z n (i - z.length) (by rw [Nat.add_mul] at h; omega)]
      congr 1
      rw [Nat.mod_eq_sub_mod hge]
theorem length_repCells (z : List Value) : ∀ n, (repCells z n).length = n * z.length
  | 0 => by simp [repCells]
  | n + 1 => by simp only [repCells, List.length_append, length_repCells z n, Nat.add_mul]; omega
theorem repCells_range (z : Array Value) (n : Nat) : (Array.range (n * z.size)).map (fun i => z[i % z.size]!) = (repCells z.toList n).toArray := by
  apply Array.ext_getElem?
  intro i
  by_cases hi : i < n * z.size
  · have hp : 0 < z.size := by
      rcases Nat.eq_zero_or_pos z.size with h0 | h0
      · rw [h0] at hi; simp at hi
      · exact h0
    have h1 := getElem?_repCells z.toList n i (by simpa using hi)
    have hm : i % z.size < z.size := Nat.mod_lt _ hp
    simp only [List.getElem?_toArray, h1]
    simp [hi, hm]
  · rw [Array.getElem?_eq_none (by simp; omega)]
    rw [List.getElem?_toArray, List.getElem?_eq_none (by rw [length_repCells]; simp; omega)]

/-- What an operation that makes or writes memory owes. -/
def Effect (P : Program) (X : Ctx) (tm : Array Value) (df : List Deferred) (w : World) (o : Oper) (tl : Bool) (k : SV → St → Prop) : Prop :=
  ∀ (K : Act → World → Prop) (Q : Exit → Act → World → Prop), (∀ β' κ' sv s' w', Rel X β' κ' s' tm w' → SV.ok s'.blk.length sv = true → k sv s' → (tl = false → Ext w w') → K ((⟨tm, df⟩ : Act).put o.dst (den β' κ' sv)) w') →
    o.wp P ⟨tm, df⟩ w K Q

theorem putAt_eq : ∀ (vs : List Value) (off : Nat) (cs : List Value), off + vs.length ≤ cs.length → putAt off cs vs = cs.take off ++ vs ++ cs.drop (off + vs.length)
  | [], off, cs, _ => by simp [putAt]
  | v :: vs, off, cs, h => by
    simp only [putAt]
    rw [putAt_eq vs (off + 1) (cs.set off v) (by simp at h ⊢; omega)]
    have e := list_seg_step cs off v vs (by simp at h; omega)
    simpa using e
theorem map_putAtS : ∀ (vs : List SV) (off : Nat) (cs : List SV), (putAtS off cs vs).map (den β κ) = putAt off (cs.map (den β κ)) (vs.map (den β κ))
  | [], _, _ => rfl
  | v :: vs, off, cs => by simp only [putAtS, List.map_cons, putAt]; rw [map_putAtS vs, List.map_set]
theorem mem_putAtS {c : SV} : ∀ (vs : List SV) (off : Nat) (cs : List SV), c ∈ putAtS off cs vs → c ∈ cs ∨ c ∈ vs
  | [], _, _, h => .inl h
  | v :: vs, off, cs, h => by
    simp only [putAtS] at h
    rcases mem_putAtS vs (off + 1) _ h with h | h
    · rcases List.mem_or_eq_of_mem_set h with h | rfl
      · exact .inl h
      · exact .inr (by simp)
    · exact .inr (by simp [h])

theorem run_storeAt {t : TypeId} {inf : TypeInfo} (hi : P.info? t = some inf) (g o : Nat) (v : Value) (arr : Array Value) (T : TypeId) (w : World) (hg : w.heap[g]? = some (.cells arr T (0, 0)))
    (hsz : v.cells.size = inf.size) (hle : o + inf.size ≤ arr.size) (h1 : ∀ c ∈ v.cells.toList, c.oneCell' = true) :
    (Instr.storeAt t (.pointer (some ⟨g, o, none⟩)) v).run P w = .ok () (w.setRow g (putAt o arr.toList v.cells.toList).toArray) := by
  have hlen : v.cells.toList.length = inf.size := by simpa using hsz
  have h2 := run_storeCells_at P g o T v.cells.toList 0 arr w hg (by rw [hlen]; omega) h1
  simp only [Nat.add_zero] at h2
  simp only [Instr.storeAt, Instr.sureAddr, Sem.run_bind, Sem.run_pure, Result.andThen_ok, storeVar, run_sizeOf' hi, hsz, ne_eq, not_true_eq_false, if_false, h2]
  rw [putAt_eq v.cells.toList o arr.toList (by rw [hlen]; simpa using hle)]
theorem grown_setRow (w : World) (g : Nat) (arr arr' : Array Value) (T : TypeId) (hg : w.heap[g]? = some (.cells arr T (0, 0))) : Grown w (w.setRow g arr') (some g) ∧ (w.setRow g arr').heap[g]? = some (.cells arr' T (0, 0)) := by
  refine ⟨⟨rfl, rfl, rfl, by simp [World.setRow], fun i hi hne => ?_, Nat.le_refl _⟩, setRow_heap w g arr arr' T _ hg⟩
  simp only [World.setRow, Array.getElem?_modify]
  rw [if_neg (fun e => hne (by rw [e]))]

theorem putAt_prefix {cs : List Value} {arr : List Value} (h : cs <+: arr) (vs : List Value) (off : Nat) (hl : off + vs.length ≤ cs.length) : putAt off cs vs <+: putAt off arr vs := by
  obtain ⟨r, rfl⟩ := h
  rw [putAt_eq vs off cs hl, putAt_eq vs off (cs ++ r) (by simp; omega)]
  refine ⟨r, ?_⟩
  rw [List.take_append_of_le_length (by omega), List.drop_append_of_le_length (by omega)]
  simp

theorem srcCells_sound {T sz : Nat} {x : SV} {k : Nat → List Value → Prop} (h : Rel X β κ s tm w) (hk : srcCells s T sz x k) :
    ∃ a m c ys, den β κ x = .slice a m c ∧ ys.length = m * sz ∧ (∀ u ∈ ys, u.oneCell' = true) ∧ (ys ≠ [] → ∃ ad, a = some ad ∧ ∀ i v, ys[i]? = some v → w.cell? (ad.add i) = some v) ∧ k m ys := by
  unfold srcCells at hk
  split at hk
  · rename_i a m c
    obtain ⟨vs, hl, hone, hvs, hk⟩ := hk
    refine ⟨a, m, c, vs, rfl, hl, hone, fun hne => ?_, hk⟩
    obtain ⟨ad, rfl, hR⟩ := hvs hne
    exact ⟨ad, rfl, fun i v hi => (h.all (hR i v hi)).1⟩
  · rename_i j m
    obtain ⟨cs, hj, hl, hone, hk⟩ := hk
    refine ⟨some ⟨β j, 0, none⟩, m, κ j, cs.take (m * sz), rfl, by simp; omega, fun u hu => hone u (List.mem_of_mem_take hu), fun _ => ⟨_, rfl, fun i v hi => ?_⟩, hk⟩
    rw [Addr.add_lit, Nat.zero_add]
    refine h.rowCell hj ?_
    rw [List.getElem?_take] at hi
    split at hi
    · exact hi
    · cases hi
  · rename_i j z e m
    obtain ⟨cs, hj, rfl, hsz, hl, hone, hk⟩ := hk
    obtain ⟨_, arr, _, _, _, hcap, _⟩ := h.blk j _ hj
    have hrc : e + m ≤ κ j := Nat.le_of_mul_le_mul_right (Nat.le_trans hl hcap) hsz
    have hl' : e * z + m * z ≤ cs.length := by rw [← Nat.add_mul]; exact hl
    refine ⟨_, m, κ j - e, (cs.drop (e * z)).take (m * z), rfl, by rw [List.length_take, List.length_drop]; omega, fun u hu => hone u (List.mem_of_mem_drop (List.mem_of_mem_take hu)), fun hne => ⟨_, rfl, fun i v hi => ?_⟩, hk⟩
    have hm : 0 < m := by
      rcases Nat.eq_zero_or_pos m with h0 | h0
      · subst h0; simp at hne
      · exact h0
    rw [if_neg (by omega), Addr.add_lit]
    refine h.rowCell hj ?_
    rw [List.getElem?_take] at hi
    split at hi
    · rw [List.getElem?_drop] at hi; exact hi
    · cases hi
  · exact hk.elim
theorem run_append_zero (t ty e : TypeId) (i : TypeInfo) (ht : P.underlying t = some (.slice e)) (hi : P.info? e = some i) (b : Option Addr) (n cap : Nat) (hn : n ≤ cap) (a : Option Addr) (c : Nat) (w : World) :
    (Builtin.append_ #[t, t] ty #[.slice b n cap, .slice a 0 c]).run P w = .ok (.slice b n cap) w := by
  cases a <;> cases b <;> simp [Builtin.append_, run_underlying ht, sizeOf, typeInfo, hi, Builtin.lenOf, Builtin.firstCells, hn, storeCells, loadCells, loadCellsFrom]

theorem repCells_prefix (z : List Value) : ∀ n d, repCells z n <+: repCells z (n + d)
  | 0, d => by simp [repCells]
  | n + 1, d => by
    rw [show n + 1 + d = (n + d) + 1 by omega]
    simp only [repCells]
    exact (List.prefix_append_right_inj _).2 (repCells_prefix z n d)

theorem enter_run {f : FuncId} (hb : hasBody P f = true) (ρ : Operand → Value) (x : Operand) (args : Array Operand) (argTypes : Array TypeId) (first caps : Array Value) (hx : ρ x = .func (.func f) first caps)
    (dst : Option Tmp) (type : TypeId) (pos : String) (after : Array Edge) (guard : Option (Nat × Bool)) (w : World) :
    (execOp ρ ⟨dst, .call ⟨.value x, args, argTypes⟩, type, pos, after, guard⟩).run P w = .ok (.enter f (first ++ args.map ρ ++ caps)) w := by
  unfold hasBody at hb
  split at hb
  · rename_i fn hfn
    simp only [Bool.and_eq_true, Bool.not_eq_true'] at hb
    obtain ⟨c, hbody⟩ := Option.isSome_iff_exists.1 hb.1
    simp only [execOp, resolve, hx, Deferred.ofValue, Sem.run_bind, Sem.run_pure, Result.andThen_ok, invoke, callFunc, run_program, hfn, hb.2, Bool.false_eq_true, if_false, hbody, Option.isNone_some]
  · cases hb
theorem effect_sound {o : Oper} {vo : VOp} {md : Bool} (hc : compOp P md o = some vo) (hq : vo.quiet = false) (h : Rel X β κ s tm w) {k : SV → St → Prop} (hk : vcOp ⟨P, X.ng⟩ vo s k) (df : List Deferred) :
    Effect P X tm df w o vo.tail k := by
  obtain ⟨dst, op, type, pos, after, guard⟩ := o
  have E := fun x => h.eval df x
  intro K Q hK
  unfold Oper.wp
  cases op <;> simp only [compOp, reduceCtorEq] at hc
  case move x => simp only [Option.some.injEq] at hc; subst hc; cases hq
  case assign x => simp only [Option.some.injEq] at hc; subst hc; cases hq
  case pick c a b => simp only [Option.some.injEq] at hc; subst hc; cases hq
  case unOp op t x => simp only [Option.some.injEq] at hc; subst hc; cases hq
  case extract x i => simp only [Option.some.injEq] at hc; subst hc; cases hq
  case nilCheck x => simp only [Option.some.injEq] at hc; subst hc; cases hq
  case binOp op t x y yt =>
    exfalso
    (repeat' split at hc) <;> first | (simp only [Option.some.injEq] at hc; subst hc; cases hq) | cases hc
  case fieldAddr t x f =>
    exfalso
    (repeat' split at hc) <;> first | (simp only [Option.some.injEq] at hc; subst hc; cases hq) | cases hc
  case indexAddr t x i =>
    exfalso
    (repeat' split at hc) <;> first | (obtain ⟨_, _, rfl⟩ := Option.map_eq_some_iff.1 hc; cases hq) | cases hc
  case load t x => obtain ⟨n, _, rfl⟩ := Option.map_eq_some_iff.1 hc; cases n <;> cases hq
  case build t parts =>
    exfalso
    (repeat' split at hc) <;> first | (obtain ⟨_, _, rfl⟩ := Option.map_eq_some_iff.1 hc; cases hq) | cases hc
  case convert src dst x =>
    exfalso
    (repeat' split at hc) <;> first | (simp only [Option.some.injEq] at hc; subst hc; cases hq) | cases hc
  case makeFunc fn first caps =>
    exfalso
    cases fn <;> simp only [reduceCtorEq] at hc
    (repeat' split at hc) <;> first | (simp only [Option.some.injEq] at hc; subst hc; cases hq) | cases hc
  case slice t x lo hi mx =>
    exfalso
    cases mx <;> cases hi <;> simp only [reduceCtorEq] at hc
    all_goals
      (repeat' split at hc) <;> first | (obtain ⟨_, _, rfl⟩ := Option.map_eq_some_iff.1 hc; cases hq) | cases hc
  case field t x f =>
    exfalso
    (repeat' split at hc) <;> first | (obtain ⟨_, _, rfl⟩ := Option.map_eq_some_iff.1 hc; cases hq) | cases hc
  case index t x i =>
    exfalso
    (repeat' split at hc) <;> first | (obtain ⟨_, _, rfl⟩ := Option.map_eq_some_iff.1 hc; cases hq) | cases hc
  case lookup t x y ok =>
    exfalso
    (repeat' split at hc) <;> first | (obtain ⟨_, _, rfl⟩ := Option.map_eq_some_iff.1 hc; cases hq) | cases hc
  case alloc t =>
    split at hc
    · rename_i inf hinf
      obtain ⟨z, hz, rfl⟩ := Option.map_eq_some_iff.1 hc
      simp only [vcOp] at hk
      have h1 := h.newBox (z.cells.toList.map .val) (by intro c hc'; obtain ⟨_, _, rfl⟩ := List.mem_map.1 hc'; rfl) t
      have hrun : (execOp (⟨tm, df⟩ : Act).eval ⟨dst, .alloc t, type, pos, after, guard⟩).run P w = .ok (.value (.pointer (some ⟨w.heap.size, 0, none⟩))) (w.alloc (.cells z.cells t)) := by
        simp only [execOp, Instr.alloc, zeroValue, Sem.run_bind, run_typeInfo' hinf, hz, Result.andThen_ok, Sem.run_pure, newVar, newRow, run_newObj]; rfl
      rw [hrun]
      have hz' : ((z.cells.toList.map SV.val).map (den β κ)).toArray = z.cells := by apply Array.ext'; simp [Function.comp_def, den]
      rw [hz'] at h1
      have := hK _ _ (.loc s.blk.length 0) _ _ h1 (by simp [SV.ok]) hk (fun _ => ext_alloc _ _)
      simpa [Oper.upon, den, updN] using this
    · cases hc
  case box t x =>
    simp only [Option.some.injEq] at hc; subst hc
    simp only [vcOp] at hk
    have h1 := h.newBox (cellsOf (s.ev x)) (cellsOf_ok (h.evOk x)) t
    have hrun : (execOp (⟨tm, df⟩ : Act).eval ⟨dst, .box t x, type, pos, after, guard⟩).run P w = .ok (.value (.pointer (some ⟨w.heap.size, 0, none⟩))) (w.alloc (.cells (den β κ (s.ev x)).cells t)) := by
      simp only [execOp, Instr.box, Sem.run_bind, Result.andThen_ok, Sem.run_pure, newVar, newRow, run_newObj, E]; rfl
    rw [hrun, cells_den]
    have := hK _ _ (.loc s.blk.length 0) _ _ h1 (by simp [SV.ok]) hk (fun _ => ext_alloc _ _)
    simpa [Oper.upon, den, updN] using this
  case buildSlice t n parts =>
    split at hc
    · rename_i e he
      split at hc
      · rename_i inf hinf
        split at hc
        · rename_i z hz
          split at hc
          · rename_i hcond
            obtain ⟨hbig, hzs, hn24⟩ := hcond
            simp only [Option.some.injEq] at hc; subst hc
            simp only [vcOp] at hk
            obtain ⟨s', cs', h', hk', hlen, hf⟩ := fillV_sound df (fun i => some (i * inf.size, inf.size)) parts.toList (partsA inf.size parts.toList) s (repCells z.cells.toList n) _ (by simp [partsA])
              (fun i p q hi hj => by
                simp only [partsA, List.getElem?_map, hi, Option.map_some, Option.some.injEq] at hj
                subst hj
                exact ⟨rfl, rfl⟩) h hk
            have hl : cs'.length = n * inf.size := by rw [hlen, length_repCells]; simp [hzs]
            have h1 := h'.newRow cs' cs'.toArray e inf.size n (by simp) (by simp [hl]) (by omega) (by unfold maxLen; omega)
            have hf' : Instr.fill (fun i => some (i * inf.size, inf.size)) (repCells z.cells.toList n).toArray ((parts.map fun (x : Nat × Operand) => (x.1, (⟨tm, df⟩ : Act).eval x.2)).toList) = some cs'.toArray := by
              rw [← hf]; simp
            have hrun : (execOp (⟨tm, df⟩ : Act).eval ⟨dst, .buildSlice t n parts, type, pos, after, guard⟩).run P w = .ok (.value (.slice (some ⟨w.heap.size, 0, none⟩) n n)) (w.alloc (.cells cs'.toArray e)) := by
              have hrep := repCells_range z.cells n
              rw [hzs] at hrep
              simp only [execOp, Instr.buildSlice, Sem.run_bind, run_underlying he, Result.andThen_ok, run_sizeOf' hinf, Nat.reducePow]
              rw [if_neg (by omega)]
              by_cases h0 : n * inf.size = 0
              · have hnil : repCells z.cells.toList n = [] := by
                  apply List.eq_nil_of_length_eq_zero; rw [length_repCells]; simp [hzs, h0]
                rw [hnil] at hf'
                simp only [h0, if_true, Sem.run_bind, Sem.run_pure, Result.andThen_ok]
                have hr0 : (Array.range 0).map (fun (x : Nat) => (#[] : Array Value)[x % (#[] : Array Value).size]!) = ([] : List Value).toArray := by simp
                rw [hr0, hf']
                simp [newRow]
              · simp only [h0, if_false, Sem.run_bind, zeroValue, run_typeInfo' hinf, hz, Sem.run_pure, Result.andThen_ok, hzs]
                rw [hrep, hf']
                simp [newRow]
            rw [hrun]
            have := hK _ _ (.sl s'.blk.length n) _ _ h1 (by simp [SV.ok]) hk' (fun _ => ext_alloc _ _)
            simpa [Oper.upon, den, updN] using this
          · cases hc
        · cases hc
      · cases hc
    · cases hc
  case call c =>
    obtain ⟨callee, args, argTypes⟩ := c
    simp only at hc
    split at hc
    · rename_i f
      split at hc
      · rename_i hb
        simp only [Option.some.injEq] at hc; subst hc
        simp only [vcOp] at hk
        have hrun := enter_run (P := P) hb (⟨tm, df⟩ : Act).eval (.func f) args argTypes #[] #[] rfl dst type pos after guard w
        have hargs : (#[] ++ args.map (⟨tm, df⟩ : Act).eval ++ #[] : Array Value) = ((evs s args.toList).map (den β κ)).toArray := by
          rw [evs_den h df]; apply Array.ext'; simp
        rw [hrun, hargs, Oper.upon_enter]
        split at hk
        · rename_i hall
          rcases hk with ⟨Post, hcall, hk'⟩ | hk
          · rw [allVal_den _ hall]
            refine (hcall w (fun a v ha => (h.ro a v ha).1)).mono ?_
            rintro e w' ⟨v, R', rfl, hle, hR', hext, hpost⟩
            have := hK _ _ (.val v) _ _ (h.called hle hR' hext) rfl (hk' R' v hle hpost) (fun _ => hext)
            simpa [den] using this
          · rcases hk with hk | hk | hk
            · refine (hand_soundM h hk).mono ?_
              rintro e w' ⟨β', κ', r, s', rfl, hr, h', hk', hext⟩
              exact hK _ _ r _ _ h' hr hk' hext
            · refine (lend_sound h hk).mono ?_
              rintro e w' ⟨v, s', rfl, h', hk', hext⟩
              have := hK _ _ (.val v) _ _ h' rfl hk' (fun _ => hext)
              simpa [den] using this
            · refine (lendA_sound h hk).mono ?_
              rintro e w' ⟨v, s', rfl, h', hk', hext⟩
              have := hK _ _ (.val v) _ _ h' rfl hk' (fun _ => hext)
              simpa [den] using this
        · rcases hk with hk | hk | hk | hk
          · rw [evs_den h df]
            obtain ⟨s', h', Post, hcall, hk'⟩ := leaves_sound df _ _ _ h hk
            refine (hcall w (fun a v ha => (h'.ro a v ha).1)).mono ?_
            rintro e w' ⟨v, R', rfl, hle, hR', hext, hpost⟩
            have := hK _ _ (.val v) _ _ (h'.called hle hR' hext) rfl (hk' R' v hle hpost) (fun _ => hext)
            simpa [den] using this
          · refine (lend_sound h hk).mono ?_
            rintro e w' ⟨v, s', rfl, h', hk', hext⟩
            have := hK _ _ (.val v) _ _ h' rfl hk' (fun _ => hext)
            simpa [den] using this
          · refine (hand_soundM h hk).mono ?_
            rintro e w' ⟨β', κ', r, s', rfl, hr, h', hk', hext⟩
            exact hK _ _ r _ _ h' hr hk' hext
          · refine (lendA_sound h hk).mono ?_
            rintro e w' ⟨v, s', rfl, h', hk', hext⟩
            have := hK _ _ (.val v) _ _ h' rfl hk' (fun _ => hext)
            simpa [den] using this
      · cases hc
    · rename_i t
      simp only [Option.some.injEq] at hc; subst hc
      simp only [vcOp] at hk
      split at hk
      · rename_i f first caps hu
        obtain ⟨hb, hk⟩ := hk
        have hrun := enter_run (P := P) hb (⟨tm, df⟩ : Act).eval (.tmp t) args argTypes first caps (by rw [E, hu]; rfl) dst type pos after guard w
        rw [hrun, Oper.upon_enter]
        split at hk
        · rename_i hall
          obtain ⟨Post, hcall, hk'⟩ := hk
          have hargs : (first ++ args.map (⟨tm, df⟩ : Act).eval ++ caps : Array Value) = (first.toList ++ valsOf (evs s args.toList) ++ caps.toList).toArray := by
            rw [← allVal_den (β := β) (κ := κ) _ hall, evs_den h df]; apply Array.ext'; simp
          rw [hargs]
          refine (hcall w (fun a v ha => (h.ro a v ha).1)).mono ?_
          rintro e w' ⟨v, R', rfl, hle, hR', hext, hpost⟩
          have := hK _ _ (.val v) _ _ (h.called hle hR' hext) rfl (hk' R' v hle hpost) (fun _ => hext)
          simpa [den] using this
        · have hargs : (first ++ args.map (⟨tm, df⟩ : Act).eval ++ caps : Array Value) = ((first.toList.map SV.val ++ evs s args.toList ++ caps.toList.map SV.val).map (den β κ)).toArray := by
            rw [List.map_append, List.map_append, evs_den h df]; apply Array.ext'; simp [Function.comp_def, den]
          rw [hargs]
          refine (lend_sound h hk).mono ?_
          rintro e w' ⟨v, s', rfl, h', hk', hext⟩
          have := hK _ _ (.val v) _ _ h' rfl hk' (fun _ => hext)
          simpa [den] using this
      · rename_i f cs hu
        obtain ⟨hb, hk⟩ := hk
        have hrun := enter_run (P := P) hb (⟨tm, df⟩ : Act).eval (.tmp t) args argTypes #[] (cs.map (capV β)).toArray (by rw [E, hu]; rfl) dst type pos after guard w
        rw [hrun, Oper.upon_enter]
        have hargs : (#[] ++ args.map (⟨tm, df⟩ : Act).eval ++ (cs.map (capV β)).toArray : Array Value) = ((evs s args.toList ++ cs.map capSV).map (den β κ)).toArray := by
          rw [List.map_append, evs_den h df, List.map_map]
          have : (den β κ ∘ capSV) = capV β := funext fun c => capSV_den c
          rw [this]
          apply Array.ext'; simp
        rw [hargs]
        rcases hk with hk | hk
        · refine (lend_sound h hk).mono ?_
          rintro e w' ⟨v, s', rfl, h', hk', hext⟩
          have := hK _ _ (.val v) _ _ h' rfl hk' (fun _ => hext)
          simpa [den] using this
        · refine (hand_soundM h hk).mono ?_
          rintro e w' ⟨β', κ', r, s', rfl, hr, h', hk', hext⟩
          exact hK _ _ r _ _ h' hr hk' hext
      · exact hk.elim
    · exfalso
      (repeat' split at hc) <;> first | (simp only [Option.some.injEq] at hc; subst hc; cases hq) | cases hc
    · exfalso
      (repeat' split at hc) <;> first | (simp only [Option.some.injEq] at hc; subst hc; cases hq) | cases hc
    · (repeat' split at hc) <;> first | (simp only [Option.some.injEq] at hc; subst hc; cases hq) | cases hc
    · split at hc
      · rename_i x y t t' hxy htt
        split at hc
        · rename_i hteq
          subst hteq
          split at hc
          · rename_i e he
            split at hc
            · rename_i inf hinf
              split at hc
              · rename_i z hz
                split at hc
                · rename_i hcond
                  obtain ⟨hzs, hsz, hby⟩ := hcond
                  simp only [Option.some.injEq] at hc; subst hc
                  have hx' : args = #[x, y] := by apply Array.ext'; simpa using hxy
                  have ht' : argTypes = #[t, t] := by apply Array.ext'; simpa using htt
                  subst hx' ht'
                  simp only [vcOp] at hk
                  obtain ⟨a, m, c, ys, hy, hyl, hone, hya, hk⟩ := srcCells_sound h hk
                  have hwrap : ∀ (v v' : Value) w', den β κ (s.ev x) = v → (Builtin.append_ #[t, t] type #[v, .slice a m c]).run P w = .ok v' w' →
                      (execOp (⟨tm, df⟩ : Act).eval ⟨dst, .call ⟨.builtin .append, #[x, y], #[t, t]⟩, type, pos, after, guard⟩).run P w = .ok (.value v') w' := by
                    intro v v' w' hv hr
                    simp only [execOp, resolve, List.map_toArray, List.map_cons, List.map_nil, E, hv, hy, Sem.run_bind, Sem.run_pure, Result.andThen_ok, invoke, builtin, hr]
                  split at hk
                  · rename_i hu
                    by_cases hm : m = 0
                    · subst hm
                      rw [hwrap (.slice none 0 0) (.slice none 0 0) w (den_val hu) (run_append_zero t type e inf he hinf none 0 0 (Nat.le_refl _) a c w)]
                      have := hK _ _ (.val (.slice none 0 0)) _ _ h rfl (hk.1 rfl) (fun _ => Ext.refl _)
                      simpa [Oper.upon, den] using this
                    · obtain ⟨hbd, hk⟩ := hk.2 hm
                      have hne : ys ≠ [] := by
                        intro e0; rw [e0, List.length_nil] at hyl; have := Nat.mul_pos (Nat.pos_of_ne_zero hm) hsz; omega
                      obtain ⟨ad, rfl, hcell⟩ := hya hne
                      have hmb : m ≤ 140737488355328 := Nat.le_trans (Nat.le_mul_of_pos_right m hby) hbd
                      have hr := run_append_nil (P := P) w t type e inf z he hinf hz ad m c ys hyl hcell (by omega) (by omega) (by omega)
                      rw [hwrap _ _ _ (den_val hu) hr]
                      have hge := grownCap_ge w m 0 e
                      have h1 := (h.ext (w' := w.drew) ⟨rfl, rfl, rfl, Nat.le_refl _, fun _ _ => rfl, Nat.le_succ _⟩).newRow ys (ys.toArray ++ Builtin.zeroCells z.cells (grownCap w m 0 e - m)) e inf.size (grownCap w m 0 e)
                        (by simp) (by simp only [Array.size_append, List.size_toArray, size_zeroCells, hzs, hyl, ← Nat.add_mul]; congr 1; omega) (by rw [hyl]; exact Nat.mul_le_mul_right _ hge) (grownCap_le_maxLen w m 0 e (by unfold maxLen; omega))
                      have := hK _ _ (.sl s.blk.length m) _ _ h1 (by simp [SV.ok]) hk (fun e => by cases e)
                      simpa [Oper.upon, den, updN] using this
                  · rename_i ad0 hu
                    by_cases hm : m = 0
                    · subst hm
                      rw [hwrap (.slice (some ad0) 0 0) (.slice (some ad0) 0 0) w (den_val hu) (run_append_zero t type e inf he hinf (some ad0) 0 0 (Nat.le_refl _) a c w)]
                      have := hK _ _ (.val (.slice (some ad0) 0 0)) _ _ h rfl (hk.1 rfl) (fun e => by cases e)
                      simpa [Oper.upon, den] using this
                    · obtain ⟨hbd, hk⟩ := hk.2 hm
                      have hne : ys ≠ [] := by
                        intro e0; rw [e0, List.length_nil] at hyl; have := Nat.mul_pos (Nat.pos_of_ne_zero hm) hsz; omega
                      obtain ⟨ad, rfl, hcell⟩ := hya hne
                      have hmb : m ≤ 140737488355328 := Nat.le_trans (Nat.le_mul_of_pos_right m hby) hbd
                      have hr := run_append_grow (P := P) w t type e inf z he hinf hz ad0 0 0 [] (by simp) (fun i v hi => by simp at hi) ad m c ys hyl hcell (by omega) (by omega) (growslice_fits (by rw [Nat.zero_add]; omega) (by rw [Nat.zero_add]; omega))
                      have hge := grownCap_ge w m 0 e
                      rw [Nat.zero_add] at hr
                      rw [hwrap _ _ _ (den_val hu) hr]
                      have h1 := (h.ext (w' := w.drew) ⟨rfl, rfl, rfl, Nat.le_refl _, fun _ _ => rfl, Nat.le_succ _⟩).newRow ys (([] : List Value).toArray ++ ys.toArray ++ Builtin.zeroCells z.cells (grownCap w m 0 e - m)) e inf.size (grownCap w m 0 e)
                        (by simp) (by simp only [Array.size_append, List.size_toArray, size_zeroCells, hzs, hyl, List.length_nil, Nat.zero_add, ← Nat.add_mul]; congr 1; omega) (by rw [hyl]; exact Nat.mul_le_mul_right _ hge) (grownCap_le_maxLen w m 0 e (by unfold maxLen; omega))
                      have := hK _ _ (.sl s.blk.length m) _ _ h1 (by simp [SV.ok]) hk (fun e => by cases e)
                      simpa [Oper.upon, den, updN] using this
                  · rename_i ad0 n capx _ hu
                    obtain ⟨j, cs, hj, ha0, has, hcl, hbd, hk⟩ := hk
                    obtain ⟨ab, ao, asp⟩ := ad0
                    simp only at ha0 has hj
                    subst ha0 has
                    have hS := h.shr _ _ _ _ _ _ hj
                    obtain ⟨arr, hh, hpre, hcap, hle, hml⟩ := hS.heap
                    have hncap : n ≤ capx := Nat.le_of_mul_le_mul_right (by rw [← hcl]; exact hle) hsz
                    have hnb : n + m ≤ 140737488355328 := Nat.le_trans (Nat.le_mul_of_pos_right _ hby) hbd
                    have hdx : den β κ (s.ev x) = .slice (some ⟨ab, 0, none⟩) n capx := by rw [hu]; rfl
                    by_cases hm : m = 0
                    · subst hm
                      have hys : ys = [] := List.eq_nil_of_length_eq_zero (by simpa using hyl)
                      subst hys
                      rw [hwrap _ _ _ hdx (run_append_zero t type e inf he hinf _ n capx hncap a c w)]
                      have hk1 := hk ab capx s.R (fun _ _ ha => ha) (by simpa using hS.row) (by simpa using hle) (.inl rfl)
                      have hst : ({ s with blk := s.blk.set j (.shr ab capx e inf.size (cs ++ [])), R := s.R } : St) = s := by
                        have : s.blk.set j (.shr ab capx e inf.size (cs ++ [])) = s.blk := by
                          rw [List.append_nil]
                          apply List.ext_getElem?
                          intro i
                          rw [List.getElem?_set]
                          split
                          · rename_i hji; subst hji; rw [if_pos (List.getElem?_eq_some_iff.1 hj).1]; exact hj.symm
                          · rfl
                        rw [this]
                      rw [hst] at hk1
                      have := hK _ _ (.val (.slice (some ⟨ab, 0, none⟩) (n + 0) capx)) _ _ h rfl hk1 (fun e => by cases e)
                      simpa [Oper.upon, den] using this
                    · have hne : ys ≠ [] := by
                        intro e0; rw [e0, List.length_nil] at hyl; have := Nat.mul_pos (Nat.pos_of_ne_zero hm) hsz; omega
                      obtain ⟨ad, rfl, hcell⟩ := hya hne
                      have hlcs : (cs ++ ys).length = (n + m) * inf.size := by rw [List.length_append, hcl, hyl, Nat.add_mul]
                      by_cases hroom : n + m ≤ capx
                      · have hfit : n * inf.size + ys.length ≤ arr.size := by rw [hyl, ← hcap, ← Nat.add_mul]; exact Nat.mul_le_mul_right _ hroom
                        have hr := run_append_room (P := P) w t type e inf he hinf ab n capx arr hh ad m c ys hyl hcell hone hroom hfit
                        rw [hwrap _ _ _ hdx hr]
                        have hg := grown_setRow w ab arr (arr.toList.take (n * inf.size) ++ ys ++ arr.toList.drop (n * inf.size + ys.length)).toArray e hh
                        obtain ⟨rest, hrest⟩ := hpre
                        have htk : arr.toList.take (n * inf.size) = cs := by rw [← hrest, ← hcl, List.take_left]
                        obtain ⟨R', hR1, hR2, hR3⟩ := h.shrGrow hj hg.1 ⟨_, _, hg.2⟩ (fun a v ha => by
                          have h1 := (h.ro a v ha).1
                          by_cases hab : a.block = ab
                          · have hoff := hS.facts a v ha hab
                            obtain ⟨xb, xo, xs⟩ := a
                            simp only at hab hoff
                            subst hab
                            simp only [World.cell?, hh] at h1
                            simp only [World.cell?, hg.2]
                            split at h1
                            · cases h1
                            · rename_i hsp
                              rw [if_neg hsp]
                              rw [htk]
                              simp only [List.append_assoc, List.getElem?_toArray]
                              rw [List.getElem?_append_left hoff]
                              have h2 : arr.toList[xo]? = some v := by simpa using h1
                              rw [← hrest, List.getElem?_append_left hoff] at h2
                              exact h2
                          · have : (w.setRow ab (arr.toList.take (n * inf.size) ++ ys ++ arr.toList.drop (n * inf.size + ys.length)).toArray).heap[a.block]? = w.heap[a.block]? := hg.1.block _ (block_lt_of_cell h1) (fun e => by simp only [Option.some.injEq] at e; exact hab e)
                            rw [World.cell?_of_block this]; exact h1) ys ab capx (.inl rfl) _ hg.2
                          (by rw [htk]; exact ⟨_, rfl⟩) (by simp only [List.size_toArray, List.length_append, List.length_take, List.length_drop, Array.length_toList]; omega) (by rw [hlcs]; exact Nat.mul_le_mul_right _ hroom) hml
                        have := hK _ _ (.val (.slice (some ⟨ab, 0, none⟩) (n + m) capx)) _ _ hR3 rfl (hk ab capx R' hR1 hR2 (by rw [hlcs]; exact Nat.mul_le_mul_right _ hroom) (.inl rfl)) (fun e => by cases e)
                        simpa [Oper.upon, den] using this
                      · have holds : ∀ i v, cs[i]? = some v → w.cell? ((⟨ab, 0, none⟩ : Addr).add i) = some v := fun i v hi => by
                          rw [Addr.add_lit, Nat.zero_add]; exact (h.ro _ v (hS.row i v hi)).1
                        have hr := run_append_grow (P := P) w t type e inf z he hinf hz ⟨ab, 0, none⟩ n capx cs hcl holds ad m c ys hyl hcell (by omega) (by omega) (growslice_fits (by omega) (by omega))
                        rw [hwrap _ _ _ hdx hr]
                        have hge := grownCap_ge w (n + m) capx e
                        have hext : Ext w (w.drew.alloc (.cells (cs.toArray ++ ys.toArray ++ Builtin.zeroCells z.cells (grownCap w (n + m) capx e - (n + m))) e)) := Ext.tr (b := w.drew) ⟨rfl, rfl, rfl, Nat.le_refl _, fun _ _ => rfl, Nat.le_succ _⟩ (ext_alloc _ _)
                        obtain ⟨R', hR1, hR2, hR3⟩ := h.shrGrow hj ⟨hext.os, hext.tape, hext.output, hext.size, fun i hi _ => hext.block i hi, hext.drawn⟩ ((show Loose w ab from ⟨arr, e, hh⟩).ext hext) (fun a v ha => by
                          have h1 := (h.ro a v ha).1
                          rw [hext.cell (block_lt_of_cell h1)]; exact h1) ys w.heap.size (grownCap w (n + m) capx e) (.inr rfl) _ (heap_new w.drew _)
                          (by simp) (by simp only [Array.size_append, List.size_toArray, size_zeroCells, hzs, hyl, hcl, ← Nat.add_mul]; congr 1; omega) (by rw [hlcs]; exact Nat.mul_le_mul_right _ hge) (grownCap_le_maxLen w (n + m) capx e (by unfold maxLen; omega))
                        have := hK _ _ (.val (.slice (some ⟨w.heap.size, 0, none⟩) (n + m) (grownCap w (n + m) capx e))) _ _ hR3 rfl (hk _ _ R' hR1 hR2 (by rw [hlcs]; exact Nat.mul_le_mul_right _ hge) (.inr h.fresh.2.1)) (fun e => by cases e)
                        simpa [Oper.upon, den] using this
                  · rename_i j n hu
                    obtain ⟨cs, csF, hj, hcs, hcl, hbd, hk⟩ := hk
                    obtain ⟨hB, arr, hh, hpreF, hcap, hleF, hml⟩ := h.blk j _ hj
                    have hpre : cs <+: arr.toList := List.IsPrefix.trans hcs hpreF
                    have hle : cs.length ≤ κ j * inf.size := Nat.le_trans hcs.length_le hleF
                    have hncap : n ≤ κ j := Nat.le_of_mul_le_mul_right (by rw [← hcl]; exact hle) hsz
                    have hnb : n + m ≤ 140737488355328 := Nat.le_trans (Nat.le_mul_of_pos_right _ hby) hbd
                    have hdx : den β κ (s.ev x) = .slice (some ⟨β j, 0, none⟩) n (κ j) := by rw [hu]; rfl
                    have hkill := h.modify (w' := w) hj rfl ⟨rfl, rfl, rfl, Nat.le_refl _, fun _ _ _ => rfl, Nat.le_refl _⟩ .dead (fun _ _ _ _ _ e => by cases e) (fun _ e => by cases e) trivial
                    have hdead : ∀ (w2 : World) i b, (s.blk.set j .dead)[i]? = some b → b.live = true → β i ≠ β j := by
                      intro _ i b hi hl heq
                      rw [List.getElem?_set] at hi
                      split at hi
                      · split at hi
                        · cases hi; cases hl
                        · cases hi
                      · rename_i hne
                        exact hne (h.inj i j b _ hi hj hl rfl heq).symm
                    have hlen : (s.blk.set j .dead).length = s.blk.length := by simp
                    have hRj : ∀ ad v, s.R ad v → ad.block ≠ β j := fun ad v ha => (h.ro ad v ha).2.2 j _ hj rfl
                    have hsj : ∀ (i b cap T sz : Nat) (cs' : List Value), (s.blk.set j .dead)[i]? = some (Blk.shr b cap T sz cs') → b ≠ β j := by
                      intro i b cap T sz cs' hi
                      rw [List.getElem?_set] at hi
                      split at hi
                      · split at hi <;> simp at hi
                      · exact fun e => (h.shr _ _ _ _ _ _ hi).apart j _ hj rfl e.symm
                    have hoj : ∀ (i : Nat) (F : RO), (s.blk.set j .dead)[i]? = some (Blk.own F) → ∀ a v, F a v → a.block ≠ β j := by
                      intro i F hi a v hf
                      rw [List.getElem?_set] at hi
                      split at hi
                      · split at hi <;> simp at hi
                      · exact fun e => (h.own _ _ hi).apart a v hf j _ hj rfl e.symm
                    have hkj : ∀ p, p ∈ X.keep → p.1 ≠ β j := fun p hp e => (h.kept p hp).2.2.1 j _ hj rfl e.symm
                    by_cases hm : m = 0
                    · subst hm
                      have hys : ys = [] := List.eq_nil_of_length_eq_zero (by simpa using hyl)
                      subst hys
                      rw [hwrap _ _ _ hdx (run_append_zero t type e inf he hinf _ n (κ j) hncap a c w)]
                      have h1 := hkill.grow (Ext.refl _) (β j) (κ j) (.row e inf.size (cs ++ [])) (hdead w) hRj hkj hsj hoj rfl
                        ⟨by simp only [hlen, updN, if_true]; exact hB, arr, by simp only [hlen, updN, if_true]; exact hh, by simpa using hpre, by simp only [hlen, updN, if_true]; exact hcap, by simp only [hlen, updN, if_true]; simpa using hle, by simp only [hlen, updN, if_true]; exact hml⟩
                      simp only [hlen] at h1
                      have := hK _ _ (.sl s.blk.length (n + 0)) _ _ h1 (by simp [SV.ok]) hk (fun e => by cases e)
                      simpa [Oper.upon, den, updN] using this
                    · have hne : ys ≠ [] := by
                        intro e0; rw [e0, List.length_nil] at hyl; have := Nat.mul_pos (Nat.pos_of_ne_zero hm) hsz; omega
                      obtain ⟨ad, rfl, hcell⟩ := hya hne
                      have hlcs : (cs ++ ys).length = (n + m) * inf.size := by rw [List.length_append, hcl, hyl, Nat.add_mul]
                      by_cases hroom : n + m ≤ κ j
                      · have hfit : n * inf.size + ys.length ≤ arr.size := by rw [hyl, ← hcap, ← Nat.add_mul]; exact Nat.mul_le_mul_right _ hroom
                        have hr := run_append_room (P := P) w t type e inf he hinf (β j) n (κ j) arr hh ad m c ys hyl hcell hone hroom hfit
                        rw [hwrap _ _ _ hdx hr]
                        have hg := grown_setRow w (β j) arr (arr.toList.take (n * inf.size) ++ ys ++ arr.toList.drop (n * inf.size + ys.length)).toArray e hh
                        have hkill' := h.modify hj rfl hg.1 .dead (fun _ _ _ _ _ e => by cases e) (fun _ e => by cases e) trivial
                        obtain ⟨rest, hrest⟩ := hpre
                        have htk : arr.toList.take (n * inf.size) = cs := by rw [← hrest, ← hcl, List.take_left]
                        have h1 := hkill'.grow (Ext.refl _) (β j) (κ j) (.row e inf.size (cs ++ ys)) (hdead w) hRj hkj hsj hoj rfl
                          ⟨by simp only [hlen, updN, if_true]; exact hB, _, by simp only [hlen, updN, if_true]; exact hg.2, by rw [htk]; exact ⟨_, rfl⟩, by
                            simp only [hlen, updN, if_true, List.size_toArray, List.length_append, List.length_take, List.length_drop, Array.length_toList]
                            omega, by simp only [hlen, updN, if_true, hlcs]; exact Nat.mul_le_mul_right _ hroom, by simp only [hlen, updN, if_true]; exact hml⟩
                        simp only [hlen] at h1
                        have := hK _ _ (.sl s.blk.length (n + m)) _ _ h1 (by simp [SV.ok]) hk (fun e => by cases e)
                        simpa [Oper.upon, den, updN] using this
                      · have holds : ∀ i v, cs[i]? = some v → w.cell? ((⟨β j, 0, none⟩ : Addr).add i) = some v := fun i v hi => by
                          rw [Addr.add_lit, Nat.zero_add]
                          obtain ⟨rest, hrest⟩ := hcs
                          refine h.rowCell hj ?_
                          rw [← hrest, List.getElem?_append_left (List.getElem?_eq_some_iff.1 hi).1]; exact hi
                        have hr := run_append_grow (P := P) w t type e inf z he hinf hz ⟨β j, 0, none⟩ n (κ j) cs hcl holds ad m c ys hyl hcell (by omega) (by omega) (growslice_fits (by omega) (by omega))
                        rw [hwrap _ _ _ hdx hr]
                        have hge := grownCap_ge w (n + m) (κ j) e
                        have h1 := (hkill.ext (w' := w.drew) ⟨rfl, rfl, rfl, Nat.le_refl _, fun _ _ => rfl, Nat.le_succ _⟩).newRow (cs ++ ys) (cs.toArray ++ ys.toArray ++ Builtin.zeroCells z.cells (grownCap w (n + m) (κ j) e - (n + m))) e inf.size (grownCap w (n + m) (κ j) e)
                          (by simp) (by simp only [Array.size_append, List.size_toArray, size_zeroCells, hzs, hyl, hcl, ← Nat.add_mul]; congr 1; omega) (by rw [hlcs]; exact Nat.mul_le_mul_right _ hge) (grownCap_le_maxLen w (n + m) (κ j) e (by unfold maxLen; omega))
                        simp only [hlen] at h1
                        have := hK _ _ (.sl s.blk.length (n + m)) _ _ h1 (by simp [SV.ok]) hk (fun e => by cases e)
                        simpa [Oper.upon, den, updN] using this
                  · exact hk.elim
                · cases hc
              · cases hc
            · cases hc
          · cases hc
        · cases hc
      · cases hc
    · split at hc
      · rename_i x y t t2 ha0 ht0
        split at hc
        · rename_i kt et ht
          obtain ⟨ks, hks, rfl⟩ := Option.map_eq_some_iff.1 hc
          have hx' : args = #[x, y] := by apply Array.ext'; simpa using ha0
          have ht' : argTypes = #[t, t2] := by apply Array.ext'; simpa using ht0
          subst hx' ht'
          simp only [vcOp] at hk
          split at hk
          · rename_i j kv hu hv
            obtain ⟨ha, es, clock, r, hj, hr, hk⟩ := hk
            obtain ⟨hB, hh⟩ := h.blk j _ hj
            obtain ⟨es', clock', hm, hrun0⟩ := run_delete' (t' := t2) (ty := type) w ht hks hh ha hr
            have hg : Grown w { w with heap := w.heap.setIfInBounds (β j) (.map es'.toArray clock') } (some (β j)) := ⟨rfl, rfl, rfl, by simp, fun i hi hne => by
              rw [Array.getElem?_setIfInBounds_ne (fun e => hne (by rw [e]))], Nat.le_refl _⟩
            have h1 := h.modify hj rfl hg (mdrop es clock r) (fun _ _ _ _ _ e => by rw [hm] at e; cases e) (fun _ e => by rw [hm] at e; cases e) (by
              rw [hm]
              exact ⟨hB, by simp [(Array.getElem?_eq_some_iff.1 hh).1]⟩)
            have hrun : (execOp (⟨tm, df⟩ : Act).eval ⟨dst, .call ⟨.builtin .delete, #[x, y], #[t, t2]⟩, type, pos, after, guard⟩).run P w = .ok (.value (.tuple #[])) { w with heap := w.heap.setIfInBounds (β j) (.map es'.toArray clock') } := by
              simp only [execOp, resolve, List.map_toArray, List.map_cons, List.map_nil, E, hu, hv, den, Sem.run_bind, Sem.run_pure, Result.andThen_ok, invoke, builtin]
              rw [hrun0]
              simp
            rw [hrun]
            have := hK _ _ (.val (.tuple #[])) _ _ h1 rfl hk (fun e => by cases e)
            simpa [Oper.upon, den] using this
          · exact hk.elim
        · cases hc
      · cases hc
    · cases hc
  case makeSlice t l c =>
    split at hc
    · rename_i e he
      split at hc
      · rename_i inf hinf
        split at hc
        · rename_i z hz
          split at hc
          · rename_i hcond
            obtain ⟨hzs, hsz, hby⟩ := hcond
            simp only [Option.some.injEq] at hc; subst hc
            simp only [vcOp] at hk
            split at hk
            · rename_i kl n kc m hl hm
              obtain ⟨h0, hnm, hbd, hk⟩ := hk
              obtain ⟨n, rfl⟩ := Int.eq_ofNat_of_zero_le h0
              obtain ⟨m, rfl⟩ := Int.eq_ofNat_of_zero_le (Int.le_trans h0 hnm)
              have hbd' : m * inf.bytes ≤ 140737488355328 := by
                have : ((m * inf.bytes : Nat) : Int) ≤ 140737488355328 := by rw [Int.natCast_mul]; exact hbd
                omega
              have hmb : m ≤ 140737488355328 := Nat.le_trans (Nat.le_mul_of_pos_right m hby) hbd'
              have hr := run_make (P := P) w t e inf z he hinf hz kl kc n m (by omega) hnm (by
                have : ((inf.bytes * m : Nat) : Int) ≤ 281474976710656 := by rw [Nat.mul_comm]; omega
                rw [Int.natCast_mul] at this; exact this) (by omega)
              simp only [Int.toNat_natCast] at hr hk
              have hrun : (execOp (⟨tm, df⟩ : Act).eval ⟨dst, .makeSlice t l c, type, pos, after, guard⟩).run P w = .ok (.value (.slice (some ⟨w.heap.size, 0, none⟩) n m)) (w.alloc (.cells (madeCells z.cells (m * inf.size)) e)) := by
                simp only [execOp, Sem.run_bind, E, hl, hm, den, hr, Result.andThen_ok, Sem.run_pure]
              rw [hrun]
              have hmade : (madeCells z.cells (m * inf.size)) = (repCells z.cells.toList m).toArray := by
                have := repCells_range z.cells m
                rw [hzs] at this
                simpa [madeCells, hzs] using this
              have hpre : repCells z.cells.toList n <+: repCells z.cells.toList m := by
                obtain ⟨d, rfl⟩ : ∃ d, m = n + d := ⟨m - n, by omega⟩
                exact repCells_prefix _ n d
              have h1 := h.newRow (repCells z.cells.toList n) (madeCells z.cells (m * inf.size)) e inf.size m (by rw [hmade]; exact hpre) (by rw [size_madeCells]) (by rw [length_repCells]; simp only [Array.length_toList, hzs]; exact Nat.mul_le_mul_right _ (by omega)) (by unfold maxLen; omega)
              have := hK _ _ (.sl s.blk.length n) _ _ h1 (by simp [SV.ok]) hk (fun _ => ext_alloc _ _)
              simpa [Oper.upon, den, updN] using this
            · exact hk.elim
          · cases hc
        · cases hc
      · cases hc
    · cases hc
  case entry x => simp only [Option.some.injEq] at hc; subst hc; cases hq
  case range t x =>
    split at hc
    · rename_i kt et ht
      simp only [Option.some.injEq] at hc; subst hc
      simp only [vcOp] at hk
      split at hk
      · rename_i m hu
        obtain ⟨es, clock, hm, hk⟩ := hk
        obtain ⟨hB, hh⟩ := h.blk m _ hm
        have hml : m < s.blk.length := (List.getElem?_eq_some_iff.1 hm).1
        have h1 := h.grow (ext_alloc w (.mapIter (some (β m)) clock #[] clock)) w.heap.size 0 (.it m clock [] clock) h.fresh.1 h.fresh.2.1 h.fresh.2.2.1 h.fresh.2.2.2.1 h.fresh.2.2.2.2 rfl ⟨by simp only [updN, if_true]; exact .inl h.below.size, by omega, by
          simp only [updN, if_true]
          rw [if_neg (by omega)]
          exact heap_new _ _⟩
        have hrun : (execOp (⟨tm, df⟩ : Act).eval ⟨dst, .range t x, type, pos, after, guard⟩).run P w = .ok (.value (.pointer (some ⟨w.heap.size, 0, none⟩))) (w.alloc (.mapIter (some (β m)) clock #[] clock)) := by
          have := run_range_map (P := P) w t kt et (β m) es.toArray clock ht hh
          simp only [execOp, E, hu, den, Sem.run_bind, this, Result.andThen_ok, Sem.run_pure]
        rw [hrun]
        have := hK _ _ (.loc s.blk.length 0) _ _ h1 (by simp [SV.ok]) hk (fun _ => ext_alloc _ _)
        simpa [Oper.upon, den, updN] using this
      · exact hk.elim
    · cases hc
  case next x b =>
    cases b with
    | true => cases hc
    | false =>
      simp only [Option.some.injEq] at hc; subst hc
      simp only [vcOp] at hk
      split at hk
      · rename_i j hu
        obtain ⟨m, since, seen, last, es, clock, hj, hm, hold, hsl, hk0, hk1⟩ := hk
        obtain ⟨hB1, hmL, hh1⟩ := h.blk j _ hj
        obtain ⟨hB2, hh2⟩ := h.blk m _ hm
        rcases run_next_at (P := P) w type (β j) (β m) since last seen.toArray es.toArray clock hh1 hh2 (by simpa using hold) hsl with ⟨h0, hr⟩ | ⟨e, he, w1, hw1, hr⟩
        · have hrun : (execOp (⟨tm, df⟩ : Act).eval ⟨dst, .next x false, type, pos, after, guard⟩).run P w = .ok (.value (.tuple #[.bool false])) w := by
            simp only [execOp, E, hu, den, Sem.run_bind, hr, Result.andThen_ok, Sem.run_pure]
          rw [hrun]
          have hall : ∀ e ∈ es, seen.contains e.born = true := fun e he => by
            have hem : leftOf es.toArray seen.toArray = #[] := Array.eq_empty_of_size_eq_zero h0
            cases hc : seen.contains e.born with
            | true => rfl
            | false =>
              have : e ∈ leftOf es.toArray seen.toArray := by unfold leftOf; simp only [Array.mem_filter, List.mem_toArray]; exact ⟨he, by simpa using hc⟩
              rw [hem] at this; simp at this
          have := hK _ _ (.val (.tuple #[.bool false])) _ _ h rfl (hk0 hall) (fun _ => Ext.refl _)
          simpa [Oper.upon, den] using this
        · have hem : e ∈ es ∧ seen.contains e.born = false := by
            unfold leftOf at he
            simp only [Array.mem_toList_iff, Array.mem_filter, List.mem_toArray] at he
            exact ⟨he.1, by simpa using he.2⟩
          have hrun : (execOp (⟨tm, df⟩ : Act).eval ⟨dst, .next x false, type, pos, after, guard⟩).run P w = .ok (.value (.tuple #[.bool true, e.key, e.val])) (ChangeMaps.setBlock w1 (β j) (.mapIter (some (β m)) since (seen.toArray.push e.born) clock)) := by
            simp only [execOp, E, hu, den, Sem.run_bind, hr, Result.andThen_ok, Sem.run_pure]
          rw [hrun]
          have hx : Ext w w1 := by
            rcases hw1 with rfl | rfl
            · exact Ext.refl _
            · exact ⟨rfl, rfl, rfl, Nat.le_refl _, fun _ _ => rfl, Nat.le_succ _⟩
          have h' := h.ext hx
          have hh1' : w1.heap[β j]? = some (.mapIter (some (β m)) since seen.toArray last) := by rcases hw1 with rfl | rfl <;> exact hh1
          have hg : Grown w1 (ChangeMaps.setBlock w1 (β j) (.mapIter (some (β m)) since (seen.toArray.push e.born) clock)) (some (β j)) := ⟨rfl, rfl, rfl, by simp [ChangeMaps.setBlock], fun i hi hne => by
            simp only [ChangeMaps.setBlock]
            rw [Array.getElem?_setIfInBounds_ne (fun e => hne (by rw [e]))], Nat.le_refl _⟩
          have h1 := h'.modify hj rfl hg (.it m since (seen ++ [e.born]) clock) (fun _ _ _ _ _ e => by cases e) (fun _ e => by cases e) ⟨hB1, hmL, by
            simp [ChangeMaps.setBlock, (Array.getElem?_eq_some_iff.1 hh1').1]⟩
          have := hK _ _ (.val (.tuple #[.bool true, e.key, e.val])) _ _ h1 rfl (hk1 e hem.1 hem.2) (fun e => by cases e)
          simpa [Oper.upon, den] using this
      · exact hk.elim
  case makeMap t r =>
    cases r with
    | some r => cases hc
    | none =>
      simp only [Option.some.injEq] at hc; subst hc
      simp only [vcOp] at hk
      have h1 := h.grow (ext_alloc w (.map #[] 0)) w.heap.size 0 (.mp [] 0) h.fresh.1 h.fresh.2.1 h.fresh.2.2.1 h.fresh.2.2.2.1 h.fresh.2.2.2.2 rfl ⟨by simp only [updN, if_true]; exact .inl h.below.size, by simp only [updN, if_true]; exact heap_new _ _⟩
      have hrun : (execOp (⟨tm, df⟩ : Act).eval ⟨dst, .makeMap t none, type, pos, after, guard⟩).run P w = .ok (.value (.map (some w.heap.size))) (w.alloc (.map #[] 0)) := by
        have := run_makeMap (P := P) t w
        simp only [execOp, Sem.run_bind, Option.map_none, this, Result.andThen_ok, Sem.run_pure]
      rw [hrun]
      have := hK _ _ (.mp s.blk.length) _ _ h1 (by simp [SV.ok]) hk (fun _ => ext_alloc _ _)
      simpa [Oper.upon, den, updN] using this
  case mapUpdate t x y v =>
    split at hc
    · rename_i kt et ht
      obtain ⟨ks, hks, rfl⟩ := Option.map_eq_some_iff.1 hc
      simp only [vcOp] at hk
      split at hk
      · rename_i j kv hu hv
        obtain ⟨ha, hk⟩ := hk
        obtain ⟨s', h', es, clock, r, hj, hr, hk⟩ := leaf_sound h hk
        obtain ⟨hB, hh⟩ := h'.blk j _ hj
        obtain ⟨es', clock', hm, hrun0⟩ := run_mapUpdate' w ht hks hh ha hr (v := den β κ (s.ev v))
        have hg : Grown w { w with heap := w.heap.setIfInBounds (β j) (.map es'.toArray clock') } (some (β j)) := ⟨rfl, rfl, rfl, by simp, fun i hi hne => by
          rw [Array.getElem?_setIfInBounds_ne (fun e => hne (by rw [e]))], Nat.le_refl _⟩
        have h1 := h'.modify hj rfl hg (mset kv (den β κ (s.ev v)) es clock r) (fun _ _ _ _ _ e => by rw [hm] at e; cases e) (fun _ e => by rw [hm] at e; cases e) (by
          rw [hm]
          exact ⟨hB, by simp [(Array.getElem?_eq_some_iff.1 hh).1]⟩)
        have hrun : (execOp (⟨tm, df⟩ : Act).eval ⟨dst, .mapUpdate t x y v, type, pos, after, guard⟩).run P w = .ok .skip { w with heap := w.heap.setIfInBounds (β j) (.map es'.toArray clock') } := by
          simp only [execOp, Sem.run_bind, E, hu, hv, den]
          simp only [den] at hrun0
          rw [hrun0]
          simp
        rw [hrun]
        have := hK _ _ (.val undef) _ _ h1 rfl hk (fun e => by cases e)
        simpa [Oper.upon, den] using this
      · exact hk.elim
    · cases hc
  case store t x v =>
    obtain ⟨inf, hinf, rfl⟩ := Option.map_eq_some_iff.1 hc
    simp only [vcOp] at hk
    split at hk
    · rename_i j o hu
      split at hk
      · rename_i cs hj
        obtain ⟨hl, hle, hone, hk⟩ := hk
        obtain ⟨hB, hok, T, hh⟩ := h.blk j _ hj
        have hcl : (den β κ (s.ev v)).cells.toList = (cellsOf (s.ev v)).map (den β κ) := by rw [cells_den]
        have hst := run_storeAt hinf (β j) o (den β κ (s.ev v)) _ T w hh (by rw [cells_den]; simpa using hl) (by simpa using hle) (by
          rw [hcl]
          intro c hc'
          obtain ⟨c', hc'', rfl⟩ := List.mem_map.1 hc'
          have := hone c' hc''
          cases c' with
          | val u => exact this
          | _ => rfl)
        have hg := grown_setRow w (β j) _ (putAt o ((cs.map (den β κ)).toArray).toList (den β κ (s.ev v)).cells.toList).toArray T hh
        have h1 := h.modify hj rfl hg.1 (.box (putAtS o cs (cellsOf (s.ev v)))) (fun _ _ _ _ _ e => by cases e) (fun _ e => by cases e) ⟨hB, fun c hc' => by
          rcases mem_putAtS _ _ _ hc' with hc' | hc'
          · exact hok c hc'
          · exact cellsOf_ok (h.evOk v) c hc', T, by rw [hg.2, map_putAtS, hcl]⟩
        have hrun : (execOp (⟨tm, df⟩ : Act).eval ⟨dst, .store t x v, type, pos, after, guard⟩).run P w = .ok .skip (w.setRow (β j) (putAt o ((cs.map (den β κ)).toArray).toList (den β κ (s.ev v)).cells.toList).toArray) := by
          simp only [execOp, Sem.run_bind, E, hu]
          simp only [den] at hst ⊢
          rw [hst]
          simp
        rw [hrun]
        have := hK _ _ (.val undef) _ _ h1 rfl hk (fun e => by cases e)
        simpa [Oper.upon, den] using this
      · rename_i T sz cs hj
        obtain ⟨s', h', hsz, hle, hone, hj', hk⟩ := leaf_sound h hk
        obtain ⟨hB, arr, hh, hpre, hcap, hcl, hml⟩ := h'.blk j _ hj'
        have hpl := hpre.length_le
        have hle' : o + inf.size ≤ arr.size := by simp at hpl; omega
        have hst := run_storeAt hinf (β j) o (den β κ (s.ev v)) _ T w hh hsz hle' hone
        have hg := grown_setRow w (β j) _ (putAt o arr.toList (den β κ (s.ev v)).cells.toList).toArray T hh
        have hvl : (den β κ (s.ev v)).cells.toList.length = inf.size := by simpa using hsz
        have h1 := h'.modify hj' rfl hg.1 (.row T sz (putAt o cs (den β κ (s.ev v)).cells.toList)) (fun _ _ _ _ _ e => by cases e) (fun _ e => by cases e) ⟨hB, _, hg.2, by simpa using putAt_prefix hpre _ o (by rw [hvl]; exact hle), by simpa [length_putAt] using hcap, by rw [length_putAt]; exact hcl, hml⟩
        have hrun : (execOp (⟨tm, df⟩ : Act).eval ⟨dst, .store t x v, type, pos, after, guard⟩).run P w = .ok .skip (w.setRow (β j) (putAt o arr.toList (den β κ (s.ev v)).cells.toList).toArray) := by
          simp only [execOp, Sem.run_bind, E, hu]
          simp only [den] at hst ⊢
          rw [hst]
          simp
        rw [hrun]
        have := hK _ _ (.val undef) _ _ h1 rfl hk (fun e => by cases e)
        simpa [Oper.upon, den] using this
      · exact hk.elim
    · rename_i a hu
      obtain ⟨j, F, _, hk⟩ := hk
      obtain ⟨s', h', hsz, hpos, hold, hone, hj', hk⟩ := leaf_sound h hk
      have hO := h'.own j F hj'
      have hat : ∀ i, i < inf.size → ∃ old, w.cell? (a.add i) = some old := fun i hi => by
        obtain ⟨old, hf⟩ := hold i hi
        exact ⟨old, hO.cell _ _ hf⟩
      have hbk : ∀ i, (a.add i).block = a.block := add_block' a
      obtain ⟨old0, hf0⟩ := hold 0 hpos
      have hf0' : F a old0 := by simpa [Addr.add] using hf0
      obtain ⟨arr, T, hh⟩ := (hO.own a old0 hf0').2
      obtain ⟨ab, ao, asp⟩ := a
      simp only at hh
      have hsp : asp = none := by
        have := hO.cell _ _ hf0'
        simp only [World.cell?, hh] at this
        split at this
        · cases this
        · rename_i hn; simpa using hn
      subst hsp
      have hle : ao + inf.size ≤ arr.size := by
        obtain ⟨old, ho⟩ := hat (inf.size - 1) (by omega)
        rw [Addr.add_lit] at ho
        simp only [World.cell?, hh, Option.isSome_none, Bool.false_eq_true, if_false] at ho
        have := (Array.getElem?_eq_some_iff.1 ho).1
        omega
      have hst := run_storeAt hinf ab ao (den β κ (s.ev v)) arr T w hh hsz hle hone
      have hvl : (den β κ (s.ev v)).cells.toList.length = inf.size := by simpa using hsz
      have hg := grown_setRow w ab arr (putAt ao arr.toList (den β κ (s.ev v)).cells.toList).toArray T hh
      have h1 := h'.putOwn hj' (b0 := ab) ⟨_, _, hf0', rfl⟩ hg.1 ⟨_, T, hg.2⟩ (F' := putF F ⟨ab, ao, none⟩ (den β κ (s.ev v)).cells.toList) (by
        intro x u hx
        have hput : putAt ao arr.toList (den β κ (s.ev v)).cells.toList = arr.toList.take ao ++ (den β κ (s.ev v)).cells.toList ++ arr.toList.drop (ao + (den β κ (s.ev v)).cells.toList.length) := putAt_eq _ _ _ (by rw [hvl]; simpa using hle)
        rcases hx with ⟨i, rfl, e4⟩ | ⟨hn, hf⟩
        · rw [Addr.add_lit]
          refine ⟨?_, .inl rfl⟩
          have hlt := (List.getElem?_eq_some_iff.1 e4).1
          simp only [World.cell?, hg.2, Option.isSome_none, Bool.false_eq_true, if_false, List.getElem?_toArray]
          rw [hput, List.append_assoc, List.getElem?_append_right (by simp; omega), List.length_take, Nat.min_eq_left (by simp; omega), show ao + i - ao = i by omega, List.getElem?_append_left hlt]
          exact e4
        · refine ⟨?_, .inr hf⟩
          have hc := hO.cell x u hf
          by_cases hb : x.block = ab
          · obtain ⟨xb, xo, xs⟩ := x
            simp only at hb hn
            subst hb
            simp only [World.cell?, hh] at hc
            simp only [World.cell?, hg.2]
            split at hc
            · cases hc
            · rename_i hxs
              rw [if_neg hxs]
              simp only [List.getElem?_toArray]
              have hc' : arr.toList[xo]? = some u := by simpa using hc
              rw [hput]
              by_cases hlo : xo < ao
              · rw [List.append_assoc, List.getElem?_append_left (by simp; omega), List.getElem?_take, if_pos hlo]
                exact hc'
              · have hge : ao + (den β κ (s.ev v)).cells.toList.length ≤ xo := by
                  rcases Nat.lt_or_ge xo (ao + (den β κ (s.ev v)).cells.toList.length) with h2 | h2
                  · exact absurd ⟨rfl, by omega, h2⟩ hn
                  · exact h2
                rw [List.getElem?_append_right (by simp; omega), List.getElem?_drop]
                simp only [List.length_append, List.length_take]
                rw [Nat.min_eq_left (by simp; omega), show ao + (den β κ (s.ev v)).cells.toList.length + (xo - (ao + (den β κ (s.ev v)).cells.toList.length)) = xo by omega]
                exact hc'
          · rw [World.cell?_of_block (hg.1.block _ (hO.lt hf) fun e => by simp only [Option.some.injEq] at e; first | exact hb e | exact hb e.symm)]
            exact hc)
      have hrun : (execOp (⟨tm, df⟩ : Act).eval ⟨dst, .store t x v, type, pos, after, guard⟩).run P w = .ok .skip (w.setRow ab (putAt ao arr.toList (den β κ (s.ev v)).cells.toList).toArray) := by
        simp only [execOp, Sem.run_bind, E, hu]
        simp only [den] at hst ⊢
        rw [hst]
        simp
      rw [hrun]
      have := hK _ _ (.val undef) _ _ h1 rfl hk (fun e => by cases e)
      simpa [Oper.upon, den] using this
    · exact hk.elim
end
end Go.Proofs.YtcjdbfnnbejmeaaGreat.Vc
