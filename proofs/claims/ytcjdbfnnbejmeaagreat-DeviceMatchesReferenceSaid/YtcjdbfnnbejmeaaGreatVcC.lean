/- Plain lemmas of our own, no statement of the seat: the calculus speaks of the model's memory. -/
import Derived.Test.YtcjdbfnnbejmeaaGreatVcB
namespace Go.Proofs.YtcjdbfnnbejmeaaGreat.Vc
set_option linter.unusedSimpArgs false
set_option linter.unusedVariables false
open Go.RowKit

structure Ctx where
  w0 : World
  R0 : RO
  n : Nat
  B : RO
  keep : List (Nat × Array Value × TypeId) := []
  g : Nat → Prop := fun _ => False
  ng : Nat := 0
  β0 : Nat → Nat := id
  κ0 : Nat → Nat := id
/-- A block that was made since, or handed over. -/
def Ctx.own (X : Ctx) (k : Nat) : Prop := X.w0.heap.size ≤ k ∨ X.g k
/-- The blocks that are kept. -/
def Ctx.kp (X : Ctx) (k : Nat) : Prop := ∃ p ∈ X.keep, p.1 = k
theorem KeptG.refl (g : Nat → Prop) (w : World) : KeptG g w w := ⟨rfl, rfl, rfl, Nat.le_refl _, fun _ _ _ => rfl, Nat.le_refl _⟩
theorem KeptG.ext {g : Nat → Prop} {a w w' : World} (h : KeptG g a w) (he : Ext w w') : KeptG g a w' :=
  ⟨he.os.trans h.os, he.tape.trans h.tape, he.output.trans h.output, Nat.le_trans h.size he.size, fun k hk hg => (he.block k (Nat.lt_of_lt_of_le hk h.size)).trans (h.block k hk hg), Nat.le_trans h.drawn he.drawn⟩
theorem KeptG.trans {g : Nat → Prop} {a w w' : World} (h : KeptG g a w) {g' : Nat → Prop} (he : KeptG g' w w') (hg : ∀ k, g' k → a.heap.size ≤ k ∨ g k) : KeptG g a w' :=
  ⟨he.os.trans h.os, he.tape.trans h.tape, he.output.trans h.output, Nat.le_trans h.size he.size, fun k hk hk2 => (he.block k (Nat.lt_of_lt_of_le hk h.size) (fun hh => by rcases hg k hh with h1 | h1; omega; exact hk2 h1)).trans (h.block k hk hk2), Nat.le_trans h.drawn he.drawn⟩
theorem KeptG.grown {g : Nat → Prop} {a w w' : World} (h : KeptG g a w) {b : Nat} (hw : Grown w w' (some b)) (hb : a.heap.size ≤ b ∨ g b) : KeptG g a w' :=
  ⟨hw.os.trans h.os, hw.tape.trans h.tape, hw.output.trans h.output, Nat.le_trans h.size hw.size, fun k hk hk2 => (hw.block k (Nat.lt_of_lt_of_le hk h.size) (fun e => by
    simp only [Option.some.injEq] at e; subst e; rcases hb with hb | hb; omega; exact hk2 hb)).trans (h.block k hk hk2), Nat.le_trans h.drawn hw.drawn⟩
theorem KeptG.below {a w : World} (h : KeptG (fun _ => False) a w) : Ext a w := ⟨h.os, h.tape, h.output, h.size, fun k hk => h.block k hk (fun e => e), h.drawn⟩
theorem KeptG.of_ext {g : Nat → Prop} {a w : World} (h : Ext a w) : KeptG g a w := ⟨h.os, h.tape, h.output, h.size, fun k hk _ => h.block k hk, h.drawn⟩
/-- A row whose cells are facts; behind them there may be room. -/
structure ShrOK (X : Ctx) (β : Nat → Nat) (s : St) (w : World) (j b cap T sz : Nat) (cs : List Value) : Prop where
  base : X.own b
  heap : ∃ arr, w.heap[b]? = some (.cells arr T (0, 0)) ∧ cs <+: arr.toList ∧ cap * sz = arr.size ∧ cs.length ≤ cap * sz ∧ cap ≤ maxLen
  apart : ∀ i c, s.blk[i]? = some c → c.live = true → β i ≠ b
  facts : ∀ a v, s.R a v → a.block = b → a.off < cs.length
  row : RowIn s.R b cs
  one : ∀ j' b' cap' T' sz' cs', s.blk[j']? = some (Blk.shr b' cap' T' sz' cs') → b' = b → j' = j
  kept : ∀ p, p ∈ X.keep → p.1 ≠ b
/-- Facts of one's own: what they speak of lies apart from all else. -/
structure OwnOK (X : Ctx) (β : Nat → Nat) (s : St) (w : World) (j : Nat) (F : RO) : Prop where
  cell : ∀ a v, F a v → w.cell? a = some v
  own : ∀ a v, F a v → X.own a.block ∧ Loose w a.block
  apart : ∀ a v, F a v → ∀ i c, s.blk[i]? = some c → c.live = true → β i ≠ a.block
  ro : ∀ a v, F a v → ∀ a' v', s.R a' v' → a'.block ≠ a.block
  shr : ∀ a v, F a v → ∀ (i b cap T sz : Nat) (cs : List Value), s.blk[i]? = some (Blk.shr b cap T sz cs) → b ≠ a.block
  kept : ∀ a v, F a v → ∀ p, p ∈ X.keep → p.1 ≠ a.block
  one : ∀ a v, F a v → ∀ (i : Nat) (G : RO), s.blk[i]? = some (Blk.own G) → i ≠ j → ∀ a' v', G a' v' → a'.block ≠ a.block
structure Rel (X : Ctx) (β κ : Nat → Nat) (s : St) (tm : Array Value) (w : World) : Prop where
  size : tm.size = X.n
  env : ∀ t, tm.getD t undef = den β κ (s.env t)
  ok : ∀ t, SV.ok s.blk.length (s.env t) = true
  below : KeptG X.g X.w0 w
  le : RO.le X.R0 s.R
  blk : ∀ j b, s.blk[j]? = some b → BlkOK β κ w X.own s.blk.length j b
  inj : ∀ i j b b', s.blk[i]? = some b → s.blk[j]? = some b' → b.live = true → b'.live = true → β i = β j → i = j
  ro : ∀ a v, s.R a v → w.cell? a = some v ∧ (X.B a v ∨ (X.own a.block ∧ Loose w a.block)) ∧ ∀ j b, s.blk[j]? = some b → b.live = true → a.block ≠ β j
  kept : ∀ p, p ∈ X.keep → w.heap[p.1]? = some (.cells p.2.1 p.2.2 (0, 0)) ∧ X.own p.1 ∧ (∀ j b, s.blk[j]? = some b → b.live = true → β j ≠ p.1) ∧ ∀ a v, s.R a v → a.block ≠ p.1
  shr : ∀ j b cap T sz cs, s.blk[j]? = some (Blk.shr b cap T sz cs) → ShrOK X β s w j b cap T sz cs
  own : ∀ j F, s.blk[j]? = some (Blk.own F) → OwnOK X β s w j F
  pos : ∀ i, i < X.ng → β i = X.β0 i ∧ κ i = X.κ0 i
  len : X.ng ≤ s.blk.length

section
variable {X : Ctx} {β κ : Nat → Nat} {s : St} {tm : Array Value} {w w' : World}

theorem BlkOK.lt {own : Nat → Prop} {L j : Nat} {b : Blk} (h : BlkOK β κ w own L j b) (hl : b.live = true) : β j < w.heap.size := by
  have key : ∀ {o}, w.heap[β j]? = some o → β j < w.heap.size := fun h => (Array.getElem?_eq_some_iff.1 h).1
  cases b with
  | dead => cases hl
  | shr => cases hl
  | own => cases hl
  | box cs => obtain ⟨_, _, T, h⟩ := h; exact key h
  | row T sz cs => obtain ⟨_, arr, h, _⟩ := h; exact key h
  | mp es c => exact key h.2
  | it m a b c => exact key h.2.2
theorem BlkOK.heap {own : Nat → Prop} {L j : Nat} {b : Blk} (h : BlkOK β κ w own L j b) (he : b.live = true → w'.heap[β j]? = w.heap[β j]?) : BlkOK β κ w' own L j b := by
  cases b with
  | dead => trivial
  | shr => trivial
  | own => trivial
  | box cs => obtain ⟨h1, h2, T, h⟩ := h; exact ⟨h1, h2, T, by rw [he rfl]; exact h⟩
  | row T sz cs => obtain ⟨h1, arr, h, h2⟩ := h; exact ⟨h1, arr, by rw [he rfl]; exact h, h2⟩
  | mp es c => obtain ⟨h1, h⟩ := h; exact ⟨h1, by rw [he rfl]; exact h⟩
  | it m a b c => obtain ⟨h1, h2, h⟩ := h; exact ⟨h1, h2, by rw [he rfl]; exact h⟩
theorem BlkOK.base {own : Nat → Prop} {L j : Nat} {b : Blk} (h : BlkOK β κ w own L j b) (hl : b.live = true) : own (β j) := by
  cases b with
  | dead => cases hl
  | shr => cases hl
  | own => cases hl
  | box cs => exact h.1
  | row T sz cs => exact h.1
  | mp es c => exact h.1
  | it m a b c => exact h.1
theorem block_lt_of_cell {a : Addr} {v : Value} (h : w.cell? a = some v) : a.block < w.heap.size := World.block_lt_of_cell? w a h

theorem Loose.of_eq {b : Nat} (h : Loose w b) (e : w'.heap[b]? = w.heap[b]?) : Loose w' b := by
  obtain ⟨arr, T, h⟩ := h
  exact ⟨arr, T, by rw [e]; exact h⟩
theorem Loose.ext {b : Nat} (h : Loose w b) (he : Ext w w') : Loose w' b := by
  have h0 := h
  obtain ⟨arr, T, h⟩ := h
  exact h0.of_eq (he.block _ (Array.getElem?_eq_some_iff.1 h).1)
/-- The same facts, or fewer, where all else is as it was or elsewhere. -/
theorem OwnOK.move {X : Ctx} {β β' : Nat → Nat} {s s' : St} {w w' : World} {j j' : Nat} {F : RO} (h : OwnOK X β s w j F) (hw : ∀ a v, F a v → w'.heap[a.block]? = w.heap[a.block]?)
    (ha : ∀ a v, F a v → ∀ i c, s'.blk[i]? = some c → c.live = true → β' i ≠ a.block) (hr : ∀ a v, F a v → ∀ a' v', s'.R a' v' → a'.block ≠ a.block)
    (hs : ∀ a v, F a v → ∀ (i b cap T sz : Nat) (cs : List Value), s'.blk[i]? = some (Blk.shr b cap T sz cs) → b ≠ a.block) (ho : ∀ a v, F a v → ∀ (i : Nat) (G : RO), s'.blk[i]? = some (Blk.own G) → i ≠ j' → ∀ a' v', G a' v' → a'.block ≠ a.block) : OwnOK X β' s' w' j' F where
  cell := fun a v hf => by rw [World.cell?_of_block (hw a v hf)]; exact h.cell a v hf
  own := fun a v hf => ⟨(h.own a v hf).1, (h.own a v hf).2.of_eq (hw a v hf)⟩
  apart := ha
  ro := hr
  shr := hs
  kept := h.kept
  one := ho
theorem OwnOK.lt {X : Ctx} {β : Nat → Nat} {s : St} {w : World} {j : Nat} {F : RO} (h : OwnOK X β s w j F) {a : Addr} {v : Value} (hf : F a v) : a.block < w.heap.size := block_lt_of_cell (h.cell a v hf)

theorem Rel.ext (h : Rel X β κ s tm w) (he : Ext w w') : Rel X β κ s tm w' where
  size := h.size
  env := h.env
  ok := h.ok
  below := h.below.ext he
  le := h.le
  blk := fun j b hj => (h.blk j b hj).heap fun hl => he.block _ ((h.blk j b hj).lt hl)
  inj := h.inj
  ro := fun a v ha => by
    obtain ⟨h1, h2, h3⟩ := h.ro a v ha
    exact ⟨by rw [he.cell (block_lt_of_cell h1)]; exact h1, h2.imp id fun hh => ⟨hh.1, hh.2.ext he⟩, h3⟩
  kept := fun p hp => by
    obtain ⟨h1, h2⟩ := h.kept p hp
    exact ⟨by rw [he.block _ (Array.getElem?_eq_some_iff.1 h1).1]; exact h1, h2⟩
  shr := fun j b cap T sz cs hj => by
    have h1 := h.shr j b cap T sz cs hj
    obtain ⟨arr, h2, h3⟩ := h1.heap
    exact { h1 with heap := ⟨arr, by rw [he.block _ (Array.getElem?_eq_some_iff.1 h2).1]; exact h2, h3⟩ }
  own := fun j F hj => let h1 := h.own j F hj; h1.move (fun a v hf => he.block _ (h1.lt hf)) h1.apart h1.ro h1.shr h1.one
  pos := h.pos
  len := h.len

theorem getD_set (tm : Array Value) (d t : Nat) (v : Value) (hd : d < tm.size) : (tm.setIfInBounds d v).getD t undef = if t = d then v else tm.getD t undef := by
  by_cases h : t = d
  · subst h; simp [hd]
  · rw [if_neg h]
    simp [Array.getElem?_setIfInBounds_ne (Ne.symm h)]

theorem Rel.upd (h : Rel X β κ s tm w) (t : Nat) (x : SV) (hx : SV.ok s.blk.length x = true) (hv : tm.getD t undef = den β κ x) : Rel X β κ { s with env := upd s.env t x } tm w where
  size := h.size
  env := fun i => by
    simp only [Vc.upd]
    split
    · rename_i hi; subst hi; exact hv
    · exact h.env i
  ok := fun i => by
    simp only [Vc.upd]
    split
    · exact hx
    · exact h.ok i
  below := h.below
  le := h.le
  blk := h.blk
  inj := h.inj
  ro := h.ro
  kept := h.kept
  shr := fun j b cap T sz cs hj => { h.shr j b cap T sz cs hj with }
  own := fun j F hj => { h.own j F hj with }
  pos := h.pos
  len := h.len

def setD (tm : Array Value) : Option Nat → Value → Array Value
  | some t, v => tm.setIfInBounds t v
  | none, _ => tm
theorem Rel.put (h : Rel X β κ s tm w) (d : Option Nat) (hd : ∀ t, d = some t → t < X.n) (x : SV) (hx : SV.ok s.blk.length x = true) :
    Rel X β κ (s.put d x) (setD tm d (den β κ x)) w := by
  cases d with
  | none => exact h
  | some t =>
    have ht : t < tm.size := by rw [h.size]; exact hd t rfl
    exact {
      size := by simp [setD, h.size]
      env := fun i => by
        simp only [setD]
        rw [getD_set tm t i _ ht]
        simp only [St.put, Vc.upd]
        split
        · rfl
        · exact h.env i
      ok := fun i => by
        simp only [St.put, Vc.upd]
        split
        · exact hx
        · exact h.ok i
      below := h.below
      le := h.le
      blk := h.blk
      inj := h.inj
      ro := h.ro
      kept := h.kept
      shr := fun j b cap T sz cs hj => { h.shr j b cap T sz cs hj with }
      own := fun j F hj => { h.own j F hj with }
      pos := h.pos
      len := h.len }

theorem den_unsl (k b cap : Nat) (x : SV) (hb : β k = b) (hc : κ k = cap) : den β κ (unsl k b cap x) = den β κ x := by
  cases x with
  | sl j n =>
    simp only [unsl]
    split
    · rename_i hj; subst hj; subst hb; subst hc; rfl
    · rfl
  | sw j z e n =>
    simp only [unsl]
    split
    · rename_i hj; subst hj; subst hb; subst hc; rfl
    · rfl
  | _ => rfl
theorem ok_unsl (L k b cap : Nat) (x : SV) (h : SV.ok L x = true) : SV.ok L (unsl k b cap x) = true := by
  cases x with
  | sl j n =>
    simp only [unsl]
    split
    · rfl
    · exact h
  | sw j z e n =>
    simp only [unsl]
    split
    · rfl
    · exact h
  | _ => exact h

theorem length_frz (j b cap : Nat) (R : RO) (T sz : Nat) (cs : List Value) : (frz s j b cap R T sz cs).blk.length = s.blk.length := by simp [frz]

theorem den_unloc (k b : Nat) (x : SV) (hb : β k = b) : den β κ (unloc k b x) = den β κ x := by
  cases x with
  | loc j n =>
    simp only [unloc]
    split
    · rename_i hj; subst hj; subst hb; rfl
    · rfl
  | fn f cs =>
    simp only [unloc, den, List.map_map]
    congr 2
    apply List.map_congr_left
    intro c _
    cases c with
    | v x => rfl
    | l j o =>
      simp only [Function.comp, unlocC]
      split
      · rename_i hj; subst hj; subst hb; rfl
      · rfl
  | _ => rfl
theorem ok_unloc (L k b : Nat) (x : SV) (h : SV.ok L x = true) : SV.ok L (unloc k b x) = true := by
  cases x with
  | loc j n =>
    simp only [unloc]
    split
    · rfl
    · exact h
  | fn f cs =>
    simp only [unloc, SV.ok, List.all_map, List.all_eq_true] at h ⊢
    intro c hc
    have h1 := h c hc
    cases c with
    | v x => rfl
    | l j o =>
      simp only [Function.comp, unlocC]
      split
      · rfl
      · exact h1
  | _ => exact h
theorem length_frzB (j b : Nat) (R : RO) : (frzB s j b R).blk.length = s.blk.length := by simp [frzB]
theorem Rel.frz (h : Rel X β κ s tm w) {j T sz : Nat} {cs : List Value} (hj : s.blk[j]? = some (.row T sz cs)) :
    ∃ R', RO.le s.R R' ∧ RowIn R' (β j) cs ∧ cs.length ≤ κ j * sz ∧ Rel X β κ (frz s j (β j) (κ j) R' T sz cs) tm w := by
  obtain ⟨hB, arr, hh, hpre, hk1, hk2, hk3⟩ := h.blk j _ hj
  have hget : ∀ i b', (Vc.frz s j (β j) (κ j) s.R T sz cs).blk[i]? = some b' → b'.live = true → ∃ b, s.blk[i]? = some b ∧ b' = unslB j (β j) (κ j) b ∧ i ≠ j := by
    intro i b' hi hl
    simp only [Vc.frz, List.getElem?_set, List.length_map, List.getElem?_map] at hi
    split at hi
    · rename_i hij
      split at hi
      · cases hi; cases hl
      · cases hi
    · rename_i hij
      obtain ⟨b, hb, rfl⟩ := Option.map_eq_some_iff.1 hi
      exact ⟨b, hb, rfl, fun e => hij e.symm⟩
  have hlive : ∀ b, (unslB j (β j) (κ j) b).live = b.live := fun b => by cases b <;> rfl
  refine ⟨fun a v => s.R a v ∨ (a.block = β j ∧ a.spot = none ∧ cs[a.off]? = some v), fun a v ha => .inl ha, fun i v hi => .inr ⟨rfl, rfl, hi⟩, hk2, ?_⟩
  refine { size := h.size, env := fun t => ?_, ok := fun t => ?_, below := h.below, le := fun a v ha => .inl (h.le a v ha), blk := fun i b' hi => ?_, inj := fun i i' b b' hi hi' hl hl' he => ?_, ro := fun a v ha => ?_, kept := fun p hp => ?_, shr := fun i b' cap' T' sz' cs' hi => ?_, own := fun i F hi => ?_, pos := h.pos, len := by rw [length_frz]; exact h.len }
  · rw [h.env t]; exact (den_unsl j _ _ _ rfl rfl).symm
  · rw [length_frz]; exact ok_unsl _ _ _ _ _ (h.ok t)
  · cases hb' : b'.live with
    | false => cases b' <;> first | trivial | cases hb'
    | true =>
      obtain ⟨b, hb, rfl, hne⟩ := hget i b' hi hb'
      have h1 := h.blk i b hb
      rw [length_frz]
      cases b with
      | dead => trivial
      | shr => trivial
      | own => trivial
      | mp es c => exact h1
      | it m a b c => exact h1
      | box cs' =>
        obtain ⟨g1, g2, T', g3⟩ := h1
        refine ⟨g1, ?_, T', ?_⟩
        · intro c hc
          obtain ⟨c', hc', rfl⟩ := List.mem_map.1 hc
          exact ok_unsl _ _ _ _ _ (g2 c' hc')
        · rw [List.map_map, show (den β κ ∘ unsl j (β j) (κ j)) = den β κ from funext fun x => den_unsl j _ _ x rfl rfl]
          exact g3
      | row T' sz' cs' => exact h1
  · obtain ⟨b1, h1, rfl, _⟩ := hget i b hi hl
    obtain ⟨b2, h2, rfl, _⟩ := hget i' b' hi' hl'
    exact h.inj i i' b1 b2 h1 h2 (by rw [← hlive]; exact hl) (by rw [← hlive]; exact hl') he
  · rcases ha with ha | ⟨ha, hs, hc⟩
    · obtain ⟨g1, g2, g3⟩ := h.ro a v ha
      refine ⟨g1, g2, fun i b' hi hl => ?_⟩
      obtain ⟨b, hb, rfl, _⟩ := hget i b' hi hl
      exact g3 i b hb (by rw [← hlive]; exact hl)
    · refine ⟨?_, .inr (by rw [ha]; exact ⟨hB, arr, T, hh⟩), fun i b' hi hl => ?_⟩
      · obtain ⟨ab, ao, asp⟩ := a
        simp only at ha hs hc
        subst ha hs
        obtain ⟨rest, hrest⟩ := hpre
        have h2 : arr.toList[ao]? = some v := by
          rw [← hrest, List.getElem?_append_left (List.getElem?_eq_some_iff.1 hc).1]; exact hc
        simp only [World.cell?, hh, Option.isSome_none, Bool.false_eq_true, if_false]
        simpa using h2
      · obtain ⟨b, hb, rfl, hne⟩ := hget i b' hi hl
        rw [ha]
        intro he
        exact hne (h.inj i j b _ hb hj (by rw [← hlive]; exact hl) rfl he.symm)
  · obtain ⟨g1, g2, g3, g4⟩ := h.kept p hp
    refine ⟨g1, g2, fun i b' hi hl => ?_, fun a v ha => ?_⟩
    · obtain ⟨b, hb, rfl, _⟩ := hget i b' hi hl
      exact g3 i b hb (by rw [← hlive]; exact hl)
    · rcases ha with ha | ⟨ha, _⟩
      · exact g4 a v ha
      · rw [ha]; exact g3 j _ hj rfl
  · have hshr : ∀ (i b' cap' T' sz' : Nat) (cs' : List Value), (Vc.frz s j (β j) (κ j) s.R T sz cs).blk[i]? = some (Blk.shr b' cap' T' sz' cs') → (i = j ∧ b' = β j ∧ cap' = κ j ∧ T' = T ∧ sz' = sz ∧ cs' = cs) ∨ (i ≠ j ∧ s.blk[i]? = some (Blk.shr b' cap' T' sz' cs')) := by
      intro i b' cap' T' sz' cs' hi
      simp only [Vc.frz, List.getElem?_set, List.length_map, List.getElem?_map] at hi
      split at hi
      · rename_i hij
        split at hi
        · simp only [Option.some.injEq, Blk.shr.injEq] at hi; exact .inl ⟨hij.symm, hi.1.symm, hi.2.1.symm, hi.2.2.1.symm, hi.2.2.2.1.symm, hi.2.2.2.2.symm⟩
        · cases hi
      · rename_i hij
        obtain ⟨b, hb, e⟩ := Option.map_eq_some_iff.1 hi
        cases b <;> simp only [unslB, reduceCtorEq] at e
        rw [e] at hb
        exact .inr ⟨fun e => hij e.symm, hb⟩
    have hone : ∀ (j1 b1 c1 T1 z1 : Nat) (s1 : List Value) (j2 b2 c2 T2 z2 : Nat) (s2 : List Value), (Vc.frz s j (β j) (κ j) s.R T sz cs).blk[j1]? = some (Blk.shr b1 c1 T1 z1 s1) → (Vc.frz s j (β j) (κ j) s.R T sz cs).blk[j2]? = some (Blk.shr b2 c2 T2 z2 s2) → b1 = b2 → j1 = j2 := by
      intro j1 b1 c1 T1 z1 s1 j2 b2 c2 T2 z2 s2 h1 h2 he
      rcases hshr _ _ _ _ _ _ h1 with ⟨rfl, rfl, _⟩ | ⟨hn1, k1⟩
      · rcases hshr _ _ _ _ _ _ h2 with ⟨rfl, rfl, _⟩ | ⟨hn2, k2⟩
        · rfl
        · exact absurd he ((h.shr _ _ _ _ _ _ k2).apart j1 _ hj rfl)
      · rcases hshr _ _ _ _ _ _ h2 with ⟨rfl, rfl, _⟩ | ⟨hn2, k2⟩
        · exact absurd he.symm ((h.shr _ _ _ _ _ _ k1).apart j2 _ hj rfl)
        · exact (h.shr _ _ _ _ _ _ k2).one _ _ _ _ _ _ k1 he
    have hi0 := hi
    rcases hshr _ _ _ _ _ _ hi with ⟨rfl, rfl, rfl, rfl, rfl, rfl⟩ | ⟨hne, hi⟩
    · refine ⟨hB, ⟨arr, hh, hpre, hk1, hk2, hk3⟩, fun i' c hc hl e => ?_, fun a v ha hab => ?_, fun o v ho => .inr ⟨rfl, rfl, ho⟩, fun j' b' cap' T' sz' cs' hj' e => ?_, fun p hp => ?_⟩
      · obtain ⟨c', hc', rfl, hne⟩ := hget i' c hc hl
        exact hne (h.inj i' i c' _ hc' hj (by rw [← hlive]; exact hl) rfl e)
      · rcases ha with ha | ⟨_, _, ha⟩
        · exact absurd hab ((h.ro a v ha).2.2 i _ hj rfl)
        · exact (List.getElem?_eq_some_iff.1 ha).1
      · exact hone _ _ _ _ _ _ _ _ _ _ _ _ hj' hi0 e
      · exact fun e => (h.kept p hp).2.2.1 i _ hj rfl e.symm
    · have h1 := h.shr _ _ _ _ _ _ hi
      refine ⟨h1.base, h1.heap, fun i' c hc hl => ?_, fun a v ha hab => ?_, fun o v ho => .inl (h1.row o v ho), fun j' b'' cap'' T'' sz'' cs'' hj' e => hone _ _ _ _ _ _ _ _ _ _ _ _ hj' hi0 e, h1.kept⟩
      · obtain ⟨c', hc', rfl, _⟩ := hget i' c hc hl
        exact h1.apart i' c' hc' (by rw [← hlive]; exact hl)
      · rcases ha with ha | ⟨ha, _⟩
        · exact h1.facts a v ha hab
        · rw [ha] at hab; exact absurd hab (h1.apart j _ hj rfl)
  · have hown : ∀ (i : Nat) (F : RO), (Vc.frz s j (β j) (κ j) s.R T sz cs).blk[i]? = some (Blk.own F) → s.blk[i]? = some (Blk.own F) := by
      intro i F hi
      simp only [Vc.frz, List.getElem?_set, List.length_map, List.getElem?_map] at hi
      split at hi
      · split at hi <;> simp at hi
      · obtain ⟨b, hb, e⟩ := Option.map_eq_some_iff.1 hi
        cases b <;> simp only [unslB, reduceCtorEq] at e
        rw [e] at hb
        exact hb
    have hsh : ∀ (i b' cap' T' sz' : Nat) (cs' : List Value), (Vc.frz s j (β j) (κ j) s.R T sz cs).blk[i]? = some (Blk.shr b' cap' T' sz' cs') → b' = β j ∨ s.blk[i]? = some (Blk.shr b' cap' T' sz' cs') := by
      intro i b' cap' T' sz' cs' hi
      simp only [Vc.frz, List.getElem?_set, List.length_map, List.getElem?_map] at hi
      split at hi
      · split at hi
        · simp only [Option.some.injEq, Blk.shr.injEq] at hi; exact .inl hi.1.symm
        · cases hi
      · obtain ⟨b, hb, e⟩ := Option.map_eq_some_iff.1 hi
        cases b <;> simp only [unslB, reduceCtorEq] at e
        rw [e] at hb
        exact .inr hb
    have h1 := h.own i F (hown i F hi)
    refine h1.move (fun a v hf => rfl) (fun a v hf i' c hc hl => ?_) (fun a v hf a' v' ha' => ?_) (fun a v hf i' b' cap' T' sz' cs' hi' => ?_) (fun a v hf i' G hi' hne => h1.one a v hf i' G (hown _ _ hi') hne)
    · obtain ⟨c', hc', rfl, _⟩ := hget i' c hc hl
      exact h1.apart a v hf i' c' hc' (by rw [← hlive]; exact hl)
    · rcases ha' with ha' | ⟨ha', _⟩
      · exact h1.ro a v hf a' v' ha'
      · rw [ha']; exact h1.apart a v hf j _ hj rfl
    · rcases hsh _ _ _ _ _ _ hi' with rfl | hi'
      · exact h1.apart a v hf j _ hj rfl
      · exact h1.shr a v hf _ _ _ _ _ _ hi'

theorem Rel.frzB (h : Rel X β κ s tm w) {j : Nat} {cs : List SV} (hj : s.blk[j]? = some (.box cs)) (vs : List Value) (hv : ∀ i v, vs[i]? = some v → w.cell? ⟨β j, i, none⟩ = some v) :
    ∃ R', RO.le s.R R' ∧ RowIn R' (β j) vs ∧ Rel X β κ (frzB s j (β j) R') tm w := by
  obtain ⟨hB, hbo, T, hh⟩ := h.blk j _ hj
  have hget : ∀ i b', (Vc.frzB s j (β j) s.R).blk[i]? = some b' → b'.live = true → ∃ b, s.blk[i]? = some b ∧ b' = unlocB j (β j) b ∧ i ≠ j := by
    intro i b' hi hl
    simp only [Vc.frzB, List.getElem?_set, List.length_map, List.getElem?_map] at hi
    split at hi
    · rename_i hij
      split at hi
      · cases hi; cases hl
      · cases hi
    · rename_i hij
      obtain ⟨b, hb, rfl⟩ := Option.map_eq_some_iff.1 hi
      exact ⟨b, hb, rfl, fun e => hij e.symm⟩
  have hlive : ∀ b, (unlocB j (β j) b).live = b.live := fun b => by cases b <;> rfl
  refine ⟨fun a v => s.R a v ∨ (a.block = β j ∧ a.spot = none ∧ vs[a.off]? = some v), fun a v ha => .inl ha, fun i v hi => .inr ⟨rfl, rfl, hi⟩, ?_⟩
  refine { size := h.size, env := fun t => ?_, ok := fun t => ?_, below := h.below, le := fun a v ha => .inl (h.le a v ha), blk := fun i b' hi => ?_, inj := fun i i' b b' hi hi' hl hl' he => ?_, ro := fun a v ha => ?_, kept := fun p hp => ?_, shr := fun i b' cap' T' sz' cs' hi => ?_, own := fun i F hi => ?_, pos := h.pos, len := by rw [length_frzB]; exact h.len }
  · rw [h.env t]; exact (den_unloc j _ _ rfl).symm
  · rw [length_frzB]; exact ok_unloc _ _ _ _ (h.ok t)
  · cases hb' : b'.live with
    | false => cases b' <;> first | trivial | cases hb'
    | true =>
      obtain ⟨b, hb, rfl, hne⟩ := hget i b' hi hb'
      have h1 := h.blk i b hb
      rw [length_frzB]
      cases b with
      | dead => trivial
      | shr => trivial
      | own => trivial
      | mp es c => exact h1
      | it m a b c => exact h1
      | box cs' =>
        obtain ⟨g1, g2, T', g3⟩ := h1
        refine ⟨g1, ?_, T', ?_⟩
        · intro c hc
          obtain ⟨c', hc', rfl⟩ := List.mem_map.1 hc
          exact ok_unloc _ _ _ _ (g2 c' hc')
        · rw [List.map_map, show (den β κ ∘ unloc j (β j)) = den β κ from funext fun x => den_unloc j _ x rfl]
          exact g3
      | row T' sz' cs' => exact h1
  · obtain ⟨b1, h1, rfl, _⟩ := hget i b hi hl
    obtain ⟨b2, h2, rfl, _⟩ := hget i' b' hi' hl'
    exact h.inj i i' b1 b2 h1 h2 (by rw [← hlive]; exact hl) (by rw [← hlive]; exact hl') he
  · rcases ha with ha | ⟨ha, hs, hc⟩
    · obtain ⟨g1, g2, g3⟩ := h.ro a v ha
      refine ⟨g1, g2, fun i b' hi hl => ?_⟩
      obtain ⟨b, hb, rfl, _⟩ := hget i b' hi hl
      exact g3 i b hb (by rw [← hlive]; exact hl)
    · refine ⟨?_, .inr (by rw [ha]; exact ⟨hB, _, T, hh⟩), fun i b' hi hl => ?_⟩
      · obtain ⟨ab, ao, asp⟩ := a
        simp only at ha hs hc
        subst ha hs
        exact hv ao v hc
      · obtain ⟨b, hb, rfl, hne⟩ := hget i b' hi hl
        rw [ha]
        intro he
        exact hne (h.inj i j b _ hb hj (by rw [← hlive]; exact hl) rfl he.symm)
  · obtain ⟨g1, g2, g3, g4⟩ := h.kept p hp
    refine ⟨g1, g2, fun i b' hi hl => ?_, fun a v ha => ?_⟩
    · obtain ⟨b, hb, rfl, _⟩ := hget i b' hi hl
      exact g3 i b hb (by rw [← hlive]; exact hl)
    · rcases ha with ha | ⟨ha, _⟩
      · exact g4 a v ha
      · rw [ha]; exact g3 j _ hj rfl
  · have hshr : ∀ (i b' cap' T' sz' : Nat) (cs' : List Value), (Vc.frzB s j (β j) s.R).blk[i]? = some (Blk.shr b' cap' T' sz' cs') → s.blk[i]? = some (Blk.shr b' cap' T' sz' cs') := by
      intro i b' cap' T' sz' cs' hi
      simp only [Vc.frzB, List.getElem?_set, List.length_map, List.getElem?_map] at hi
      split at hi
      · split at hi <;> simp at hi
      · obtain ⟨b, hb, e⟩ := Option.map_eq_some_iff.1 hi
        cases b <;> simp only [unlocB, reduceCtorEq] at e
        rw [e] at hb
        exact hb
    have h1 := h.shr _ _ _ _ _ _ (hshr _ _ _ _ _ _ hi)
    refine ⟨h1.base, h1.heap, fun i' c hc hl => ?_, fun a v ha hab => ?_, fun o v ho => .inl (h1.row o v ho), fun j' b'' cap'' T'' sz'' cs'' hj' e => h1.one _ _ _ _ _ _ (hshr _ _ _ _ _ _ hj') e, h1.kept⟩
    · obtain ⟨c', hc', rfl, _⟩ := hget i' c hc hl
      exact h1.apart i' c' hc' (by rw [← hlive]; exact hl)
    · rcases ha with ha | ⟨ha, _⟩
      · exact h1.facts a v ha hab
      · rw [ha] at hab; exact absurd hab (h1.apart j _ hj rfl)
  · have hown : ∀ (i : Nat) (F : RO), (Vc.frzB s j (β j) s.R).blk[i]? = some (Blk.own F) → s.blk[i]? = some (Blk.own F) := by
      intro i F hi
      simp only [Vc.frzB, List.getElem?_set, List.length_map, List.getElem?_map] at hi
      split at hi
      · split at hi <;> simp at hi
      · obtain ⟨b, hb, e⟩ := Option.map_eq_some_iff.1 hi
        cases b <;> simp only [unlocB, reduceCtorEq] at e
        rw [e] at hb
        exact hb
    have hsh : ∀ (i b' cap' T' sz' : Nat) (cs' : List Value), (Vc.frzB s j (β j) s.R).blk[i]? = some (Blk.shr b' cap' T' sz' cs') → s.blk[i]? = some (Blk.shr b' cap' T' sz' cs') := by
      intro i b' cap' T' sz' cs' hi
      simp only [Vc.frzB, List.getElem?_set, List.length_map, List.getElem?_map] at hi
      split at hi
      · split at hi <;> simp at hi
      · obtain ⟨b, hb, e⟩ := Option.map_eq_some_iff.1 hi
        cases b <;> simp only [unlocB, reduceCtorEq] at e
        rw [e] at hb
        exact hb
    have h1 := h.own i F (hown i F hi)
    refine h1.move (fun a v hf => rfl) (fun a v hf i' c hc hl => ?_) (fun a v hf a' v' ha' => ?_) (fun a v hf i' b' cap' T' sz' cs' hi' => h1.shr a v hf _ _ _ _ _ _ (hsh _ _ _ _ _ _ hi')) (fun a v hf i' G hi' hne => h1.one a v hf i' G (hown _ _ hi') hne)
    · obtain ⟨c', hc', rfl, _⟩ := hget i' c hc hl
      exact h1.apart a v hf i' c' hc' (by rw [← hlive]; exact hl)
    · rcases ha' with ha' | ⟨ha', _⟩
      · exact h1.ro a v hf a' v' ha'
      · rw [ha']; exact h1.apart a v hf j _ hj rfl

theorem Rel.eval (h : Rel X β κ s tm w) (df : List Deferred) (x : Operand) : (⟨tm, df⟩ : Act).eval x = den β κ (s.ev x) := by
  cases x with
  | tmp t => exact h.env t
  | const v => rfl
  | global g => rfl
  | func f => rfl
theorem Rel.evOk (h : Rel X β κ s tm w) (x : Operand) : SV.ok s.blk.length (s.ev x) = true := by
  cases x with
  | tmp t => exact h.ok t
  | const v => rfl
  | global g => rfl
  | func f => rfl

theorem capVals_den : ∀ {cs : List Cap} {vs : List Value}, capVals cs = some vs → cs.map (capV β) = vs
  | [], vs, h => by simp only [capVals, Option.some.injEq] at h; subst h; rfl
  | .v x :: r, vs, h => by
    simp only [capVals] at h
    obtain ⟨us, hu, rfl⟩ := Option.map_eq_some_iff.1 h
    simp [capVals_den hu, capV]
  | .l k o :: r, vs, h => by simp [capVals] at h
theorem leaf1_sound {x : SV} {k : Value → St → Prop} (h : Rel X β κ s tm w) (hl : leaf1 x s k) : ∃ s', Rel X β κ s' tm w ∧ k (den β κ x) s' := by
  cases x with
  | val v => exact ⟨s, h, hl⟩
  | loc j o => exact hl.elim
  | mp j => exact hl.elim
  | fn f cs =>
    simp only [leaf1] at hl
    split at hl
    · rename_i vs hv
      exact ⟨s, h, by simp only [den, capVals_den hv]; exact hl⟩
    · exact hl.elim
  | sl j n =>
    simp only [leaf1] at hl
    split at hl
    · rename_i T sz cs hj
      obtain ⟨R', h1, h2, h3, h4⟩ := h.frz hj
      exact ⟨_, h4, hl _ _ R' h1 h2 h3 (fun a v ha => (h.ro a v ha).2.2 j _ hj rfl)⟩
    · exact hl.elim
  | sw j z e n =>
    simp only [leaf1] at hl
    split at hl
    · rename_i T sz cs hj
      obtain ⟨R', h1, h2, h3, h4⟩ := h.frz hj
      exact ⟨_, h4, hl _ _ R' h1 h2 h3 (fun a v ha => (h.ro a v ha).2.2 j _ hj rfl)⟩
    · exact hl.elim
theorem evs_den (h : Rel X β κ s tm w) (df : List Deferred) : ∀ (xs : List Operand), (evs s xs).map (den β κ) = xs.map (⟨tm, df⟩ : Act).eval
  | [] => rfl
  | x :: xs => by simp only [evs, List.map_cons, evs_den h df xs, h.eval df x]
theorem evs_ok (h : Rel X β κ s tm w) : ∀ (xs : List Operand), ∀ x ∈ evs s xs, SV.ok s.blk.length x = true
  | [], x, hx => by simp [evs] at hx
  | y :: ys, x, hx => by
    simp only [evs, List.mem_cons] at hx
    rcases hx with rfl | hx
    · exact h.evOk y
    · exact evs_ok h ys x hx
theorem allVal_den : ∀ (xs : List SV), allVal xs = true → xs.map (den β κ) = valsOf xs
  | [], _ => rfl
  | .val v :: xs, h => by simp only [List.map_cons, den, valsOf, allVal_den xs h]
  | .loc .. :: _, h => by cases h
  | .sl .. :: _, h => by cases h
  | .sw .. :: _, h => by cases h
  | .fn .. :: _, h => by cases h
  | .mp .. :: _, h => by cases h
theorem capsOf_den : ∀ {xs : List SV} {cs : List Cap}, capsOf xs = some cs → cs.map (capV β) = xs.map (den β κ)
  | [], cs, h => by simp only [capsOf, Option.some.injEq] at h; subst h; rfl
  | .val v :: r, cs, h => by
    simp only [capsOf] at h
    obtain ⟨us, hu, rfl⟩ := Option.map_eq_some_iff.1 h
    simp [capsOf_den hu, capV, den]
  | .loc k o :: r, cs, h => by
    simp only [capsOf] at h
    obtain ⟨us, hu, rfl⟩ := Option.map_eq_some_iff.1 h
    simp [capsOf_den hu, capV, den]
  | .sl .. :: r, cs, h => by simp [capsOf] at h
  | .sw .. :: r, cs, h => by simp [capsOf] at h
  | .fn .. :: r, cs, h => by simp [capsOf] at h
  | .mp .. :: r, cs, h => by simp [capsOf] at h
theorem capsOf_ok {L : Nat} : ∀ {xs : List SV} {cs : List Cap}, capsOf xs = some cs → (∀ x ∈ xs, SV.ok L x = true) → cs.all (Cap.ok L) = true
  | [], cs, h, _ => by simp only [capsOf, Option.some.injEq] at h; subst h; rfl
  | .val v :: r, cs, h, hx => by
    simp only [capsOf] at h
    obtain ⟨us, hu, rfl⟩ := Option.map_eq_some_iff.1 h
    simp [capsOf_ok hu (fun x hh => hx x (by simp [hh])), Cap.ok] 
  | .loc k o :: r, cs, h, hx => by
    simp only [capsOf] at h
    obtain ⟨us, hu, rfl⟩ := Option.map_eq_some_iff.1 h
    have h1 := hx (.loc k o) (by simp)
    have h2 := capsOf_ok hu (fun x hh => hx x (by simp [hh]))
    simp only [SV.ok] at h1
    simp only [List.all_cons, Cap.ok, h1, h2, Bool.and_self]
  | .sl .. :: r, cs, h, _ => by simp [capsOf] at h
  | .sw .. :: r, cs, h, _ => by simp [capsOf] at h
  | .fn .. :: r, cs, h, _ => by simp [capsOf] at h
  | .mp .. :: r, cs, h, _ => by simp [capsOf] at h
theorem capSV_den (c : Cap) : den β κ (capSV c) = capV β c := by cases c <;> rfl
theorem Rel.boxCell (h : Rel X β κ s tm w) {j o : Nat} {cs : List SV} {c : SV} (hj : s.blk[j]? = some (.box cs)) (hc : cs[o]? = some c) : w.cell? ⟨β j, o, none⟩ = some (den β κ c) := by
  obtain ⟨_, _, T, hh⟩ := h.blk j _ hj
  simp only [World.cell?, hh, Option.isSome_none, Bool.false_eq_true, if_false]
  simp [hc]
theorem Rel.rowCell (h : Rel X β κ s tm w) {j o T sz : Nat} {cs : List Value} {c : Value} (hj : s.blk[j]? = some (.row T sz cs)) (hc : cs[o]? = some c) : w.cell? ⟨β j, o, none⟩ = some c := by
  obtain ⟨_, arr, hh, ⟨rest, hrest⟩, _⟩ := h.blk j _ hj
  have h2 : arr.toList[o]? = some c := by
    rw [← hrest, List.getElem?_append_left (List.getElem?_eq_some_iff.1 hc).1]; exact hc
  simp only [World.cell?, hh, Option.isSome_none, Bool.false_eq_true, if_false]
  simpa using h2
theorem cellsAt_sound : ∀ (n : Nat) (s : St) (j off : Nat) (k : List Value → St → Prop), Rel X β κ s tm w → cellsAt s j off n k →
    ∃ s' vs, Rel X β κ s' tm w ∧ k vs s' ∧ vs.length = n ∧ ∀ i v, vs[i]? = some v → w.cell? ⟨β j, off + i, none⟩ = some v
  | 0, s, j, off, k, h, hc => ⟨s, [], h, hc, rfl, by simp⟩
  | n + 1, s, j, off, k, h, hc => by
    simp only [cellsAt] at hc
    split at hc
    · rename_i cs hj
      split at hc
      · rename_i c hoff
        obtain ⟨s1, h1, hk1⟩ := leaf1_sound h hc
        obtain ⟨s2, vs, h2, hk2, hl, hv⟩ := cellsAt_sound n s1 j (off + 1) _ h1 hk1
        refine ⟨s2, _, h2, hk2, by simp [hl], fun i v hi => ?_⟩
        cases i with
        | zero => simp only [List.getElem?_cons_zero, Option.some.injEq] at hi; subst hi; exact h.boxCell hj hoff
        | succ i => simp only [List.getElem?_cons_succ] at hi; have := hv i v hi; rwa [show off + (i + 1) = off + 1 + i by omega]
      · exact hc.elim
    · rename_i T sz cs hj
      obtain ⟨v0, hoff, hc⟩ := hc
      obtain ⟨s2, vs, h2, hk2, hl, hv⟩ := cellsAt_sound n s j (off + 1) _ h hc
      refine ⟨s2, _, h2, hk2, by simp [hl], fun i v hi => ?_⟩
      cases i with
      | zero => simp only [List.getElem?_cons_zero, Option.some.injEq] at hi; subst hi; exact h.rowCell hj hoff
      | succ i => simp only [List.getElem?_cons_succ] at hi; have := hv i v hi; rwa [show off + (i + 1) = off + 1 + i by omega]
    · exact hc.elim
theorem leaf_sound {x : SV} {k : Value → St → Prop} (h : Rel X β κ s tm w) (hl : leaf x s k) : ∃ s', Rel X β κ s' tm w ∧ k (den β κ x) s' := by
  cases x with
  | loc j o =>
    simp only [leaf] at hl
    split at hl
    · rename_i cs hj
      obtain ⟨s1, vs, h1, hk1, _, hv⟩ := cellsAt_sound cs.length s j 0 _ h hl
      split at hk1
      · rename_i cs1 hj1
        obtain ⟨R', g1, g2, g3⟩ := h1.frzB hj1 vs (fun i v hi => by have := hv i v hi; rwa [Nat.zero_add] at this)
        exact ⟨_, g3, hk1 _ R' g1 g2 (fun a v ha => (h1.ro a v ha).2.2 j _ hj1 rfl)⟩
      · exact hk1.elim
    · exact hl.elim
  | val v => exact leaf1_sound h hl
  | mp j => exact leaf1_sound h hl
  | fn f cs => exact leaf1_sound h hl
  | sl j n => exact leaf1_sound h hl
  | sw j z e n => exact leaf1_sound h hl
theorem leaves_sound (df : List Deferred) : ∀ (xs : List Operand) (s : St) (k : List Value → St → Prop), Rel X β κ s tm w → leaves s xs k → ∃ s', Rel X β κ s' tm w ∧ k (xs.map (⟨tm, df⟩ : Act).eval) s'
  | [], s, k, h, hl => ⟨s, h, hl⟩
  | x :: xs, s, k, h, hl => by
    obtain ⟨s1, h1, hk1⟩ := leaf_sound h hl
    obtain ⟨s2, h2, hk2⟩ := leaves_sound df xs s1 _ h1 hk1
    refine ⟨s2, h2, ?_⟩
    rw [List.map_cons, h.eval df x]
    exact hk2
/-- What is known holds, and lies apart from what is kept. -/
theorem Rel.all (h : Rel X β κ s tm w) {a : Addr} {v : Value} (ha : allR s.blk s.R a v) : w.cell? a = some v ∧ ¬ X.kp a.block := by
  rcases ha with ha | ⟨j, F, hj, ha⟩
  · refine ⟨(h.ro a v ha).1, fun ⟨p, hp, e⟩ => (h.kept p hp).2.2.2 a v ha e.symm⟩
  · exact ⟨(h.own j F hj).cell a v ha, fun ⟨p, hp, e⟩ => (h.own j F hj).kept a v ha p hp e⟩
theorem length_putAt : ∀ (vs : List Value) (off : Nat) (cs : List Value), (putAt off cs vs).length = cs.length
  | [], _, _ => rfl
  | v :: vs, off, cs => by simp only [putAt]; rw [length_putAt vs]; simp
theorem foldl_zipIdx_put : ∀ (vs : List Value) (off i : Nat) (cs : List Value), (vs.zipIdx i).foldl (fun (a : Array Value) (p : Value × Nat) => a.setIfInBounds (off + p.2) p.1) cs.toArray = (putAt (off + i) cs vs).toArray
  | [], _, _, _ => rfl
  | v :: vs, off, i, cs => by
    simp only [List.zipIdx_cons, List.foldl_cons, putAt]
    rw [List.setIfInBounds_toArray]
    exact foldl_zipIdx_put vs off (i + 1) _
theorem fillV_sound (df : List Deferred) (place : Nat → Option (Nat × Nat)) : ∀ (ps : List (Nat × Operand)) (qs : List (Nat × Nat × Operand)) (s : St) (cs : List Value) (k : List Value → St → Prop),
    qs.length = ps.length → (∀ (i : Nat) (p : Nat × Operand) (q : Nat × Nat × Operand), ps[i]? = some p → qs[i]? = some q → place p.1 = some (q.1, q.2.1) ∧ p.2 = q.2.2) → Rel X β κ s tm w → fillV s cs qs k →
    ∃ s' cs', Rel X β κ s' tm w ∧ k cs' s' ∧ cs'.length = cs.length ∧ Instr.fill place cs.toArray (ps.map fun p => (p.1, (⟨tm, df⟩ : Act).eval p.2)) = some cs'.toArray
  | [], [], s, cs, k, _, _, h, hk => ⟨s, cs, h, hk, rfl, rfl⟩
  | p :: ps, q :: qs, s, cs, k, hl, hp, h, hk => by
    obtain ⟨off, sz, x⟩ := q
    obtain ⟨i, y⟩ := p
    obtain ⟨hpl, hxy⟩ := hp 0 _ _ rfl rfl
    simp only at hpl hxy
    subst hxy
    simp only [fillV] at hk
    obtain ⟨s1, h1, hsz, hoff, hk1⟩ := leaf_sound h hk
    obtain ⟨s2, cs', h2, hk2, hlen, hf⟩ := fillV_sound df place ps qs s1 _ k (by simpa using hl) (fun i p q hi hj => hp (i + 1) p q hi hj) h1 hk1
    refine ⟨s2, cs', h2, hk2, by rw [hlen, length_putAt], ?_⟩
    simp only [List.map_cons, Instr.fill, hpl, h.eval df y]
    rw [if_neg (by simp [hsz]; omega)]
    have hz : Array.foldl (fun cs (x : Value × Nat) => cs.setIfInBounds (off + x.2) x.1) cs.toArray (den β κ (s.ev y)).cells.zipIdx = (putAt off cs (den β κ (s.ev y)).cells.toList).toArray := by
      rw [← Array.foldl_toList]
      simpa using foldl_zipIdx_put (den β κ (s.ev y)).cells.toList off 0 cs
    rw [hz]
    exact hf
  | [], _ :: _, _, _, _, hl, _, _, _ => by simp at hl
  | _ :: _, [], _, _, _, hl, _, _, _ => by simp at hl
end
end Go.Proofs.YtcjdbfnnbejmeaaGreat.Vc
