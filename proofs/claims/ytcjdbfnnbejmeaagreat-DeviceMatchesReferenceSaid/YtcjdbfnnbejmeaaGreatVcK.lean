/- Plain lemmas of our own, no statement of the seat: calls to which the caller's own blocks are lent, or handed. -/
import Derived.Test.YtcjdbfnnbejmeaaGreatVcE
namespace Go.Proofs.YtcjdbfnnbejmeaaGreat.Vc
set_option linter.unusedSimpArgs false
set_option linter.unusedVariables false
open Go.RowKit
section
variable {P : Program} {X : Ctx} {β κ : Nat → Nat} {s : St} {tm : Array Value} {w w' : World}

theorem capOk_mono {L L' : Nat} (hL : L ≤ L') {c : Cap} (h : Cap.ok L c = true) : Cap.ok L' c = true := by
  cases c with
  | v x => rfl
  | l k o => simp only [Cap.ok, decide_eq_true_eq] at *; omega
theorem ok_mono {L L' : Nat} (hL : L ≤ L') {x : SV} (h : SV.ok L x = true) : SV.ok L' x = true := by
  cases x with
  | val v => rfl
  | fn f cs =>
    simp only [SV.ok, List.all_eq_true] at *
    exact fun c hc => capOk_mono hL (h c hc)
  | _ => simp only [SV.ok, decide_eq_true_eq] at *; omega

theorem Rel.called (h : Rel X β κ s tm w) {R' : RO} (hle : RO.le s.R R') (hR' : ∀ a v, R' a v → w'.cell? a = some v ∧ (s.R a v ∨ (w.heap.size ≤ a.block ∧ Loose w' a.block))) (hext : Ext w w') : Rel X β κ { s with R := R' } tm w' := by
  have h2 := h.ext hext
  exact { h2 with
    le := fun a v ha => hle a v (h.le a v ha)
    ro := fun a v ha => by
      obtain ⟨g1, g2⟩ := hR' a v ha
      rcases g2 with g2 | g2
      · exact h2.ro a v g2
      · exact ⟨g1, .inr ⟨.inl (by have := h.below.size; omega), g2.2⟩, fun i b hi hl => by have := (h.blk i b hi).lt hl; omega⟩
    kept := fun p hp => by
      obtain ⟨g1, g2, g3, g4⟩ := h2.kept p hp
      have g0 := (Array.getElem?_eq_some_iff.1 (h.kept p hp).1).1
      refine ⟨g1, g2, g3, fun a v ha => ?_⟩
      rcases (hR' a v ha).2 with g5 | g5
      · exact g4 a v g5
      · omega
    shr := fun j b cap T sz cs hj => by
      have h4 := h2.shr j b cap T sz cs hj
      obtain ⟨arr, g1, _⟩ := (h.shr j b cap T sz cs hj).heap
      have g0 := (Array.getElem?_eq_some_iff.1 g1).1
      exact { h4 with
        facts := fun a v ha hab => by
          rcases (hR' a v ha).2 with g5 | g5
          · exact h4.facts a v g5 hab
          · omega
        row := fun i v hi => hle _ _ (h4.row i v hi) }
    own := fun j F hj => { h2.own j F hj with
      ro := fun a v hf a' v' ha => by
        rcases (hR' a' v' ha).2 with g5 | g5
        · exact (h2.own j F hj).ro a v hf a' v' g5
        · have := (h.own j F hj).lt hf; omega } }
/-- What a call has made becomes the caller's own. -/
theorem Rel.adopt (h : Rel X β κ s tm w) (hext : Ext w w') {F : RO} (hF : ∀ a v, F a v → w'.cell? a = some v ∧ w.heap.size ≤ a.block ∧ Loose w' a.block) : Rel X β κ { s with blk := s.blk ++ [.own F] } tm w' := by
  have h2 := h.ext hext
  have hget : ∀ (i : Nat) (b : Blk), (s.blk ++ [Blk.own F])[i]? = some b → (i < s.blk.length ∧ s.blk[i]? = some b) ∨ (i = s.blk.length ∧ b = .own F) := by
    intro i b hi
    rcases Nat.lt_or_ge i s.blk.length with hlt | hge
    · rw [List.getElem?_append_left hlt] at hi; exact .inl ⟨hlt, hi⟩
    · rw [List.getElem?_append_right hge] at hi
      have hi' := (List.getElem?_eq_some_iff.1 hi).1
      simp only [List.length_cons, List.length_nil] at hi'
      have : i = s.blk.length := by omega
      subst this
      simp at hi
      exact .inr ⟨rfl, hi.symm⟩
  have hold : ∀ (i : Nat) (b : Blk), (s.blk ++ [Blk.own F])[i]? = some b → b.live = true → s.blk[i]? = some b := fun i b hi hl => by
    rcases hget i b hi with ⟨_, hi⟩ | ⟨_, rfl⟩
    · exact hi
    · cases hl
  have hshr : ∀ (i b cap T sz : Nat) (cs : List Value), (s.blk ++ [Blk.own F])[i]? = some (.shr b cap T sz cs) → s.blk[i]? = some (.shr b cap T sz cs) := fun i b cap T sz cs hi => by
    rcases hget i _ hi with ⟨_, hi⟩ | ⟨_, e⟩
    · exact hi
    · cases e
  have hrl : ∀ a v, s.R a v → a.block < w.heap.size := fun a v ha => block_lt_of_cell (h.ro a v ha).1
  have hsl : ∀ (i b cap T sz : Nat) (cs : List Value), s.blk[i]? = some (.shr b cap T sz cs) → b < w.heap.size := fun i b cap T sz cs hi => by
    obtain ⟨arr, g, _⟩ := (h.shr _ _ _ _ _ _ hi).heap
    exact (Array.getElem?_eq_some_iff.1 g).1
  exact { h2 with
    ok := fun t => by simp only [List.length_append, List.length_cons, List.length_nil]; exact ok_mono (Nat.le_succ _) (h.ok t)
    blk := fun i b hi => by
      simp only [List.length_append, List.length_cons, List.length_nil]
      rcases hget i b hi with ⟨_, hi⟩ | ⟨_, rfl⟩
      · have h1 := h2.blk i b hi
        cases b with
        | box cs => exact ⟨h1.1, fun c hc => ok_mono (Nat.le_succ _) (h1.2.1 c hc), h1.2.2⟩
        | it m a b c => exact ⟨h1.1, Nat.lt_succ_of_lt h1.2.1, h1.2.2⟩
        | _ => exact h1
      · trivial
    inj := fun i j b b' hi hj hl1 hl2 he => h.inj i j b b' (hold i b hi hl1) (hold j b' hj hl2) hl1 hl2 he
    ro := fun a v ha => by
      obtain ⟨g1, g2, g3⟩ := h2.ro a v ha
      exact ⟨g1, g2, fun i b hi hl => g3 i b (hold i b hi hl) hl⟩
    kept := fun p hp => by
      obtain ⟨g1, g2, g3, g4⟩ := h2.kept p hp
      exact ⟨g1, g2, fun i b hi hl => g3 i b (hold i b hi hl) hl, g4⟩
    shr := fun j b cap T sz cs hj => { h2.shr j b cap T sz cs (hshr _ _ _ _ _ _ hj) with
      apart := fun i c hi hl => (h2.shr j b cap T sz cs (hshr _ _ _ _ _ _ hj)).apart i c (hold i c hi hl) hl
      one := fun j' b' cap' T' sz' cs' hj' e => (h2.shr j b cap T sz cs (hshr _ _ _ _ _ _ hj)).one _ _ _ _ _ _ (hshr _ _ _ _ _ _ hj') e }
    own := fun j G hj => by
      have hone : ∀ (i : Nat) (G' : RO), (s.blk ++ [Blk.own F])[i]? = some (.own G') → (s.blk[i]? = some (.own G') ∧ ∀ a v, G' a v → a.block < w.heap.size) ∨ (i = s.blk.length ∧ ∀ a v, G' a v → w.heap.size ≤ a.block) := fun i G' hi => by
        rcases hget i _ hi with ⟨_, hi⟩ | ⟨rfl, e⟩
        · exact .inl ⟨hi, fun a v hf => (h.own _ _ hi).lt hf⟩
        · simp only [Blk.own.injEq] at e
          subst e
          exact .inr ⟨rfl, fun a v hf => (hF a v hf).2.1⟩
      rcases hget j _ hj with ⟨hjl, hj⟩ | ⟨rfl, e⟩
      · have h1 := h2.own j G hj
        refine h1.move (fun a v hf => rfl) (fun a v hf i c hi hl => h1.apart a v hf i c (hold i c hi hl) hl) h1.ro (fun a v hf i b cap T sz cs hi => h1.shr a v hf _ _ _ _ _ _ (hshr _ _ _ _ _ _ hi)) (fun a v hf i G' hi hne a' v' hf' => ?_)
        rcases hone i G' hi with ⟨hi, _⟩ | ⟨_, hg⟩
        · exact h1.one a v hf i G' hi hne a' v' hf'
        · have := hg a' v' hf'
          have := (h.own _ _ hj).lt hf
          omega
      · simp only [Blk.own.injEq] at e
        subst e
        refine ⟨fun a v hf => (hF a v hf).1, fun a v hf => ⟨.inl (by have := h.below.size; have := (hF a v hf).2.1; omega), (hF a v hf).2.2⟩, fun a v hf i c hi hl => ?_, fun a v hf a' v' ha' => ?_, fun a v hf i b cap T sz cs hi => ?_, fun a v hf p hp => ?_, fun a v hf i G' hi hne a' v' hf' => ?_⟩
        · have := (h.blk i c (hold i c hi hl)).lt hl
          have := (hF a v hf).2.1
          omega
        · have := hrl a' v' ha'
          have := (hF a v hf).2.1
          omega
        · have := hsl _ _ _ _ _ _ (hshr _ _ _ _ _ _ hi)
          have := (hF a v hf).2.1
          omega
        · have := (Array.getElem?_eq_some_iff.1 (h.kept p hp).1).1
          have := (hF a v hf).2.1
          omega
        · rcases hone i G' hi with ⟨_, hg⟩ | ⟨hi, _⟩
          · have := hg a' v' hf'
            have := (hF a v hf).2.1
            omega
          · exact absurd hi hne
    len := by have := h.len; simp only [List.length_append, List.length_cons, List.length_nil]; omega }

/-- What is lent. -/
def lent (s : St) (β κ : Nat → Nat) : RO := fun a v => (s.R a v ∨ ∃ (j : Nat) (F : RO), s.blk[j]? = some (.own F) ∧ F a v) ∨ (a.spot = none ∧ ∃ j b, s.blk[j]? = some b ∧ a.block = β j ∧ ((∃ T sz cs, b = Blk.row T sz cs ∧ cs[a.off]? = some v) ∨ ∃ cs, b = Blk.box cs ∧ (cs.map (den β κ))[a.off]? = some v))
theorem lent_spec (h : Rel X β κ s tm w) : LendR s β κ (lent s β κ) ∧ ∀ a v, lent s β κ a v → w.cell? a = some v := by
  refine ⟨⟨fun a v ha => .inl (.inl ha), fun j b hj => ?_⟩, fun a v ha => ?_⟩
  · cases b with
    | row T sz cs =>
      obtain ⟨_, arr, _, _, _, hcap, _⟩ := h.blk j _ hj
      exact ⟨fun i v hi => .inr ⟨rfl, j, _, hj, rfl, .inl ⟨T, sz, cs, rfl, hi⟩⟩, hcap⟩
    | box cs => exact fun i v hi => .inr ⟨rfl, j, _, hj, rfl, .inr ⟨cs, rfl, hi⟩⟩
    | own F => exact fun a v hf => .inl (.inr ⟨j, F, hj, hf⟩)
    | _ => trivial
  · rcases ha with ha | ⟨hs, j, b, hj, hb, hc⟩
    · exact (h.all ha).1
    · obtain ⟨ab, ao, asp⟩ := a
      simp only at hs hb hc
      subst hs hb
      rcases hc with ⟨T, sz, cs, rfl, hc⟩ | ⟨cs, rfl, hc⟩
      · exact h.rowCell hj hc
      · rw [List.getElem?_map] at hc
        obtain ⟨c, hc', rfl⟩ := Option.map_eq_some_iff.1 hc
        exact h.boxCell hj hc'
theorem lend_sound {f : FuncId} {xs : List SV} {k : SV → St → Prop} (h : Rel X β κ s tm w) (hl : Lend P f xs s k) :
    Calls P f (xs.map (den β κ)).toArray w fun e w' => ∃ v s', e = .returned v ∧ Rel X β κ s' tm w' ∧ k (.val v) s' ∧ Ext w w' := by
  obtain ⟨h1, h2⟩ := lent_spec h
  obtain ⟨Post, hcall, hk⟩ := hl β κ _ h1
  refine (hcall w h2).mono ?_
  rintro e w' ⟨v, R', rfl, hle, hR', hext, hpost⟩
  refine ⟨v, _, rfl, ?_, hk R' v (fun a u => s.R a u ∨ (R' a u ∧ Fresh (lent s β κ) a.block)) hle hpost (fun a u ha => .inl ha) (fun a u ha hf => .inr ⟨ha, hf⟩), hext⟩
  refine h.called (fun a u ha => .inl ha) (fun a u ha => ?_) hext
  rcases ha with ha | ⟨ha, hf⟩
  · have := (h.ro a u ha).1
    exact ⟨by rw [hext.cell (block_lt_of_cell this)]; exact this, .inl ha⟩
  · refine ⟨(hR' a u ha).1, .inr ?_⟩
    rcases (hR' a u ha).2 with h3 | h3
    · exact absurd rfl (hf a u h3)
    · exact h3
theorem lendA_sound {f : FuncId} {xs : List SV} {k : SV → St → Prop} (h : Rel X β κ s tm w) (hl : LendA P f xs s k) :
    Calls P f (xs.map (den β κ)).toArray w fun e w' => ∃ v s', e = .returned v ∧ Rel X β κ s' tm w' ∧ k (.val v) s' ∧ Ext w w' := by
  obtain ⟨h1, h2⟩ := lent_spec h
  obtain ⟨Post, hcall, hk⟩ := hl β κ _ h1
  refine (hcall w h2).mono ?_
  rintro e w' ⟨v, R', rfl, hle, hR', hext, hpost⟩
  refine ⟨v, _, rfl, ?_, hk R' v (fun a u => R' a u ∧ Fresh (lent s β κ) a.block) hle hpost (fun a u ha hf => ⟨ha, hf⟩), hext⟩
  refine h.adopt hext fun a u ⟨ha, hf⟩ => ⟨(hR' a u ha).1, ?_⟩
  rcases (hR' a u ha).2 with h3 | h3
  · exact absurd rfl (hf a u h3)
  · exact h3

/-! ### Handed blocks -/
theorem capV_ren (ρ : List Nat) (c : Cap) : capV (fun i => β (rn ρ i)) c = capV β (renC ρ c) := by cases c <;> rfl
theorem den_ren (ρ : List Nat) (x : SV) : den (fun i => β (rn ρ i)) (fun i => κ (rn ρ i)) x = den β κ (ren ρ x) := by
  cases x with
  | fn f cs =>
    simp only [den, ren, List.map_map]
    congr 3
    funext c
    exact capV_ren ρ c
  | _ => rfl
theorem capV_congr {β' : Nat → Nat} {L : Nat} (h : ∀ i, i < L → β' i = β i) {c : Cap} (hc : Cap.ok L c = true) : capV β' c = capV β c := by
  cases c with
  | v x => rfl
  | l k o => simp only [Cap.ok, decide_eq_true_eq] at hc; simp only [capV, h k hc]
theorem den_congr {β' κ' : Nat → Nat} {L : Nat} (h : ∀ i, i < L → β' i = β i ∧ κ' i = κ i) {x : SV} (hx : SV.ok L x = true) : den β' κ' x = den β κ x := by
  cases x with
  | val v => rfl
  | fn f cs =>
    simp only [SV.ok, List.all_eq_true] at hx
    simp only [den]
    congr 2
    exact List.map_congr_left fun c hc => capV_congr (fun i hi => (h i hi).1) (hx c hc)
  | loc k o => simp only [SV.ok, decide_eq_true_eq] at hx; simp only [den, h k hx]
  | sl k o => simp only [SV.ok, decide_eq_true_eq] at hx; simp only [den, h k hx]
  | sw k z e n => simp only [SV.ok, decide_eq_true_eq] at hx; simp only [den, h k hx]
  | mp k => simp only [SV.ok, decide_eq_true_eq] at hx; simp only [den, h k hx]
theorem renB_live (ρ : List Nat) (b : Blk) : (renB ρ b).live = b.live := by cases b <;> rfl
theorem blkM_spec {ρ : List Nat} {sb : List Blk} : ∀ (bs : List Blk) (i : Nat), blkM ρ sb i bs → ∀ j b, bs[j]? = some b → b = .dead ∨ (∃ F G, b = .own F ∧ sb[rn ρ (i + j)]? = some (.own G) ∧ RO.le F G) ∨ ((∀ F, b ≠ .own F) ∧ sb[rn ρ (i + j)]? = some (renB ρ b))
  | [], _, _, j, b, hj => by simp at hj
  | b0 :: r, i, h, j, b, hj => by
    have key : (b0 = .dead ∨ (∃ F G, b0 = .own F ∧ sb[rn ρ i]? = some (.own G) ∧ RO.le F G) ∨ ((∀ F, b0 ≠ .own F) ∧ sb[rn ρ i]? = some (renB ρ b0))) ∧ blkM ρ sb (i + 1) r := by
      cases b0 <;> first | exact ⟨.inl rfl, h⟩ | exact ⟨.inr (.inl ⟨_, _, rfl, h.1.choose_spec⟩), h.2⟩ | exact ⟨.inr (.inr ⟨fun F => (fun e => by cases e), h.1⟩), h.2⟩
    cases j with
    | zero => simp only [List.getElem?_cons_zero, Option.some.injEq] at hj; subst hj; exact key.1
    | succ j =>
      simp only [List.getElem?_cons_succ] at hj
      have := blkM_spec r (i + 1) key.2 j b hj
      rwa [show i + (j + 1) = i + 1 + j by omega]
theorem rnInj_spec {ρ : List Nat} {n : Nat} (h : rnInj ρ n = true) {i j : Nat} (hi : i < n) (hj : j < n) (he : rn ρ i = rn ρ j) : i = j := by
  simp only [rnInj, List.all_eq_true, List.mem_range, bne_iff_ne, ne_eq] at h
  rcases Nat.lt_trichotomy i j with hlt | heq | hgt
  · exact absurd he.symm (h j hj i hlt)
  · exact heq
  · exact absurd he (h i hi j hgt)
/-- A block lies where it lay, read with other numbers. -/
theorem BlkOK.ren {own own' : Nat → Prop} {L L' j : Nat} {ρ : List Nat} {b : Blk} {β' κ' : Nat → Nat} (h : BlkOK β κ w own L j b) (hβ : b.live = true → β' (rn ρ j) = β j ∧ κ' (rn ρ j) = κ j) (hown : own (β j) → own' (β j))
    (hden : ∀ x, SV.ok L x = true → den β' κ' (ren ρ x) = den β κ x ∧ SV.ok L' (ren ρ x) = true) (hm : ∀ m, m < L → β' (rn ρ m) = β m ∧ rn ρ m < L') : BlkOK β' κ' w own' L' (rn ρ j) (renB ρ b) := by
  cases b with
  | dead => trivial
  | shr => trivial
  | own => trivial
  | box cs =>
    obtain ⟨g1, g2, T, g3⟩ := h
    obtain ⟨e1, e2⟩ := hβ rfl
    refine ⟨by rw [e1]; exact hown g1, fun c hc => ?_, T, ?_⟩
    · obtain ⟨c', hc', rfl⟩ := List.mem_map.1 hc
      exact (hden c' (g2 c' hc')).2
    · rw [e1, g3, List.map_map]
      congr 3
      exact List.map_congr_left fun c hc => (hden c (g2 c hc)).1.symm
  | row T sz cs =>
    obtain ⟨g1, arr, g2, g3, g4, g5, g6⟩ := h
    obtain ⟨e1, e2⟩ := hβ rfl
    exact ⟨by rw [e1]; exact hown g1, arr, by rw [e1]; exact g2, g3, by rw [e2]; exact g4, by rw [e2]; exact g5, by rw [e2]; exact g6⟩
  | mp es c =>
    obtain ⟨g1, g2⟩ := h
    obtain ⟨e1, e2⟩ := hβ rfl
    exact ⟨by rw [e1]; exact hown g1, by rw [e1]; exact g2⟩
  | it m a b c =>
    obtain ⟨g1, g2, g3⟩ := h
    obtain ⟨e1, e2⟩ := hβ rfl
    exact ⟨by rw [e1]; exact hown g1, (hm m g2).2, by rw [e1, (hm m g2).1]; exact g3⟩
theorem BlkOK.own {own own' : Nat → Prop} {L j : Nat} {b : Blk} (h : BlkOK β κ w own L j b) (hown : b.live = true → own (β j) → own' (β j)) : BlkOK β κ w own' L j b := by
  cases b with
  | dead => trivial
  | shr => trivial
  | own => trivial
  | box cs => exact ⟨hown rfl h.1, h.2⟩
  | row T sz cs => exact ⟨hown rfl h.1, h.2⟩
  | mp es c => exact ⟨hown rfl h.1, h.2⟩
  | it m a b c => exact ⟨hown rfl h.1, h.2⟩
theorem length_setG : ∀ (sb : List Blk) (g : List Nat) (bs : List Blk), g.length ≤ bs.length → (setG sb g bs).length = sb.length + (bs.length - g.length)
  | sb, [], bs, _ => by cases bs <;> simp [setG]
  | sb, i :: g, [], h => by simp at h
  | sb, i :: g, b :: bs, h => by
    simp only [setG]
    rw [length_setG (sb.set i b) g bs (by simpa using h)]
    simp
theorem get_setG_new : ∀ (sb : List Blk) (g : List Nat) (bs : List Blk), g.length ≤ bs.length → ∀ i, sb.length ≤ i → (setG sb g bs)[i]? = bs[g.length + (i - sb.length)]?
  | sb, [], bs, _, i, hi => by
    have : setG sb [] bs = sb ++ bs := by cases bs <;> simp [setG]
    rw [this, List.getElem?_append_right hi]
    simp
  | sb, i0 :: g, [], h, _, _ => by simp at h
  | sb, i0 :: g, b :: bs, h, i, hi => by
    simp only [setG]
    rw [get_setG_new (sb.set i0 b) g bs (by simpa using h) i (by simpa using hi)]
    simp only [List.length_set, List.length_cons]
    rw [show g.length + 1 + (i - sb.length) = (g.length + (i - sb.length)) + 1 by omega, List.getElem?_cons_succ]
theorem get_setG_old : ∀ (sb : List Blk) (g : List Nat) (bs : List Blk), g.length ≤ bs.length → ∀ i, i < sb.length → i ∉ g → (setG sb g bs)[i]? = sb[i]?
  | sb, [], bs, _, i, hi, _ => by
    have : setG sb [] bs = sb ++ bs := by cases bs <;> simp [setG]
    rw [this, List.getElem?_append_left hi]
  | sb, i0 :: g, [], h, _, _, _ => by simp at h
  | sb, i0 :: g, b :: bs, h, i, hi, hg => by
    simp only [List.mem_cons, not_or] at hg
    simp only [setG]
    rw [get_setG_old (sb.set i0 b) g bs (by simpa using h) i (by simpa using hi) hg.2, List.getElem?_set_ne (Ne.symm hg.1)]
theorem get_setG_at : ∀ (sb : List Blk) (g : List Nat) (bs : List Blk), g.length ≤ bs.length → g.Nodup → ∀ (p i : Nat), g[p]? = some i → i < sb.length → (setG sb g bs)[i]? = bs[p]?
  | sb, [], bs, _, _, p, i, hp, _ => by simp at hp
  | sb, i0 :: g, [], h, _, _, _, _, _ => by simp at h
  | sb, i0 :: g, b :: bs, h, hn, p, i, hp, hi => by
    simp only [List.nodup_cons] at hn
    simp only [setG]
    cases p with
    | zero =>
      simp only [List.getElem?_cons_zero, Option.some.injEq] at hp
      subst hp
      rw [get_setG_old (sb.set i0 b) g bs (by simpa using h) i0 (by simpa using hi) hn.1]
      simp [hi]
    | succ p =>
      simp only [List.getElem?_cons_succ] at hp ⊢
      exact get_setG_at (sb.set i0 b) g bs (by simpa using h) hn.2 p i hp (by simpa using hi)
theorem rn_lt {g : List Nat} {i : Nat} (h : i < g.length) : g[i]? = some (rn g i) := by
  simp only [rn, List.getD_eq_getElem?_getD, List.getElem?_eq_getElem h, Option.getD_some]
theorem nodup_of_rnInj {g : List Nat} (h : rnInj g g.length = true) : g.Nodup := by
  refine List.pairwise_iff_getElem.2 fun i j hi hj hij he => ?_
  have h1 := rn_lt hi
  have h2 := rn_lt hj
  rw [List.getElem?_eq_getElem hi, Option.some.injEq] at h1
  rw [List.getElem?_eq_getElem hj, Option.some.injEq] at h2
  have := rnInj_spec h hi hj (by rw [← h1, ← h2]; exact he)
  omega

theorem hand_soundM {m : Bool} {f : FuncId} {ys : List SV} {k : SV → St → Prop} (h : Rel X β κ s tm w) (hl : HandM m P f ys s k) :
    Calls P f (ys.map (den β κ)).toArray w fun e w' => ∃ β' κ' r s', e = .returned (den β' κ' r) ∧ SV.ok s'.blk.length r = true ∧ Rel X β' κ' s' tm w' ∧ k r s' ∧ (m = false → Ext w w') := by
  obtain ⟨g, xs, bs, Post, hmb, hcall, rfl, hgl, hinj, hbm, hgL, hxs, hbs, hk⟩ := hl
  have hnd : g.Nodup := nodup_of_rnInj (by rw [hgl]; exact hinj)
  have hrnL : ∀ i, i < bs.length → rn g i < s.blk.length := fun i hi => hgL _ (List.mem_of_getElem? (rn_lt (by omega)))
  have hlook : ∀ j b, bs[j]? = some b → b.live = true → s.blk[rn g j]? = some (renB g b) := fun j b hj hlv => by
    have := blkM_spec bs 0 hbm j b hj
    rw [Nat.zero_add] at this
    rcases this with rfl | ⟨F, G, rfl, _⟩ | h1
    · cases hlv
    · cases hlv
    · exact h1.2
  have hbsl : ∀ j b, bs[j]? = some b → j < bs.length := fun j b hj => (List.getElem?_eq_some_iff.1 hj).1
  have hG : Granted w (fun i => β (rn g i)) (fun i => κ (rn g i)) bs s.R := by
    refine ⟨fun j b hj => ?_, fun i j b b' hi hj hl1 hl2 he => ?_, fun a v ha => ⟨(h.ro a v ha).1, fun j b hj hl => ?_⟩⟩
    · have hsc := (List.all_eq_true.1 hbs) b (List.mem_of_getElem? hj)
      simp only [Bool.and_eq_true] at hsc
      cases b with
      | dead => trivial
      | shr => trivial
      | own => trivial
      | box cs =>
        obtain ⟨g1, g2, T, g3⟩ := h.blk _ _ (hlook j _ hj rfl)
        refine ⟨trivial, fun c hc => List.all_eq_true.1 hsc.1 c hc, T, ?_⟩
        rw [g3, List.map_map]
        congr 3
        exact List.map_congr_left fun c _ => (den_ren g c).symm
      | row T sz cs =>
        obtain ⟨g1, g2⟩ := h.blk _ _ (hlook j _ hj rfl)
        exact ⟨trivial, g2⟩
      | mp es c => exact ⟨trivial, (h.blk _ _ (hlook j _ hj rfl)).2⟩
      | it m a b c =>
        obtain ⟨g1, g2, g3⟩ := h.blk _ _ (hlook j _ hj rfl)
        exact ⟨trivial, by simpa [scB] using hsc.1, g3⟩
    · exact rnInj_spec hinj (hbsl _ _ hi) (hbsl _ _ hj) (h.inj _ _ _ _ (hlook _ _ hi hl1) (hlook _ _ hj hl2) (by rw [renB_live]; exact hl1) (by rw [renB_live]; exact hl2) he)
    · exact (h.ro a v ha).2.2 _ _ (hlook _ _ hj hl) (by rw [renB_live]; exact hl)
  have hargs : (xs.map (ren g)).map (den β κ) = xs.map (den (fun i => β (rn g i)) (fun i => κ (rn g i))) := by
    rw [List.map_map]
    exact List.map_congr_left fun x _ => (den_ren g x).symm
  rw [hargs]
  refine (hcall w _ _ hG).mono ?_
  rintro e w' ⟨β1, κ1, bs', r, R', rfl, hle, hG', hr, hlen, hns, hpos, hfr, hRf, hkept, hpost⟩
  have hk' := hk R' bs' r hle hpost hlen
  -- the new numbers
  generalize hρ : g ++ List.range' s.blk.length (bs'.length - bs.length) = ρ at hk'
  have hrn1 : ∀ i, i < bs.length → rn ρ i = rn g i := fun i hi => by
    subst hρ
    simp only [rn, List.getD_eq_getElem?_getD]
    rw [List.getElem?_append_left (by omega)]
  have hrn2 : ∀ i, bs.length ≤ i → i < bs'.length → rn ρ i = s.blk.length + (i - bs.length) := fun i hi hi2 => by
    subst hρ
    simp only [rn, List.getD_eq_getElem?_getD]
    rw [List.getElem?_append_right (by omega), List.getElem?_range' (by omega)]
    simp only [Option.getD_some]
    omega
  let β2 : Nat → Nat := fun i => if i < s.blk.length then β i else β1 (bs.length + (i - s.blk.length))
  let κ2 : Nat → Nat := fun i => if i < s.blk.length then κ i else κ1 (bs.length + (i - s.blk.length))
  have hb2 : ∀ i, i < s.blk.length → β2 i = β i ∧ κ2 i = κ i := fun i hi => by simp only [β2, κ2, if_pos hi, and_self]
  have hmap : ∀ i, i < bs'.length → β2 (rn ρ i) = β1 i ∧ κ2 (rn ρ i) = κ1 i := fun i hi => by
    rcases Nat.lt_or_ge i bs.length with hlt | hge
    · rw [hrn1 i hlt]
      have := hb2 _ (hrnL i hlt)
      obtain ⟨p1, p2⟩ := hpos i hlt
      exact ⟨by rw [this.1, p1], by rw [this.2, p2]⟩
    · rw [hrn2 i hge hi]
      simp only [β2, κ2]
      rw [if_neg (by omega), if_neg (by omega), show bs.length + (s.blk.length + (i - bs.length) - s.blk.length) = i by omega]
      exact ⟨rfl, rfl⟩
  have hglen : g.length ≤ (bs'.map (renB ρ)).length := by rw [List.length_map]; omega
  have hL2 : (setG s.blk g (bs'.map (renB ρ))).length = s.blk.length + (bs'.length - bs.length) := by rw [length_setG _ _ _ hglen, List.length_map, hgl]
  have hrnlt : ∀ i, i < bs'.length → rn ρ i < s.blk.length + (bs'.length - bs.length) := fun i hi => by
    rcases Nat.lt_or_ge i bs.length with hlt | hge
    · rw [hrn1 i hlt]; have := hrnL i hlt; omega
    · rw [hrn2 i hge hi]; omega
  have hden : ∀ x, SV.ok bs'.length x = true → den β2 κ2 (ren ρ x) = den β1 κ1 x ∧ SV.ok (s.blk.length + (bs'.length - bs.length)) (ren ρ x) = true := fun x hx => by
    refine ⟨by rw [← den_ren]; exact den_congr hmap hx, ?_⟩
    cases x with
    | val v => rfl
    | fn f cs =>
      simp only [SV.ok, List.all_eq_true] at hx
      simp only [ren, SV.ok, List.all_eq_true]
      intro c hc
      obtain ⟨c', hc', rfl⟩ := List.mem_map.1 hc
      have := hx c' hc'
      cases c' with
      | v x => rfl
      | l k o => simp only [Cap.ok, decide_eq_true_eq] at this; simp only [renC, Cap.ok, decide_eq_true_eq]; exact hrnlt k this
    | loc k o => simp only [SV.ok, decide_eq_true_eq] at hx; simp only [ren, SV.ok, decide_eq_true_eq]; exact hrnlt k hx
    | sl k o => simp only [SV.ok, decide_eq_true_eq] at hx; simp only [ren, SV.ok, decide_eq_true_eq]; exact hrnlt k hx
    | sw k z e n => simp only [SV.ok, decide_eq_true_eq] at hx; simp only [ren, SV.ok, decide_eq_true_eq]; exact hrnlt k hx
    | mp k => simp only [SV.ok, decide_eq_true_eq] at hx; simp only [ren, SV.ok, decide_eq_true_eq]; exact hrnlt k hx
  -- where a block of the new list comes from
  have hget : ∀ i b, (setG s.blk g (bs'.map (renB ρ)))[i]? = some b → (i < s.blk.length ∧ i ∉ g ∧ s.blk[i]? = some b) ∨ (∃ p b', p < bs'.length ∧ i = rn ρ p ∧ bs'[p]? = some b' ∧ b = renB ρ b') := by
    intro i b hi
    rcases Nat.lt_or_ge i s.blk.length with hlt | hge
    · by_cases hg : i ∈ g
      · obtain ⟨p, hp⟩ := List.mem_iff_getElem?.1 hg
        have hpl := (List.getElem?_eq_some_iff.1 hp).1
        rw [get_setG_at _ _ _ hglen hnd p i hp hlt, List.getElem?_map] at hi
        obtain ⟨b', hb', rfl⟩ := Option.map_eq_some_iff.1 hi
        have h1 := rn_lt hpl
        rw [hp, Option.some.injEq] at h1
        exact .inr ⟨p, b', (List.getElem?_eq_some_iff.1 hb').1, by rw [hrn1 p (by omega)]; exact h1, hb', rfl⟩
      · rw [get_setG_old _ _ _ hglen i hlt hg] at hi
        exact .inl ⟨hlt, hg, hi⟩
    · rw [get_setG_new _ _ _ hglen i hge, List.getElem?_map] at hi
      obtain ⟨b', hb', rfl⟩ := Option.map_eq_some_iff.1 hi
      have hbl := (List.getElem?_eq_some_iff.1 hb').1
      exact .inr ⟨_, b', hbl, by rw [hrn2 _ (by omega) hbl]; omega, hb', rfl⟩
  -- a block that was not handed over lies apart from those that were
  have hGs : ∀ k, Gset (fun i => β (rn g i)) bs k → X.own k ∧ k < w.heap.size := by
    rintro k ⟨i, b, hi, hlv, rfl⟩
    have h1 := h.blk _ _ (hlook i b hi hlv)
    exact ⟨h1.base (by rw [renB_live]; exact hlv), h1.lt (by rw [renB_live]; exact hlv)⟩
  have hapart : ∀ i b, i ∉ g → s.blk[i]? = some b → b.live = true → ¬ Gset (fun i => β (rn g i)) bs (β i) := by
    rintro i b hg hi hlv ⟨p, b', hp, hlv', he⟩
    have := h.inj _ _ _ _ hi (hlook p b' hp hlv') hlv (by rw [renB_live]; exact hlv') he
    exact hg (by rw [this]; exact List.mem_of_getElem? (rn_lt (by rw [hgl]; exact hbsl _ _ hp)))
  have hkeepblk : ∀ k, k < w.heap.size → ¬ Gset (fun i => β (rn g i)) bs k → w'.heap[k]? = w.heap[k]? := hkept.block
  have hnewown : ∀ p b', bs'[p]? = some b' → b'.live = true → X.own (β1 p) := by
    intro p b' hp hlv
    rcases hfr p b' hp hlv with h1 | h1
    · exact .inl (by have := h.below.size; omega)
    · exact (hGs _ h1).1
  have hsep : ∀ i b p b', i < s.blk.length → i ∉ g → s.blk[i]? = some b → b.live = true → bs'[p]? = some b' → b'.live = true → β i ≠ β1 p := by
    intro i b p b' hi hg hb hlv hp hlv' he
    rcases hfr p b' hp hlv' with h1 | h1
    · have := (h.blk i b hb).lt hlv; omega
    · exact hapart i b hg hb hlv (by rw [he]; exact h1)
  have hext : m = false → Ext w w' := fun hm => by
    rcases hmb with h1 | h1
    · rw [hm] at h1; cases h1
    · refine ⟨hkept.os, hkept.tape, hkept.output, hkept.size, fun k hk => ?_, hkept.drawn⟩
      by_cases hkG : Gset (fun i => β (rn g i)) bs k
      · obtain ⟨i, b, hi, hlv, rfl⟩ := hkG
        have hb' : bs'[i]? = some b := by
          have e := h1.2 R' bs' r hpost
          have e2 : (bs'.take bs.length)[i]? = bs[i]? := by rw [e]
          rw [List.getElem?_take, if_pos (hbsl _ _ hi), hi] at e2
          exact e2
        have hmp := List.all_eq_true.1 h1.1 b (List.mem_of_getElem? hi)
        have g1 := hG.blk i b hi
        have g2 := hG'.blk i b hb'
        cases b with
        | mp es c =>
          have e := (hpos i (hbsl _ _ hi)).1
          have g3 := g2.2
          rw [e] at g3
          rw [g3]
          exact g1.2.symm
        | _ => cases hmp
      · exact hkeepblk k hk hkG
  refine ⟨β2, κ2, ren ρ r, _, by rw [(hden r hr).1], by rw [hL2]; exact (hden r hr).2, ?_, hk', hext⟩
  refine { size := h.size, env := fun t => ?_, ok := fun t => ?_, below := h.below.trans hkept (fun k hk => (hGs k hk).1), le := fun a v ha => hle a v (h.le a v ha), blk := fun i b hi => ?_, inj := fun i j b b' hi hj hl1 hl2 he => ?_, ro := fun a v ha => ?_, kept := fun p hp => ?_, shr := fun j b cap T sz cs hj => ?_, own := fun j F hj => ?_, pos := fun i hi => ?_, len := by rw [hL2]; have := h.len; omega }
  · rw [den_congr hb2 (h.ok t)]; exact h.env t
  · rw [hL2]; exact ok_mono (by omega) (h.ok t)
  · rw [hL2]
    rcases hget i b hi with ⟨hlt, hg, hb⟩ | ⟨p, b', hp, rfl, hb', rfl⟩
    · have h1 := (h.blk i b hb).heap (w' := w') (fun hlv => hkeepblk _ ((h.blk i b hb).lt hlv) (hapart i b hg hb hlv))
      have hid : ∀ x : SV, ren [] x = x := by
        intro x
        cases x with
        | fn f cs =>
          simp only [ren]
          congr 1
          conv => rhs; rw [← List.map_id cs]
          exact List.map_congr_left fun c _ => by cases c <;> rfl
        | _ => rfl
      have hidB : renB [] b = b := by
        cases b with
        | box cs => simp only [renB]; congr 1; conv => rhs; rw [← List.map_id cs]
                    exact List.map_congr_left fun c _ => hid c
        | _ => rfl
      have h2 := h1.ren (ρ := []) (own' := X.own) (L' := s.blk.length + (bs'.length - bs.length)) (β' := β2) (κ' := κ2) (fun _ => hb2 i hlt) (fun e => e)
        (fun x hx => by rw [hid]; exact ⟨den_congr hb2 hx, ok_mono (by omega) hx⟩) (fun m hm => ⟨(hb2 m hm).1, by show m < _; omega⟩)
      rw [hidB] at h2
      exact h2
    · refine ((hG'.blk p b' hb').own (own' := X.own) (fun hlv _ => hnewown p b' hb' hlv)).ren (fun _ => hmap p hp) (fun e => e) hden (fun m hm => ⟨(hmap m hm).1, hrnlt m hm⟩)
  · rcases hget i b hi with ⟨hlt, hg, hb⟩ | ⟨p, b1, hp, rfl, hb1, rfl⟩
    · rcases hget j b' hj with ⟨hlt', hg', hb'⟩ | ⟨q, b2, hq, rfl, hb2', rfl⟩
      · rw [(hb2 i hlt).1, (hb2 j hlt').1] at he
        exact h.inj i j b b' hb hb' hl1 hl2 he
      · rw [(hb2 i hlt).1, (hmap q hq).1] at he
        rw [renB_live] at hl2
        exact absurd he (hsep i b q b2 hlt hg hb hl1 hb2' hl2)
    · rw [renB_live] at hl1
      rcases hget j b' hj with ⟨hlt', hg', hb'⟩ | ⟨q, b2, hq, rfl, hb2', rfl⟩
      · rw [(hb2 j hlt').1, (hmap p hp).1] at he
        exact absurd he.symm (hsep j b' p b1 hlt' hg' hb' hl2 hb1 hl1)
      · rw [renB_live] at hl2
        rw [(hmap p hp).1, (hmap q hq).1] at he
        rw [hG'.inj p q b1 b2 hb1 hb2' hl1 hl2 he]
  · obtain ⟨g1, g2⟩ := hG'.ro a v ha
    refine ⟨g1, ?_, fun i b hi hlv => ?_⟩
    · rcases hRf a v ha with h1 | ⟨h1 | h1, hlo⟩
      · rcases (h.ro a v h1).2.1 with g | g
        · exact .inl g
        · refine .inr ⟨g.1, g.2.of_eq (hkeepblk _ (block_lt_of_cell (h.ro a v h1).1) ?_)⟩
          rintro ⟨i, b, hi, hlv, he⟩
          exact (h.ro a v h1).2.2 _ _ (hlook i b hi hlv) (by rw [renB_live]; exact hlv) he
      · exact .inr ⟨.inl (by have := h.below.size; omega), hlo⟩
      · exact .inr ⟨(hGs _ h1).1, hlo⟩
    · rcases hget i b hi with ⟨hlt, hg, hb⟩ | ⟨p, b', hp, rfl, hb', rfl⟩
      · rw [(hb2 i hlt).1]
        rcases hRf a v ha with h1 | ⟨h1 | h1, _⟩
        · exact (h.ro a v h1).2.2 i b hb hlv
        · have := (h.blk i b hb).lt hlv; omega
        · intro e
          exact hapart i b hg hb hlv (by rw [← e]; exact h1)
      · rw [renB_live] at hlv
        rw [(hmap p hp).1]
        exact g2 p b' hb' hlv
  · obtain ⟨g1, g2, g3, g4⟩ := h.kept p hp
    have hpl := (Array.getElem?_eq_some_iff.1 g1).1
    have hpG : ¬ Gset (fun i => β (rn g i)) bs p.1 := by
      rintro ⟨i, b, hi, hlv, he⟩
      exact g3 _ _ (hlook i b hi hlv) (by rw [renB_live]; exact hlv) he.symm
    refine ⟨by rw [hkeepblk _ hpl hpG]; exact g1, g2, fun i b hi hlv => ?_, fun a v ha => ?_⟩
    · rcases hget i b hi with ⟨hlt, hg, hb⟩ | ⟨q, b', hq, rfl, hb', rfl⟩
      · rw [(hb2 i hlt).1]; exact g3 i b hb hlv
      · rw [renB_live] at hlv
        rw [(hmap q hq).1]
        intro e
        rcases hfr q b' hb' hlv with h1 | h1
        · omega
        · exact hpG (by rw [← e]; exact h1)
    · rcases hRf a v ha with h1 | ⟨h1 | h1, _⟩
      · exact g4 a v h1
      · omega
      · intro e; exact hpG (by rw [← e]; exact h1)
  · have hold : ∀ (j b cap T sz : Nat) (cs : List Value), (setG s.blk g (bs'.map (renB ρ)))[j]? = some (Blk.shr b cap T sz cs) → s.blk[j]? = some (Blk.shr b cap T sz cs) := by
      intro j b cap T sz cs hj
      rcases hget j _ hj with ⟨hlt, hg, hb⟩ | ⟨q, b', hq, rfl, hb', he⟩
      · exact hb
      · have := hns b' (List.mem_of_getElem? hb')
        cases b' <;> simp only [renB, reduceCtorEq] at he
        cases this
    have h1 := h.shr _ _ _ _ _ _ (hold _ _ _ _ _ _ hj)
    obtain ⟨arr, g1, g2⟩ := h1.heap
    have hbl := (Array.getElem?_eq_some_iff.1 g1).1
    have hbG : ¬ Gset (fun i => β (rn g i)) bs b := by
      rintro ⟨i, b', hi, hlv, he⟩
      exact h1.apart _ _ (hlook i b' hi hlv) (by rw [renB_live]; exact hlv) he.symm
    refine ⟨h1.base, ⟨arr, by rw [hkeepblk _ hbl hbG]; exact g1, g2⟩, fun i c hi hlv => ?_, fun a v ha hab => ?_, fun i v hi => hle _ _ (h1.row i v hi), fun j' b' cap' T' sz' cs' hj' e => h1.one _ _ _ _ _ _ (hold _ _ _ _ _ _ hj') e, h1.kept⟩
    · rcases hget i c hi with ⟨hlt, hg, hb⟩ | ⟨q, b', hq, rfl, hb', rfl⟩
      · rw [(hb2 i hlt).1]; exact h1.apart i c hb hlv
      · rw [renB_live] at hlv
        rw [(hmap q hq).1]
        intro e
        rcases hfr q b' hb' hlv with h3 | h3
        · omega
        · exact hbG (by rw [← e]; exact h3)
    · rcases hRf a v ha with h3 | ⟨h3 | h3, _⟩
      · exact h1.facts a v h3 hab
      · omega
      · exact absurd (by rw [← hab]; exact h3) hbG
  · have holdS : ∀ (j b cap T sz : Nat) (cs : List Value), (setG s.blk g (bs'.map (renB ρ)))[j]? = some (Blk.shr b cap T sz cs) → s.blk[j]? = some (Blk.shr b cap T sz cs) := by
      intro j b cap T sz cs hj
      rcases hget j _ hj with ⟨hlt, hg, hb⟩ | ⟨q, b', hq, rfl, hb', he⟩
      · exact hb
      · have := hns b' (List.mem_of_getElem? hb')
        cases b' <;> simp only [renB, reduceCtorEq] at he
        cases this
    have hold : ∀ (j : Nat) (F : RO), (setG s.blk g (bs'.map (renB ρ)))[j]? = some (Blk.own F) → s.blk[j]? = some (Blk.own F) := by
      intro j F hj
      rcases hget j _ hj with ⟨hlt, hg, hb⟩ | ⟨q, b', hq, rfl, hb', he⟩
      · exact hb
      · have := hns b' (List.mem_of_getElem? hb')
        cases b' <;> simp only [renB, reduceCtorEq] at he
        cases this
    have h1 := h.own _ _ (hold _ _ hj)
    have hFG : ∀ a v, F a v → ¬ Gset (fun i => β (rn g i)) bs a.block := by
      rintro a v hf ⟨i, b', hi, hlv, he⟩
      exact h1.apart a v hf _ _ (hlook i b' hi hlv) (by rw [renB_live]; exact hlv) he.symm
    refine h1.move (fun a v hf => hkeepblk _ (h1.lt hf) (hFG a v hf)) (fun a v hf i c hi hlv => ?_) (fun a v hf a' v' ha' => ?_) (fun a v hf i b cap T sz cs hi => h1.shr a v hf _ _ _ _ _ _ (holdS _ _ _ _ _ _ hi)) (fun a v hf i G hi hne => h1.one a v hf i G (hold _ _ hi) hne)
    · rcases hget i c hi with ⟨hlt, hg, hb⟩ | ⟨q, b', hq, rfl, hb', rfl⟩
      · rw [(hb2 i hlt).1]; exact h1.apart a v hf i c hb hlv
      · rw [renB_live] at hlv
        rw [(hmap q hq).1]
        intro e
        rcases hfr q b' hb' hlv with h3 | h3
        · have := h1.lt hf; omega
        · exact hFG a v hf (by rw [← e]; exact h3)
    · rcases hRf a' v' ha' with h3 | ⟨h3 | h3, _⟩
      · exact h1.ro a v hf a' v' h3
      · have := h1.lt hf; omega
      · exact fun e => hFG a v hf (by rw [← e]; exact h3)
  · have h1 := h.len
    obtain ⟨p1, p2⟩ := h.pos i hi
    obtain ⟨q1, q2⟩ := hb2 i (by omega)
    exact ⟨by rw [q1, p1], by rw [q2, p2]⟩
theorem hand_sound {f : FuncId} {ys : List SV} {k : SV → St → Prop} (h : Rel X β κ s tm w) (hl : Hand P f ys s k) :
    Calls P f (ys.map (den β κ)).toArray w fun e w' => ∃ β' κ' r s', e = .returned (den β' κ' r) ∧ SV.ok s'.blk.length r = true ∧ Rel X β' κ' s' tm w' ∧ k r s' := by
  obtain ⟨g, xs, bs, Post, hl⟩ := hl
  refine (hand_soundM (m := true) h ⟨g, xs, bs, Post, .inl rfl, hl⟩).mono ?_
  rintro e w' ⟨β', κ', r, s', h1, h2, h3, h4, _⟩
  exact ⟨β', κ', r, s', h1, h2, h3, h4⟩
end
end Go.Proofs.YtcjdbfnnbejmeaaGreat.Vc
