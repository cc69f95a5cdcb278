/- Plain lemmas of our own, no statement of the seat: what lists of elements say, as a function; aliases: plain. -/
import Derived.Test.YtclkibjonbhldaaGreatDoorGa
namespace Go.Proofs.YtclkibjonbhldaaGreatDoor
set_option linter.unusedSimpArgs false
set_option linter.unusedVariables false
open Go.Proofs.YtclkibjonbhldaaGreatDoor.Vc
/-- Whether an instant is known by an account. -/
def view (l : List Se) (g k t : Int) : Bool := memS (lookD l g k) t
def dropD (l : List Se) (g k : Int) : List Se := l.filter fun s => decide (seKey s ≠ (g, k))
theorem dropD_keys {l : List Se} {g k : Int} (hn : (l.map seKey).Nodup) : ((dropD l g k).map seKey).Nodup := List.Nodup.sublist (List.Sublist.map seKey List.filter_sublist) hn
theorem dropD_mem {l : List Se} {g k : Int} (s : Se) : s ∈ dropD l g k ↔ s ∈ l ∧ seKey s ≠ (g, k) := by unfold dropD; rw [List.mem_filter, decide_eq_true_eq]
theorem LedOK.del {R : RO} {ps : List Le} {c : Nat} (h : LedOK R ps c) (g k : Int) : ∃ r ps', mfind (some [0, 0]) (accV g k) (ents ps) 0 = some r ∧ mdrop (ents ps) c r = .mp (ents ps') c ∧ LedOK R ps' c ∧ ps'.map (·.1) = dropD (ps.map (·.1)) g k := by
  obtain ⟨r, h1, h2⟩ := led_find ps g k
  refine ⟨r, ?_⟩
  rcases h2 with ⟨rfl, h3⟩ | ⟨j, p, rfl, h3, h4⟩
  · refine ⟨ps, h1, rfl, h, ?_⟩
    unfold dropD
    rw [List.filter_eq_self.2 fun s hs => by
      obtain ⟨p, hp, rfl⟩ := List.mem_map.1 hs
      simpa using h3 p hp]
  · have hj := (List.getElem?_eq_some_iff.1 h3).1
    have hpj : ps[j] = p := (List.getElem?_eq_some_iff.1 h3).2
    have hsub : (ps.eraseIdx j).Sublist ps := List.eraseIdx_sublist ps j
    refine ⟨ps.eraseIdx j, h1, ?_, ⟨h.keys.sublist (hsub.map _), h.born.sublist (hsub.map _), fun p hp => h.lt p (hsub.subset hp), fun p hp => h.val p (hsub.subset hp)⟩, ?_⟩
    · simp only [mdrop, ents]
      congr 1
      rw [List.eraseIdx_eq_take_drop_succ, List.eraseIdx_eq_take_drop_succ, List.map_append, List.map_take, List.map_drop]
    · have hsplit : ps = ps.take j ++ p :: ps.drop (j + 1) := by rw [← hpj, ← List.drop_eq_getElem_cons hj, List.take_append_drop]
      have hne : ∀ x ∈ ps.eraseIdx j, seKey x.1 ≠ (g, k) := by
        intro x hx e
        have hnd := h.keys
        rw [hsplit, List.map_append, List.map_cons, List.nodup_append, List.nodup_cons] at hnd
        rw [List.eraseIdx_eq_take_drop_succ] at hx
        rcases List.mem_append.1 hx with hx | hx
        · exact hnd.2.2 (seKey x.1) (List.mem_map_of_mem (f := fun p : Le => seKey p.1) hx) (seKey p.1) (by simp) (by rw [e, h4])
        · exact hnd.2.1.1 (by rw [h4, ← e]; exact List.mem_map_of_mem (f := fun p : Le => seKey p.1) hx)
      have h5 : dropD (ps.map (·.1)) g k = dropD ((ps.eraseIdx j).map (·.1)) g k := by
        conv => lhs; rw [hsplit]
        rw [List.eraseIdx_eq_take_drop_succ]
        unfold dropD
        rw [List.map_append, List.map_cons, List.filter_append, List.map_append, List.filter_append, List.filter_cons_of_neg (by simp [h4])]
      rw [h5]
      unfold dropD
      rw [List.filter_eq_self.2 fun s hs => by
        obtain ⟨p, hp, rfl⟩ := List.mem_map.1 hs
        simpa using hne p hp]
theorem view_drop {l : List Se} {g k : Int} (hn : (l.map seKey).Nodup) (g' k' t : Int) : view (dropD l g k) g' k' t = if (g', k') = (g, k) then false else view l g' k' t := by
  unfold view
  split
  · rename_i e
    rw [lookD_none fun s hs e' => ((dropD_mem s).1 hs).2 (by rw [e', e]), memS_nil]
  · rename_i e
    by_cases hk : ∃ s ∈ l, seKey s = (g', k')
    · obtain ⟨s, hs, e'⟩ := hk
      rw [lookD_mem hn hs e', lookD_mem (dropD_keys hn) ((dropD_mem s).2 ⟨hs, by rw [e']; exact e⟩) e']
    · rw [lookD_none fun s hs e' => hk ⟨s, hs, e'⟩, lookD_none fun s hs e' => hk ⟨s, ((dropD_mem s).1 hs).1, e'⟩]
theorem look_of_mem {l : List Se} {g k : Int} {cs : List Sp} (hn : (l.map seKey).Nodup) (hm : ∀ s, s ∈ l → seKey s = (g, k) → s.cells = cs) (he : (∃ s ∈ l, seKey s = (g, k)) ∨ cs = []) : lookD l g k = cs := by
  rcases he with ⟨s, hs, e⟩ | rfl
  · rw [lookD_mem hn hs e, hm s hs e]
  · by_cases hk : ∃ s ∈ l, seKey s = (g, k)
    · obtain ⟨s, hs, e⟩ := hk
      rw [lookD_mem hn hs e, hm s hs e]
    · exact lookD_none fun s hs e => hk ⟨s, hs, e⟩
theorem lookD_ne {l l' : List Se} {g k : Int} (hn : (l.map seKey).Nodup) (hn' : (l'.map seKey).Nodup) (h : ∀ s, seKey s = (g, k) → (s ∈ l' ↔ s ∈ l)) : lookD l' g k = lookD l g k := by
  by_cases hk : ∃ s ∈ l, seKey s = (g, k)
  · obtain ⟨s, hs, e⟩ := hk
    rw [lookD_mem hn hs e, lookD_mem hn' ((h s e).2 hs) e]
  · rw [lookD_none fun s hs e => hk ⟨s, hs, e⟩, lookD_none fun s hs e => hk ⟨s, (h s e).1 hs, e⟩]
theorem view_put {l l' : List Se} {g k : Int} {cs : List Sp} (hn : (l.map seKey).Nodup) (hn' : (l'.map seKey).Nodup)
    (hmem : ∀ s, s ∈ l' ↔ (unionD (lookD l g k) cs = [] ∧ s ∈ l) ∨ (unionD (lookD l g k) cs ≠ [] ∧ (s = ⟨g, k, unionD (lookD l g k) cs⟩ ∨ (s ∈ l ∧ seKey s ≠ (g, k))))) (g' k' t : Int) : view l' g' k' t = if (g', k') = (g, k) then (view l g k t || memS cs t) else view l g' k' t := by
  unfold view
  split
  · rename_i e
    obtain ⟨rfl, rfl⟩ := Prod.mk.inj e
    by_cases h0 : unionD (lookD l g' k') cs = []
    · rw [lookD_ne hn hn' fun s _ => by rw [hmem]; simp [h0]]
      have h1 := unionD_mem (lookD l g' k') cs t
      rw [h0, memS_nil] at h1
      cases hc : memS cs t with
      | false => simp
      | true => rw [hc] at h1; simp at h1
    · rw [lookD_mem hn' (s := ⟨g', k', unionD (lookD l g' k') cs⟩) ((hmem _).2 (.inr ⟨h0, .inl rfl⟩)) rfl, unionD_mem]
  · rename_i e
    rw [lookD_ne hn hn' fun s he => ?_]
    rw [hmem]
    constructor
    · rintro (⟨_, h⟩ | ⟨_, rfl | ⟨h, _⟩⟩)
      · exact h
      · exact absurd he.symm e
      · exact h
    · intro h
      by_cases h0 : unionD (lookD l g k) cs = []
      · exact .inl ⟨h0, h⟩
      · exact .inr ⟨h0, .inr ⟨h, by rw [he]; exact e⟩⟩
theorem view_addP {l : List Se} {g k : Int} {cs : List Sp} (hn : (l.map seKey).Nodup) (g' k' t : Int) : view (addP l g k cs) g' k' t = if (g', k') = (g, k) then (view l g k t || memS cs t) else view l g' k' t := view_put hn (addP_keys hn) (addP_mem hn) g' k' t
theorem view_addS {l : List Se} {g k : Int} {cs : List Sp} (hl : l.Pairwise keyLt) (g' k' t : Int) : view (addS l g k cs) g' k' t = if (g', k') = (g, k) then (view l g k t || memS cs t) else view l g' k' t := view_put (sorted_nodup hl) (sorted_nodup (addS_sorted hl)) (addS_mem hl) g' k' t
theorem view_perm {a b : List Se} (ha : (a.map seKey).Nodup) (hp : b.Perm a) (g k t : Int) : view b g k t = view a g k t := by
  unfold view
  rw [lookD_congr ((hp.map seKey).nodup_iff.2 ha) ha fun s => hp.mem_iff]
/-- Elements with normal lists that are not empty. -/
def Full (l : List Se) : Prop := ∀ s ∈ l, Normal s.cells ∧ s.cells ≠ []
theorem full_ne {s : Se} (h : Normal s.cells ∧ s.cells ≠ []) : ∃ t, memS s.cells t = true := by
  obtain ⟨x, l, e⟩ := List.exists_cons_of_ne_nil h.2
  exact ⟨x.f, memS_iff.2 ⟨x, by rw [e]; simp, Int.le_refl _, h.1.pos x (by rw [e]; simp)⟩⟩
theorem view_none {l : List Se} (hn : (l.map seKey).Nodup) (hf : Full l) {g k : Int} (h : ∀ t, view l g k t = false) : ∀ s ∈ l, seKey s ≠ (g, k) := fun s hs e => by
  obtain ⟨t, ht⟩ := full_ne (hf s hs)
  have := h t
  unfold view at this
  rw [lookD_mem hn hs e, ht] at this
  cases this
/-- In order, full, and the same view: the same list. -/
theorem view_ext {a b : List Se} (ha : a.Pairwise keyLt) (hb : b.Pairwise keyLt) (fa : Full a) (fb : Full b) (h : ∀ g k t, view a g k t = view b g k t) : a = b := by
  have key : ∀ {a b : List Se}, a.Pairwise keyLt → b.Pairwise keyLt → Full a → Full b → (∀ g k t, view a g k t = view b g k t) → ∀ s, s ∈ a → s ∈ b := fun {a b} ha hb fa fb h s hs => by
    obtain ⟨t, ht⟩ := full_ne (fa s hs)
    have hv := h s.group s.grain
    by_cases hk : ∃ x ∈ b, seKey x = (s.group, s.grain)
    · obtain ⟨x, hx, e⟩ := hk
      have hc : s.cells = x.cells := (fa s hs).1.ext (fb x hx).1 fun t => by
        have := hv t
        unfold view at this
        rwa [lookD_mem (sorted_nodup ha) hs rfl, lookD_mem (sorted_nodup hb) hx e] at this
      obtain ⟨e1, e2⟩ := Prod.mk.inj e
      have : x = s := by
        cases x; cases s
        simp only at e1 e2 hc
        subst e1 e2 hc; rfl
      rw [← this]; exact hx
    · have := hv t
      unfold view at this
      rw [lookD_mem (sorted_nodup ha) hs rfl, ht, lookD_none fun x hx e => hk ⟨x, hx, e⟩, memS_nil] at this
      cases this
  exact sorted_ext ha hb fun s => ⟨key ha hb fa fb h s, key hb ha fb fa (fun g k t => (h g k t).symm) s⟩
/-- What any of the elements of an account say. -/
def anyV (l : List Se) (g k t : Int) : Bool := l.any fun s => decide (seKey s = (g, k)) && memS s.cells t
theorem view_any {l : List Se} (hn : (l.map seKey).Nodup) (g k t : Int) : view l g k t = anyV l g k t := by
  unfold view anyV
  rw [Bool.eq_iff_iff, List.any_eq_true]
  constructor
  · intro h
    by_cases hk : ∃ x ∈ l, seKey x = (g, k)
    · obtain ⟨x, hx, e⟩ := hk
      rw [lookD_mem hn hx e] at h
      exact ⟨x, hx, by simp [e, h]⟩
    · rw [lookD_none fun x hx e => hk ⟨x, hx, e⟩, memS_nil] at h
      cases h
  · rintro ⟨x, hx, h⟩
    simp only [Bool.and_eq_true, decide_eq_true_eq] at h
    rw [lookD_mem hn hx h.1]; exact h.2
/-- The elements, in order, those of an account joined. -/
def canon (l : List Se) : List Se := l.foldl (fun acc s => addS acc s.group s.grain s.cells) []
theorem addS_full {l : List Se} (h : Full l) (hl : l.Pairwise keyLt) {g k : Int} {cs : List Sp} : Full (addS l g k cs) := fun s hs => by
  rcases (addS_mem hl s).1 hs with ⟨_, h2⟩ | ⟨h1, rfl | ⟨h2, _⟩⟩
  · exact h s h2
  · exact ⟨unionD_normal _ _, h1⟩
  · exact h s h2
theorem foldS_facts : ∀ (l acc : List Se), acc.Pairwise keyLt → Full acc → (l.foldl (fun acc s => addS acc s.group s.grain s.cells) acc).Pairwise keyLt ∧ Full (l.foldl (fun acc s => addS acc s.group s.grain s.cells) acc) ∧ ∀ g k t, view (l.foldl (fun acc s => addS acc s.group s.grain s.cells) acc) g k t = (view acc g k t || anyV l g k t)
  | [], acc, h1, h2 => ⟨h1, h2, fun g k t => by simp [anyV]⟩
  | s :: l, acc, h1, h2 => by
    obtain ⟨i1, i2, i3⟩ := foldS_facts l (addS acc s.group s.grain s.cells) (addS_sorted h1) (addS_full h2 h1)
    refine ⟨i1, i2, fun g k t => ?_⟩
    rw [List.foldl_cons, i3, view_addS h1]
    unfold anyV
    rw [List.any_cons]
    by_cases e : (g, k) = (s.group, s.grain)
    · obtain ⟨rfl, rfl⟩ := Prod.mk.inj e
      simp [seKey, Bool.or_assoc]
    · rw [if_neg e]
      have : decide (seKey s = (g, k)) = false := decide_eq_false fun h => e h.symm
      rw [this, Bool.false_and, Bool.false_or]
theorem canon_sorted (l : List Se) : (canon l).Pairwise keyLt := (foldS_facts l [] List.Pairwise.nil (by simp [Full])).1
theorem canon_full (l : List Se) : Full (canon l) := (foldS_facts l [] List.Pairwise.nil (by simp [Full])).2.1
theorem canon_view (l : List Se) (g k t : Int) : view (canon l) g k t = anyV l g k t := by
  have := (foldS_facts l [] List.Pairwise.nil (by simp [Full])).2.2 g k t
  unfold canon
  rw [this]
  simp [view, lookD, memS_nil]
/-! ### Aliases -/
def keepG (gs : List (List Int)) (p q : Int) : Int := if grpOf gs p < 0 ∨ (0 ≤ grpOf gs q ∧ grpOf gs q < grpOf gs p) then grpOf gs q else grpOf gs p
def goneG (gs : List (List Int)) (p q : Int) : Int := if grpOf gs p < 0 ∨ (0 ≤ grpOf gs q ∧ grpOf gs q < grpOf gs p) then grpOf gs p else grpOf gs q
def intoG (gs : List (List Int)) (keep : Int) : Int := if keep < 0 then gs.length else keep
def joinG (gs : List (List Int)) (keep gone : Int) : List (List Int) :=
  let all := sortI (membersD gs keep ++ membersD gs gone)
  let g1 := if keep < 0 then gs ++ [all] else gs.set keep.toNat all
  if 0 ≤ gone then g1.eraseIdx gone.toNat else g1
def mapG (gs : List (List Int)) (keep gone g : Int) : Int :=
  let g1 := if g = keep ∨ g = gone then intoG gs keep else g
  if 0 ≤ gone then upG gone g1 else g1
def aliasB (b : Bu) (p q : Int) : Bu :=
  if grpOf b.groups p = grpOf b.groups q then b else
    ⟨b.limit, joinG b.groups (keepG b.groups p q) (goneG b.groups p q), canon (b.spent.map fun s => ⟨mapG b.groups (keepG b.groups p q) (goneG b.groups p q) s.group, s.grain, s.cells⟩)⟩
theorem grpOf_bd {gs : List (List Int)} {p : Int} (hp : personB p = true) : grpOf gs p < gs.length ∧ (-1000000 ≤ grpOf gs p) ∧ (grpOf gs p < 0 → grpOf gs p = -1 - p) := by
  have := personB_bd hp
  unfold personB at hp
  simp only [Bool.and_eq_true, decide_eq_true_eq] at hp
  unfold grpOf
  split
  · rename_i i h
    have := (List.findIdx?_eq_some_iff_getElem.1 h).1
    omega
  · omega
/-- Which two groups are joined. -/
structure KG (gs : List (List Int)) (keep gone : Int) : Prop where
  ne : keep ≠ gone
  lo : -1000000 ≤ keep ∧ -1000000 ≤ gone
  hi : keep < gs.length ∧ gone < gs.length
  ord : (0 ≤ keep ∧ (gone < 0 ∨ keep < gone)) ∨ (keep < 0 ∧ gone < 0)
theorem kg_of {gs : List (List Int)} {p q : Int} (hp : personB p = true) (hq : personB q = true) (hne : grpOf gs p ≠ grpOf gs q) : KG gs (keepG gs p q) (goneG gs p q) := by
  have h1 := grpOf_bd (gs := gs) hp
  have h2 := grpOf_bd (gs := gs) hq
  unfold keepG goneG
  split
  · rename_i h; exact ⟨fun e => hne e.symm, by omega, by omega, by omega⟩
  · rename_i h; exact ⟨hne, by omega, by omega, by omega⟩
/-- One account's cells go to another group. -/
def stepV (into from' k : Int) (V : Int → Int → Int → Bool) : Int → Int → Int → Bool := fun g k' t =>
  if k' = k ∧ from' ≠ into then (if g = into then (V into k t || V from' k t) else if g = from' then false else V g k' t) else V g k' t
def stepN (keep gone into : Int) (V : Int → Int → Int → Bool) : Nat → Int → Int → Int → Bool
  | 0 => V
  | i + 1 => stepV into gone (1 + i) (stepV into keep (1 + i) (stepN keep gone into V i))
theorem stepV_ne {into f k : Int} {V : Int → Int → Int → Bool} {g k' t : Int} (h : k' ≠ k) : stepV into f k V g k' t = V g k' t := by
  unfold stepV
  rw [if_neg fun e => h e.1]
theorem stepN_ne {keep gone into : Int} {V : Int → Int → Int → Bool} {g k t : Int} : ∀ n : Nat, (∀ i : Nat, i < n → k ≠ 1 + i) → stepN keep gone into V n g k t = V g k t
  | 0, _ => rfl
  | n + 1, h => by
    unfold stepN
    rw [stepV_ne (h n (by omega)), stepV_ne (h n (by omega)), stepN_ne n fun i hi => h i (by omega)]
/-- What stands at last: each group's account holds what those that go there held. -/
theorem stepN_at {keep gone into : Int} {V : Int → Int → Int → Bool} {g k t : Int} (h1 : gone ≠ into) (h2 : keep ≠ gone) : ∀ n : Nat, (∃ i : Nat, i < n ∧ k = 1 + i) →
    stepN keep gone into V n g k t = if g = into then (V into k t || V keep k t || V gone k t) else if g = keep ∨ g = gone then false else V g k t
  | 0, ⟨i, hi, _⟩ => absurd hi (by omega)
  | n + 1, ⟨i, hi, hk⟩ => by
    by_cases hin : i = n
    · subst hin
      have hlow : ∀ g t, stepN keep gone into V i g k t = V g k t := fun g t => stepN_ne i fun j hj => by omega
      show stepV into gone (1 + i) (stepV into keep (1 + i) (stepN keep gone into V i)) g k t = _
      rw [← hk]
      unfold stepV
      simp only [hlow, true_and, ne_eq, h1, not_false_eq_true, if_true]
      by_cases hki : keep = into
      · subst hki
        simp only [not_true_eq_false, if_false]
        by_cases hg : g = keep
        · subst hg; simp [Ne.symm h1]
        · by_cases hg2 : g = gone
          · subst hg2; simp [hg]
          · simp [hg, hg2]
      · simp only [hki, not_false_eq_true, if_true]
        by_cases hg : g = into
        · subst hg
          simp [Ne.symm h2, h1]
        · by_cases hg2 : g = gone
          · subst hg2; simp [hg]
          · by_cases hg3 : g = keep
            · subst hg3; simp [hg, hg2]
            · simp [hg, hg2, hg3]
    · show stepV into gone (1 + n) (stepV into keep (1 + n) (stepN keep gone into V n)) g k t = _
      rw [stepV_ne (by omega), stepV_ne (by omega)]
      exact stepN_at h1 h2 n ⟨i, by omega, hk⟩
def map1 (keep gone into g : Int) : Int := if g = keep ∨ g = gone then into else g
def setG' (m : Int → Int) (s : Se) : Se := ⟨m s.group, s.grain, s.cells⟩
theorem anyV_map (m : Int → Int) (l : List Se) (g k t : Int) : anyV (l.map (setG' m)) g k t = l.any fun s => decide (m s.group = g ∧ s.grain = k) && memS s.cells t := by
  unfold anyV
  rw [List.any_map]
  congr 1
  funext s
  simp only [Function.comp_apply, setG', seKey]
  congr 1
  exact decide_eq_decide.2 (by rw [Prod.mk.injEq])
theorem any_or {α : Type} (l : List α) (p q r : α → Bool) (h : ∀ x ∈ l, r x = (p x || q x)) : l.any r = (l.any p || l.any q) := by
  rw [Bool.eq_iff_iff, Bool.or_eq_true, List.any_eq_true, List.any_eq_true, List.any_eq_true]
  constructor
  · rintro ⟨x, hx, h1⟩
    rw [h x hx, Bool.or_eq_true] at h1
    exact h1.imp (fun h2 => ⟨x, hx, h2⟩) (fun h2 => ⟨x, hx, h2⟩)
  · rintro (⟨x, hx, h1⟩ | ⟨x, hx, h1⟩)
    · exact ⟨x, hx, by rw [h x hx, h1]; rfl⟩
    · exact ⟨x, hx, by rw [h x hx, h1, Bool.or_true]⟩
theorem anyV_map1 {l : List Se} {keep gone into : Int} (g k t : Int) : anyV (l.map (setG' (map1 keep gone into))) g k t = if g = into then (anyV l into k t || anyV l keep k t || anyV l gone k t) else if g = keep ∨ g = gone then false else anyV l g k t := by
  rw [anyV_map]
  have key : ∀ (g : Int), anyV l g k t = l.any fun s => decide (s.group = g ∧ s.grain = k) && memS s.cells t := fun g => by
    unfold anyV seKey
    simp only [Prod.mk.injEq]
  split
  · rename_i e
    subst e
    rw [key, key, key, ← any_or l _ _ _ fun x _ => rfl, ← any_or l _ _ _ fun x _ => rfl]
    congr 1
    funext s
    unfold map1
    cases memS s.cells t with
    | false => simp
    | true =>
      simp only [Bool.and_true]
      rw [Bool.eq_iff_iff]
      simp only [Bool.or_eq_true, decide_eq_true_eq]
      split <;> rename_i h <;> omega
  · rename_i e
    split
    · rename_i h
      rw [List.any_eq_false]
      intro s _
      unfold map1
      split <;> rename_i h2
      · simp; intro h3; exact absurd h3.symm e
      · simp; intro h3; omega
    · rename_i h
      rw [key]
      congr 1
      funext s
      unfold map1
      have : ((if s.group = keep ∨ s.group = gone then into else s.group) = g) ↔ s.group = g := by
        split <;> rename_i h2
        · constructor
          · intro h3; exact absurd h3.symm e
          · intro h3; omega
        · exact Iff.rfl
      simp only [this]
/-- The number a group had before 'gone' was removed. -/
def dnG (gone g : Int) : Int := if g < gone then g else g + 1
theorem anyV_up {l : List Se} {gone : Int} (h : ∀ s ∈ l, s.group ≠ gone) (g k t : Int) : anyV (l.map (upS gone)) g k t = anyV l (dnG gone g) k t := by
  unfold anyV
  rw [List.any_map, Bool.eq_iff_iff, List.any_eq_true, List.any_eq_true]
  have key : ∀ s ∈ l, (seKey (upS gone s) = (g, k)) ↔ (seKey s = (dnG gone g, k)) := fun s hs => by
    have := h s hs
    unfold seKey upS upG dnG
    simp only [Prod.mk.injEq]
    split <;> split <;> omega
  constructor
  · rintro ⟨s, hs, h1⟩
    refine ⟨s, hs, ?_⟩
    simp only [Function.comp_apply, Bool.and_eq_true, decide_eq_true_eq] at h1 ⊢
    exact ⟨(key s hs).1 h1.1, h1.2⟩
  · rintro ⟨s, hs, h1⟩
    refine ⟨s, hs, ?_⟩
    simp only [Function.comp_apply, Bool.and_eq_true, decide_eq_true_eq] at h1 ⊢
    exact ⟨(key s hs).2 h1.1, h1.2⟩
/-- Elements of a ledger on their way. -/
structure OkN (n : Nat) (s : Se) : Prop where
  grp : -1000000 ≤ s.group ∧ s.group ≤ 1000000
  grain : 1 ≤ s.grain ∧ s.grain ≤ 4
  nor : Normal s.cells
  rng : rangedB s.cells = true
  ne : s.cells ≠ []
  len : s.cells.length ≤ 1000 * 2 ^ n
structure InvL (n : Nat) (V : Int → Int → Int → Bool) (l : List Se) : Prop where
  ok : ∀ s ∈ l, OkN n s
  see : ∀ g k t, view l g k t = V g k t
  cnt : l.length ≤ 1000 + n
theorem InvL.look {n : Nat} {V : Int → Int → Int → Bool} {l : List Se} (h : InvL n V l) (g k : Int) : rangedB (lookD l g k) = true ∧ (lookD l g k).length ≤ 1000 * 2 ^ n := by
  unfold lookD
  split
  · rename_i s hs
    have := h.ok s (List.mem_of_find?_eq_some hs)
    exact ⟨this.rng, this.len⟩
  · exact ⟨rfl, by simp⟩
theorem OkN.mono {n : Nat} {s : Se} (h : OkN n s) : OkN (n + 1) s := ⟨h.grp, h.grain, h.nor, h.rng, h.ne, Nat.le_trans h.len (by rw [Nat.pow_succ]; omega)⟩
theorem look_drop {l : List Se} {f into k : Int} (hn : (l.map seKey).Nodup) (hne : f ≠ into) : lookD (dropD l f k) into k = lookD l into k :=
  lookD_ne hn (dropD_keys hn) fun s hs => by
    rw [dropD_mem]
    refine ⟨fun h => h.1, fun h => ⟨h, fun e => ?_⟩⟩
    rw [hs] at e
    exact hne (Prod.mk.inj e).1.symm
theorem InvL.step {n : Nat} {V : Int → Int → Int → Bool} {l : List Se} (h : InvL n V l) (hn : (l.map seKey).Nodup) {into f k : Int} (hne : f ≠ into) (hi : -1000000 ≤ into ∧ into ≤ 1000000) (hk : 1 ≤ k ∧ k ≤ 4) :
    InvL (n + 1) (stepV into f k V) (addP (dropD l f k) into k (lookD l f k)) := by
  have hnd := dropD_keys (g := f) (k := k) hn
  obtain ⟨a1, a2⟩ := h.look f k
  obtain ⟨b1, b2⟩ := h.look into k
  refine ⟨fun s hs => ?_, fun g k' t => ?_, ?_⟩
  · rcases (addP_mem hnd s).1 hs with ⟨_, h2⟩ | ⟨h1, rfl | ⟨h2, _⟩⟩
    · exact (h.ok s ((dropD_mem s).1 h2).1).mono
    · rw [look_drop hn hne] at h1 ⊢
      refine ⟨hi, hk, unionD_normal _ _, normD_ranged (by rw [rangedB_app, a1, b1]; rfl), h1, ?_⟩
      have := normD_len (lookD l into k ++ lookD l f k)
      rw [List.length_append] at this
      show (normD _).length ≤ _
      rw [Nat.pow_succ]; omega
    · exact (h.ok s ((dropD_mem s).1 h2).1).mono
  · rw [view_addP hnd, view_drop hn, view_drop hn]
    have hm : memS (lookD l f k) t = V f k t := h.see f k t
    rw [hm]
    unfold stepV
    by_cases hk' : k' = k
    · subst hk'
      simp only [ne_eq, hne, not_false_eq_true, and_self, if_true, Prod.mk.injEq, and_true]
      by_cases hg : g = into
      · subst hg
        simp [Ne.symm hne, h.see]
      · by_cases hgf : g = f
        · subst hgf; simp [hg]
        · simp [hg, hgf, h.see]
    · simp [hk', h.see]
  · have h1 : (dropD l f k).length ≤ l.length := List.length_filter_le _ _
    have h2 : (addP (dropD l f k) into k (lookD l f k)).length ≤ (dropD l f k).length + 1 := by
      unfold addP putD
      split
      · omega
      · split <;> simp
    have := h.cnt
    omega
theorem InvL.skip {n : Nat} {V : Int → Int → Int → Bool} {l : List Se} (h : InvL n V l) {into k : Int} : InvL (n + 1) (stepV into into k V) l := by
  refine ⟨fun s hs => (h.ok s hs).mono, fun g k' t => ?_, by have := h.cnt; omega⟩
  unfold stepV
  rw [if_neg fun e => e.2 rfl]
  exact h.see g k' t
def stepJ (keep gone into : Int) (V : Int → Int → Int → Bool) (i : Nat) : Nat → Int → Int → Int → Bool
  | 0 => stepN keep gone into V i
  | 1 => stepV into keep (1 + i) (stepN keep gone into V i)
  | _ => stepN keep gone into V (i + 1)
def frJ (keep gone : Int) (j : Nat) : Int := if j = 0 then keep else gone
theorem stepJ_succ {keep gone into : Int} {V : Int → Int → Int → Bool} {i j : Nat} (hj : j < 2) : stepJ keep gone into V i (j + 1) = stepV into (frJ keep gone j) (1 + i) (stepJ keep gone into V i j) := by
  match j, hj with
  | 0, _ => rfl
  | 1, _ => rfl
/-- What stands at last in the ledger. -/
theorem final_view {l : List Se} {keep gone into : Int} (hn : (l.map seKey).Nodup) (hg : ∀ s ∈ l, 1 ≤ s.grain ∧ s.grain ≤ 4) (h1 : gone ≠ into) (h2 : keep ≠ gone) (g k t : Int) :
    stepN keep gone into (view l) 4 g k t = anyV (l.map (setG' (map1 keep gone into))) g k t := by
  by_cases hk : 1 ≤ k ∧ k ≤ 4
  · rw [stepN_at h1 h2 4 ⟨(k - 1).toNat, by omega, by omega⟩, anyV_map1]
    simp only [view_any hn]
  · rw [stepN_ne 4 fun i hi => by omega, view_any hn]
    have e : ∀ (m : Int → Int), anyV (l.map (setG' m)) g k t = false := fun m => by
      rw [anyV_map, List.any_eq_false]
      intro s hs
      have := hg s hs
      have : ¬ (m s.group = g ∧ s.grain = k) := fun e => by omega
      simp [this]
    rw [e]
    unfold anyV
    rw [List.any_eq_false]
    intro s hs
    have := hg s hs
    have : ¬ (seKey s = (g, k)) := fun e => by
      unfold seKey at e
      simp only [Prod.mk.injEq] at e
      omega
    simp [this]
theorem map1_gone {keep gone into g : Int} (h1 : gone ≠ into) : map1 keep gone into g ≠ gone := by
  unfold map1
  split
  · exact fun e => h1 e.symm
  · rename_i h; exact fun e => h (.inr e)
theorem InvL.full {n : Nat} {V : Int → Int → Int → Bool} {l : List Se} (h : InvL n V l) : Full l := fun s hs => ⟨(h.ok s hs).nor, (h.ok s hs).ne⟩
theorem InvL.gone {V : Int → Int → Int → Bool} {l : List Se} {n : Nat} {keep gone into : Int} (h : InvL n (stepN keep gone into V 4) l) (hn : (l.map seKey).Nodup) (h1 : gone ≠ into) (h2 : keep ≠ gone) : ∀ s ∈ l, s.group ≠ gone := fun s hs e => by
  have hk := (h.ok s hs).grain
  refine view_none hn h.full (g := gone) (k := s.grain) (fun t => ?_) s hs (by unfold seKey; rw [e])
  rw [h.see, stepN_at h1 h2 4 ⟨(s.grain - 1).toNat, by omega, by omega⟩, if_neg h1, if_pos (.inr rfl)]
/-- The elements in order are those of the aliases' budget. -/
theorem alias_spent {l q ps : List Se} {keep gone into : Int} {n : Nat} (hl : (l.map seKey).Nodup) (hg : ∀ s ∈ l, 1 ≤ s.grain ∧ s.grain ≤ 4) (h1 : gone ≠ into) (h2 : keep ≠ gone) (hn : (ps.map seKey).Nodup) (hI : InvL n (stepN keep gone into (view l) 4) ps) (hq : q.Pairwise keyLt)
    (hp : (gone < 0 ∧ q.Perm ps) ∨ (0 ≤ gone ∧ q.Perm (ps.map (upS gone)))) : q = canon (l.map fun s => ⟨if 0 ≤ gone then upG gone (map1 keep gone into s.group) else map1 keep gone into s.group, s.grain, s.cells⟩) := by
  refine view_ext hq (canon_sorted _) ?_ (canon_full _) fun g k t => ?_
  · rcases hp with ⟨_, hp⟩ | ⟨_, hp⟩
    · exact fun s hs => hI.full s (hp.mem_iff.1 hs)
    · intro s hs
      obtain ⟨x, hx, rfl⟩ := List.mem_map.1 (hp.mem_iff.1 hs)
      exact hI.full x hx
  · rw [canon_view]
    rcases hp with ⟨h0, hp⟩ | ⟨h0, hp⟩
    · rw [view_perm hn hp, hI.see, final_view hl hg h1 h2]
      simp only [show ¬ 0 ≤ gone by omega, if_false]
      rfl
    · have hno := hI.gone hn h1 h2
      have hqn : (q.map seKey).Nodup := sorted_nodup hq
      rw [view_any hqn]
      have e1 : anyV q g k t = anyV (ps.map (upS gone)) g k t := by
        unfold anyV
        rw [Bool.eq_iff_iff, List.any_eq_true, List.any_eq_true]
        exact ⟨fun ⟨x, hx, h⟩ => ⟨x, hp.mem_iff.1 hx, h⟩, fun ⟨x, hx, h⟩ => ⟨x, hp.mem_iff.2 hx, h⟩⟩
      have e2 : (l.map fun s => (⟨if 0 ≤ gone then upG gone (map1 keep gone into s.group) else map1 keep gone into s.group, s.grain, s.cells⟩ : Se)) = (l.map (setG' (map1 keep gone into))).map (upS gone) := by
        rw [List.map_map]
        refine List.map_congr_left fun s _ => ?_
        rw [if_pos h0]; rfl
      rw [e1, anyV_up hno, e2, anyV_up fun s hs => ?_, ← view_any hn, hI.see, final_view hl hg h1 h2]
      obtain ⟨x, _, rfl⟩ := List.mem_map.1 hs
      exact map1_gone h1
end Go.Proofs.YtclkibjonbhldaaGreatDoor
