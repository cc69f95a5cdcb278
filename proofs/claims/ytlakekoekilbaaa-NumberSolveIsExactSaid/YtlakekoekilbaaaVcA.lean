/- Plain lemmas of our own, no statement of the seat: a region that draws its order may be walked in one planned order, where all that is unordered only reads or makes memory. -/
import Derived.WalkKit
namespace Go.Proofs.Ytlakekoekilbaaa.Vc
set_option linter.unusedSimpArgs false
set_option linter.unusedVariables false
open Go.RowKit

/-- What was there is as it was. -/
abbrev Ext (w w' : World) : Prop := Below w.heap.size w w'
theorem Ext.tr {a b c : World} (h : Ext a b) (k : Ext b c) : Ext a c := Below.trans h (Below.mono k h.size)

section
variable {P : Program} {ops : Array Oper} {Q : Exit → Act → World → Prop} {md : Region.Mode} {T : Nat → Bool}

/-- In every world that extends 'w' the operation yields 'v'. -/
def YieldsE (P : Program) (ops : Array Oper) (w : World) (o : Oper) (v : Value) (a : Act) : Prop :=
  (Region.wanted o (yielded ops a.tmps) = true ∧ ∀ w', Ext w w' → (execOp a.eval o).run P w' = .ok (.value v) w') ∨
  (Region.wanted o (yielded ops a.tmps) = false ∧ v = undef)
theorem YieldsE.of_same {o : Oper} {v : Value} {a a' : Act} {w : World} (hy : YieldsE P ops w o v a) (he : execOp a'.eval o = execOp a.eval o)
    (hw : Region.wanted o (yielded ops a'.tmps) = Region.wanted o (yielded ops a.tmps)) : YieldsE P ops w o v a' := by
  unfold YieldsE at *
  rw [he, hw]
  exact hy
theorem YieldsE.ext {o : Oper} {v : Value} {a : Act} {w w' : World} (hy : YieldsE P ops w o v a) (h : Ext w w') : YieldsE P ops w' o v a := by
  rcases hy with ⟨h1, h2⟩ | h1
  · exact .inl ⟨h1, fun w'' hw => h2 w'' (h.tr hw)⟩
  · exact .inr h1
theorem YieldsE.wpOp {i : Nat} {o : Oper} {v : Value} {a : Act} {w : World} (hi : ops[i]? = some o) (hy : YieldsE P ops w o v a)
    {K : Act → World → Prop} (h : K (a.put o.dst v) w) : wpOp P ops Q i K a w := by
  unfold Go.wpOp
  simp only [hi]
  rcases hy with ⟨hw, hv⟩ | ⟨hw, rfl⟩
  · simp only [hw, if_true, Oper.wp, hv w (Below.refl _ _), Oper.upon]; exact .inl h
  · simp only [hw, Bool.false_eq_true, if_false]; exact h

theorem wpOp_putE {j : Nat} {oi oj : Oper} {v : Value} (hj : ops[j]? = some oj) (hap : oi.apart ops oj = true)
    (hsi : ∀ cs b, oi.op ≠ .select cs b) (hsj : ∀ cs b, oj.op ≠ .select cs b)
    (hQ : ∀ c a w, Q (.panic c) (a.put oi.dst v) w → Q (.panic c) a w) {K : Act → World → Prop} {a : Act} {w w1 : World}
    (hy : YieldsE P ops w1 oi v a) (h : wpOp P ops Q j K (a.put oi.dst v) w) :
    wpOp P ops Q j (fun a' w' => YieldsE P ops w1 oi v a' ∧ K (a'.put oi.dst v) w') a w := by
  obtain ⟨h1, h2, h3⟩ := Oper.apart_spec hap
  have keep : ∀ (a : Act), YieldsE P ops w1 oi v a → ∀ u, YieldsE P ops w1 oi v (a.put oj.dst u) := fun a hy u =>
    hy.of_same (execOp_put oi hsi a oj.dst u h3) (wanted_put oi a oj.dst u h3)
  have keepD : ∀ d, YieldsE P ops w1 oi v { a with defers := d :: a.defers } := fun d => hy.of_same rfl rfl
  unfold wpOp at *
  simp only [hj] at *
  rw [wanted_put oj a oi.dst v h1] at h
  split
  · rename_i hw
    simp only [hw, if_true] at h
    rcases h with h | ⟨hasks, hlets⟩
    case inr => exact .inr ⟨by unfold Oper.asks at *; rw [execOp_put oj hsj a oi.dst v h1] at hasks; exact hasks, hlets⟩
    refine .inl ?_
    unfold Oper.wp at *
    rw [execOp_put oj hsj a oi.dst v h1] at h
    generalize (execOp a.eval oj).run P w = r at *
    cases r with
    | ok n w' =>
      cases n <;> simp only [Oper.upon] at h ⊢
      case value u => exact ⟨keep a hy u, by rw [← Act.put_comm a v u h2]; exact h⟩
      case skip => exact ⟨keep a hy _, by rw [← Act.put_comm a v undef h2]; exact h⟩
      case defer d =>
        refine ⟨keep _ (keepD d) _, ?_⟩
        rw [← Act.put_comm _ v undef h2, ← Act.put_defers]
        exact h
      case enter f args =>
        refine Calls.mono h fun e w'' he => ?_
        cases e with
        | returned u => exact ⟨keep a hy u, by rw [← Act.put_comm a v u h2]; exact he⟩
        | panicked c => exact hQ _ _ _ he
        | outgrown => exact he
      case row row args => exact Rows.mono h fun u w'' he => ⟨keep a hy u, by rw [← Act.put_comm a v u h2]; exact he⟩
    | halt x w' =>
      cases x <;> simp only [Oper.upon] at h ⊢
      case panic u => exact hQ _ _ _ h
  · rename_i hw
    simp only [hw] at h
    exact ⟨keep a hy _, by rw [← Act.put_comm a v undef h2]; exact h⟩

/-- Whatever order: the operations outside the tail T extend the world; from the first of the tail on, as ever. -/
def wpAnyE (P : Program) (md : Region.Mode) (ops : Array Oper) (T : Nat → Bool) (Q : Exit → Act → World → Prop) : Nat → Array Bool → Act → World → Prop
  | 0, listed, a, w => Region.ready md ops listed = [] ∧ Q .normal a w
  | fuel + 1, listed, a, w =>
    (Region.ready md ops listed = [] → Q .normal a w) ∧
    ∀ i ∈ Region.ready md ops listed, wpOp P ops Q i (fun a' w' => if T i then wpAny P md ops Q fuel (listed.setIfInBounds i true) a' w'
      else Ext w w' ∧ wpAnyE P md ops T Q fuel (listed.setIfInBounds i true) a' w') a w

theorem wpAny_of_E : ∀ (fuel : Nat) (listed : Array Bool) (a : Act) (w : World), wpAnyE P md ops T Q fuel listed a w → wpAny P md ops Q fuel listed a w
  | 0, _, _, _, h => h
  | fuel + 1, _, _, _, h => ⟨h.1, fun i hi => wpOp_mono (fun a' w' hh => by
      by_cases ht : T i = true
      · simpa [ht] using hh
      · simp only [ht] at hh; exact wpAny_of_E fuel _ a' w' hh.2) (h.2 i hi)⟩

/-- All that waits: by one edge or by several. -/
def reach (md : Region.Mode) (ops : Array Oper) : Nat → Nat → List Nat
  | 0, _ => []
  | n + 1, j => match ops[j]? with
    | none => []
    | some o => o.after.toList.flatMap fun e => if Region.binds md e then e.on :: reach md ops n e.on else []
/-- What is listed is closed under the edges. -/
def Closed (md : Region.Mode) (ops : Array Oper) (listed : Array Bool) : Prop :=
  ∀ k o, ops[k]? = some o → listed.getD k false = true → ∀ e ∈ o.after, Region.binds md e = true → listed.getD e.on false = true
theorem closed_reach {listed : Array Bool} (hc : Closed md ops listed) : ∀ (n j : Nat), listed.getD j false = true → ∀ i ∈ reach md ops n j, listed.getD i false = true
  | 0, _, _, _, hi => by simp [reach] at hi
  | n + 1, j, hj, i, hi => by
    unfold reach at hi
    cases ho : ops[j]? with
    | none => simp [ho] at hi
    | some o =>
      simp only [ho, List.mem_flatMap] at hi
      obtain ⟨e, he, hie⟩ := hi
      by_cases hb : Region.binds md e = true
      · simp only [hb, if_true, List.mem_cons] at hie
        have h1 := hc j o ho hj e (by simpa using he) hb
        rcases hie with rfl | hie
        · exact h1
        · exact closed_reach hc n _ h1 i hie
      · simp [hb] at hie
theorem ready_reach {listed : Array Bool} (hc : Closed md ops listed) {n j : Nat} (hj : j ∈ Region.ready md ops listed) : ∀ i ∈ reach md ops n j, listed.getD i false = true := by
  intro i hi
  obtain ⟨_, o, ho, hall⟩ := mem_ready.1 hj
  cases n with
  | zero => simp [reach] at hi
  | succ n =>
    unfold reach at hi
    simp only [ho, List.mem_flatMap] at hi
    obtain ⟨e, he, hie⟩ := hi
    by_cases hb : Region.binds md e = true
    · simp only [hb, if_true, List.mem_cons] at hie
      have h1 := hall e (by simpa using he) hb
      rcases hie with rfl | hie
      · exact h1
      · exact closed_reach hc n _ h1 i hie
    · simp [hb] at hie
theorem closed_set {listed : Array Bool} {j : Nat} (hc : Closed md ops listed) (hj : j ∈ Region.ready md ops listed) : Closed md ops (listed.setIfInBounds j true) := by
  intro k o ho hk e he hb
  by_cases hkj : j = k
  · subst hkj
    obtain ⟨_, o', ho', hall⟩ := mem_ready.1 hj
    rw [ho] at ho'
    cases ho'
    exact getD_set_true (hall e he hb)
  · rw [getD_set_ne false hkj] at hk
    exact getD_set_true (hc k o ho hk e he hb)

theorem wpAnyE_first {i : Nat} {oi : Oper} {v : Value} (hi : ops[i]? = some oi) (hsel : ∀ (j : Nat) (o : Oper) cs b, ops[j]? = some o → o.op ≠ .select cs b)
    (hQ : ∀ c a w, Q (.panic c) (a.put oi.dst v) w → Q (.panic c) a w) (hT : ∀ j, j < ops.size → T j = true → i ∈ reach md ops ops.size j) (hTi : T i = false) :
    ∀ (fuel : Nat) (listed : Array Bool) (a : Act) (w : World), Closed md ops listed →
      (∀ j oj, ops[j]? = some oj → j ≠ i → listed.getD j true = false → (∀ e ∈ oj.after, Region.binds md e = true → e.on ≠ i) → oi.apart ops oj = true) →
      i ∈ Region.ready md ops listed → YieldsE P ops w oi v a →
      wpAnyE P md ops T Q fuel (listed.setIfInBounds i true) (a.put oi.dst v) w → wpAnyE P md ops T Q (fuel + 1) listed a w := by
  intro fuel
  induction fuel with
  | zero =>
    intro listed a w _ _ hr hy H
    refine ⟨fun h => (by rw [h] at hr; cases hr), fun j hj => ?_⟩
    by_cases hji : j = i
    · subst hji; exact hy.wpOp hi (by simp only [hTi]; exact ⟨Below.refl _ _, H⟩)
    · have := ready_mono hj hji
      rw [H.1] at this
      cases this
  | succ fuel ih =>
    intro listed a w hcl hfree hr hy H
    refine ⟨fun h => (by rw [h] at hr; cases hr), fun j hj => ?_⟩
    by_cases hji : j = i
    · subst hji; exact hy.wpOp hi (by simp only [hTi]; exact ⟨Below.refl _ _, H⟩)
    · have hTj : T j = false := by
        cases hT' : T j with
        | false => rfl
        | true =>
          have hjl : j < ops.size := by obtain ⟨_, o, ho, _⟩ := mem_ready.1 hj; exact (Array.getElem?_eq_some_iff.1 ho).1
          have h1 := ready_reach hcl (n := ops.size) hj i (hT j hjl hT')
          have h0 := (mem_ready.1 hr).1
          rcases Nat.lt_or_ge i listed.size with h' | h'
          · simp [h'] at h0 h1; rw [h0] at h1; cases h1
          · simp [Array.getElem?_eq_none h'] at h1
      have h1 := H.2 j (ready_mono hj hji)
      simp only [hTj, Bool.false_eq_true, if_false] at h1
      obtain ⟨hjun, oj, hoj, hall⟩ := mem_ready.1 hj
      have hnot : ∀ e ∈ oj.after, Region.binds md e = true → e.on ≠ i := fun e he hb heq => by
        have h1 := hall e he hb
        have h0 := (mem_ready.1 hr).1
        rw [heq] at h1
        rcases Nat.lt_or_ge i listed.size with h' | h'
        · simp [h'] at h0 h1; rw [h0] at h1; cases h1
        · simp [Array.getElem?_eq_none h'] at h1
      have h2 := wpOp_putE hoj (hfree j oj hoj hji hjun hnot) (fun cs b => hsel i oi cs b hi) (fun cs b => hsel j oj cs b hoj) hQ hy h1
      have hfree' : ∀ k ok, ops[k]? = some ok → k ≠ i → (listed.setIfInBounds j true).getD k true = false →
          (∀ e ∈ ok.after, Region.binds md e = true → e.on ≠ i) → oi.apart ops ok = true := fun k ok hk hki hun hno => by
        refine hfree k ok hk hki ?_ hno
        by_cases hjk : j = k
        · subst hjk; exact hjun
        · rw [getD_set_ne true hjk] at hun; exact hun
      refine wpOp_mono (fun a' w' h3 => ?_) h2
      simp only [hTj, Bool.false_eq_true, if_false]
      refine ⟨h3.2.1, ih (listed.setIfInBounds j true) a' w' (closed_set hcl hj) hfree' (ready_mono hr (Ne.symm hji)) (h3.1.ext h3.2.1) ?_⟩
      rw [Array.setIfInBounds_comm _ _ hji]
      exact h3.2.2

/-! ### A plan: the order in which the operations are taken. 'q i': operation i only reads. -/
/-- Each step of the plan: a reading operation that is ready and free; or the one that alone is ready. -/
def planFrom (md : Region.Mode) (ops : Array Oper) (q : Nat → Bool) (T : Nat → Bool) : List Nat → Array Bool → Bool
  | [], listed => (Region.ready md ops listed).isEmpty
  | i :: rest, listed =>
    ((q i && !T i && (Region.ready md ops listed).contains i && Region.free md ops listed i) || Region.ready md ops listed == [i]) &&
      planFrom md ops q T rest (listed.setIfInBounds i true)
/-- The plan is whole; each operation of the tail waits for all that come ahead of it in the plan and only read. -/
def planOK (md : Region.Mode) (ops : Array Oper) (q : Nat → Bool) (T : Nat → Bool) (plan : List Nat) : Bool :=
  Region.noSelect ops && plan.length == ops.size && (plan.dropWhile fun i => !T i).all T && planFrom md ops q T plan (Array.replicate ops.size false) &&
    (List.range ops.size).all fun j => !T j || (List.range ops.size).all fun i => T i || !q i || (reach md ops ops.size j).contains i

/-- What is asked of a plan's walk, step by step. -/
def wpPlan (P : Program) (ops : Array Oper) (q T : Nat → Bool) (Q : Exit → Act → World → Prop) : Bool → List Nat → Act → World → Prop
  | _, [], a, w => Q .normal a w
  | E, i :: rest, a, w =>
    if E && q i && !T i then ∃ o v, ops[i]? = some o ∧ YieldsE P ops w o v a ∧ wpPlan P ops q T Q E rest (a.put o.dst v) w
    else wpOp P ops Q i (fun a' w' => (E = true ∧ T i = false → Ext w w') ∧ wpPlan P ops q T Q (E && !T i) rest a' w') a w

theorem wpAny_of_plan_tail {q : Nat → Bool} : ∀ (plan : List Nat) (listed : Array Bool) (a : Act) (w : World),
    (∀ i ∈ plan, T i = true) → planFrom md ops q T plan listed = true → wpPlan P ops q T Q false plan a w → wpAny P md ops Q plan.length listed a w
  | [], _, _, _, _, hp, h => ⟨by simpa [planFrom] using hp, h⟩
  | i :: rest, listed, a, w, hT, hp, h => by
    have hTi := hT i (by simp)
    simp only [planFrom, hTi, Bool.not_true, Bool.and_false, Bool.false_and, Bool.false_or, Bool.and_eq_true, beq_iff_eq] at hp
    simp only [wpPlan, Bool.false_and, Bool.false_eq_true, if_false] at h
    refine wpAny_all hp.1 (by simp) (fun j hj => ?_)
    simp only [List.mem_singleton] at hj
    subst hj
    exact wpOp_mono (fun a' w' hh => wpAny_of_plan_tail rest _ a' w' (fun k hk => hT k (by simp [hk])) hp.2 hh.2) h

theorem wpAnyE_of_plan {q : Nat → Bool} (hs : Region.noSelect ops = true) (hQ : ∀ c a w, ¬ Q (.panic c) a w)
    (hTq : ∀ j, j < ops.size → T j = true → ∀ i, i < ops.size → T i = false → q i = true → i ∈ reach md ops ops.size j) : ∀ (plan : List Nat) (listed : Array Bool) (a : Act) (w : World),
    (∃ l1 l2, plan = l1 ++ l2 ∧ (∀ i ∈ l1, T i = false) ∧ (∀ i ∈ l2, T i = true)) → Closed md ops listed →
    planFrom md ops q T plan listed = true → wpPlan P ops q T Q true plan a w → wpAnyE P md ops T Q plan.length listed a w
  | [], _, _, _, _, _, hp, h => ⟨by simpa [planFrom] using hp, h⟩
  | i :: rest, listed, a, w, hsplit, hcl, hp, h => by
    simp only [planFrom, Bool.and_eq_true, Bool.or_eq_true, beq_iff_eq] at hp
    by_cases hTi : T i = true
    · -- the tail begins
      simp only [hTi, Bool.not_true, Bool.false_eq_true, false_and, false_or, and_false] at hp
      simp only [wpPlan, hTi, Bool.not_true, Bool.and_false, Bool.false_eq_true, if_false] at h
      refine ⟨fun h0 => absurd (hp.1.symm.trans h0) (by simp), fun j hj => ?_⟩
      rw [hp.1, List.mem_singleton] at hj
      subst hj
      refine wpOp_mono (fun a' w' hh => ?_) h
      simp only [hTi, if_true]
      obtain ⟨l1, l2, e, h1, h2⟩ := hsplit
      have hall : ∀ k ∈ rest, T k = true := by
        cases l1 with
        | nil => intro k hk; exact h2 k (by rw [List.nil_append] at e; rw [← e]; simp [hk])
        | cons x l1 => simp only [List.cons_append, List.cons.injEq] at e; have := h1 x (by simp); rw [← e.1, hTi] at this; cases this
      exact wpAny_of_plan_tail rest _ a' w' hall hp.2 hh.2
    · have hTi' : T i = false := by simpa using hTi
      have hsplit' : ∃ l1 l2, rest = l1 ++ l2 ∧ (∀ i ∈ l1, T i = false) ∧ (∀ i ∈ l2, T i = true) := by
        obtain ⟨l1, l2, e, h1, h2⟩ := hsplit
        cases l1 with
        | nil => have := h2 i (by rw [List.nil_append] at e; rw [← e]; simp); rw [hTi'] at this; cases this
        | cons x l1 => simp only [List.cons_append, List.cons.injEq] at e; exact ⟨l1, l2, e.2, fun k hk => h1 k (by simp [hk]), h2⟩
      by_cases hqi : q i = true
      · simp only [wpPlan, hqi, hTi', Bool.not_false, Bool.and_true, if_true] at h
        obtain ⟨o, v, ho, hy, hrest⟩ := h
        have hr : i ∈ Region.ready md ops listed := by
          rcases hp.1 with hh | hh
          · simpa using hh.1.2
          · rw [hh]; simp
        have hlt : i < ops.size := (Array.getElem?_eq_some_iff.1 ho).1
        rcases hp.1 with hh | hh
        · exact wpAnyE_first ho (Region.noSelect_spec hs) (fun c a w hq => (hQ _ _ _ hq).elim) (fun j hjl hj => hTq j hjl hj i hlt hTi' hqi) hTi' rest.length listed a w hcl
            (Region.free_spec ho hh.2) hr hy (wpAnyE_of_plan hs hQ hTq rest _ _ w hsplit' (closed_set hcl hr) hp.2 hrest)
        · refine ⟨fun h0 => absurd (hh.symm.trans h0) (by simp), fun j hj => ?_⟩
          rw [hh, List.mem_singleton] at hj
          subst hj
          exact hy.wpOp ho (by simp only [hTi', Bool.false_eq_true, if_false]; exact ⟨Below.refl _ _, wpAnyE_of_plan hs hQ hTq rest _ _ w hsplit' (closed_set hcl hr) hp.2 hrest⟩)
      · have hqi' : q i = false := by simpa using hqi
        simp only [hqi', Bool.false_eq_true, false_and, false_or] at hp
        simp only [wpPlan, hqi', Bool.and_false, Bool.false_eq_true, if_false, hTi', Bool.not_false, Bool.and_true, and_true] at h
        have hr : i ∈ Region.ready md ops listed := by rw [hp.1]; simp
        refine ⟨fun h0 => absurd (hp.1.symm.trans h0) (by simp), fun j hj => ?_⟩
        rw [hp.1, List.mem_singleton] at hj
        subst hj
        refine wpOp_mono (fun a' w' hh => ?_) h
        simp only [hTi', Bool.false_eq_true, if_false]
        exact ⟨hh.1 trivial, wpAnyE_of_plan hs hQ hTq rest _ a' w' hsplit' (closed_set hcl hr) hp.2 hh.2⟩

theorem split_tail (T : Nat → Bool) : ∀ plan : List Nat, (plan.dropWhile fun i => !T i).all T = true → ∃ l1 l2, plan = l1 ++ l2 ∧ (∀ i ∈ l1, T i = false) ∧ (∀ i ∈ l2, T i = true)
  | [], _ => ⟨[], [], rfl, by simp, by simp⟩
  | i :: rest, h => by
    by_cases hT : T i = true
    · simp only [List.dropWhile_cons, hT, Bool.not_true, Bool.false_eq_true, if_false, List.all_eq_true] at h
      exact ⟨[], i :: rest, rfl, by simp, h⟩
    · have hT' : T i = false := by simpa using hT
      simp only [List.dropWhile_cons, hT', Bool.not_false, if_true] at h
      obtain ⟨l1, l2, e, h1, h2⟩ := split_tail T rest h
      exact ⟨i :: l1, l2, by rw [e]; rfl, by simpa [hT'] using h1, h2⟩

theorem wp_region_plan {q : Nat → Bool} {plan : List Nat} {id : Nat} {a : Act} {w : World} (hm : P.follows .mixedOrders = true) (hQ : ∀ c a w, ¬ Q (.panic c) a w)
    (hp : planOK .any ops q T plan = true) (h : wpPlan P ops q T Q true plan a { w with drawn := w.drawn + 1 }) : (Code.region id ops true).wp P Q a w := by
  simp only [planOK, Bool.and_eq_true, beq_iff_eq] at hp
  obtain ⟨⟨⟨⟨hs, hl⟩, hsp⟩, hf⟩, ht⟩ := hp
  refine wp_region_any hm (wpAny_of_E (T := T) _ _ _ _ ?_)
  rw [← hl]
  refine wpAnyE_of_plan hs hQ (fun j hjl hj i hi hTi hqi => ?_) plan _ _ _ (split_tail T plan hsp) (fun k o ho hk => ?_) (by rw [hl]; exact hf) h
  · have h1 := List.all_eq_true.1 ht j (by simpa using hjl)
    simp only [hj, Bool.not_true, Bool.false_or, List.all_eq_true, List.mem_range, Bool.or_eq_true, Bool.not_eq_true', List.contains_iff_mem] at h1
    rcases h1 i hi with (h2 | h2) | h2
    · rw [hTi] at h2; cases h2
    · rw [hqi] at h2; cases h2
    · exact h2
  · exfalso
    have hlt : k < ops.size := (Array.getElem?_eq_some_iff.1 ho).1
    simp [hl, hlt] at hk

theorem wpOps_of_plan {q : Nat → Bool} : ∀ (plan : List Nat) (a : Act) (w : World), wpPlan P ops q T Q false plan a w → wpOps P ops Q plan a w
  | [], _, _, h => h
  | i :: rest, a, w, h => by
    simp only [wpPlan, Bool.false_and, Bool.false_eq_true, if_false] at h
    rw [wpOps_cons]
    exact wpOp_mono (fun a' w' hh => wpOps_of_plan rest a' w' hh.2) h
theorem wp_region_plain {q : Nat → Bool} {id : Nat} {a : Act} {w : World} (h : wpPlan P ops q T Q false (List.range ops.size) a w) : (Code.region id ops false).wp P Q a w :=
  wp_region (wpOps_of_plan _ a w h)
/-! ### A variable that is made at any time of the region: the plan makes it late; made early, the rest of the plan follows. -/
def planFromA (md : Region.Mode) (ops : Array Oper) (q : Nat → Bool) (T : Nat → Bool) (i0 : Nat) (ap : Nat → Bool) : List Nat → Array Bool → Bool
  | [], _ => false
  | i :: rest, listed =>
    if i = i0 then !T i0 && planFrom md ops q T (i :: rest) listed
    else ap i && ((q i && !T i && (Region.ready md ops listed).contains i && Region.free md ops listed i && planFromA md ops q T i0 ap rest (listed.setIfInBounds i true)) ||
      (!(q i && !T i) && !T i && (Region.ready md ops listed == [i, i0] || Region.ready md ops listed == [i0, i]) && planFromA md ops q T i0 ap rest (listed.setIfInBounds i true) &&
        ((i :: rest).erase i0).length == rest.length && (((i :: rest).erase i0).dropWhile fun i => !T i).all T && planFrom md ops q T ((i :: rest).erase i0) (listed.setIfInBounds i0 true)))
def planOKA (md : Region.Mode) (ops : Array Oper) (q : Nat → Bool) (T : Nat → Bool) (i0 : Nat) (ap : Nat → Bool) (plan : List Nat) : Bool :=
  Region.noSelect ops && plan.length == ops.size && (plan.dropWhile fun i => !T i).all T && planFromA md ops q T i0 ap plan (Array.replicate ops.size false) &&
    (List.range ops.size).all fun j => !T j || (List.range ops.size).all fun i => T i || !q i || (reach md ops ops.size j).contains i
def wpPlanA (P : Program) (ops : Array Oper) (q T : Nat → Bool) (Q : Exit → Act → World → Prop) (i0 : Nat) : List Nat → Act → World → Prop
  | [], _, _ => False
  | i :: rest, a, w =>
    if i = i0 then wpPlan P ops q T Q true (i :: rest) a w
    else if q i && !T i then ∃ o v, ops[i]? = some o ∧ YieldsE P ops w o v a ∧ wpPlanA P ops q T Q i0 rest (a.put o.dst v) w
    else wpOp P ops Q i (fun a' w' => (T i = false → Ext w w') ∧ wpPlanA P ops q T Q i0 rest a' w') a w ∧
      wpOp P ops Q i0 (fun a' w' => Ext w w' ∧ wpPlan P ops q T Q true ((i :: rest).erase i0) a' w') a w

theorem wpAnyE_of_planA {q : Nat → Bool} {i0 : Nat} {ap : Nat → Bool} (hs : Region.noSelect ops = true) (hQ : ∀ c a w, ¬ Q (.panic c) a w) (hT0 : T i0 = false)
    (hTq : ∀ j, j < ops.size → T j = true → ∀ i, i < ops.size → T i = false → q i = true → i ∈ reach md ops ops.size j) : ∀ (plan : List Nat) (listed : Array Bool) (a : Act) (w : World),
    (∃ l1 l2, plan = l1 ++ l2 ∧ (∀ i ∈ l1, T i = false) ∧ (∀ i ∈ l2, T i = true)) → Closed md ops listed →
    planFromA md ops q T i0 ap plan listed = true → wpPlanA P ops q T Q i0 plan a w → wpAnyE P md ops T Q plan.length listed a w
  | [], _, _, _, _, _, hp, _ => by simp [planFromA] at hp
  | i :: rest, listed, a, w, hsplit, hcl, hp, h => by
    simp only [planFromA] at hp
    simp only [wpPlanA] at h
    by_cases hi0 : i = i0
    · rw [if_pos hi0] at h hp
      simp only [Bool.and_eq_true] at hp
      exact wpAnyE_of_plan hs hQ hTq _ listed a w hsplit hcl hp.2 h
    · rw [if_neg hi0] at h hp
      simp only [Bool.and_eq_true, Bool.or_eq_true] at hp
      have hTi' : T i = false := by
        rcases hp.2 with hp | hp
        · simpa using hp.1.1.1.2
        · simpa using hp.1.1.1.1.1.2
      have hsplit' : ∃ l1 l2, rest = l1 ++ l2 ∧ (∀ i ∈ l1, T i = false) ∧ (∀ i ∈ l2, T i = true) := by
        obtain ⟨l1, l2, e, h1, h2⟩ := hsplit
        cases l1 with
        | nil => have := h2 i (by rw [List.nil_append] at e; rw [← e]; simp); rw [hTi'] at this; cases this
        | cons x l1 => simp only [List.cons_append, List.cons.injEq] at e; exact ⟨l1, l2, e.2, fun k hk => h1 k (by simp [hk]), h2⟩
      by_cases hqi : q i = true
      · simp only [hqi, hTi', Bool.not_false, Bool.and_true, if_true] at h
        obtain ⟨o, v, ho, hy, hrest⟩ := h
        have hlt : i < ops.size := (Array.getElem?_eq_some_iff.1 ho).1
        rcases hp.2 with hh | hh
        · have hr : i ∈ Region.ready md ops listed := by simpa using hh.1.1.2
          exact wpAnyE_first ho (Region.noSelect_spec hs) (fun c a w hq => (hQ _ _ _ hq).elim) (fun j hjl hj => hTq j hjl hj i hlt hTi' hqi) hTi' rest.length listed a w hcl
            (Region.free_spec ho hh.1.2) hr hy (wpAnyE_of_planA hs hQ hT0 hTq rest _ _ w hsplit' (closed_set hcl hr) hh.2 hrest)
        · simp [hqi, hTi'] at hh
      · have hqi' : q i = false := by simpa using hqi
        simp only [hqi', Bool.false_eq_true, false_and, false_or, Bool.false_and, if_false] at h hp
        obtain ⟨_, ⟨⟨⟨⟨⟨_, _⟩, hrd⟩, hpA⟩, hlen⟩, hsp⟩, hpB⟩ := hp
        simp only [beq_iff_eq] at hrd hlen
        have hmem : ∀ j, j ∈ Region.ready md ops listed ↔ j = i ∨ j = i0 := by
          intro j
          rcases hrd with hrd | hrd <;> rw [hrd] <;> simp [or_comm]
        refine ⟨fun h0 => ?_, fun j hj => ?_⟩
        · exfalso
          have := (hmem i).2 (.inl rfl)
          rw [h0] at this
          cases this
        · rcases (hmem j).1 hj with rfl | rfl
          · refine wpOp_mono (fun a' w' hh => ?_) h.1
            simp only [hTi', Bool.false_eq_true, if_false]
            exact ⟨hh.1 hTi', wpAnyE_of_planA hs hQ hT0 hTq rest _ a' w' hsplit' (closed_set hcl hj) hpA hh.2⟩
          · refine wpOp_mono (fun a' w' hh => ?_) h.2
            simp only [hT0, Bool.false_eq_true, if_false]
            refine ⟨hh.1, ?_⟩
            have := wpAnyE_of_plan hs hQ hTq _ _ a' w' (split_tail T _ hsp) (closed_set hcl hj) hpB hh.2
            rwa [hlen] at this
theorem planFromA_T {q : Nat → Bool} {i0 : Nat} {ap : Nat → Bool} : ∀ (plan : List Nat) (listed : Array Bool), planFromA md ops q T i0 ap plan listed = true → T i0 = false
  | [], _, h => by simp [planFromA] at h
  | i :: rest, listed, h => by
    simp only [planFromA] at h
    split at h
    · simp only [Bool.and_eq_true, Bool.not_eq_true'] at h; exact h.1
    · simp only [Bool.and_eq_true, Bool.or_eq_true] at h
      rcases h.2 with h | h
      · exact planFromA_T rest _ h.2
      · exact planFromA_T rest _ h.1.1.1.2
theorem wp_region_planA {q : Nat → Bool} {i0 : Nat} {ap : Nat → Bool} {plan : List Nat} {id : Nat} {a : Act} {w : World} (hm : P.follows .mixedOrders = true) (hQ : ∀ c a w, ¬ Q (.panic c) a w)
    (hp : planOKA .any ops q T i0 ap plan = true) (h : wpPlanA P ops q T Q i0 plan a { w with drawn := w.drawn + 1 }) : (Code.region id ops true).wp P Q a w := by
  simp only [planOKA, Bool.and_eq_true, beq_iff_eq] at hp
  obtain ⟨⟨⟨⟨hs, hl⟩, hsp⟩, hf⟩, ht⟩ := hp
  refine wp_region_any hm (wpAny_of_E (T := T) _ _ _ _ ?_)
  rw [← hl]
  refine wpAnyE_of_planA hs hQ (planFromA_T _ _ hf) (fun j hjl hj i hi hTi hqi => ?_) plan _ _ _ (split_tail T plan hsp) (fun k o ho hk => ?_) (by rw [hl]; exact hf) h
  · have h1 := List.all_eq_true.1 ht j (by simpa using hjl)
    simp only [hj, Bool.not_true, Bool.false_or, List.all_eq_true, List.mem_range, Bool.or_eq_true, Bool.not_eq_true', List.contains_iff_mem] at h1
    rcases h1 i hi with (h2 | h2) | h2
    · rw [hTi] at h2; cases h2
    · rw [hqi] at h2; cases h2
    · exact h2
  · exfalso
    have hlt : k < ops.size := (Array.getElem?_eq_some_iff.1 ho).1
    simp [hl, hlt] at hk

/-- A slot that an operation neither reads nor writes. -/
theorem wpOp_put_right {j : Nat} {oi oj : Oper} {v : Value} (hj : ops[j]? = some oj) (hap : oi.apart ops oj = true) (hsj : ∀ cs b, oj.op ≠ .select cs b)
    (hQ : ∀ c a w, ¬ Q (.panic c) a w) {K : Act → World → Prop} {a : Act} {w : World} (h : wpOp P ops Q j K a w) :
    wpOp P ops Q j (fun a' w' => ∃ a0, a' = a0.put oi.dst v ∧ K a0 w') (a.put oi.dst v) w := by
  obtain ⟨h1, h2, h3⟩ := Oper.apart_spec hap
  unfold wpOp at *
  simp only [hj] at *
  rw [wanted_put oj a oi.dst v h1]
  split
  · rename_i hw
    simp only [hw, if_true] at h
    rcases h with h | ⟨hasks, hlets⟩
    case inr => exact .inr ⟨by unfold Oper.asks at *; rw [execOp_put oj hsj a oi.dst v h1]; exact hasks, hlets⟩
    refine .inl ?_
    unfold Oper.wp at *
    rw [execOp_put oj hsj a oi.dst v h1]
    generalize (execOp a.eval oj).run P w = r at *
    cases r with
    | ok n w' =>
      cases n <;> simp only [Oper.upon] at h ⊢
      case value u => exact ⟨_, Act.put_comm a v u h2, h⟩
      case skip => exact ⟨_, Act.put_comm a v undef h2, h⟩
      case defer d =>
        refine ⟨_, ?_, h⟩
        rw [← Act.put_comm _ v undef h2]
        cases oi.dst <;> cases oj.dst <;> rfl
      case enter f args =>
        refine Calls.mono h fun e w'' he => ?_
        cases e with
        | returned u => exact ⟨_, Act.put_comm a v u h2, he⟩
        | panicked c => exact (hQ _ _ _ he).elim
        | outgrown => exact he
      case row row args => exact Rows.mono h fun u w'' he => ⟨_, Act.put_comm a v u h2, he⟩
    | halt x w' =>
      cases x <;> simp only [Oper.upon] at h ⊢
      case panic u => exact (hQ _ _ _ h).elim
  · rename_i hw
    simp only [hw] at h
    exact ⟨_, Act.put_comm a v undef h2, h⟩
end
end Go.Proofs.Ytlakekoekilbaaa.Vc
