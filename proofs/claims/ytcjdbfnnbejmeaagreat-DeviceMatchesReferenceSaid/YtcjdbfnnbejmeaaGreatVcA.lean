/- Plain lemmas of our own, no statement of the seat: a region that draws its order may be walked in one planned order, where all that is unordered only reads or makes memory. -/
import Derived.WalkKit
namespace Go.Proofs.YtcjdbfnnbejmeaaGreat.Vc
set_option linter.unusedSimpArgs false
set_option linter.unusedVariables false
open Go.RowKit

/-- What was there is as it was. -/
structure Ext (w w' : World) : Prop where
  os : w'.os = w.os
  tape : w'.tape = w.tape
  output : w'.output = w.output
  size : w.heap.size ≤ w'.heap.size
  block : ∀ k, k < w.heap.size → w'.heap[k]? = w.heap[k]?
  drawn : w.drawn ≤ w'.drawn
theorem Ext.refl (w : World) : Ext w w := ⟨rfl, rfl, rfl, Nat.le_refl _, fun _ _ => rfl, Nat.le_refl _⟩
theorem Ext.tr {a b c : World} (h : Ext a b) (k : Ext b c) : Ext a c :=
  ⟨k.os.trans h.os, k.tape.trans h.tape, k.output.trans h.output, Nat.le_trans h.size k.size, fun i hi => (k.block i (Nat.lt_of_lt_of_le hi h.size)).trans (h.block i hi), Nat.le_trans h.drawn k.drawn⟩
theorem Ext.below {a b : World} (h : Ext a b) : Below a.heap.size a b := ⟨h.os, h.tape, h.output, h.size, h.block⟩
theorem Ext.cell {w w' : World} (h : Ext w w') {p : Addr} (hp : p.block < w.heap.size) : w'.cell? p = w.cell? p := World.cell?_of_block (h.block _ hp)
/-- What was there, but for one block, is as it was. -/
structure Grown (w w' : World) (row : Option Nat) : Prop where
  os : w'.os = w.os
  tape : w'.tape = w.tape
  output : w'.output = w.output
  size : w.heap.size ≤ w'.heap.size
  block : ∀ k, k < w.heap.size → some k ≠ row → w'.heap[k]? = w.heap[k]?
  drawn : w.drawn ≤ w'.drawn
/-- What was there, but for g, is as it was. -/
structure KeptG (g : Nat → Prop) (a w : World) : Prop where
  os : w.os = a.os
  tape : w.tape = a.tape
  output : w.output = a.output
  size : a.heap.size ≤ w.heap.size
  block : ∀ k, k < a.heap.size → ¬ g k → w.heap[k]? = a.heap[k]?
  drawn : a.drawn ≤ w.drawn

section
variable {P : Program} {ops : Array Oper} {Q : Exit → Act → World → Prop} {md : Region.Mode} {T : Nat → Bool}

/-- The operation yields 'v' in every world that keeps what 'wb' held, but for the blocks K; a pure one in every world. -/
def YieldsK (P : Program) (ops : Array Oper) (pure : Bool) (K : Nat → Prop) (wb : World) (o : Oper) (v : Value) (a : Act) : Prop :=
  (Region.wanted o (yielded ops a.tmps) = true ∧ ∀ w', (pure = true ∨ KeptG K wb w') → (execOp a.eval o).run P w' = .ok (.value v) w') ∨
  (Region.wanted o (yielded ops a.tmps) = false ∧ v = undef)
variable {pure : Bool} {KK : Nat → Prop}
theorem YieldsK.of_same {o : Oper} {v : Value} {a a' : Act} {w : World} (hy : YieldsK P ops pure KK w o v a) (he : execOp a'.eval o = execOp a.eval o)
    (hw : Region.wanted o (yielded ops a'.tmps) = Region.wanted o (yielded ops a.tmps)) : YieldsK P ops pure KK w o v a' := by
  unfold YieldsK at *
  rw [he, hw]
  exact hy
theorem YieldsK.wpOp {i : Nat} {o : Oper} {v : Value} {a : Act} {wb w : World} (hi : ops[i]? = some o) (hy : YieldsK P ops pure KK wb o v a) (hw : pure = true ∨ KeptG KK wb w)
    {K : Act → World → Prop} (h : K (a.put o.dst v) w) : wpOp P ops Q i K a w := by
  unfold Go.wpOp
  simp only [hi]
  rcases hy with ⟨hw', hv⟩ | ⟨hw', rfl⟩
  · simp only [hw', if_true, Oper.wp, hv w hw, Oper.upon]; exact .inl h
  · simp only [hw', Bool.false_eq_true, if_false]; exact h

theorem wpOp_putE {j : Nat} {oi oj : Oper} {v : Value} (hj : ops[j]? = some oj) (hap : oi.apart ops oj = true)
    (hsi : ∀ cs b, oi.op ≠ .select cs b) (hsj : ∀ cs b, oj.op ≠ .select cs b)
    (hQ : ∀ c a w, ¬ Q (.panic c) a w) {K : Act → World → Prop} {a : Act} {w w1 : World}
    (hy : YieldsK P ops pure KK w1 oi v a) (h : wpOp P ops Q j K (a.put oi.dst v) w) :
    wpOp P ops Q j (fun a' w' => YieldsK P ops pure KK w1 oi v a' ∧ K (a'.put oi.dst v) w') a w := by
  obtain ⟨h1, h2, h3⟩ := Oper.apart_spec hap
  have keep : ∀ (a : Act), YieldsK P ops pure KK w1 oi v a → ∀ u, YieldsK P ops pure KK w1 oi v (a.put oj.dst u) := fun a hy u =>
    hy.of_same (execOp_put oi hsi a oj.dst u h3) (wanted_put oi a oj.dst u h3)
  have keepD : ∀ d, YieldsK P ops pure KK w1 oi v { a with defers := d :: a.defers } := fun d => hy.of_same rfl rfl
  unfold wpOp at *
  simp only [hj] at *
  rw [wanted_put oj a oi.dst v h1] at h
  split
  · rename_i hw
    simp only [hw, if_true] at h
    rcases h with h | ⟨hasks, hlets⟩
    case inr => exact .inr ⟨by unfold Oper.asks at *; rw [execOp_put oj hsj a oi.dst v h1] at hasks; exact hasks, hlets⟩
    refine .inl ?_
    unfold Oper.wp at *
    rw [execOp_put oj hsj a oi.dst v h1] at h
    generalize (execOp a.eval oj).run P w = r at *
    cases r with
    | ok n w' =>
      cases n <;> simp only [Oper.upon] at h ⊢
      case value u => exact ⟨keep a hy u, by rw [← Act.put_comm a v u h2]; exact h⟩
      case skip => exact ⟨keep a hy _, by rw [← Act.put_comm a v undef h2]; exact h⟩
      case defer d =>
        refine ⟨keep _ (keepD d) _, ?_⟩
        rw [← Act.put_comm _ v undef h2, ← Act.put_defers]
        exact h
      case enter f args =>
        refine Calls.mono h fun e w'' he => ?_
        cases e with
        | returned u => exact ⟨keep a hy u, by rw [← Act.put_comm a v u h2]; exact he⟩
        | panicked c => exact (hQ _ _ _ he).elim
        | outgrown => exact he
      case row row args => exact Rows.mono h fun u w'' he => ⟨keep a hy u, by rw [← Act.put_comm a v u h2]; exact he⟩
    | halt x w' =>
      cases x <;> simp only [Oper.upon] at h ⊢
      case panic u => exact (hQ _ _ _ h).elim
  · rename_i hw
    simp only [hw] at h
    exact ⟨keep a hy _, by rw [← Act.put_comm a v undef h2]; exact h⟩

/-- Whatever order: the operations outside the tail T keep what the bases Φ name. -/
def wpAnyF (P : Program) (md : Region.Mode) (ops : Array Oper) (T : Nat → Bool) (Q : Exit → Act → World → Prop) (Φ : List ((Nat → Prop) × World)) : Nat → Array Bool → Act → World → Prop
  | 0, listed, a, w => Region.ready md ops listed = [] ∧ Q .normal a w
  | fuel + 1, listed, a, w =>
    (Region.ready md ops listed = [] → Q .normal a w) ∧
    ∀ i ∈ Region.ready md ops listed, wpOp P ops Q i (fun a' w' => (T i = false → ∀ p ∈ Φ, KeptG p.1 p.2 w → KeptG p.1 p.2 w') ∧ wpAnyF P md ops T Q Φ fuel (listed.setIfInBounds i true) a' w') a w
theorem wpAny_of_F {Φ : List ((Nat → Prop) × World)} : ∀ (fuel : Nat) (listed : Array Bool) (a : Act) (w : World), wpAnyF P md ops T Q Φ fuel listed a w → wpAny P md ops Q fuel listed a w
  | 0, _, _, _, h => h
  | fuel + 1, _, _, _, h => ⟨h.1, fun i hi => wpOp_mono (fun a' w' hh => wpAny_of_F fuel _ a' w' hh.2) (h.2 i hi)⟩
theorem wpAnyF_mono {Φ Φ' : List ((Nat → Prop) × World)} (hs : ∀ p ∈ Φ, p ∈ Φ') : ∀ (fuel : Nat) (listed : Array Bool) (a : Act) (w : World), wpAnyF P md ops T Q Φ' fuel listed a w → wpAnyF P md ops T Q Φ fuel listed a w
  | 0, _, _, _, h => h
  | fuel + 1, _, _, _, h => ⟨h.1, fun i hi => wpOp_mono (fun a' w' hh => ⟨fun ht p hp => hh.1 ht p (hs p hp), wpAnyF_mono hs fuel _ a' w' hh.2⟩) (h.2 i hi)⟩

/-- j waits for i: by an edge, or by several. -/
def waitsN (md : Region.Mode) (ops : Array Oper) : Nat → Nat → Nat → Bool
  | 0, _, _ => false
  | n + 1, j, i => match ops[j]? with
    | none => false
    | some o => (o.after.toList.any fun e => Region.binds md e && e.on == i) || o.after.toList.any fun e => Region.binds md e && (Nat.blt i e.on && waitsN md ops n e.on i)
def waits (md : Region.Mode) (ops : Array Oper) (j i : Nat) : Bool := waitsN md ops 8 j i
/-- What is listed is closed under the edges. -/
def Closed (md : Region.Mode) (ops : Array Oper) (listed : Array Bool) : Prop :=
  ∀ k o, ops[k]? = some o → listed.getD k false = true → ∀ e ∈ o.after, Region.binds md e = true → listed.getD e.on false = true
theorem getD_true_of {listed : Array Bool} {i : Nat} (h : listed.getD i false = true) : listed.getD i true = true := by
  rcases Nat.lt_or_ge i listed.size with h' | h'
  · simpa [h'] using h
  · simp [Array.getElem?_eq_none h']
theorem not_unlisted {listed : Array Bool} {i : Nat} (h : listed.getD i false = true) (h0 : listed.getD i true = false) : False := by
  rw [getD_true_of h] at h0; cases h0
theorem waitsN_listed {listed : Array Bool} (hc : Closed md ops listed) {i : Nat} : ∀ (n j : Nat), waitsN md ops n j i = true → listed.getD j false = true → listed.getD i false = true
  | 0, _, h, _ => by simp [waitsN] at h
  | n + 1, j, hw, hj => by
    unfold waitsN at hw
    cases ho : ops[j]? with
    | none => simp [ho] at hw
    | some o =>
      simp only [ho, List.any_eq_true, Bool.and_eq_true, Bool.or_eq_true, beq_iff_eq] at hw
      rcases hw with ⟨e, he, hb, rfl⟩ | ⟨e, he, hb, _, h⟩
      · exact hc j o ho hj e (by simpa using he) hb
      · exact waitsN_listed hc n e.on h (hc j o ho hj e (by simpa using he) hb)
theorem waits_listed {listed : Array Bool} (hc : Closed md ops listed) {i j : Nat} (hw : waits md ops j i = true) (hj : listed.getD j false = true) : listed.getD i false = true := waitsN_listed hc _ _ hw hj
theorem waits_ready {listed : Array Bool} (hc : Closed md ops listed) {i j : Nat} (hw : waits md ops j i = true) (hj : j ∈ Region.ready md ops listed) : listed.getD i false = true := by
  obtain ⟨_, o, ho, hall⟩ := mem_ready.1 hj
  unfold waits waitsN at hw
  simp only [ho, List.any_eq_true, Bool.and_eq_true, Bool.or_eq_true, beq_iff_eq] at hw
  rcases hw with ⟨e, he, hb, rfl⟩ | ⟨e, he, hb, _, h⟩
  · exact hall e (by simpa using he) hb
  · exact waitsN_listed hc _ e.on h (hall e (by simpa using he) hb)
theorem closed_set {listed : Array Bool} {j : Nat} (hc : Closed md ops listed) (hj : j ∈ Region.ready md ops listed) : Closed md ops (listed.setIfInBounds j true) := by
  intro k o ho hk e he hb
  by_cases hkj : j = k
  · subst hkj
    obtain ⟨_, o', ho', hall⟩ := mem_ready.1 hj
    rw [ho] at ho'
    cases ho'
    exact getD_set_true (hall e he hb)
  · rw [getD_set_ne false hkj] at hk
    exact getD_set_true (hc k o ho hk e he hb)

theorem wpAnyF_first {Φ : List ((Nat → Prop) × World)} {i : Nat} {oi : Oper} {v : Value} {p : (Nat → Prop) × World} (hi : ops[i]? = some oi) (hsel : ∀ (j : Nat) (o : Oper) cs b, ops[j]? = some o → o.op ≠ .select cs b)
    (hQ : ∀ c a w, ¬ Q (.panic c) a w) (hp : p ∈ Φ) (hTi : T i = false) :
    ∀ (fuel : Nat) (listed : Array Bool) (a : Act) (w : World), Closed md ops listed → (pure = true ∨ ∀ j, listed.getD j true = false → T j = true → waits md ops j i = true) →
      (∀ j oj, ops[j]? = some oj → j ≠ i → listed.getD j true = false → (∀ e ∈ oj.after, Region.binds md e = true → e.on ≠ i) → oi.apart ops oj = true) →
      i ∈ Region.ready md ops listed → (pure = true ∨ KeptG p.1 p.2 w) → YieldsK P ops pure p.1 p.2 oi v a →
      wpAnyF P md ops T Q Φ fuel (listed.setIfInBounds i true) (a.put oi.dst v) w → wpAnyF P md ops T Q Φ (fuel + 1) listed a w := by
  intro fuel
  induction fuel with
  | zero =>
    intro listed a w _ _ _ hr hk hy H
    refine ⟨fun h => (by rw [h] at hr; cases hr), fun j hj => ?_⟩
    by_cases hji : j = i
    · subst hji; exact hy.wpOp hi hk ⟨fun _ _ _ h => h, H⟩
    · have := ready_mono hj hji
      rw [H.1] at this
      cases this
  | succ fuel ih =>
    intro listed a w hcl hT hfree hr hk hy H
    refine ⟨fun h => (by rw [h] at hr; cases hr), fun j hj => ?_⟩
    by_cases hji : j = i
    · subst hji; exact hy.wpOp hi hk ⟨fun _ _ _ h => h, H⟩
    · have h1 := H.2 j (ready_mono hj hji)
      obtain ⟨hjun, oj, hoj, hall⟩ := mem_ready.1 hj
      have hiun := (mem_ready.1 hr).1
      have hnot : ∀ e ∈ oj.after, Region.binds md e = true → e.on ≠ i := fun e he hb heq => by
        have h1 := hall e he hb
        rw [heq] at h1
        exact not_unlisted h1 hiun
      have hTj : pure = true ∨ T j = false := by
        rcases hT with hT | hT
        · exact .inl hT
        · cases hT' : T j with
          | false => exact .inr rfl
          | true => exact (not_unlisted (waits_ready hcl (hT j hjun hT') hj) hiun).elim
      have h2 := wpOp_putE hoj (hfree j oj hoj hji hjun hnot) (fun cs b => hsel i oi cs b hi) (fun cs b => hsel j oj cs b hoj) hQ hy h1
      have hstill : ∀ k, (listed.setIfInBounds j true).getD k true = false → listed.getD k true = false := fun k hun => by
        by_cases hjk : j = k
        · subst hjk; exact hjun
        · rw [getD_set_ne true hjk] at hun; exact hun
      refine wpOp_mono (fun a' w' h3 => ?_) h2
      refine ⟨h3.2.1, ih (listed.setIfInBounds j true) a' w' (closed_set hcl hj) ?_ (fun k ok hk hki hun hno => hfree k ok hk hki (hstill k hun) hno) (ready_mono hr (Ne.symm hji)) ?_ h3.1 ?_⟩
      · rcases hT with hT | hT
        · exact .inl hT
        · exact .inr fun k hk ht => hT k (hstill k hk) ht
      · rcases hTj with h | h
        · exact .inl h
        · rcases hk with hk | hk
          · exact .inl hk
          · exact .inr (h3.2.1 h p hp hk)
      · rw [Array.setIfInBounds_comm _ _ hji]
        exact h3.2.2

/-- A slot that an operation neither reads nor writes. -/
theorem wpOp_put_right {j : Nat} {oi oj : Oper} {v : Value} (hj : ops[j]? = some oj) (hap : oi.apart ops oj = true) (hsj : ∀ cs b, oj.op ≠ .select cs b)
    (hQ : ∀ c a w, ¬ Q (.panic c) a w) {K : Act → World → Prop} {a : Act} {w : World} (h : wpOp P ops Q j K a w) :
    wpOp P ops Q j (fun a' w' => ∃ a0, a' = a0.put oi.dst v ∧ K a0 w') (a.put oi.dst v) w := by
  obtain ⟨h1, h2, h3⟩ := Oper.apart_spec hap
  unfold wpOp at *
  simp only [hj] at *
  rw [wanted_put oj a oi.dst v h1]
  split
  · rename_i hw
    simp only [hw, if_true] at h
    rcases h with h | ⟨hasks, hlets⟩
    case inr => exact .inr ⟨by unfold Oper.asks at *; rw [execOp_put oj hsj a oi.dst v h1]; exact hasks, hlets⟩
    refine .inl ?_
    unfold Oper.wp at *
    rw [execOp_put oj hsj a oi.dst v h1]
    generalize (execOp a.eval oj).run P w = r at *
    cases r with
    | ok n w' =>
      cases n <;> simp only [Oper.upon] at h ⊢
      case value u => exact ⟨_, Act.put_comm a v u h2, h⟩
      case skip => exact ⟨_, Act.put_comm a v undef h2, h⟩
      case defer d =>
        refine ⟨_, ?_, h⟩
        rw [← Act.put_comm _ v undef h2]
        cases oi.dst <;> cases oj.dst <;> rfl
      case enter f args =>
        refine Calls.mono h fun e w'' he => ?_
        cases e with
        | returned u => exact ⟨_, Act.put_comm a v u h2, he⟩
        | panicked c => exact (hQ _ _ _ he).elim
        | outgrown => exact he
      case row row args => exact Rows.mono h fun u w'' he => ⟨_, Act.put_comm a v u h2, he⟩
    | halt x w' =>
      cases x <;> simp only [Oper.upon] at h ⊢
      case panic u => exact (hQ _ _ _ h).elim
  · rename_i hw
    simp only [hw] at h
    exact ⟨_, Act.put_comm a v undef h2, h⟩
end
end Go.Proofs.YtcjdbfnnbejmeaaGreat.Vc
