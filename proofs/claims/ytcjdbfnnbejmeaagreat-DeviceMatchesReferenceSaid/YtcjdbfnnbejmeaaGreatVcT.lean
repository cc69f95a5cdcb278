/- Plain lemmas of our own, no statement of the seat: a region whose order is open. -/
import Derived.Test.YtcjdbfnnbejmeaaGreatVcG
namespace Go.Proofs.YtcjdbfnnbejmeaaGreat.Vc
set_option linter.unusedSimpArgs false
set_option linter.unusedVariables false
open Go.RowKit
section
variable {md : Bool} {ds : List Deferred} {P : Program} {X : Ctx} {β κ : Nat → Nat} {s : St} {tm : Array Value} {w w' : World}

/-! ### The same state, seen from a later world -/
theorem Rel.rebase (h : Rel X β κ s tm w) : Rel { X with w0 := w, g := X.own } β κ s tm w :=
  { h with
    below := KeptG.refl _ _
    blk := fun j b hj => (h.blk j b hj).own fun _ ho => .inr ho
    ro := fun a v ha => by
      obtain ⟨g1, g2, g3⟩ := h.ro a v ha
      exact ⟨g1, g2.imp id fun hh => ⟨.inr hh.1, hh.2⟩, g3⟩
    kept := fun p hp => by
      obtain ⟨g1, g2, g3⟩ := h.kept p hp
      exact ⟨g1, .inr g2, g3⟩
    shr := fun j b cap T sz cs hj => { h.shr j b cap T sz cs hj with base := .inr (h.shr j b cap T sz cs hj).base }
    own := fun j F hj => { h.own j F hj with own := fun a v hf => ⟨.inr ((h.own j F hj).own a v hf).1, ((h.own j F hj).own a v hf).2⟩ } }
theorem Rel.unbase (hw : KeptG X.g X.w0 w) (h : Rel { X with w0 := w, g := X.own } β κ s tm w') : Rel X β κ s tm w' := by
  have ho : ∀ k, Ctx.own { X with w0 := w, g := X.own } k → X.own k := fun k hk => hk.elim (fun h1 => .inl (Nat.le_trans hw.size h1)) id
  exact { h with
    below := hw.trans h.below fun k hk => hk
    blk := fun j b hj => (h.blk j b hj).own fun _ h1 => ho _ h1
    ro := fun a v ha => by
      obtain ⟨g1, g2, g3⟩ := h.ro a v ha
      exact ⟨g1, g2.imp id fun hh => ⟨ho _ hh.1, hh.2⟩, g3⟩
    kept := fun p hp => by
      obtain ⟨g1, g2, g3⟩ := h.kept p hp
      exact ⟨g1, ho _ g2, g3⟩
    shr := fun j b cap T sz cs hj => { h.shr j b cap T sz cs hj with base := ho _ (h.shr j b cap T sz cs hj).base }
    own := fun j F hj => { h.own j F hj with own := fun a v hf => ⟨ho _ ((h.own j F hj).own a v hf).1, ((h.own j F hj).own a v hf).2⟩ } }
theorem step_soundM {n : Nat} {ops : Array Oper} (hn : X.n = n) {i : Nat} {x : VStep} (hx : compStep P md n ops i = some x) {K : St → Prop}
    (h : Rel X β κ s tm w) (hk : vcSteps ⟨P, X.ng⟩ [x] s K) :
    ∃ (o : Oper) (vo : VOp), ops[i]? = some o ∧ compOp P md o = some vo ∧
      (vo.quiet = true → ∃ s' v, YieldsK P ops vo.pure X.kp w o v ⟨tm, ds⟩ ∧ Rel X β κ s' (setD tm o.dst v) w ∧ K s') ∧
      ∀ Q, wpOp P ops Q i (fun a' w' => ∃ β' κ' s' v, a' = ⟨setD tm o.dst v, ds⟩ ∧ (vo.tail = false → Ext w w') ∧ w.heap.size ≤ w'.heap.size ∧ Rel X β' κ' s' (setD tm o.dst v) w' ∧ K s') ⟨tm, ds⟩ w := by
  obtain ⟨o, vo, ho, hvo, h1, h2⟩ := step_sound (X := { X with w0 := w, g := X.own }) hn hx h.rebase hk
  refine ⟨o, vo, ho, hvo, fun hq => ?_, fun Q => wpOp_mono (fun a' w' hh => ?_) (h2 Q)⟩
  · obtain ⟨s', v, hy, hr, hk'⟩ := h1 hq
    exact ⟨s', v, hy, hr.unbase h.below, hk'⟩
  · obtain ⟨β', κ', s', v, rfl, hext, hr, hk'⟩ := hh
    exact ⟨β', κ', s', v, rfl, hext, hr.below.size, hr.unbase h.below, hk'⟩

/-! ### Variables that the run has made and the plan has not -/
theorem Rel.keepSub {l l' : List (Nat × Array Value × TypeId)} (hs : ∀ p ∈ l', p ∈ l) (h : Rel { X with keep := l } β κ s tm w) : Rel { X with keep := l' } β κ s tm w :=
  { h with
    kept := fun p hp => h.kept p (hs p hp)
    shr := fun j b cap T sz cs hj => { h.shr j b cap T sz cs hj with kept := fun p hp => (h.shr j b cap T sz cs hj).kept p (hs p hp) }
    own := fun j F hj => { h.own j F hj with kept := fun a v hf p hp => (h.own j F hj).kept a v hf p (hs p hp) } }
theorem Rel.keepNew {l : List (Nat × Array Value × TypeId)} (h : Rel { X with keep := l } β κ s tm w) (z : Array Value) (t : TypeId) : Rel { X with keep := (w.heap.size, z, t) :: l } β κ s tm (w.alloc (.cells z t)) :=
  { h.ext (ext_alloc w (.cells z t)) with
    kept := fun p hp => by
      rcases List.mem_cons.1 hp with rfl | hp
      · exact ⟨heap_new _ _, .inl h.below.size, h.fresh.1, h.fresh.2.1⟩
      · exact (h.ext (ext_alloc w (.cells z t))).kept p hp
    shr := fun j b cap T sz cs hj => { (h.ext (ext_alloc w (.cells z t))).shr j b cap T sz cs hj with
      kept := fun p hp => by
        rcases List.mem_cons.1 hp with rfl | hp
        · exact (h.fresh.2.2.2.1 j b cap T sz cs hj).symm
        · exact ((h.ext (ext_alloc w (.cells z t))).shr j b cap T sz cs hj).kept p hp }
    own := fun j F hj => { (h.ext (ext_alloc w (.cells z t))).own j F hj with
      kept := fun a v hf p hp => by
        rcases List.mem_cons.1 hp with rfl | hp
        · exact (h.fresh.2.2.2.2 j F hj a v hf).symm
        · exact ((h.ext (ext_alloc w (.cells z t))).own j F hj).kept a v hf p hp } }
theorem Rel.keepSet {l l' : List (Nat × Array Value × TypeId)} (h : Rel { X with keep := l } β κ s tm w) {b : Nat} {c c' : Array Value} {t : TypeId} (hm : (b, c, t) ∈ l) (hw : Grown w w' (some b))
    (hc : w'.heap[b]? = some (.cells c' t (0, 0))) (hl : ∀ p ∈ l', p = (b, c', t) ∨ (p ∈ l ∧ p.1 ≠ b)) : Rel { X with keep := l' } β κ s tm w' := by
  obtain ⟨k1, k2, k3, k4⟩ := h.kept _ hm
  simp only at k1 k2 k3 k4
  have hne : ∀ k, k < w.heap.size → k ≠ b → w'.heap[k]? = w.heap[k]? := fun k hk hkb => hw.block k hk (fun e => by simp only [Option.some.injEq] at e; first | exact hkb e | exact hkb e.symm)
  exact { h with
    below := h.below.grown hw k2
    blk := fun j b' hj => (h.blk j b' hj).heap fun hl => hne _ ((h.blk j b' hj).lt hl) (k3 j b' hj hl)
    ro := fun a v ha => by
      obtain ⟨g1, g2, g3⟩ := h.ro a v ha
      have e := hne _ (block_lt_of_cell g1) (k4 a v ha)
      exact ⟨by rw [World.cell?_of_block e]; exact g1, g2.imp id fun hh => ⟨hh.1, hh.2.of_eq e⟩, g3⟩
    kept := fun p hp => by
      rcases hl p hp with rfl | ⟨hp, hpb⟩
      · exact ⟨hc, k2, k3, k4⟩
      · obtain ⟨g1, g2⟩ := h.kept p hp
        exact ⟨by rw [hne _ (Array.getElem?_eq_some_iff.1 g1).1 hpb]; exact g1, g2⟩
    shr := fun j b' cap T sz cs hj => by
      have h1 := h.shr j b' cap T sz cs hj
      obtain ⟨arr, h2, h3⟩ := h1.heap
      have hb : b ≠ b' := h1.kept _ hm
      exact { h1 with
        heap := ⟨arr, by rw [hne _ (Array.getElem?_eq_some_iff.1 h2).1 (Ne.symm hb)]; exact h2, h3⟩
        kept := fun p hp => by
          rcases hl p hp with rfl | ⟨hp, _⟩
          · exact hb
          · exact h1.kept p hp }
    own := fun j F hj =>
      let h1 := h.own j F hj
      have e : ∀ a v, F a v → w'.heap[a.block]? = w.heap[a.block]? := fun a v hf => hne _ (h1.lt hf) fun e => h1.kept a v hf _ hm e.symm
      { cell := fun a v hf => by rw [World.cell?_of_block (e a v hf)]; exact h1.cell a v hf
        own := fun a v hf => ⟨(h1.own a v hf).1, (h1.own a v hf).2.of_eq (e a v hf)⟩
        apart := h1.apart
        ro := h1.ro
        shr := h1.shr
        kept := fun a v hf p hp => by
          rcases hl p hp with rfl | ⟨hp, _⟩
          · exact h1.kept a v hf (b, c, t) hm
          · exact h1.kept a v hf p hp
        one := h1.one } }
theorem Rel.keepUse {l l' : List (Nat × Array Value × TypeId)} (h : Rel { X with keep := l } β κ s tm w) {b : Nat} {c : Array Value} {t : TypeId} (hm : (b, c, t) ∈ l) (hs : ∀ p ∈ l', p ∈ l ∧ p.1 ≠ b)
    {cs : List SV} (hcs : ∀ x ∈ cs, SV.ok s.blk.length x = true) (hc : (cs.map (den β κ)).toArray = c) :
    Rel { X with keep := l' } (updN β s.blk.length b) (updN κ s.blk.length 0) { s with blk := s.blk ++ [.box cs] } tm w := by
  obtain ⟨g1, g2, g3, g4⟩ := h.kept _ hm
  refine (h.keepSub fun p hp => (hs p hp).1).grow (Ext.refl _) b 0 _ g3 g4 (fun p hp => (hs p hp).2) (fun j b' cap T sz cs hj => ((h.shr j b' cap T sz cs hj).kept _ hm).symm) (fun j F hj a v hf => ((h.own j F hj).kept a v hf _ hm).symm) rfl ⟨?_, fun x hx => ok_succ (hcs x hx), t, ?_⟩
  · simp only [updN, if_true]; exact g2
  · simp only [updN, if_true]
    subst hc
    rw [g1]
    show some (Obj.cells (cs.map (den β κ)).toArray t (0, 0)) = _
    congr 3
    exact List.map_congr_left fun x hx => (den_updN (hcs x hx)).symm

/-- A variable that the run has made, and perhaps filled, and the plan has not. -/
structure Pnd where
  i : Nat
  k : Option Nat
  d : Nat
  t : TypeId
  b : Nat
  c : Array Value
  st : Bool
def Pnd.kp (p : Pnd) : Nat × Array Value × TypeId := (p.b, p.c, p.t)
def Pnd.ptr (p : Pnd) : Value := .pointer (some ⟨p.b, 0, none⟩)
def putsP (a : Act) : List Pnd → Act
  | [] => a
  | p :: r => (putsP a r).put (some p.d) p.ptr
theorem put_puts (a : Act) (d : Option Tmp) (v : Value) : ∀ (l : List Pnd), (∀ p ∈ l, d ≠ some p.d) → (putsP a l).put d v = putsP (a.put d v) l
  | [], _ => rfl
  | p :: r, h => by
    simp only [putsP]
    rw [← put_puts a d v r fun q hq => h q (List.mem_cons_of_mem _ hq)]
    exact Act.put_comm _ _ _ fun e he hd => h p (by simp) (by simp only [Option.some.injEq] at he; rw [hd, he])
theorem puts_mid (a : Act) (p : Pnd) (l2 : List Pnd) : ∀ (l1 : List Pnd), (∀ q ∈ l1, q.d ≠ p.d) → putsP a (l1 ++ p :: l2) = (putsP a (l1 ++ l2)).put (some p.d) p.ptr
  | [], _ => rfl
  | q :: l1, h => by
    simp only [List.cons_append, putsP]
    rw [puts_mid a p l2 l1 fun q' hq => h q' (List.mem_cons_of_mem _ hq)]
    refine Act.put_comm _ _ _ fun e he hd => h q (by simp) ?_
    simp only [Option.some.injEq] at he hd
    rw [hd, he]
theorem puts_defers (a : Act) : ∀ (l : List Pnd), (putsP a l).defers = a.defers
  | [] => rfl
  | p :: r => by simp only [putsP]; rw [← puts_defers a r]; rfl
theorem eval_puts (a : Act) (x : Operand) : ∀ (l : List Pnd), (∀ p ∈ l, tmpIs x p.d = false) → (putsP a l).eval x = a.eval x
  | [], _ => rfl
  | p :: r, h => by
    simp only [putsP]
    rw [Act.eval_put fun d hd hx => ?_]
    · exact eval_puts a x r fun q hq => h q (List.mem_cons_of_mem _ hq)
    · have := h p (by simp)
      subst hx
      simp only [Option.some.injEq] at hd
      subst hd
      simp [tmpIs] at this
theorem size_puts (a : Act) : ∀ (l : List Pnd), (putsP a l).tmps.size = a.tmps.size
  | [] => rfl
  | p :: r => by simp only [putsP]; rw [← size_puts a r]; simp [Act.put]
theorem eval_put_self (a : Act) {d : Nat} (v : Value) (h : d < a.tmps.size) : (a.put (some d) v).eval (.tmp d) = v := by
  simp [Act.put, Act.eval, h]
/-- Whether a call may be handed blocks says nothing of what the operation is. -/
theorem compOp_md {o : Oper} {vo : VOp} (h : compOp P md o = some vo) : ∃ vo', compOp P false o = some vo' ∧ vo'.quiet = vo.quiet ∧ vo'.pure = vo.pure := by
  obtain ⟨dst, op, type, pos, after, guard⟩ := o
  cases op
  case call c =>
    obtain ⟨callee, args, argTypes⟩ := c
    cases callee with
    | value x =>
      cases x with
      | func f =>
        simp only [compOp] at h ⊢
        split at h
        · rename_i hb
          simp only [Option.some.injEq] at h
          subst h
          first | exact ⟨_, rfl, rfl, rfl⟩ | (rw [if_pos hb]; exact ⟨_, rfl, rfl, rfl⟩)
        · cases h
      | _ => exact ⟨vo, h, rfl, rfl⟩
    | builtin b => cases b <;> exact ⟨vo, h, rfl, rfl⟩
    | _ => exact ⟨vo, h, rfl, rfl⟩
  case makeFunc fn first captured =>
    cases fn <;> cases first <;> first | exact ⟨vo, h, rfl, rfl⟩ | (rename_i a; cases a <;> exact ⟨vo, h, rfl, rfl⟩) | (rename_i a b; cases a <;> cases b <;> exact ⟨vo, h, rfl, rfl⟩)
  case makeMap t reserve => cases reserve <;> exact ⟨vo, h, rfl, rfl⟩
  case slice xt x lo hi mx => cases mx <;> cases hi <;> exact ⟨vo, h, rfl, rfl⟩
  case next it s => cases s <;> exact ⟨vo, h, rfl, rfl⟩
  all_goals exact ⟨vo, h, rfl, rfl⟩
theorem compOp_alloc {o : Oper} {t : TypeId} (h1 : o.op = .alloc t) : compOp P md o = compOp P false o := by
  obtain ⟨dst, op, type, pos, after, guard⟩ := o
  simp only at h1
  subst h1
  rfl
theorem isAlloc_spec {o : Oper} {d : Nat} {z : List Value} {t : TypeId} (h : isAlloc P o = some (d, z, t)) :
    o.op = .alloc t ∧ o.guard = none ∧ o.dst = some d ∧ compOp P false o = some (.alloc z) := by
  unfold isAlloc at h
  split at h
  · rename_i t' d' h1 h2 h3
    split at h
    · rename_i z' hz
      simp only [Option.some.injEq, Prod.mk.injEq] at h
      obtain ⟨rfl, rfl, rfl⟩ := h
      exact ⟨h1, h2, h3, hz⟩
    · cases h
  · cases h
theorem alloc_run {o : Oper} {z : List Value} {t : TypeId} (h1 : o.op = .alloc t) (hz : compOp P false o = some (.alloc z)) (a : Act) (w : World) :
    (execOp a.eval o).run P w = .ok (.value (.pointer (some ⟨w.heap.size, 0, none⟩))) (w.alloc (.cells z.toArray t)) := by
  obtain ⟨dst, op, type, pos, after, guard⟩ := o
  simp only at h1
  subst h1
  simp only [compOp] at hz
  split at hz
  · rename_i inf hinf
    obtain ⟨z', hz', e⟩ := Option.map_eq_some_iff.1 hz
    simp only [VOp.alloc.injEq] at e
    subst e
    simp only [execOp, Instr.alloc, zeroValue, Sem.run_bind, run_typeInfo' hinf, hz', Result.andThen_ok, Sem.run_pure, newVar, newRow, run_newObj, Array.toArray_toList]; rfl
  · cases hz
theorem allocOf_spec {ops : Array Oper} {i d : Nat} {z : List Value} {t : TypeId} (h : allocOf P ops i = some (d, z, t)) : ∃ o, ops[i]? = some o ∧ o.op = .alloc t ∧ o.guard = none ∧ o.dst = some d ∧ compOp P false o = some (.alloc z) := by
  unfold allocOf at h
  obtain ⟨o, ho, h1⟩ := Option.bind_eq_some_iff.1 h
  exact ⟨o, ho, isAlloc_spec h1⟩
theorem storeOf_spec {ops : Array Oper} {k d m : Nat} {v : Operand} (h : storeOf P ops k = some (d, m, v)) : ∃ o t inf, ops[k]? = some o ∧ o.op = .store t (.tmp d) v ∧ o.guard = none ∧ o.dst = none ∧ P.info? t = some inf ∧ inf.size = m := by
  unfold storeOf at h
  obtain ⟨o, ho, h1⟩ := Option.bind_eq_some_iff.1 h
  unfold storeInfo at h1
  split at h1
  · rename_i t' d' v' g1 g2 g3
    split at h1
    · rename_i inf hi
      simp only [Option.some.injEq, Prod.mk.injEq] at h1
      obtain ⟨rfl, rfl, rfl⟩ := h1
      exact ⟨o, t', inf, ho, g1, g2, g3, hi, rfl⟩
    · cases h1
  · cases h1
theorem mem_lz {j : Nat} : ∀ {l : List (Nat × Option Nat)}, j ∈ lz l ↔ ∃ p ∈ l, p.1 = j ∨ p.2 = some j
  | [] => by simp [lz]
  | (i, none) :: r => by
    simp only [lz, List.mem_cons, mem_lz (l := r)]
    constructor
    · rintro (rfl | ⟨p, hp, h⟩)
      · exact ⟨_, .inl rfl, .inl rfl⟩
      · exact ⟨p, .inr hp, h⟩
    · rintro ⟨p, rfl | hp, h⟩
      · rcases h with h | h
        · exact .inl h.symm
        · cases h
      · exact .inr ⟨p, hp, h⟩
  | (i, some k) :: r => by
    simp only [lz, List.mem_cons, mem_lz (l := r)]
    constructor
    · rintro (rfl | rfl | ⟨p, hp, h⟩)
      · exact ⟨_, .inl rfl, .inl rfl⟩
      · exact ⟨_, .inl rfl, .inr rfl⟩
      · exact ⟨p, .inr hp, h⟩
    · rintro ⟨p, rfl | hp, h⟩
      · rcases h with h | h
        · exact .inl h.symm
        · simp only [Option.some.injEq] at h; exact .inr (.inl h.symm)
      · exact .inr (.inr ⟨p, hp, h⟩)
theorem lz_tail {p : Nat × Option Nat} {r : List (Nat × Option Nat)} (h : (lz (p :: r)).Nodup) : (lz r).Nodup := by
  obtain ⟨i, k⟩ := p
  cases k with
  | none => exact (List.nodup_cons.1 h).2
  | some k => exact (List.nodup_cons.1 (List.nodup_cons.1 h).2).2
theorem lz_head {p : Nat × Option Nat} {r : List (Nat × Option Nat)} (h : (lz (p :: r)).Nodup) {j : Nat} (hj : p.1 = j ∨ p.2 = some j) : j ∉ lz r := by
  obtain ⟨i, k⟩ := p
  cases k with
  | none =>
    rcases hj with rfl | hj
    · exact (List.nodup_cons.1 h).1
    · cases hj
  | some k =>
    have h1 := List.nodup_cons.1 h
    rcases hj with rfl | hj
    · exact fun hh => h1.1 (List.mem_cons_of_mem _ hh)
    · simp only [Option.some.injEq] at hj
      subst hj
      exact (List.nodup_cons.1 h1.2).1
theorem lz_inj {j : Nat} : ∀ {l : List (Nat × Option Nat)}, (lz l).Nodup → ∀ {p q}, p ∈ l → q ∈ l → (p.1 = j ∨ p.2 = some j) → (q.1 = j ∨ q.2 = some j) → p = q
  | [], _, _, _, h, _, _, _ => by cases h
  | x :: r, hn, p, q, hp, hq, h1, h2 => by
    rcases List.mem_cons.1 hp with rfl | hp'
    · rcases List.mem_cons.1 hq with rfl | hq'
      · rfl
      · exact (lz_head hn h1 (mem_lz.2 ⟨q, hq', h2⟩)).elim
    · rcases List.mem_cons.1 hq with rfl | hq'
      · exact (lz_head hn h2 (mem_lz.2 ⟨p, hp', h1⟩)).elim
      · exact lz_inj (lz_tail hn) hp' hq' h1 h2
theorem lz_ne {i k : Nat} : ∀ {l : List (Nat × Option Nat)}, (lz l).Nodup → (i, some k) ∈ l → i ≠ k
  | x :: r, hn, hp => by
    rcases List.mem_cons.1 hp with rfl | hp
    · intro e
      subst e
      exact (List.nodup_cons.1 hn).1 (by simp)
    · exact lz_ne (lz_tail hn) hp
theorem pairsOK_spec {ops : Array Oper} {G : List (Nat × Option Nat)} (h : pairsOK P ops G = true) : ∀ p ∈ G, ∃ d z t, allocOf P ops p.1 = some (d, z, t) ∧
    (∀ q ∈ G, q.1 ≠ p.1 → ∀ d2 z2 t2, allocOf P ops q.1 = some (d2, z2, t2) → d2 ≠ d) ∧
    ∀ k, p.2 = some k → ∃ m v, storeOf P ops k = some (d, m, v) ∧ m = z.length ∧ waits .any ops k p.1 = true ∧ ∀ q ∈ G, ∀ d2 z2 t2, allocOf P ops q.1 = some (d2, z2, t2) → tmpIs v d2 = false := by
  intro p hp
  simp only [pairsOK, Bool.and_eq_true, List.all_eq_true] at h
  have h1 := h.2 p hp
  split at h1
  · cases h1
  · rename_i d z t ha
    simp only [Bool.and_eq_true, List.all_eq_true] at h1
    refine ⟨d, z, t, ha, fun q hq hne d2 z2 t2 hq2 => ?_, fun k hk => ?_⟩
    · have h2 := h1.1 q hq
      simp only [hq2, Bool.or_eq_true, beq_iff_eq, bne_iff_ne, ne_eq] at h2
      exact h2.resolve_left hne
    · have h2 := h1.2
      rw [hk] at h2
      simp only at h2
      split at h2
      · cases h2
      · rename_i d' m v hs
        simp only [Bool.and_eq_true, beq_iff_eq, List.all_eq_true] at h2
        obtain ⟨⟨⟨rfl, rfl⟩, h3⟩, h4⟩ := h2
        refine ⟨_, v, hs, rfl, h3, fun q hq d2 z2 t2 hq2 => ?_⟩
        have h5 := h4 q hq
        simp only [hq2, Bool.not_eq_true'] at h5
        exact h5
theorem pw_inj {f : Pnd → Nat} : ∀ {l : List Pnd}, (l.Pairwise fun p q => f p ≠ f q) → ∀ {p q}, p ∈ l → q ∈ l → f p = f q → p = q
  | [], _, _, _, h, _, _ => by cases h
  | x :: r, hn, p, q, hp, hq, e => by
    have h1 := List.pairwise_cons.1 hn
    rcases List.mem_cons.1 hp with rfl | hp'
    · rcases List.mem_cons.1 hq with rfl | hq'
      · rfl
      · exact (h1.1 q hq' e).elim
    · rcases List.mem_cons.1 hq with rfl | hq'
      · exact (h1.1 p hp' e.symm).elim
      · exact pw_inj h1.2 hp' hq' e
theorem puts_map (a : Act) (f : Pnd → Pnd) (hf : ∀ p, (f p).d = p.d ∧ (f p).b = p.b) : ∀ (l : List Pnd), putsP a (l.map f) = putsP a l
  | [] => rfl
  | p :: r => by simp only [List.map_cons, putsP, puts_map a f hf r, Pnd.ptr, (hf p).1, (hf p).2]
theorem puts_filter (a : Act) {q : Pnd} : ∀ (l : List Pnd), (l.Pairwise fun p q => p.i ≠ q.i) → (∀ p ∈ l, p.i ≠ q.i → p.d ≠ q.d) → q ∈ l → putsP a l = (putsP a (l.filter fun p => p.i != q.i)).put (some q.d) q.ptr
  | [], _, _, h => by cases h
  | p :: r, hn, hd, hq => by
    have h1 := List.pairwise_cons.1 hn
    by_cases hp : p.i = q.i
    · have hpq : p = q := pw_inj hn (by simp) hq hp
      subst hpq
      have : (p :: r).filter (fun x => x.i != p.i) = r := by
        rw [List.filter_cons_of_neg (by simp), List.filter_eq_self.2 fun x hx => by simpa using (h1.1 x hx).symm]
      rw [this]
      rfl
    · have hq' : q ∈ r := by
        rcases List.mem_cons.1 hq with rfl | hq
        · exact absurd rfl hp
        · exact hq
      rw [List.filter_cons_of_pos (by simpa using hp)]
      simp only [putsP]
      rw [puts_filter a r h1.2 (fun x hx => hd x (List.mem_cons_of_mem _ hx)) hq']
      refine Act.put_comm _ _ _ fun e he hd' => hd p (by simp) hp ?_
      simp only [Option.some.injEq] at he hd'
      rw [hd', he]
theorem getD_lt {L : Array Bool} {i : Nat} (h : L.getD i true = false) : i < L.size ∧ L.getD i false = false := by
  rcases Nat.lt_or_ge i L.size with h1 | h1
  · refine ⟨h1, ?_⟩
    simpa [h1] using h
  · simp [Array.getElem?_eq_none h1] at h
theorem getD_true_false {L : Array Bool} {i : Nat} (h1 : i < L.size) (h : ¬ L.getD i false = true) : L.getD i true = false := by
  simpa [h1] using h
theorem getD_set_self {L : Array Bool} {i : Nat} (h1 : i < L.size) : (L.setIfInBounds i true).getD i false = true := by
  simp [h1]

/-- How the run and the plan hang together. -/
structure Inv (P : Program) (ops : Array Oper) (G pr : List (Nat × Option Nat)) (pc : List Nat) (S L : Array Bool) (pend : List Pnd) (Φ : List ((Nat → Prop) × World)) (tm : Array Value) (w : World) : Prop where
  prG : ∀ p ∈ pr, p ∈ G
  prN : (lz pr).Nodup
  sS : S.size = ops.size
  sL : L.size = ops.size
  nS : ∀ j ∈ lz pr, S.getD j false = false
  lzG : ∀ j ∈ lz G, j ∈ lz pr ∨ S.getD j false = true
  eq : ∀ j, L.getD j false = true ↔ S.getD j false = true ∨ ∃ q ∈ pend, q.i = j ∨ (q.st = true ∧ q.k = some j)
  dn : ∀ p ∈ pr, ∀ d z t, allocOf P ops p.1 = some (d, z, t) → d < tm.size
  pin : ∀ q ∈ pend, (q.i, q.k) ∈ pr
  pal : ∀ q ∈ pend, ∃ z, allocOf P ops q.i = some (q.d, z, q.t) ∧ (q.st = false → q.c = z.toArray)
  pst : ∀ q ∈ pend, q.st = true → ∃ k m v, q.k = some k ∧ storeOf P ops k = some (q.d, m, v) ∧ q.c = ((⟨tm, []⟩ : Act).eval v).cells
  ask : ∀ i k, (i, some k) ∈ pr → k ∈ pc → (∃ d m v, storeOf P ops k = some (d, m, v) ∧ ((⟨tm, []⟩ : Act).eval v).cells.size = m ∧ ∀ c ∈ ((⟨tm, []⟩ : Act).eval v).cells.toList, c.oneCell' = true) ∧
    ∀ j, S.getD j true = false → j ∉ lz pr → waits .any ops k j = false
  ni : pend.Pairwise fun p q => p.i ≠ q.i
  nb : pend.Pairwise fun p q => p.b ≠ q.b
  cl : Closed .any ops L
  base : ∀ p ∈ Φ, p.2.heap.size ≤ w.heap.size ∧ ∀ q ∈ pend, p.1 q.b ∨ p.2.heap.size ≤ q.b

variable {ops : Array Oper} {G pr : List (Nat × Option Nat)} {pc : List Nat} {S L : Array Bool} {pend : List Pnd} {Φ : List ((Nat → Prop) × World)}
theorem Inv.sub (h : Inv P ops G pr pc S L pend Φ tm w) {j : Nat} (hj : S.getD j false = true) : L.getD j false = true := (h.eq j).2 (.inl hj)
theorem Inv.ok (h : Inv P ops G pr pc S L pend Φ tm w) {j : Nat} (hj : L.getD j false = true) : S.getD j false = true ∨ j ∈ lz pr := by
  rcases (h.eq j).1 hj with h1 | ⟨q, hq, h1⟩
  · exact .inl h1
  · refine .inr (mem_lz.2 ⟨_, h.pin q hq, ?_⟩)
    rcases h1 with h1 | h1
    · exact .inl h1
    · exact .inr h1.2
theorem Inv.unl (h : Inv P ops G pr pc S L pend Φ tm w) {j : Nat} (hj : S.getD j true = false) (hl : j ∉ lz pr) : L.getD j true = false := by
  obtain ⟨h1, h2⟩ := getD_lt hj
  refine getD_true_false (by rw [h.sL, ← h.sS]; exact h1) fun h3 => ?_
  rcases h.ok h3 with h4 | h4
  · rw [h2] at h4; cases h4
  · exact hl h4
theorem Inv.rdy (h : Inv P ops G pr pc S L pend Φ tm w) {j : Nat} (hj : Vc.rdy ops S j = true) (hl : j ∉ lz pr) : j ∈ Region.ready .any ops L := by
  have h1 : j ∈ Region.ready .any ops S := by simpa [Vc.rdy] using hj
  obtain ⟨h2, o, ho, h3⟩ := mem_ready.1 h1
  exact mem_ready.2 ⟨h.unl h2 hl, o, ho, fun e he hb => h.sub (h3 e he hb)⟩
/-- The pending variables' slots differ. -/
theorem Inv.nd (hG : pairsOK P ops G = true) (h : Inv P ops G pr pc S L pend Φ tm w) {p q : Pnd} (hp : p ∈ pend) (hq : q ∈ pend) (hne : p.i ≠ q.i) : p.d ≠ q.d := by
  obtain ⟨z, hz, _⟩ := h.pal p hp
  obtain ⟨z', hz', _⟩ := h.pal q hq
  obtain ⟨d, z2, t, ha, hd, _⟩ := pairsOK_spec hG _ (h.prG _ (h.pin q hq))
  rw [hz'] at ha
  simp only [Option.some.injEq, Prod.mk.injEq] at ha
  obtain ⟨rfl, _⟩ := ha
  exact hd _ (h.prG _ (h.pin p hp)) hne _ _ _ hz
theorem waitsOut_ready {ok : Nat → Bool} {j : Nat} (h : waitsOut ops ok j = true) (hj : j ∈ Region.ready .any ops L) (hok : ∀ e, L.getD e false = true → ok e = true) : False := by
  obtain ⟨_, o, ho, h3⟩ := mem_ready.1 hj
  simp only [waitsOut, ho, List.any_eq_true, Bool.and_eq_true, Bool.not_eq_true'] at h
  obtain ⟨e, he, hb, hn⟩ := h
  rw [hok _ (h3 e (by simpa using he) hb)] at hn
  cases hn
end
end Go.Proofs.YtcjdbfnnbejmeaaGreat.Vc
