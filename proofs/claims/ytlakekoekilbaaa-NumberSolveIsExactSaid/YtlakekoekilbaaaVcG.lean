/- Plain lemmas of our own, no statement of the seat: whole bodies, and the contract of a function. -/
import Derived.Test.YtlakekoekilbaaaVcF
namespace Go.Proofs.Ytlakekoekilbaaa.Vc
set_option linter.unusedSimpArgs false
set_option linter.unusedVariables false
open Go.RowKit

/-! ### The code, with its operations looked up and its regions in a planned order -/
def opQuiet (P : Program) (md : Bool) (ops : Array Oper) (i : Nat) : Bool :=
  match (ops[i]?).bind (compOp P md) with
  | some vo => vo.quiet
  | none => false
def opTail (P : Program) (md : Bool) (ops : Array Oper) (i : Nat) : Bool :=
  match (ops[i]?).bind (compOp P md) with
  | some vo => vo.tail
  | none => true
def dstOK (n : Nat) (o : Oper) : Bool :=
  match o.dst with
  | some d => decide (d < n)
  | none => true
def compGrd (n : Nat) (ops : Array Oper) (o : Oper) : Option (Option (Nat × Bool)) :=
  match o.guard with
  | none => some none
  | some (j, b) => match (ops[j]?).bind (·.dst) with
    | some t => if t < n then some (some (t, b)) else none
    | none => none
def compStep (P : Program) (md : Bool) (n : Nat) (ops : Array Oper) (i : Nat) : Option VStep :=
  match ops[i]? with
  | some o => match compOp P md o, compGrd n ops o with
    | some vo, some g => if dstOK n o then some ⟨o.dst, g, vo⟩ else none
    | _, _ => none
  | none => none
def compSteps (P : Program) (md : Bool) (n : Nat) (ops : Array Oper) : List Nat → Option (List VStep)
  | [] => some []
  | i :: r => match compStep P md n ops i, compSteps P md n ops r with
    | some x, some xs => some (x :: xs)
    | _, _ => none
/-- Reading operations first, in the text's order; else the one that is ready. -/
def plan (P : Program) (md : Bool) (ops : Array Oper) : Nat → Array Bool → List Nat
  | 0, _ => []
  | n + 1, listed =>
    let r := Region.ready .any ops listed
    match r.find? fun i => opQuiet P md ops i && Region.free .any ops listed i with
    | some i => i :: plan P md ops n (listed.setIfInBounds i true)
    | none => match r with
      | i :: _ => i :: plan P md ops n (listed.setIfInBounds i true)
      | [] => []
/-- From the first writing operation of the plan on. -/
def tailOf (P : Program) (md : Bool) (ops : Array Oper) (pl : List Nat) : List Nat := pl.dropWhile fun i => !opTail P md ops i
/-- The same, with the making of the variable i0 put off. -/
def planA (P : Program) (md : Bool) (ops : Array Oper) (i0 : Nat) : Nat → Array Bool → List Nat
  | 0, _ => []
  | n + 1, listed =>
    let r := Region.ready .any ops listed
    match r.find? fun i => opQuiet P md ops i && Region.free .any ops listed i with
    | some i => i :: planA P md ops i0 n (listed.setIfInBounds i true)
    | none => match r.find? fun i => i != i0 with
      | some i => i :: planA P md ops i0 n (listed.setIfInBounds i true)
      | none => match r with
        | i :: _ => i :: planA P md ops i0 n (listed.setIfInBounds i true)
        | [] => []
/-- A variable that is made without a condition. -/
def isAlloc (P : Program) (o : Oper) : Option (Nat × List Value × TypeId) :=
  match o.op, o.guard, o.dst with
  | .alloc t, none, some d => match compOp P false o with
    | some (.alloc z) => some (d, z, t)
    | _ => none
  | _, _, _ => none
def allocAt (P : Program) (ops : Array Oper) : Option Nat := (List.range ops.size).find? fun i => ((ops[i]?).bind (isAlloc P)).isSome
def apartAt (ops : Array Oper) (i0 i : Nat) : Bool :=
  match ops[i0]?, ops[i]? with
  | some x, some y => x.apart ops y && i != i0
  | _, _ => false
def compRegion (P : Program) (n : Nat) (ops : Array Oper) (draw : Bool) : Option (List VStep) :=
  if draw then
    let pl := plan P false ops ops.size (Array.replicate ops.size false)
    let tl := tailOf P false ops pl
    if planOK .any ops (opQuiet P false ops) (fun i => tl.contains i) pl && (pl.all fun i => tl.contains i || !opTail P false ops i) then compSteps P false n ops pl else
      match allocAt P ops with
      | some i0 =>
        let pl := planA P false ops i0 ops.size (Array.replicate ops.size false)
        let tl := tailOf P false ops pl
        if planOKA .any ops (opQuiet P false ops) (fun i => tl.contains i) i0 (apartAt ops i0) pl && (pl.all fun i => tl.contains i || !opTail P false ops i) && Region.noSelect ops then compSteps P false n ops pl else none
      | none => none
  else compSteps P true n ops (List.range ops.size)
def comp (P : Program) (n : Nat) : Code → Option VCode
  | .skip => some .skip
  | .region _ ops draw => match compRegion P n ops draw with
    | some l => some (.ops l)
    | none => some .bad
  | .seq a b => match comp P n a, comp P n b with
    | some x, some y => some (.seq x y)
    | _, _ => none
  | .cond c a b => match comp P n a, comp P n b with
    | some x, some y => some (.cond c x y)
    | _, _ => none
  | .block id b => (comp P n b).map (.block id)
  | .loop b => (comp P n b).map .loop
  | .exit id => some (.exit id)
  | .ret => some .ret
  | _ => some .bad

section
variable {P : Program} {X : Ctx} {β κ : Nat → Nat} {s : St} {tm : Array Value} {w : World}

theorem put_tmps (tm : Array Value) (df : List Deferred) (d : Option Tmp) (v : Value) : (⟨tm, df⟩ : Act).put d v = ⟨setD tm d v, df⟩ := by
  cases d <;> rfl
theorem dst_lt {n : Nat} {o : Oper} (h : dstOK n o = true) : ∀ t, o.dst = some t → t < n := by
  intro t ht
  simp only [dstOK, ht, decide_eq_true_eq] at h
  exact h
theorem wanted_sound {n : Nat} {ops : Array Oper} {o : Oper} {g : Option (Nat × Bool)} (hg : compGrd n ops o = some g) {β κ : Nat → Nat} {s : St} {tm : Array Value} {w : World} (h : Rel X β κ s tm w) (hn : X.n = n) :
    match g with
    | none => Region.wanted o (yielded ops tm) = true
    | some (t, b) => match s.env t with
      | .val (.bool c) => Region.wanted o (yielded ops tm) = (c == b)
      | _ => Region.wanted o (yielded ops tm) = false := by
  unfold compGrd at hg
  split at hg
  · rename_i ho
    simp only [Option.some.injEq] at hg
    subst hg
    simp [Region.wanted, ho]
  · rename_i j b ho
    split at hg
    · rename_i t ht
      split at hg
      · rename_i hlt
        simp only [Option.some.injEq] at hg
        subst hg
        have hlt' : t < tm.size := by rw [h.size, hn]; exact hlt
        have hget : tm[t]? = some (den β κ (s.env t)) := by
          have := h.env t
          rw [← this]
          simp [hlt']
        simp only
        split
        · rename_i c hc
          simp only [Region.wanted, ho, yielded, ht, Option.bind_some, hget, hc, den]
          cases c <;> cases b <;> rfl
        · rename_i hc
          simp only [Region.wanted, ho, yielded, ht, Option.bind_some, hget]
          cases hs : s.env t with
          | val v =>
            cases v <;> simp only [den] <;> first | rfl | skip
            rename_i c
            exact absurd hs (hc c)
          | _ => simp [den]
      · cases hg
    · cases hg

theorem step_sound {md : Bool} {n : Nat} {ops : Array Oper} (hn : X.n = n) {i : Nat} {x : VStep} (hx : compStep P md n ops i = some x) {xs : List VStep} {K : St → Prop} {β κ : Nat → Nat} {s : St} {tm : Array Value} {w : World}
    (h : Rel X β κ s tm w) (hk : vcSteps ⟨P, X.ng⟩ (x :: xs) s K) :
    ∃ (o : Oper) (vo : VOp), ops[i]? = some o ∧ opQuiet P md ops i = vo.quiet ∧ opTail P md ops i = vo.tail ∧
      (vo.quiet = true → ∃ s' v, YieldsE P ops w o v ⟨tm, []⟩ ∧ Rel X β κ s' (setD tm o.dst v) w ∧ vcSteps ⟨P, X.ng⟩ xs s' K) ∧
      ∀ Q, wpOp P ops Q i (fun a' w' => ∃ β' κ' s' v, a' = ⟨setD tm o.dst v, []⟩ ∧ (vo.tail = false → Ext w w') ∧ Rel X β' κ' s' (setD tm o.dst v) w' ∧ vcSteps ⟨P, X.ng⟩ xs s' K) ⟨tm, []⟩ w := by
  unfold compStep at hx
  split at hx
  · rename_i o ho
    split at hx
    · rename_i vo g hvo hg
      split at hx
      · rename_i hd
        simp only [Option.some.injEq] at hx
        subst hx
        have hdlt := dst_lt hd
        rw [← hn] at hdlt
        refine ⟨o, vo, ho, by simp [opQuiet, ho, hvo], by simp [opTail, ho, hvo], ?_⟩
        -- the operation is carried out
        have run : ∀ (s : St), Rel X β κ s tm w → Region.wanted o (yielded ops tm) = true → vcOp ⟨P, X.ng⟩ vo s (fun v s' => vcSteps ⟨P, X.ng⟩ xs (s'.put o.dst v) K) →
            (vo.quiet = true → ∃ s' v, YieldsE P ops w o v ⟨tm, []⟩ ∧ Rel X β κ s' (setD tm o.dst v) w ∧ vcSteps ⟨P, X.ng⟩ xs s' K) ∧
            ∀ Q, wpOp P ops Q i (fun a' w' => ∃ β' κ' s' v, a' = ⟨setD tm o.dst v, []⟩ ∧ (vo.tail = false → Ext w w') ∧ Rel X β' κ' s' (setD tm o.dst v) w' ∧ vcSteps ⟨P, X.ng⟩ xs s' K) ⟨tm, []⟩ w := by
          intro s h hw hk
          cases hvq : vo.quiet with
          | true =>
            obtain ⟨sv, s', h', hok, hk', hrun⟩ := quiet_sound hvo hvq h hk []
            have hput := h'.put o.dst hdlt sv hok
            have hy : YieldsE P ops w o (den β κ sv) ⟨tm, []⟩ := .inl ⟨hw, hrun⟩
            refine ⟨fun _ => ⟨_, _, hy, hput, hk'⟩, fun Q => hy.wpOp ho ⟨β, κ, _, _, ?_, fun _ => Below.refl _ _, hput, hk'⟩⟩
            rw [put_tmps]
          | false =>
            have heff := effect_sound hvo hvq h hk []
            refine ⟨fun e => absurd e (by simp), fun Q => ?_⟩
            unfold wpOp
            simp only [ho, hw, if_true]
            refine .inl (heff _ _ fun β' κ' sv s' w' h' hok hk' hext => ⟨β', κ', _, _, ?_, hext, h'.put o.dst hdlt sv hok, hk'⟩)
            rw [put_tmps]
        have skip : ∀ (s : St), Rel X β κ s tm w → Region.wanted o (yielded ops tm) = false → vcSteps ⟨P, X.ng⟩ xs (s.put o.dst (.val undef)) K →
            (vo.quiet = true → ∃ s' v, YieldsE P ops w o v ⟨tm, []⟩ ∧ Rel X β κ s' (setD tm o.dst v) w ∧ vcSteps ⟨P, X.ng⟩ xs s' K) ∧
            ∀ Q, wpOp P ops Q i (fun a' w' => ∃ β' κ' s' v, a' = ⟨setD tm o.dst v, []⟩ ∧ (vo.tail = false → Ext w w') ∧ Rel X β' κ' s' (setD tm o.dst v) w' ∧ vcSteps ⟨P, X.ng⟩ xs s' K) ⟨tm, []⟩ w := by
          intro s h hw hk
          have hput := h.put o.dst hdlt (.val undef) rfl
          have hy : YieldsE P ops w o undef ⟨tm, []⟩ := .inr ⟨hw, rfl⟩
          refine ⟨fun _ => ⟨_, _, hy, hput, hk⟩, fun Q => hy.wpOp ho ⟨β, κ, _, _, ?_, fun _ => Below.refl _ _, hput, hk⟩⟩
          rw [put_tmps]
          rfl
        have hws := wanted_sound hg h hn
        cases g with
        | none => exact run s h hws hk
        | some tb =>
          obtain ⟨t, b⟩ := tb
          simp only [vcSteps] at hk
          simp only at hws
          split at hk
          · rename_i c hc
            simp only [hc] at hws
            by_cases hcb : c = b
            · subst hcb
              exact run _ (h.upd t (.val (.bool c)) rfl (by rw [h.env t, hc])) (by simpa using hws) (hk.1 rfl)
            · have hcb' : c = !b := by cases c <;> cases b <;> simp_all
              exact skip _ (h.upd t (.val (.bool !b)) rfl (by rw [h.env t, hc, hcb'])) (by rw [hws]; simpa using hcb) (hk.2 hcb')
          · rename_i hc
            refine skip s h ?_ hk
            cases hs : s.env t with
            | val v =>
              cases v <;> simp only [hs] at hws <;> first | exact hws | skip
              rename_i c
              exact absurd hs (hc c)
            | _ => simp only [hs] at hws; exact hws
      · cases hx
    · cases hx
  · cases hx

theorem steps_sound {md : Bool} {n : Nat} {ops : Array Oper} {T : Nat → Bool} (hn : X.n = n) {Q : Exit → Act → World → Prop} {K : St → Prop}
    (hQ : ∀ β κ s tm w, Rel X β κ s tm w → K s → Q .normal ⟨tm, []⟩ w) : ∀ (pl : List Nat) (steps : List VStep), compSteps P md n ops pl = some steps → (∀ i ∈ pl, T i = false → opTail P md ops i = false) →
    ∀ (E : Bool) β κ s tm w, Rel X β κ s tm w → vcSteps ⟨P, X.ng⟩ steps s K → wpPlan P ops (opQuiet P md ops) T Q E pl ⟨tm, []⟩ w
  | [], steps, hc, _, E, β, κ, s, tm, w, h, hk => by
    simp only [compSteps, Option.some.injEq] at hc
    subst hc
    exact hQ β κ s tm w h hk
  | i :: rest, steps, hc, hT, E, β, κ, s, tm, w, h, hk => by
    simp only [compSteps] at hc
    split at hc
    · rename_i x xs hx hxs
      simp only [Option.some.injEq] at hc
      subst hc
      have ih := fun E β κ s tm w => steps_sound hn hQ rest xs hxs (fun j hj => hT j (by simp [hj])) E β κ s tm w
      obtain ⟨o, vo, ho, hq, htl, h1, h2⟩ := step_sound hn hx h hk
      simp only [wpPlan]
      split
      · rename_i hE
        simp only [Bool.and_eq_true] at hE
        obtain ⟨s', v, hy, h', hk'⟩ := h1 (by rw [← hq]; exact hE.1.2)
        refine ⟨o, v, ho, hy, ?_⟩
        rw [put_tmps]
        exact ih _ _ _ _ _ _ h' hk'
      · refine wpOp_mono (fun a' w' hh => ?_) (h2 Q)
        obtain ⟨β', κ', s', v, rfl, hext, h', hk'⟩ := hh
        exact ⟨fun ⟨_, hTi⟩ => hext (by rw [← htl]; exact hT i (by simp) hTi), ih _ _ _ _ _ _ h' hk'⟩
    · cases hc

/-! ### The variable is made ahead of its turn -/
theorem isAlloc_spec {o : Oper} {d : Nat} {z : List Value} {t : TypeId} (h : isAlloc P o = some (d, z, t)) :
    o.op = .alloc t ∧ o.guard = none ∧ o.dst = some d ∧ compOp P false o = some (.alloc z) := by
  unfold isAlloc at h
  split at h
  · rename_i t' d' h1 h2 h3
    split at h
    · rename_i z' hz
      simp only [Option.some.injEq, Prod.mk.injEq] at h
      obtain ⟨rfl, rfl, rfl⟩ := h
      exact ⟨h1, h2, h3, hz⟩
    · cases h
  · cases h
theorem alloc_run {o : Oper} {z : List Value} {t : TypeId} (h1 : o.op = .alloc t) (hz : compOp P false o = some (.alloc z)) (a : Act) (w : World) :
    (execOp a.eval o).run P w = .ok (.value (.pointer (some ⟨w.heap.size, 0, none⟩))) (w.alloc (.cells z.toArray t)) := by
  obtain ⟨dst, op, type, pos, after, guard⟩ := o
  simp only at h1
  subst h1
  simp only [compOp] at hz
  split at hz
  · rename_i inf hinf
    obtain ⟨z', hz', e⟩ := Option.map_eq_some_iff.1 hz
    simp only [VOp.alloc.injEq] at e
    subst e
    simp only [execOp, Instr.alloc, zeroValue, Sem.run_bind, run_typeInfo' hinf, hz', Result.andThen_ok, Sem.run_pure, newVar, newRow, run_newObj, Array.toArray_toList]; rfl
  · cases hz
theorem Rel.keepNew (h : Rel X β κ s tm w) (hX : X.keep = none) (z : Array Value) (t : TypeId) : Rel { X with keep := some (w.heap.size, z, t) } β κ s tm (w.alloc (.cells z t)) :=
  { h.ext (ext_alloc w (.cells z t)) with
    kept := fun p hp => by
      simp only [Option.some.injEq] at hp
      subst hp
      exact ⟨heap_new _ _, h.below.size, h.fresh.1, h.fresh.2.1⟩
    shr := fun j b cap T sz cs hj => { (h.ext (ext_alloc w (.cells z t))).shr j b cap T sz cs hj with
      kept := fun p hp => by
        simp only [Option.some.injEq] at hp
        subst hp
        exact (h.fresh.2.2.2 j b cap T sz cs hj).symm } }
theorem Rel.keepUse (hX : X.keep = none) {b : Nat} {z : List Value} {t : TypeId} (h : Rel { X with keep := some (b, z.toArray, t) } β κ s tm w) :
    Rel X (updN β s.blk.length b) (updN κ s.blk.length 0) { s with blk := s.blk ++ [.box (z.map .val)] } tm w := by
  obtain ⟨g1, g2, g3, g4⟩ := h.kept _ rfl
  have h' : Rel X β κ s tm w := { h with
    kept := fun p hp => by rw [hX] at hp; cases hp
    shr := fun j b cap T sz cs hj => { h.shr j b cap T sz cs hj with kept := fun p hp => by rw [hX] at hp; cases hp } }
  refine h'.grow (Below.refl _ _) b 0 _ g3 g4 (fun p hp => by rw [hX] at hp; cases hp) (fun j b' cap T sz cs hj => ((h.shr j b' cap T sz cs hj).kept _ rfl).symm) rfl ⟨?_, ?_, t, ?_⟩
  · simp only [updN, if_true]; exact .inl g2
  · intro c hc; obtain ⟨_, _, rfl⟩ := List.mem_map.1 hc; rfl
  · simp only [updN, if_true]
    rw [g1]
    congr 3
    simp [Function.comp_def, den]

theorem steps_soundK {n : Nat} {ops : Array Oper} {T : Nat → Bool} (hn : X.n = n) (hX : X.keep = none) {Q : Exit → Act → World → Prop} {K : St → Prop} (hns : Region.noSelect ops = true) (hQp : ∀ c a w, ¬ Q (.panic c) a w)
    (hQ : ∀ β κ s tm w, Rel X β κ s tm w → K s → Q .normal ⟨tm, []⟩ w) {i0 : Nat} {o0 : Oper} (ho0 : ops[i0]? = some o0) {d : Nat} {z : List Value} {t : TypeId} (ha : isAlloc P o0 = some (d, z, t)) {b : Nat} :
    ∀ (pl : List Nat) (listed : Array Bool) (steps : List VStep), compSteps P false n ops pl = some steps → (∀ i ∈ pl, T i = false → opTail P false ops i = false) →
    planFromA .any ops (opQuiet P false ops) T i0 (apartAt ops i0) pl listed = true →
    ∀ β κ s tm w, Rel { X with keep := some (b, z.toArray, t) } β κ s tm w → vcSteps ⟨P, X.ng⟩ steps s K → wpPlan P ops (opQuiet P false ops) T Q true (pl.erase i0) ⟨setD tm o0.dst (.pointer (some ⟨b, 0, none⟩)), []⟩ w
  | [], _, _, _, _, hp, β, κ, s, tm, w, _, _ => by simp [planFromA] at hp
  | i :: rest, listed, steps, hc, hT, hp, β, κ, s, tm, w, h, hk => by
    obtain ⟨hop, hgd, hdst, hcomp⟩ := isAlloc_spec ha
    simp only [compSteps] at hc
    split at hc
    · rename_i x xs hx hxs
      simp only [Option.some.injEq] at hc
      subst hc
      by_cases hi0 : i = i0
      · subst hi0
        rw [List.erase_cons_head]
        unfold compStep at hx
        simp only [ho0, hcomp, compGrd, hgd] at hx
        split at hx
        · rename_i hd
          simp only [Option.some.injEq] at hx
          subst hx
          simp only [vcSteps, vcOp] at hk
          have h1 := (h.keepUse hX).put o0.dst (by rw [hn]; exact dst_lt hd) (.loc s.blk.length 0) (by simp [SV.ok])
          simp only [den, updN, if_true] at h1
          exact steps_sound hn hQ rest xs hxs (fun j hj => hT j (by simp [hj])) true _ _ _ _ w h1 hk
        · cases hx
      · simp only [planFromA, if_neg hi0, Bool.and_eq_true] at hp
        rw [List.erase_cons_tail (by simpa using hi0)]
        obtain ⟨o, vo, ho, hq, htl, h1, h2⟩ := step_sound (X := { X with keep := some (b, z.toArray, t) }) hn hx h hk
        have hap : o0.apart ops o = true := by
          have := hp.1
          simp only [apartAt, ho0, ho, Bool.and_eq_true] at this
          exact this.1
        have hp' : planFromA .any ops (opQuiet P false ops) T i0 (apartAt ops i0) rest (listed.setIfInBounds i true) = true := by
          simp only [Bool.or_eq_true, Bool.and_eq_true] at hp
          rcases hp.2 with hh | hh
          · exact hh.2
          · exact hh.1.1.1.2
        have ih := fun β κ s tm w => steps_soundK hn hX hns hQp hQ ho0 ha (b := b) rest _ xs hxs (fun j hj => hT j (by simp [hj])) hp' β κ s tm w
        obtain ⟨ap1, ap2, ap3⟩ := Oper.apart_spec hap
        have hsel := fun cs b => Region.noSelect_spec hns i o cs b ho
        have comm : ∀ v, setD (setD tm o0.dst (.pointer (some ⟨b, 0, none⟩))) o.dst v = setD (setD tm o.dst v) o0.dst (.pointer (some ⟨b, 0, none⟩)) := by
          intro v
          have := Act.put_comm ⟨tm, []⟩ (.pointer (some ⟨b, 0, none⟩)) v ap2
          simp only [put_tmps, Act.mk.injEq, and_true] at this
          exact this
        have hput : (⟨setD tm o0.dst (.pointer (some ⟨b, 0, none⟩)), []⟩ : Act) = (⟨tm, []⟩ : Act).put o0.dst (.pointer (some ⟨b, 0, none⟩)) := by rw [put_tmps]
        simp only [wpPlan]
        split
        · rename_i hE
          simp only [Bool.and_eq_true] at hE
          obtain ⟨s', v, hy, h', hk'⟩ := h1 (by rw [← hq]; exact hE.1.2)
          refine ⟨o, v, ho, ?_, ?_⟩
          · rw [hput]
            exact hy.of_same (execOp_put o hsel _ _ _ ap1) (wanted_put o _ _ _ ap1)
          · rw [put_tmps, comm]
            exact ih _ _ _ _ _ h' hk'
        · rw [hput]
          refine wpOp_mono (fun a' w' hh => ?_) (wpOp_put_right ho hap hsel hQp (h2 Q))
          obtain ⟨a0, rfl, β', κ', s', v, rfl, hext, h', hk'⟩ := hh
          refine ⟨fun ⟨_, hTi⟩ => hext (by rw [← htl]; exact hT i (by simp) hTi), ?_⟩
          rw [put_tmps]
          by_cases hTi : T i = true
          · exfalso
            simp only [Bool.or_eq_true, Bool.and_eq_true, hTi, Bool.not_true] at hp
            rcases hp.2 with hh | hh
            · simp at hh
            · simp at hh
          · simp only [Bool.true_and, hTi, Bool.not_false]
            simpa [hTi] using ih _ _ _ _ _ h' hk'
    · cases hc

theorem steps_soundA {n : Nat} {ops : Array Oper} {T : Nat → Bool} (hn : X.n = n) (hX : X.keep = none) {Q : Exit → Act → World → Prop} {K : St → Prop} (hns : Region.noSelect ops = true) (hQp : ∀ c a w, ¬ Q (.panic c) a w)
    (hQ : ∀ β κ s tm w, Rel X β κ s tm w → K s → Q .normal ⟨tm, []⟩ w) {i0 : Nat} {o0 : Oper} (ho0 : ops[i0]? = some o0) {d : Nat} {z : List Value} {t : TypeId} (ha : isAlloc P o0 = some (d, z, t)) :
    ∀ (pl : List Nat) (listed : Array Bool) (steps : List VStep), compSteps P false n ops pl = some steps → (∀ i ∈ pl, T i = false → opTail P false ops i = false) →
    planFromA .any ops (opQuiet P false ops) T i0 (apartAt ops i0) pl listed = true →
    ∀ β κ s tm w, Rel X β κ s tm w → vcSteps ⟨P, X.ng⟩ steps s K → wpPlanA P ops (opQuiet P false ops) T Q i0 pl ⟨tm, []⟩ w
  | [], _, _, _, _, hp, β, κ, s, tm, w, _, _ => by simp [planFromA] at hp
  | i :: rest, listed, steps, hc, hT, hp, β, κ, s, tm, w, h, hk => by
    obtain ⟨hop, hgd, hdst, hcomp⟩ := isAlloc_spec ha
    have hc0 := hc
    have hp0 := hp
    simp only [compSteps] at hc
    split at hc
    · rename_i x xs hx hxs
      simp only [Option.some.injEq] at hc
      subst hc
      simp only [wpPlanA]
      split
      · exact steps_sound hn hQ _ _ hc0 hT true β κ s tm w h hk
      · rename_i hi0
        simp only [planFromA, if_neg hi0, Bool.and_eq_true] at hp
        obtain ⟨o, vo, ho, hq, htl, h1, h2⟩ := step_sound hn hx h hk
        have hp' : planFromA .any ops (opQuiet P false ops) T i0 (apartAt ops i0) rest (listed.setIfInBounds i true) = true := by
          simp only [Bool.or_eq_true, Bool.and_eq_true] at hp
          rcases hp.2 with hh | hh
          · exact hh.2
          · exact hh.1.1.1.2
        have ih := fun β κ s tm w => steps_soundA hn hX hns hQp hQ ho0 ha rest _ xs hxs (fun j hj => hT j (by simp [hj])) hp' β κ s tm w
        split
        · rename_i hE
          simp only [Bool.and_eq_true] at hE
          obtain ⟨s', v, hy, h', hk'⟩ := h1 (by rw [← hq]; exact hE.1)
          refine ⟨o, v, ho, hy, ?_⟩
          rw [put_tmps]
          exact ih _ _ _ _ _ h' hk'
        · refine ⟨wpOp_mono (fun a' w' hh => ?_) (h2 Q), ?_⟩
          · obtain ⟨β', κ', s', v, rfl, hext, h', hk'⟩ := hh
            exact ⟨fun hTi => hext (by rw [← htl]; exact hT i (by simp) hTi), ih _ _ _ _ _ h' hk'⟩
          · unfold wpOp
            simp only [ho0, Region.wanted, hgd, if_true, Oper.wp, alloc_run hop hcomp, Oper.upon]
            refine .inl ⟨ext_alloc _ _, ?_⟩
            rw [put_tmps]
            exact steps_soundK hn hX hns hQp hQ ho0 ha (i :: rest) listed _ hc0 hT hp0 β κ s tm _ (h.keepNew hX _ _) hk
    · cases hc
end
end Go.Proofs.Ytlakekoekilbaaa.Vc
