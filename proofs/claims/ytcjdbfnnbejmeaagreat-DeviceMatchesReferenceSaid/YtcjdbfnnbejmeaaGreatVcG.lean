/- Plain lemmas of our own, no statement of the seat: whole bodies, and the contract of a function. -/
import Derived.Test.YtcjdbfnnbejmeaaGreatVcF
namespace Go.Proofs.YtcjdbfnnbejmeaaGreat.Vc
set_option linter.unusedSimpArgs false
set_option linter.unusedVariables false
open Go.RowKit

/-! ### The code, with its operations looked up and its regions in a planned order -/
def opQuiet (P : Program) (md : Bool) (ops : Array Oper) (i : Nat) : Bool :=
  match (ops[i]?).bind (compOp P md) with
  | some vo => vo.quiet
  | none => false
def opTail (P : Program) (md : Bool) (ops : Array Oper) (i : Nat) : Bool :=
  match (ops[i]?).bind (compOp P md) with
  | some vo => vo.tail
  | none => true
def dstOK (n : Nat) (o : Oper) : Bool :=
  match o.dst with
  | some d => decide (d < n)
  | none => true
def compGrd (n : Nat) (ops : Array Oper) (o : Oper) : Option (Option (Nat × Bool)) :=
  match o.guard with
  | none => some none
  | some (j, b) => match (ops[j]?).bind (·.dst) with
    | some t => if t < n then some (some (t, b)) else none
    | none => none
def compStep (P : Program) (md : Bool) (n : Nat) (ops : Array Oper) (i : Nat) : Option VStep :=
  match ops[i]? with
  | some o => match compOp P md o, compGrd n ops o with
    | some vo, some g => if dstOK n o then some ⟨o.dst, g, vo⟩ else none
    | _, _ => none
  | none => none
def compSteps (P : Program) (md : Bool) (n : Nat) (ops : Array Oper) : List Nat → Option (List VStep)
  | [] => some []
  | i :: r => match compStep P md n ops i, compSteps P md n ops r with
    | some x, some xs => some (x :: xs)
    | _, _ => none
/-- A variable that is made without a condition. -/
def isAlloc (P : Program) (o : Oper) : Option (Nat × List Value × TypeId) :=
  match o.op, o.guard, o.dst with
  | .alloc t, none, some d => match compOp P false o with
    | some (.alloc z) => some (d, z, t)
    | _ => none
  | _, _, _ => none
/-- The first filling of a variable: which slot holds its address, how many cells, what is stored. -/
def storeInfo (P : Program) (o : Oper) : Option (Nat × Nat × Operand) :=
  match o.op, o.guard, o.dst with
  | .store t (.tmp d) v, none, none => match P.info? t with
    | some inf => some (d, inf.size, v)
    | none => none
  | _, _, _ => none
def allocOf (P : Program) (ops : Array Oper) (i : Nat) : Option (Nat × List Value × TypeId) := (ops[i]?).bind (isAlloc P)
def storeOf (P : Program) (ops : Array Oper) (k : Nat) : Option (Nat × Nat × Operand) := (ops[k]?).bind (storeInfo P)
/-- Plans of a region. 'qu i': i only reads, and may be taken first; 'op i': i is taken; 'pre k': what the store k will ask; 'box i k': a variable is made and filled, whenever that was; 'alt i l r': i is taken, then l; or as r says. -/
inductive PT where
  | nil
  | qu (i : Nat) (r : PT)
  | op (i : Nat) (r : PT)
  | pre (k : Nat) (r : PT)
  | box (i : Nat) (k : Option Nat) (r : PT)
  | alt (i : Nat) (l r : PT)
def PT.pairs : PT → List (Nat × Option Nat)
  | .nil => []
  | .qu _ r => r.pairs
  | .op _ r => r.pairs
  | .pre _ r => r.pairs
  | .box i k r => (i, k) :: r.pairs
  | .alt _ l _ => l.pairs
def PT.heads : PT → List Nat
  | .op i _ => [i]
  | .alt i _ r => i :: r.heads
  | _ => []
def PT.branch : PT → Nat → Option PT
  | .op i r, j => if j = i then some r else none
  | .alt i l r, j => if j = i then some l else r.branch j
  | _, _ => none
/-- The operations that are taken whenever that is. -/
def lz : List (Nat × Option Nat) → List Nat
  | [] => []
  | (i, none) :: r => i :: lz r
  | (i, some k) :: r => i :: k :: lz r
def compT (P : Program) (md : Bool) (n : Nat) (ops : Array Oper) : PT → Option VT
  | .nil => some .nil
  | .qu i r => match compStep P md n ops i, compT P md n ops r with
    | some x, some t => some (.step x t)
    | _, _ => none
  | .op i r => match compStep P md n ops i, compT P md n ops r with
    | some x, some t => some (.step x t)
    | _, _ => none
  | .pre k r => match storeOf P ops k, compT P md n ops r with
    | some (_, m, v), some t => some (.pre m v t)
    | _, _ => none
  | .box i none r => match compStep P md n ops i, compT P md n ops r with
    | some x, some t => some (.step x t)
    | _, _ => none
  | .box i (some k) r => match compStep P md n ops i, compStep P md n ops k, compT P md n ops r with
    | some x, some y, some t => some (.step x (.step y t))
    | _, _, _ => none
  | .alt i l r => match compStep P md n ops i, compT P md n ops l, compT P md n ops r with
    | some x, some tl, some tr => some (.alt x tl tr)
    | _, _, _ => none
/-- Some edge of j leads to what is not among 'ok'. -/
def waitsOut (ops : Array Oper) (ok : Nat → Bool) (j : Nat) : Bool :=
  match ops[j]? with
  | some o => o.after.toList.any fun e => Region.binds .any e && !ok e.on
  | none => true
def opPure (P : Program) (ops : Array Oper) (i : Nat) : Bool :=
  match (ops[i]?).bind (compOp P false) with
  | some vo => vo.pure
  | none => false
/-- The operand is the slot d. -/
def tmpIs : Operand → Nat → Bool
  | .tmp t, d => t == d
  | _, _ => false
/-- i is apart from what is made and filled whenever that is. -/
def apartP (P : Program) (ops : Array Oper) (pr : List (Nat × Option Nat)) (i : Nat) : Bool :=
  match ops[i]? with
  | some o => pr.all fun p => (match ops[p.1]? with
      | some oa => oa.apart ops o
      | none => false) && match p.2 with
        | none => true
        | some k => waits .any ops k i || match storeOf P ops k with
          | some (_, _, v) => match o.dst with
            | some d => !tmpIs v d
            | none => true
          | none => false
  | none => false
def rdy (ops : Array Oper) (S : Array Bool) (i : Nat) : Bool := (Region.ready .any ops S).contains i
def stepOK (P : Program) (ops : Array Oper) (pr : List (Nat × Option Nat)) (S : Array Bool) (i : Nat) : Bool :=
  rdy ops S i && !(lz pr).contains i && apartP P ops pr i
/-- A store that may come at once has been asked about. -/
def preOK (ops : Array Oper) (pc : List Nat) (pr : List (Nat × Option Nat)) (S : Array Bool) : Bool :=
  pr.all fun p => match p.2 with
    | none => true
    | some k => pc.contains k || waitsOut ops (fun e => S.getD e false || (lz pr).contains e) k
/-- The operations that may write what was there, but for those that are made whenever that is. -/
def tailT (P : Program) (md : Bool) (ops : Array Oper) (G : List (Nat × Option Nat)) (j : Nat) : Bool := opTail P md ops j && !(lz G).contains j
def chk (P : Program) (ops : Array Oper) (T : Nat → Bool) : List Nat → List Nat → PT → Array Bool → Bool
  | _, hs, .nil, S => hs.isEmpty && (List.range ops.size).all fun j => S.getD j true
  | pc, hs, .qu i r, S => hs.isEmpty && stepOK P ops r.pairs S i && opQuiet P false ops i && !T i && Region.free .any ops S i &&
      (opPure P ops i || (List.range ops.size).all fun j => S.getD j true || !T j || waits .any ops j i) && chk P ops T pc [] r (S.setIfInBounds i true)
  | pc, hs, .op i r, S => preOK ops pc r.pairs S && stepOK P ops r.pairs S i &&
      ((List.range ops.size).all fun j => S.getD j true || (lz r.pairs).contains j || (i :: hs).contains j || waitsOut ops (fun e => S.getD e false || (lz r.pairs).contains e) j) && chk P ops T pc [] r (S.setIfInBounds i true)
  | pc, hs, .alt i l r, S => decide (l.pairs = r.pairs) && !r.heads.isEmpty && stepOK P ops l.pairs S i && chk P ops T pc [] l (S.setIfInBounds i true) && chk P ops T pc (i :: hs) r S
  | pc, hs, .pre k r, S => hs.isEmpty && ((List.range ops.size).all fun j => S.getD j true || (lz r.pairs).contains j || !waits .any ops k j) && chk P ops T (k :: pc) [] r S
  | pc, hs, .box i none r, S => hs.isEmpty && preOK ops pc ((i, none) :: r.pairs) S && rdy ops S i &&
      ((List.range ops.size).all fun j => S.getD j true || (lz ((i, none) :: r.pairs)).contains j || waitsOut ops (fun e => S.getD e false || ((lz ((i, none) :: r.pairs)).contains e && e != i && !waits .any ops e i)) j) &&
      chk P ops T pc [] r (S.setIfInBounds i true)
  | pc, hs, .box i (some k) r, S => hs.isEmpty && preOK ops (k :: pc) ((i, some k) :: r.pairs) S && rdy ops S i && rdy ops (S.setIfInBounds i true) k &&
      ((List.range ops.size).all fun j => S.getD j true || (lz ((i, some k) :: r.pairs)).contains j || waitsOut ops (fun e => S.getD e false || ((lz ((i, some k) :: r.pairs)).contains e && e != k && !waits .any ops e k)) j) &&
      chk P ops T pc [] r ((S.setIfInBounds i true).setIfInBounds k true)
/-- All the pairs are in form. -/
def pairsOK (P : Program) (ops : Array Oper) (G : List (Nat × Option Nat)) : Bool :=
  decide (lz G).Nodup && G.all fun p => match allocOf P ops p.1 with
    | none => false
    | some (d, z, _) => (G.all fun q => q.1 == p.1 || match allocOf P ops q.1 with
      | some (d2, _, _) => d2 != d
      | none => false) && match p.2 with
        | none => true
        | some k => match storeOf P ops k with
          | none => false
          | some (d', m, v) => d' == d && m == z.length && waits .any ops k p.1 && (G.all fun q => match allocOf P ops q.1 with
            | some (d2, _, _) => !tmpIs v d2
            | none => false)

/-! ### The plan is found -/
/-- Which variables are made, and filled, whenever that is. -/
def candG (P : Program) (ops : Array Oper) : List (Nat × Option Nat) :=
  (List.range ops.size).filterMap fun i => match allocOf P ops i with
    | some (d, z, _) => some (i, (List.range ops.size).find? fun k => match storeOf P ops k with
      | some (d', m, v) => d' == d && m == z.length && waits .any ops k i && !(List.range ops.size).any fun j => match allocOf P ops j with
        | some (d2, _, _) => tmpIs v d2 || (j != i && waits .any ops k j)
        | none => false
      | none => false)
    | none => none
/-- Any of these comes first. -/
def altL (g : Nat → PT) : List Nat → PT
  | [] => .nil
  | [i] => .op i (g i)
  | i :: j :: r => .alt i (g i) (altL g (j :: r))
def gen (P : Program) (ops : Array Oper) (T : Nat → Bool) : Nat → List (Nat × Option Nat) → List Nat → Array Bool → PT
  | 0, _, _, _ => .nil
  | n + 1, Z, pc, S =>
    let r := (Region.ready .any ops S).filter fun i => !(lz Z).contains i
    match r.find? fun i => opQuiet P false ops i && !T i && Region.free .any ops S i && (opPure P ops i || (List.range ops.size).all fun j => S.getD j true || !T j || waits .any ops j i) with
    | some i => .qu i (gen P ops T n Z pc (S.setIfInBounds i true))
    | none => match r with
      | [] => match Z.find? fun p => rdy ops S p.1 with
        | some (i, k) => .box i k (gen P ops T n (Z.filter fun p => p.1 != i) pc (match k with | some k => (S.setIfInBounds i true).setIfInBounds k true | none => S.setIfInBounds i true))
        | none => .nil
      | [i] => match Z.find? fun p => match p.2 with
          | some k => !pc.contains k && !waitsOut ops (fun e => S.getD e false || (lz Z).contains e) k
          | none => false with
        | some (_, some k) => .pre k (gen P ops T n Z (k :: pc) S)
        | _ => .op i (gen P ops T n Z pc (S.setIfInBounds i true))
      | [i, j] => match Z.find? fun p => match p.2 with
          | some k => !pc.contains k && !waitsOut ops (fun e => S.getD e false || (lz Z).contains e) k
          | none => false with
        | some (_, some k) => .pre k (gen P ops T n Z (k :: pc) S)
        | _ => .alt i (gen P ops T n Z pc (S.setIfInBounds i true)) (.op j (gen P ops T n Z pc (S.setIfInBounds j true)))
      | [i, j, k] => match Z.find? fun p => match p.2 with
          | some k => !pc.contains k && !waitsOut ops (fun e => S.getD e false || (lz Z).contains e) k
          | none => false with
        | some (_, some k) => .pre k (gen P ops T n Z (k :: pc) S)
        | _ => .alt i (gen P ops T n Z pc (S.setIfInBounds i true)) (.alt j (gen P ops T n Z pc (S.setIfInBounds j true)) (.op k (gen P ops T n Z pc (S.setIfInBounds k true))))
      | r => if ops.size ≤ 16 && r.length ≤ 5 then (match Z.find? fun p => match p.2 with
          | some k => !pc.contains k && !waitsOut ops (fun e => S.getD e false || (lz Z).contains e) k
          | none => false with
        | some (_, some k) => .pre k (gen P ops T n Z (k :: pc) S)
        | _ => altL (fun i => gen P ops T n Z pc (S.setIfInBounds i true)) r) else .nil
def treeOK (P : Program) (md : Bool) (ops : Array Oper) (t : PT) : Bool :=
  Region.noSelect ops && pairsOK P ops t.pairs && chk P ops (tailT P md ops t.pairs) [] [] t (Array.replicate ops.size false)
/-- A tree of one order only. -/
def VT.lin : VT → Option (List VStep)
  | .nil => some []
  | .step x r => r.lin.map (x :: ·)
  | _ => none
def VT.code (t : VT) : VCode :=
  match t.lin with
  | some l => .ops l
  | none => .tree t
/-- A plan of one order in which the calls may be handed blocks, too. -/
def planLin (P : Program) (n : Nat) (ops : Array Oper) (G : List (Nat × Option Nat)) : Option VT :=
  let t := gen P ops (tailT P true ops G) (3 * ops.size) G [] (Array.replicate ops.size false)
  if treeOK P true ops t then match compT P true n ops t with
    | some v => if v.lin.isSome then some v else none
    | none => none
  else none
/-- No deferred call. -/
def noDefer (o : Oper) : Bool := match o.op with
  | .defer _ => false
  | _ => true
def compRegion1 (P : Program) (n : Nat) (ops : Array Oper) (draw : Bool) : Option VCode :=
  if draw then
    match planLin P n ops (candG P ops) with
    | some v => some v.code
    | none => match planLin P n ops [] with
      | some v => some v.code
      | none =>
        let t := gen P ops (tailT P false ops (candG P ops)) (3 * ops.size) (candG P ops) [] (Array.replicate ops.size false)
        if treeOK P false ops t then (compT P false n ops t).map VT.code else
          let t := gen P ops (tailT P false ops []) (3 * ops.size) [] [] (Array.replicate ops.size false)
          if treeOK P false ops t then (compT P false n ops t).map VT.code else none
  else (compSteps P true n ops (List.range ops.size)).map .ops
def compRegion (P : Program) (n : Nat) (ops : Array Oper) (draw : Bool) : Option VCode := if ops.all noDefer then compRegion1 P n ops draw else none
def comp (P : Program) (n : Nat) : Code → Option VCode
  | .skip => some .skip
  | .region _ ops draw => match compRegion P n ops draw with
    | some v => some v
    | none => some .bad
  | .seq a b => match comp P n a, comp P n b with
    | some x, some y => some (.seq x y)
    | _, _ => none
  | .cond c a b => match comp P n a, comp P n b with
    | some x, some y => some (.cond c x y)
    | _, _ => none
  | .block id b => (comp P n b).map (.block id)
  | .loop b => (comp P n b).map .loop
  | .exit id => some (.exit id)
  | .ret => some .ret
  | _ => some .bad

section
variable {ds : List Deferred} {P : Program} {X : Ctx} {β κ : Nat → Nat} {s : St} {tm : Array Value} {w : World}

theorem put_tmps (tm : Array Value) (df : List Deferred) (d : Option Tmp) (v : Value) : (⟨tm, df⟩ : Act).put d v = ⟨setD tm d v, df⟩ := by
  cases d <;> rfl
theorem dst_lt {n : Nat} {o : Oper} (h : dstOK n o = true) : ∀ t, o.dst = some t → t < n := by
  intro t ht
  simp only [dstOK, ht, decide_eq_true_eq] at h
  exact h
theorem wanted_sound {n : Nat} {ops : Array Oper} {o : Oper} {g : Option (Nat × Bool)} (hg : compGrd n ops o = some g) {β κ : Nat → Nat} {s : St} {tm : Array Value} {w : World} (h : Rel X β κ s tm w) (hn : X.n = n) :
    match g with
    | none => Region.wanted o (yielded ops tm) = true
    | some (t, b) => match s.env t with
      | .val (.bool c) => Region.wanted o (yielded ops tm) = (c == b)
      | _ => Region.wanted o (yielded ops tm) = false := by
  unfold compGrd at hg
  split at hg
  · rename_i ho
    simp only [Option.some.injEq] at hg
    subst hg
    simp [Region.wanted, ho]
  · rename_i j b ho
    split at hg
    · rename_i t ht
      split at hg
      · rename_i hlt
        simp only [Option.some.injEq] at hg
        subst hg
        have hlt' : t < tm.size := by rw [h.size, hn]; exact hlt
        have hget : tm[t]? = some (den β κ (s.env t)) := by
          have := h.env t
          rw [← this]
          simp [hlt']
        simp only
        split
        · rename_i c hc
          simp only [Region.wanted, ho, yielded, ht, Option.bind_some, hget, hc, den]
          cases c <;> cases b <;> rfl
        · rename_i hc
          simp only [Region.wanted, ho, yielded, ht, Option.bind_some, hget]
          cases hs : s.env t with
          | val v =>
            cases v <;> simp only [den] <;> first | rfl | skip
            rename_i c
            exact absurd hs (hc c)
          | _ => simp [den]
      · cases hg
    · cases hg

theorem step_sound {md : Bool} {n : Nat} {ops : Array Oper} (hn : X.n = n) {i : Nat} {x : VStep} (hx : compStep P md n ops i = some x) {xs : List VStep} {K : St → Prop} {β κ : Nat → Nat} {s : St} {tm : Array Value} {w : World}
    (h : Rel X β κ s tm w) (hk : vcSteps ⟨P, X.ng⟩ (x :: xs) s K) :
    ∃ (o : Oper) (vo : VOp), ops[i]? = some o ∧ compOp P md o = some vo ∧
      (vo.quiet = true → ∃ s' v, YieldsK P ops vo.pure X.kp w o v ⟨tm, ds⟩ ∧ Rel X β κ s' (setD tm o.dst v) w ∧ vcSteps ⟨P, X.ng⟩ xs s' K) ∧
      ∀ Q, wpOp P ops Q i (fun a' w' => ∃ β' κ' s' v, a' = ⟨setD tm o.dst v, ds⟩ ∧ (vo.tail = false → Ext w w') ∧ Rel X β' κ' s' (setD tm o.dst v) w' ∧ vcSteps ⟨P, X.ng⟩ xs s' K) ⟨tm, ds⟩ w := by
  unfold compStep at hx
  split at hx
  · rename_i o ho
    split at hx
    · rename_i vo g hvo hg
      split at hx
      · rename_i hd
        simp only [Option.some.injEq] at hx
        subst hx
        have hdlt := dst_lt hd
        rw [← hn] at hdlt
        refine ⟨o, vo, ho, hvo, ?_⟩
        -- the operation is carried out
        have run : ∀ (s : St), Rel X β κ s tm w → Region.wanted o (yielded ops tm) = true → vcOp ⟨P, X.ng⟩ vo s (fun v s' => vcSteps ⟨P, X.ng⟩ xs (s'.put o.dst v) K) →
            (vo.quiet = true → ∃ s' v, YieldsK P ops vo.pure X.kp w o v ⟨tm, ds⟩ ∧ Rel X β κ s' (setD tm o.dst v) w ∧ vcSteps ⟨P, X.ng⟩ xs s' K) ∧
            ∀ Q, wpOp P ops Q i (fun a' w' => ∃ β' κ' s' v, a' = ⟨setD tm o.dst v, ds⟩ ∧ (vo.tail = false → Ext w w') ∧ Rel X β' κ' s' (setD tm o.dst v) w' ∧ vcSteps ⟨P, X.ng⟩ xs s' K) ⟨tm, ds⟩ w := by
          intro s h hw hk
          cases hvq : vo.quiet with
          | true =>
            obtain ⟨sv, s', h', hok, hk', hrun⟩ := quiet_sound hvo hvq h hk ds
            have hput := h'.put o.dst hdlt sv hok
            have hy : YieldsK P ops vo.pure X.kp w o (den β κ sv) ⟨tm, ds⟩ := .inl ⟨hw, hrun⟩
            refine ⟨fun _ => ⟨_, _, hy, hput, hk'⟩, fun Q => hy.wpOp ho (.inr (KeptG.refl _ _)) ⟨β, κ, _, _, ?_, fun _ => Ext.refl _, hput, hk'⟩⟩
            rw [put_tmps]
          | false =>
            have heff := effect_sound hvo hvq h hk ds
            refine ⟨fun e => absurd e (by simp), fun Q => ?_⟩
            unfold wpOp
            simp only [ho, hw, if_true]
            refine .inl (heff _ _ fun β' κ' sv s' w' h' hok hk' hext => ⟨β', κ', _, _, ?_, hext, h'.put o.dst hdlt sv hok, hk'⟩)
            rw [put_tmps]
        have skip : ∀ (s : St), Rel X β κ s tm w → Region.wanted o (yielded ops tm) = false → vcSteps ⟨P, X.ng⟩ xs (s.put o.dst (.val undef)) K →
            (vo.quiet = true → ∃ s' v, YieldsK P ops vo.pure X.kp w o v ⟨tm, ds⟩ ∧ Rel X β κ s' (setD tm o.dst v) w ∧ vcSteps ⟨P, X.ng⟩ xs s' K) ∧
            ∀ Q, wpOp P ops Q i (fun a' w' => ∃ β' κ' s' v, a' = ⟨setD tm o.dst v, ds⟩ ∧ (vo.tail = false → Ext w w') ∧ Rel X β' κ' s' (setD tm o.dst v) w' ∧ vcSteps ⟨P, X.ng⟩ xs s' K) ⟨tm, ds⟩ w := by
          intro s h hw hk
          have hput := h.put o.dst hdlt (.val undef) rfl
          have hy : YieldsK P ops vo.pure X.kp w o undef ⟨tm, ds⟩ := .inr ⟨hw, rfl⟩
          refine ⟨fun _ => ⟨_, _, hy, hput, hk⟩, fun Q => hy.wpOp ho (.inr (KeptG.refl _ _)) ⟨β, κ, _, _, ?_, fun _ => Ext.refl _, hput, hk⟩⟩
          rw [put_tmps]
          rfl
        have hws := wanted_sound hg h hn
        cases g with
        | none => exact run s h hws hk
        | some tb =>
          obtain ⟨t, b⟩ := tb
          simp only [vcSteps] at hk
          simp only at hws
          split at hk
          · rename_i c hc
            simp only [hc] at hws
            by_cases hcb : c = b
            · subst hcb
              exact run _ (h.upd t (.val (.bool c)) rfl (by rw [h.env t, hc])) (by simpa using hws) (hk.1 rfl)
            · have hcb' : c = !b := by cases c <;> cases b <;> simp_all
              exact skip _ (h.upd t (.val (.bool !b)) rfl (by rw [h.env t, hc, hcb'])) (by rw [hws]; simpa using hcb) (hk.2 hcb')
          · rename_i hc
            refine skip s h ?_ hk
            cases hs : s.env t with
            | val v =>
              cases v <;> simp only [hs] at hws <;> first | exact hws | skip
              rename_i c
              exact absurd hs (hc c)
            | _ => simp only [hs] at hws; exact hws
      · cases hx
    · cases hx
  · cases hx

theorem steps_plain {md : Bool} {n : Nat} {ops : Array Oper} (hn : X.n = n) {Q : Exit → Act → World → Prop} {K : St → Prop}
    (hQ : ∀ β κ s tm w, Rel X β κ s tm w → K s → Q .normal ⟨tm, ds⟩ w) : ∀ (pl : List Nat) (steps : List VStep), compSteps P md n ops pl = some steps →
    ∀ β κ s tm w, Rel X β κ s tm w → vcSteps ⟨P, X.ng⟩ steps s K → wpOps P ops Q pl ⟨tm, ds⟩ w
  | [], steps, hc, β, κ, s, tm, w, h, hk => by
    simp only [compSteps, Option.some.injEq] at hc
    subst hc
    exact hQ β κ s tm w h hk
  | i :: rest, steps, hc, β, κ, s, tm, w, h, hk => by
    simp only [compSteps] at hc
    split at hc
    · rename_i x xs hx hxs
      simp only [Option.some.injEq] at hc
      subst hc
      obtain ⟨o, vo, ho, hvo, h1, h2⟩ := step_sound hn hx h hk
      rw [wpOps_cons]
      refine wpOp_mono (fun a' w' hh => ?_) (h2 Q)
      obtain ⟨β', κ', s', v, rfl, hext, h', hk'⟩ := hh
      exact steps_plain hn hQ rest xs hxs _ _ _ _ _ h' hk'
    · cases hc
end
end Go.Proofs.YtcjdbfnnbejmeaaGreat.Vc
