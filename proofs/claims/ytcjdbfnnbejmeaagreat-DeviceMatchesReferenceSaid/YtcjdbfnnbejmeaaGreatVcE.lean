/- Plain lemmas of our own, no statement of the seat: the operations that only read. -/
import Derived.Test.YtcjdbfnnbejmeaaGreatVcP
namespace Go.Proofs.YtcjdbfnnbejmeaaGreat.Vc
set_option linter.unusedSimpArgs false
set_option linter.unusedVariables false
open Go.RowKit
section
variable {P : Program} {X : Ctx} {β κ : Nat → Nat} {s : St} {tm : Array Value} {w : World}

/-- In every world behind w the operation yields what the slot's content denotes. -/
def Quiet (P : Program) (X : Ctx) (β κ : Nat → Nat) (tm : Array Value) (df : List Deferred) (w : World) (o : Oper) (pure : Bool) (k : SV → St → Prop) : Prop :=
  ∃ sv s', Rel X β κ s' tm w ∧ SV.ok s'.blk.length sv = true ∧ k sv s' ∧ ∀ w', (pure = true ∨ KeptG X.kp w w') → (execOp (⟨tm, df⟩ : Act).eval o).run P w' = .ok (.value (den β κ sv)) w'

theorem keptG_cell {g : Nat → Prop} {a w : World} (h : KeptG g a w) {p : Addr} (hb : p.block < a.heap.size) (hg : ¬ g p.block) : w.cell? p = a.cell? p := World.cell?_of_block (h.block _ hb hg)
theorem Rel.notKept (h : Rel X β κ s tm w) {j : Nat} {b : Blk} (hj : s.blk[j]? = some b) (hl : b.live = true) : ¬ X.kp (β j) := fun ⟨p, hp, e⟩ => (h.kept p hp).2.2.1 j b hj hl e.symm
theorem Rel.notKeptR (h : Rel X β κ s tm w) {a : Addr} {v : Value} (ha : s.R a v) : ¬ X.kp a.block := fun ⟨p, hp, e⟩ => (h.kept p hp).2.2.2 a v ha e.symm
theorem add_block' (a : Addr) (i : Nat) : (a.add i).block = a.block := by unfold Addr.add; split <;> rfl
theorem den_val {x : SV} {v : Value} (h : x = .val v) : den β κ x = v := by subst h; rfl

theorem partsS_spec {fs : Array Field} : ∀ (ps : List (Nat × Operand)) (qs : List (Nat × Nat × Operand)), partsS fs P ps = some qs →
    qs.length = ps.length ∧ ∀ (i : Nat) (p : Nat × Operand) (q : Nat × Nat × Operand), ps[i]? = some p → qs[i]? = some q → (∃ f inf, fs[p.1]? = some f ∧ P.info? f.type = some inf ∧ q.1 = f.offset ∧ q.2.1 = inf.size) ∧ p.2 = q.2.2
  | [], qs, h => by simp only [partsS, Option.some.injEq] at h; subst h; exact ⟨rfl, by simp⟩
  | (i, x) :: ps, qs, h => by
    simp only [partsS] at h
    split at h
    · rename_i f hf
      split at h
      · rename_i inf r hi hr
        simp only [Option.some.injEq] at h
        subst h
        obtain ⟨hl, hp⟩ := partsS_spec ps r hr
        refine ⟨by simp [hl], fun j p q hj hq => ?_⟩
        cases j with
        | zero =>
          simp only [List.getElem?_cons_zero, Option.some.injEq] at hj hq
          subst hj hq
          exact ⟨⟨f, inf, hf, hi, rfl, rfl⟩, rfl⟩
        | succ j => exact hp j p q (by simpa using hj) (by simpa using hq)
      · cases h
    · cases h

theorem mapM_fields (w : World) : ∀ (fs : List Field), (∀ f ∈ fs, (P.info? f.type).isSome = true) →
    (fs.mapM fun f => do pure (f.offset, ← sizeOf f.type) : Sem (List (Nat × Nat))).run P w = .ok (fs.map fun f => (f.offset, ((P.info? f.type).map (·.size)).getD 0)) w
  | [], _ => rfl
  | f :: fs, h => by
    obtain ⟨i, hi⟩ := Option.isSome_iff_exists.1 (h f (by simp))
    have ih := mapM_fields w fs (fun g hg => h g (by simp [hg]))
    simp only [List.mapM_cons, Sem.run_bind, run_sizeOf' hi, Result.andThen_ok, Sem.run_pure, ih, List.map_cons, hi, Option.map_some, Option.getD_some]

theorem run_part {t : TypeId} {n : Option Nat} (h : sizeOfAgg P t = some n) (cs : Array Value) (off : Nat) (k : Value → Prop) (hk : partOf cs.toList off n k) :
    ∃ v, k v ∧ ∀ w, (part t cs off).run P w = .ok v w := by
  unfold sizeOfAgg at h
  split at h
  · rename_i d i hd hi
    split at h
    · rename_i ha
      simp only [Option.some.injEq] at h
      subst h
      obtain ⟨hlen, hk⟩ := hk
      refine ⟨_, hk, fun w => ?_⟩
      simp only [part, Sem.run_bind, run_isAgg' hd, ha, Result.andThen_ok, if_true, run_sizeOf' hi, Sem.run_pure]
      congr 2
      apply Array.ext'
      simp [Array.toList_extract]
    · rename_i ha
      simp only [Option.some.injEq] at h
      subst h
      simp only [partOf] at hk
      split at hk
      · rename_i v hv
        refine ⟨_, hk, fun w => ?_⟩
        have hv' : cs[off]? = some v := by simpa using hv
        simp [part, run_isAgg' hd, ha, hv']
      · exact hk.elim
  · cases h

theorem bnd_run {x : Option Operand} {d r : Nat} (h : Rel X β κ s tm w) (df : List Deferred) (hb : bnd s x d r) (y : Nat) (hy : r ≤ y) (code : BoundsCode) (w' : World) :
    (match x.map (⟨tm, df⟩ : Act).eval with | some v => Instr.sliceBound v y code | none => pure d : Sem Nat).run P w' = .ok r w' := by
  cases x with
  | none => simp only [bnd] at hb; subst hb; rfl
  | some x =>
    simp only [bnd] at hb
    simp only [Option.map_some, h.eval df x]
    split at hb
    · rename_i k n he
      subst hb
      rw [den_val he]
      have := run_sliceBound (P := P) w' k (r : Int) y code (by omega) (by omega)
      simpa using this
    · exact hb.elim

theorem quiet_sound {o : Oper} {vo : VOp} {md : Bool} (hc : compOp P md o = some vo) (hq : vo.quiet = true) (h : Rel X β κ s tm w) {k : SV → St → Prop} (hk : vcOp ⟨P, X.ng⟩ vo s k) (df : List Deferred) :
    Quiet P X β κ tm df w o vo.pure k := by
  obtain ⟨dst, op, type, pos, after, guard⟩ := o
  have E := fun x => h.eval df x
  unfold Quiet
  cases op <;> simp only [compOp, reduceCtorEq] at hc
  case move x =>
    simp only [Option.some.injEq] at hc; subst hc
    exact ⟨_, s, h, h.evOk x, hk, fun w' _ => by simp only [execOp, Sem.run_pure, E]⟩
  case assign x =>
    simp only [Option.some.injEq] at hc; subst hc
    exact ⟨_, s, h, h.evOk x, hk, fun w' _ => by simp only [execOp, Sem.run_pure, E]⟩
  case pick c a b =>
    simp only [Option.some.injEq] at hc; subst hc
    simp only [vcOp] at hk
    split at hk
    · rename_i t he
      cases t
      · exact ⟨_, s, h, h.evOk b, hk.2 rfl, fun w' _ => by simp [execOp, E, den_val he, asBool]⟩
      · exact ⟨_, s, h, h.evOk a, hk.1 rfl, fun w' _ => by simp [execOp, E, den_val he, asBool]⟩
    · exact hk.elim
  case binOp op t x y yt =>
    split at hc
    · rename_i hop
      simp only [Option.some.injEq] at hc; subst hc
      simp only [vcOp] at hk
      split at hk
      · rename_i i a j b hu hv
        obtain ⟨h0, n, rfl, hk⟩ := hk
        rcases hop with rfl | rfl
        · simp only [decide_true, if_true] at hk
          obtain ⟨r, rfl, hk⟩ := hk
          exact ⟨_, s, h, rfl, hk, fun w' _ => by simp only [execOp, E, den_val hu, den_val hv]; simp [go_sem, eqGuard, binOp, Op.shift, Int.not_lt.2 h0, den]⟩
        · simp only [reduceCtorEq, decide_false, Bool.false_eq_true, if_false] at hk
          exact ⟨_, s, h, rfl, hk, fun w' _ => by simp only [execOp, E, den_val hu, den_val hv]; simp [go_sem, eqGuard, binOp, Op.shift, Int.not_lt.2 h0, den]⟩
      · exact hk.elim
    · split at hc
      · simp only [Option.some.injEq] at hc; subst hc
        simp only [vcOp] at hk
        split at hk
        · rename_i u v hu hv
          obtain ⟨r, hr, hrun⟩ := bin_run (P := P) op t x y u v _ hk
          exact ⟨.val r, s, h, rfl, hr, fun w' _ => by
            have := hrun w'
            simp only [execOp, E, den_val hu, den_val hv, Sem.run_bind] at this ⊢
            rw [this]; rfl⟩
        · exact hk.elim
      · simp only [Option.some.injEq] at hc; subst hc
        simp only [vcOp] at hk
        split at hk
        · rename_i u v hu hv
          obtain ⟨r, hr, hrun⟩ := bin_run (P := P) op t x y u v _ hk
          exact ⟨.val r, s, h, rfl, hr, fun w' _ => by
            have := hrun w'
            simp only [execOp, E, den_val hu, den_val hv, Sem.run_bind] at this ⊢
            rw [this]; rfl⟩
        · exact hk.elim
      · rename_i hb
        split at hc
        · rename_i hop
          simp only [Option.some.injEq] at hc; subst hc; subst hop
          simp only [vcOp] at hk
          split at hk
          · rename_i a b hu hv
            exact ⟨_, s, h, rfl, hk, fun w' _ => by simp only [execOp, E, den_val hu, den_val hv]; simp [go_sem, run_eql_bool w' t a b hb, den]⟩
          · exact hk.elim
        · split at hc
          · rename_i hop
            simp only [Option.some.injEq] at hc; subst hc; subst hop
            simp only [vcOp] at hk
            split at hk
            · rename_i a b hu hv
              exact ⟨_, s, h, rfl, hk, fun w' _ => by simp only [execOp, E, den_val hu, den_val hv]; simp [go_sem, run_neq_bool w' t a b hb, den, bne]⟩
            · exact hk.elim
          · cases hc
      · rename_i fs hfs
        split at hc
        · rename_i hcond
          obtain ⟨hst, heg⟩ := hcond
          split at hc
          · rename_i ks hks
            have hfo : P.underlying t = some (.struct (P.fieldsOf t)) := by simp [Program.fieldsOf, hfs]
            have hff : P.fieldsOf t = fs := by simp [Program.fieldsOf, hfs]
            split at hc
            · rename_i hop
              simp only [Option.some.injEq] at hc; subst hc; subst hop
              simp only [vcOp] at hk
              split at hk
              · rename_i us vs hu hv
                split at hk
                · rename_i tt htt
                  refine ⟨_, s, h, rfl, hk, fun w' _ => ?_⟩
                  have hr := eqK_run w' fs.toList 9997 ks us.toList vs.toList tt hks htt
                  simp only [Array.toArray_toList] at hr
                  have h1 := run_equalIn_struct w' 9999 t us vs hfo hst
                  rw [hff, hr] at h1
                  simp only [execOp, E, den_val hu, den_val hv, Sem.run_bind, run_eqGuard_agg w' .eql t x y us vs heg, Result.andThen_ok, run_eql_struct w' t us vs, h1, Sem.run_pure]
                  simp [den]
                · exact hk.elim
              · exact hk.elim
            · split at hc
              · rename_i hop
                simp only [Option.some.injEq] at hc; subst hc; subst hop
                simp only [vcOp] at hk
                split at hk
                · rename_i us vs hu hv
                  split at hk
                  · rename_i tt htt
                    refine ⟨_, s, h, rfl, hk, fun w' _ => ?_⟩
                    have hr := eqK_run w' fs.toList 9997 ks us.toList vs.toList tt hks htt
                    simp only [Array.toArray_toList] at hr
                    have h1 := run_equalIn_struct w' 9999 t us vs hfo hst
                    rw [hff, hr] at h1
                    simp only [execOp, E, den_val hu, den_val hv, Sem.run_bind, run_eqGuard_agg w' .neq t x y us vs heg, Result.andThen_ok, run_neq_struct w' t us vs, h1, Sem.run_pure]
                    simp [den]
                  · exact hk.elim
                · exact hk.elim
              · cases hc
          · cases hc
        · cases hc
      · rename_i m e he
        split at hc
        · rename_i kd inf hue hinf
          split at hc
          · rename_i hcond
            obtain ⟨hs1, heg⟩ := hcond
            split at hc
            · rename_i hop
              simp only [Option.some.injEq] at hc; subst hc; subst hop
              simp only [vcOp] at hk
              split at hk
              · rename_i us vs hu hv
                split at hk
                · rename_i tt htt
                  refine ⟨_, s, h, rfl, hk, fun w' _ => ?_⟩
                  have h1 := eqArray_run w' he hue hinf hs1 us vs tt htt
                  simp only [execOp, E, den_val hu, den_val hv, Sem.run_bind, run_eqGuard_agg w' .eql t x y us vs heg, Result.andThen_ok, run_eql_struct w' t us vs, h1, Sem.run_pure]
                  simp [den]
                · exact hk.elim
              · exact hk.elim
            · split at hc
              · rename_i hop
                simp only [Option.some.injEq] at hc; subst hc; subst hop
                simp only [vcOp] at hk
                split at hk
                · rename_i us vs hu hv
                  split at hk
                  · rename_i tt htt
                    refine ⟨_, s, h, rfl, hk, fun w' _ => ?_⟩
                    have h1 := eqArray_run w' he hue hinf hs1 us vs tt htt
                    simp only [execOp, E, den_val hu, den_val hv, Sem.run_bind, run_eqGuard_agg w' .neq t x y us vs heg, Result.andThen_ok, run_neq_struct w' t us vs, h1, Sem.run_pure]
                    simp [den]
                  · exact hk.elim
                · exact hk.elim
              · cases hc
          · cases hc
        · cases hc
      · rename_i e he
        split at hc
        · have key : ∀ (neg : Bool), (∀ (a : Option Addr) (l c : Nat) w', (binOp op t (.slice a l c) (.slice none 0 0)).run P w' = .ok (.bool (if neg then !a.isNone else a.isNone)) w') → vcOp ⟨P, X.ng⟩ (.isnil neg x) s k → Quiet P X β κ tm df w ⟨dst, .binOp op t x (.const (.slice none 0 0)) yt, type, pos, after, guard⟩ true k := by
            intro neg hrun hk
            have Ec : (⟨tm, df⟩ : Act).eval (.const (.slice none 0 0)) = .slice none 0 0 := rfl
            simp only [vcOp] at hk
            split at hk
            · rename_i a l c hu
              exact ⟨_, s, h, rfl, hk, fun w' _ => by
                have := hrun a l c w'
                simp only [execOp, Ec, E x, den_val hu, Sem.run_bind, run_guard_slice, Result.andThen_ok, this, Sem.run_pure]
                rfl⟩
            · rename_i j n hu
              exact ⟨_, s, h, rfl, hk, fun w' _ => by
                have := hrun (some ⟨β j, 0, none⟩) n (κ j) w'
                simp only [execOp, Ec, E x, hu, den, Sem.run_bind, run_guard_slice, Result.andThen_ok, this, Sem.run_pure]
                cases neg <;> rfl⟩
            · rename_i j z e' n hu
              exact ⟨_, s, h, rfl, hk, fun w' _ => by
                have := hrun (some ⟨β j, if κ j = e' then 0 else e' * z, none⟩) n (κ j - e') w'
                simp only [execOp, Ec, E x, hu, den, Sem.run_bind, run_guard_slice, Result.andThen_ok, this, Sem.run_pure]
                cases neg <;> rfl⟩
            · exact hk.elim
          split at hc
          · rename_i hop
            simp only [Option.some.injEq] at hc; subst hc; subst hop
            exact key false (fun a l c w' => run_eql_nil w' a l c he) hk
          · split at hc
            · rename_i hop
              simp only [Option.some.injEq] at hc; subst hc; subst hop
              exact key true (fun a l c w' => run_neq_nil w' a l c he) hk
            · cases hc
        · cases hc
      · rename_i e he
        split at hc
        · have key : ∀ (neg : Bool), (∀ (a : Option Addr) w', (binOp op t (.pointer a) (.pointer none)).run P w' = .ok (.bool (if neg then !a.isNone else a.isNone)) w') → vcOp ⟨P, X.ng⟩ (.isnilP neg x) s k → Quiet P X β κ tm df w ⟨dst, .binOp op t x (.const (.pointer none)) yt, type, pos, after, guard⟩ true k := by
            intro neg hrun hk
            have Ec : (⟨tm, df⟩ : Act).eval (.const (.pointer none)) = .pointer none := rfl
            simp only [vcOp] at hk
            split at hk
            · rename_i j o hu
              exact ⟨_, s, h, rfl, hk, fun w' _ => by
                have := hrun (some ⟨β j, o, none⟩) w'
                simp only [execOp, Ec, E x, hu, den, Sem.run_bind, run_guard_ptr, Result.andThen_ok, this, Sem.run_pure]
                cases neg <;> rfl⟩
            · rename_i a hu
              exact ⟨_, s, h, rfl, hk, fun w' _ => by
                have := hrun a w'
                simp only [execOp, Ec, E x, den_val hu, Sem.run_bind, run_guard_ptr, Result.andThen_ok, this, Sem.run_pure]
                rfl⟩
            · exact hk.elim
          split at hc
          · rename_i hop
            simp only [Option.some.injEq] at hc; subst hc; subst hop
            exact key false (fun a w' => run_eql_nilP w' a he) hk
          · split at hc
            · rename_i hop
              simp only [Option.some.injEq] at hc; subst hc; subst hop
              exact key true (fun a w' => run_neq_nilP w' a he) hk
            · cases hc
        · cases hc
      · cases hc
  case unOp op t x =>
    simp only [Option.some.injEq] at hc; subst hc
    simp only [vcOp] at hk
    split at hk
    · rename_i u hu
      obtain ⟨r, hr, hrun⟩ := un_run (P := P) op u _ hk
      exact ⟨.val r, s, h, rfl, hr, fun w' _ => by simp only [execOp, E, den_val hu, Sem.run_bind, hrun]; simp [den]⟩
    · exact hk.elim
  case nilCheck x =>
    simp only [Option.some.injEq] at hc; subst hc
    simp only [vcOp] at hk
    split at hk
    · rename_i j o hu
      exact ⟨.loc j o, s, h, by rw [← hu]; exact h.evOk x, hk, fun w' _ => by simp only [execOp, E, hu, den]; rfl⟩
    · rename_i a hu
      exact ⟨.val (.pointer (some a)), s, h, rfl, hk, fun w' _ => by simp only [execOp, E, den_val hu]; rfl⟩
    · exact hk.elim
  case extract x i =>
    simp only [Option.some.injEq] at hc; subst hc
    simp only [vcOp] at hk
    split at hk
    · rename_i vs hu
      split at hk
      · rename_i v hv
        exact ⟨.val v, s, h, rfl, hk, fun w' _ => by simp only [execOp, E, den_val hu, Instr.extract, hv]; simp [den]⟩
      · exact hk.elim
    · exact hk.elim
  case fieldAddr t x f =>
    split at hc
    · rename_i fs hfs
      split at hc
      · rename_i fd hfd
        split at hc
        · rename_i hp
          simp only [Option.some.injEq] at hc; subst hc
          obtain ⟨n, hn⟩ := Option.isSome_iff_exists.1 hp
          unfold plainField at hn
          split at hn
          · rename_i inf hinf
            split at hn
            · cases hn
            · rename_i hne
              have hrun : ∀ (a : Addr) w', (Instr.fieldAt t (.pointer (some a)) f).run P w' = .ok (.pointer (some (a.add fd.offset))) w' := fun a w' => by
                simp [Instr.fieldAt, run_underlying hfs, hfd, Instr.sureAddr, fieldPlace, run_sizeOf' hinf, hne]
              simp only [vcOp] at hk
              split at hk
              · rename_i j o hu
                refine ⟨_, s, h, ?_, hk, fun w' _ => ?_⟩
                · have := h.evOk x; rw [hu] at this; exact this
                · simp only [execOp, E, hu, den, Sem.run_bind, hrun, Addr.add_lit, Result.andThen_ok, Sem.run_pure]
              · rename_i a hu
                exact ⟨_, s, h, rfl, hk, fun w' _ => by simp only [execOp, E, hu, den, Sem.run_bind, hrun, Result.andThen_ok, Sem.run_pure]⟩
              · exact hk.elim
          · cases hn
        · cases hc
      · cases hc
    · cases hc
  case indexAddr t x i =>
    split at hc
    · rename_i e he
      obtain ⟨inf, hinf, rfl⟩ := Option.map_eq_some_iff.1 hc
      have hel : P.elem t = e := by simp [Program.elem, he]
      have het : P.underlying t = some (.slice (P.elem t)) := by rw [hel]; exact he
      simp only [vcOp] at hk
      split at hk
      · rename_i a len cap ki n hu hi
        obtain ⟨h0, hlt, ad, rfl, hk⟩ := hk
        exact ⟨_, s, h, rfl, hk, fun w' _ => by
          simp only [execOp, E, hu, hi, den, Sem.run_bind, run_indexAt_slice w' t ad len cap ki n het, h0, hlt, and_self, if_true, hel, run_sizeOf' hinf, Result.andThen_ok, Sem.run_pure]⟩
      · rename_i j len ki n hu hi
        obtain ⟨h0, hlt, hk⟩ := hk
        refine ⟨_, s, h, ?_, hk, fun w' _ => ?_⟩
        · have := h.evOk x; rw [hu] at this; exact this
        · simp only [execOp, E, hu, hi, den, Sem.run_bind, run_indexAt_slice w' t _ len (κ j) ki n het, h0, hlt, and_self, if_true, hel, run_sizeOf' hinf, Result.andThen_ok, Sem.run_pure, Addr.add_lit, Nat.zero_add]
      · rename_i j z off len ki n hu hi
        obtain ⟨h0, hlt, rfl, hsz, ⟨T, cs, hj, hle⟩, hk⟩ := hk
        obtain ⟨_, arr, _, _, _, hcap, _⟩ := h.blk j _ hj
        have hrc : off + len ≤ κ j := Nat.le_of_mul_le_mul_right (Nat.le_trans hle hcap) hsz
        refine ⟨_, s, h, ?_, hk, fun w' _ => ?_⟩
        · have := h.evOk x; rw [hu] at this; exact this
        · simp only [execOp, E, hu, hi, den, Sem.run_bind, run_indexAt_slice w' t _ len (κ j - off) ki n het, h0, hlt, and_self, if_true, hel, run_sizeOf' hinf, Result.andThen_ok, Sem.run_pure, Addr.add_lit]
          rw [if_neg (by omega), Nat.add_mul]
      · exact hk.elim
    · rename_i m e he
      obtain ⟨inf, hinf, rfl⟩ := Option.map_eq_some_iff.1 hc
      have hel : P.elem t = e := by simp [Program.elem, he]
      have hal : P.arrayLen t = m := by simp [Program.arrayLen, he]
      have het : P.underlying t = some (.array (P.arrayLen t) (P.elem t)) := by rw [hel, hal]; exact he
      simp only [vcOp] at hk
      split at hk
      · rename_i j o ki n hu hi
        obtain ⟨h0, hlt, hk⟩ := hk
        refine ⟨_, s, h, ?_, hk, fun w' _ => ?_⟩
        · have := h.evOk x; rw [hu] at this; exact this
        · simp only [execOp, E, hu, hi, den, Sem.run_bind, run_indexAt_array w' t _ ki n het, hal, h0, hlt, and_self, if_true, hel, run_sizeOf' hinf, Result.andThen_ok, Sem.run_pure, Addr.add_lit]
      · rename_i a ki n hu hi
        obtain ⟨h0, hlt, hk⟩ := hk
        exact ⟨_, s, h, rfl, hk, fun w' _ => by
          simp only [execOp, E, hu, hi, den, Sem.run_bind, run_indexAt_array w' t a ki n het, hal, h0, hlt, and_self, if_true, hel, run_sizeOf' hinf, Result.andThen_ok, Sem.run_pure]⟩
      · exact hk.elim
    · cases hc
  case load t x =>
    obtain ⟨n, hn, rfl⟩ := Option.map_eq_some_iff.1 hc
    unfold sizeOfAgg at hn
    split at hn
    · rename_i d inf hd hinf
      split at hn
      · rename_i ha
        simp only [Option.some.injEq] at hn; subst hn
        have hrun : ∀ (a : Addr) (vs : List Value) w', vs.length = inf.size → (∀ j v, vs[j]? = some v → w'.cell? (a.add j) = some v) → (Instr.loadAt t (.pointer (some a))).run P w' = .ok (.agg vs.toArray) w' := fun a vs w' hl hv => by
          have h1 := run_loadCells_list (P := P) w' a vs hv
          rw [hl] at h1
          simp [Instr.loadAt, Instr.sureAddr, loadVar, run_isAgg' hd, ha, run_sizeOf' hinf, h1]
        simp only [vcOp] at hk
        split at hk
        · rename_i j o hu
          obtain ⟨s', vs, h', hk', hl, hv⟩ := cellsAt_sound inf.size s j o _ h hk
          have hlive : ∀ (i : Nat) (v : Value), vs[i]? = some v → ∃ b, s.blk[j]? = some b ∧ b.live = true := by
            intro i v hi
            have hpos : 0 < inf.size := by rw [← hl]; exact Nat.lt_of_le_of_lt (Nat.zero_le _) (List.getElem?_eq_some_iff.1 hi).1
            have hk0 := hk
            cases hs : inf.size with
            | zero => omega
            | succ n =>
              rw [hs] at hk0
              simp only [cellsAt] at hk0
              split at hk0
              · rename_i cs hb; exact ⟨_, hb, rfl⟩
              · rename_i cs hb; exact ⟨_, hb, rfl⟩
              · exact hk0.elim
          refine ⟨_, s', h', rfl, hk', fun w' hw' => ?_⟩
          rcases hw' with hw' | hw'
          · cases hw'
          simp only [execOp, E, hu, den, Sem.run_bind]
          rw [hrun _ vs w' hl (fun i v hi => by
            rw [Addr.add_lit]
            have := hv i v hi
            obtain ⟨b, hb, hbl⟩ := hlive i v hi
            rw [keptG_cell hw' (block_lt_of_cell this) (h.notKept hb hbl)]; exact this)]
          simp
        · rename_i a hu
          obtain ⟨vs, hl, hv, hk⟩ := hk
          refine ⟨_, s, h, rfl, hk, fun w' hw' => ?_⟩
          rcases hw' with hw' | hw'
          · cases hw'
          simp only [execOp, E, hu, den, Sem.run_bind]
          rw [hrun _ vs w' hl (fun i v hi => by
            have := (h.all (hv i v hi)).1
            rw [keptG_cell hw' (block_lt_of_cell this) (h.all (hv i v hi)).2]; exact this)]
          simp
        · exact hk.elim
      · rename_i ha
        simp only [Option.some.injEq] at hn; subst hn
        have hrun : ∀ (a : Addr) (v : Value) w', w'.cell? a = some v → (Instr.loadAt t (.pointer (some a))).run P w' = .ok v w' := fun a v w' hv => by
          simp [Instr.loadAt, Instr.sureAddr, loadVar, run_isAgg' hd, ha, hv]
        simp only [vcOp] at hk
        split at hk
        · rename_i j o hu
          split at hk
          · rename_i cs hj
            split at hk
            · rename_i c hco
              have hcell := h.boxCell hj hco
              refine ⟨_, s, h, (h.blk j _ hj).2.1 c (List.mem_of_getElem? hco), hk, fun w' hw' => ?_⟩
              rcases hw' with hw' | hw'
              · cases hw'
              simp only [execOp, E, hu, den, Sem.run_bind]
              rw [hrun _ (den β κ c) w' (by rw [keptG_cell hw' (block_lt_of_cell hcell) (h.notKept hj rfl)]; exact hcell)]
              rfl
            · exact hk.elim
          · rename_i T sz cs hj
            obtain ⟨c, hco, hk⟩ := hk
            have hcell := h.rowCell hj hco
            refine ⟨_, s, h, rfl, hk, fun w' hw' => ?_⟩
            rcases hw' with hw' | hw'
            · cases hw'
            simp only [execOp, E, hu, den, Sem.run_bind]
            rw [hrun _ c w' (by rw [keptG_cell hw' (block_lt_of_cell hcell) (h.notKept hj rfl)]; exact hcell)]
            simp
          · exact hk.elim
        · rename_i a hu
          obtain ⟨v, hv, hk⟩ := hk
          have hcell := (h.all hv).1
          refine ⟨_, s, h, rfl, hk, fun w' hw' => ?_⟩
          rcases hw' with hw' | hw'
          · cases hw'
          simp only [execOp, E, hu, den, Sem.run_bind]
          rw [hrun _ v w' (by rw [keptG_cell hw' (block_lt_of_cell hcell) (h.all hv).2]; exact hcell)]
          simp
        · exact hk.elim
    · cases hn
  case build t parts =>
    split at hc
    · rename_i inf hinf
      split at hc
      · rename_i z fs hz hfs
        split at hc
        · rename_i hall
          obtain ⟨qs, hqs, rfl⟩ := Option.map_eq_some_iff.1 hc
          obtain ⟨hl, hp⟩ := partsS_spec _ _ hqs
          have hall' : ∀ f ∈ fs.toList, (P.info? f.type).isSome = true := by
            intro f hf
            exact Array.all_eq_true_iff_forall_mem.1 hall f (by simpa using hf)
          simp only [vcOp] at hk
          obtain ⟨s', cs', h', hk', _, hf⟩ := fillV_sound df (fun i => ((fs.toList.map fun f => (f.offset, ((P.info? f.type).map (·.size)).getD 0)).toArray)[i]?) parts.toList qs s z.cells.toList _ hl
            (fun i p q hi hj => by
              obtain ⟨⟨f, g, hfi, hgi, e1, e2⟩, e3⟩ := hp i p q hi hj
              refine ⟨?_, e3⟩
              simp [hfi, hgi, e1, e2]) h hk
          refine ⟨_, s', h', rfl, hk', fun w' _ => ?_⟩
          have hm := mapM_fields (P := P) w' fs.toList hall'
          simp only [execOp, Sem.run_bind, Instr.build, zeroValue, run_typeInfo' hinf, hz, Result.andThen_ok, Sem.run_pure, run_underlying hfs]
          rw [Array.mapM_eq_mapM_toList, Sem.run_map, hm]
          simp only [Result.andThen_ok]
          have hf' : Instr.fill (fun i => ((fs.toList.map fun f => (f.offset, ((P.info? f.type).map (·.size)).getD 0)).toArray)[i]?) z.cells ((parts.map fun (x : Nat × Operand) => (x.1, (⟨tm, df⟩ : Act).eval x.2)).toList) = some cs'.toArray := by
            rw [← hf]; simp
          rw [hf']
          simp [den]
        · cases hc
      · rename_i z m e hz hfs
        obtain ⟨ie, hie, rfl⟩ := Option.map_eq_some_iff.1 hc
        simp only [vcOp] at hk
        obtain ⟨s', cs', h', hk', _, hf⟩ := fillV_sound df (fun i => some (i * ie.size, ie.size)) parts.toList (partsA ie.size parts.toList) s z.cells.toList _ (by simp [partsA])
            (fun i p q hi hj => by
              simp only [partsA, List.getElem?_map, hi, Option.map_some, Option.some.injEq] at hj
              subst hj
              exact ⟨rfl, rfl⟩) h hk
        refine ⟨_, s', h', rfl, hk', fun w' _ => ?_⟩
        simp only [execOp, Sem.run_bind, Instr.build, zeroValue, run_typeInfo' hinf, hz, Result.andThen_ok, Sem.run_pure, run_underlying hfs, run_sizeOf' hie]
        have hf' : Instr.fill (fun i => some (i * ie.size, ie.size)) z.cells ((parts.map fun (x : Nat × Operand) => (x.1, (⟨tm, df⟩ : Act).eval x.2)).toList) = some cs'.toArray := by
          rw [← hf]; simp
        rw [hf']
        simp [den]
      · cases hc
    · cases hc
  case call c =>
    obtain ⟨callee, args, argTypes⟩ := c
    simp only at hc
    split at hc
    · split at hc
      · simp only [Option.some.injEq] at hc; subst hc; cases hq
      · cases hc
    · simp only [Option.some.injEq] at hc; subst hc; cases hq
    · split at hc
      · rename_i x y t ts hx ht
        split at hc
        · simp only [Option.some.injEq] at hc; subst hc
          have hx' : args = #[x, y] := by apply Array.ext'; simpa using hx
          subst hx'
          simp only [vcOp] at hk
          split at hk
          · rename_i i a j b hu hv
            exact ⟨_, s, h, rfl, hk, fun w' _ => by
              simp only [execOp, resolve, List.map_toArray, List.map_cons, List.map_nil, E, hu, hv, den, Sem.run_bind, Sem.run_pure, Result.andThen_ok, invoke, builtin, Builtin.min_, List.foldlM, Builtin.min2, Bool.false_eq_true, if_false]
              congr 3
              split <;> omega⟩
          · exact hk.elim
        · cases hc
      · rename_i x y z t ts hx ht
        split at hc
        · simp only [Option.some.injEq] at hc; subst hc
          have hx' : args = #[x, y, z] := by apply Array.ext'; simpa using hx
          subst hx'
          simp only [vcOp] at hk
          split at hk
          · rename_i i a j b j' c hu hv hw0
            exact ⟨_, s, h, rfl, hk, fun w' _ => by
              simp only [execOp, resolve, List.map_toArray, List.map_cons, List.map_nil, E, hu, hv, hw0, den, Sem.run_bind, Sem.run_pure, Result.andThen_ok, invoke, builtin, Builtin.min_, List.foldlM, Builtin.min2, Bool.false_eq_true, if_false]
              congr 3
              (repeat' split) <;> omega⟩
          · exact hk.elim
        · cases hc
      · cases hc
    · split at hc
      · rename_i x y t ts hx ht
        split at hc
        · simp only [Option.some.injEq] at hc; subst hc
          have hx' : args = #[x, y] := by apply Array.ext'; simpa using hx
          subst hx'
          simp only [vcOp] at hk
          split at hk
          · rename_i i a j b hu hv
            exact ⟨_, s, h, rfl, hk, fun w' _ => by
              simp only [execOp, resolve, List.map_toArray, List.map_cons, List.map_nil, E, hu, hv, den, Sem.run_bind, Sem.run_pure, Result.andThen_ok, invoke, builtin, Builtin.max_, List.foldlM, Builtin.max2, if_true]
              congr 3
              split <;> omega⟩
          · exact hk.elim
        · cases hc
      · cases hc
    · split at hc
      · rename_i x t hx ht
        split at hc
        · rename_i e he
          simp only [Option.some.injEq] at hc; subst hc
          have hx' : args = #[x] := by apply Array.ext'; simpa using hx
          have ht' : argTypes = #[t] := by apply Array.ext'; simpa using ht
          subst hx' ht'
          have hel : P.underlying t = some (.slice (P.elem t)) := by simp [Program.elem, he]
          simp only [vcOp] at hk
          split at hk
          · rename_i a n c hu
            exact ⟨_, s, h, rfl, hk, fun w' _ => by
              simp only [execOp, resolve, List.map_toArray, List.map_cons, List.map_nil, E, hu, den, Sem.run_bind, Sem.run_pure, Result.andThen_ok, invoke, builtin, run_len_slice w' t type a n c hel]
              simp [goInt]⟩
          · rename_i j n hu
            exact ⟨_, s, h, rfl, hk, fun w' _ => by
              simp only [execOp, resolve, List.map_toArray, List.map_cons, List.map_nil, E, hu, den, Sem.run_bind, Sem.run_pure, Result.andThen_ok, invoke, builtin, run_len_slice w' t type _ n _ hel]
              simp [goInt]⟩
          · rename_i j z off n hu
            exact ⟨_, s, h, rfl, hk, fun w' _ => by
              simp only [execOp, resolve, List.map_toArray, List.map_cons, List.map_nil, E, hu, den, Sem.run_bind, Sem.run_pure, Result.andThen_ok, invoke, builtin, run_len_slice w' t type _ n _ hel]
              simp [goInt]⟩
          · exact hk.elim
        · rename_i he
          simp only [Option.some.injEq] at hc; subst hc
          have hx' : args = #[x] := by apply Array.ext'; simpa using hx
          have ht' : argTypes = #[t] := by apply Array.ext'; simpa using ht
          subst hx' ht'
          simp only [vcOp] at hk
          split at hk
          · rename_i b hu
            exact ⟨_, s, h, rfl, hk, fun w' _ => by
              simp only [execOp, resolve, List.map_toArray, List.map_cons, List.map_nil, E, hu, den, Sem.run_bind, Sem.run_pure, Result.andThen_ok, invoke, builtin, run_len_string w' t type b he]
              simp [goInt]⟩
          · exact hk.elim
        · cases hc
      · cases hc
    · exfalso
      (repeat' split at hc) <;> first | (simp only [Option.some.injEq] at hc; subst hc; cases hq) | cases hc
    · exfalso
      (repeat' split at hc) <;> first | (obtain ⟨_, _, rfl⟩ := Option.map_eq_some_iff.1 hc; cases hq) | cases hc
    · cases hc
  case convert src dst x =>
    split at hc
    · rename_i ks kd hs hd
      simp only [Option.some.injEq] at hc; subst hc
      have hik : P.intKind dst = kd := by simp [Program.intKind, hd]
      simp only [vcOp] at hk
      split at hk
      · rename_i i n hu
        obtain ⟨r, rfl, hk⟩ := hk
        exact ⟨_, s, h, rfl, hk, fun w' _ => by
          simp only [execOp, E, hu, den, Sem.run_bind, run_convert_int (P := P) w' src dst i n (by simp [hs]) (by rw [hik]; exact hd), hik, Result.andThen_ok, Sem.run_pure]⟩
      · exact hk.elim
    · cases hc
  case makeFunc fn first caps =>
    cases fn <;> simp only [reduceCtorEq] at hc
    rename_i f
    split at hc
    · rename_i hf0
      simp only [Option.some.injEq] at hc; subst hc
      simp only [vcOp] at hk
      split at hk
      · rename_i cs hcs
        have hok := capsOf_ok hcs (evs_ok h caps.toList)
        refine ⟨.fn f cs, s, h, hok, hk, fun w' _ => ?_⟩
        have hf1 : first = #[] := by apply Array.eq_empty_of_size_eq_zero hf0
        subst hf1
        have h1 := capsOf_den (β := β) (κ := κ) hcs
        rw [evs_den h df] at h1
        simp only [execOp, Instr.makeFunc, Sem.run_bind, Sem.run_pure, Result.andThen_ok, den, h1]
        congr 3
        · simp
        · rw [← Array.toList_map, Array.toArray_toList]
      · exact hk.elim
    · split at hc
      · rename_i x hx1 hx2
        simp only [Option.some.injEq] at hc; subst hc
        have hf1 : first = #[x] := by rw [← Array.toArray_toList (xs := first), hx1]
        have hc1 : caps = #[] := by rw [← Array.toArray_toList (xs := caps), hx2]
        subst hf1
        subst hc1
        simp only [vcOp] at hk
        split at hk
        · rename_i v hv
          exact ⟨.val (.func (.func f) #[v] #[]), s, h, rfl, hk, fun w' _ => by
            simp only [execOp, Instr.makeFunc, Sem.run_bind, Sem.run_pure, Result.andThen_ok, List.map_toArray, List.map_cons, List.map_nil, E x, den_val hv]
            rfl⟩
        · exact hk.elim
      · cases hc
  case slice t x lo hi mx =>
    have hrun : ∀ (e : TypeId) (inf : TypeInfo), P.underlying t = some (.slice e) → P.info? e = some inf → (mx.isSome = true → hi.isSome = true) → ∀ (a : Option Addr) (len cap l r m : Nat) w', bnd s lo 0 l → bnd s hi len r → bnd s mx cap m → l ≤ r → r ≤ m → m ≤ cap →
          (Instr.sliceAt t (.slice a len cap) (lo.map (⟨tm, df⟩ : Act).eval) (hi.map (⟨tm, df⟩ : Act).eval) (mx.map (⟨tm, df⟩ : Act).eval)).run P w' = .ok (.slice (if m = l then a else a.map (·.add (l * inf.size))) (r - l) (m - l)) w' := by
        intro e inf he hinf hmh a len cap l r m w' hbl hbr hbm hlr hrm hmc
        have hb : (Instr.sliceBounds true len cap (lo.map (⟨tm, df⟩ : Act).eval) (hi.map (⟨tm, df⟩ : Act).eval) (mx.map (⟨tm, df⟩ : Act).eval)).run P w' = .ok (l, r, m) w' := by
          have h1 := fun c => bnd_run (P := P) h df hbr m hrm c w'
          have h2 := fun c => bnd_run (P := P) h df hbl r hlr c w'
          have h3 := fun c => bnd_run (P := P) h df hbm cap hmc c w'
          unfold Instr.sliceBounds
          simp only [Sem.run_bind, Sem.run_pure, Result.andThen_ok]
          cases hi <;> cases lo <;> cases mx <;> simp_all
        simp only [Instr.sliceAt, Instr.slice, Sem.run_bind, run_underlying he, Result.andThen_ok, hb, run_sizeOf' hinf, Sem.run_pure]
    cases mx with
    | some mx =>
      cases hi with
      | none => simp only [reduceCtorEq] at hc
      | some hi =>
      simp only at hc
      split at hc
      · rename_i e he
        obtain ⟨inf, hinf, rfl⟩ := Option.map_eq_some_iff.1 hc
        simp only [vcOp] at hk
        split at hk
        · rename_i a len cap hu
          obtain ⟨l, r, m, hbl, hbr, hbm, hlr, hrm, hmc, hk⟩ := hk
          exact ⟨_, s, h, rfl, hk, fun w' _ => by
            simp only [execOp, E, hu, den, Sem.run_bind]
            have := hrun e inf he hinf (fun _ => rfl) a len cap l r m w' hbl hbr hbm hlr hrm hmc
            simp only [Option.map_some] at this ⊢
            rw [this]
            simp⟩
        · rename_i j n hu
          obtain ⟨s1, h1, hk1⟩ := leaf_sound h hk
          simp only [den, slc3] at hk1
          obtain ⟨l, r, m, hbl, hbr, hbm, hlr, hrm, hmc, hk2⟩ := hk1
          exact ⟨_, s1, h1, rfl, hk2, fun w' _ => by
            simp only [execOp, E, hu, den, Sem.run_bind]
            have := hrun e inf he hinf (fun _ => rfl) (some ⟨β j, 0, none⟩) n (κ j) l r m w' hbl hbr hbm hlr hrm hmc
            simp only [Option.map_some] at this ⊢
            rw [this]
            simp [den]⟩
        · exact hk.elim
      · cases hc
    | none =>
    simp only at hc
    split at hc
    · rename_i e he
      obtain ⟨inf, hinf, rfl⟩ := Option.map_eq_some_iff.1 hc
      have hrun := fun a len cap l r w' hbl hbr hlr hrc => hrun e inf he hinf (fun e => by cases e) a len cap l r cap w' hbl hbr rfl hlr hrc (Nat.le_refl _)
      simp only [vcOp] at hk
      split at hk
      · rename_i a len cap hu
        obtain ⟨l, r, hbl, hbr, hlr, hrc, hk⟩ := hk
        exact ⟨_, s, h, rfl, hk, fun w' _ => by
          have := hrun a len cap l r w' hbl hbr hlr hrc
          simp only [Option.map_none] at this
          simp only [execOp, E, hu, den, Sem.run_bind, Option.map_none]
          rw [this]
          simp⟩
      · rename_i j len hu
        obtain ⟨l, r, hbl, hbr, hlr, hsz, ⟨T, cs, hj, hle⟩, hk⟩ := hk
        obtain ⟨_, arr, _, _, _, hcap, _⟩ := h.blk j _ hj
        have hrc : r ≤ κ j := Nat.le_of_mul_le_mul_right (Nat.le_trans hle hcap) hsz
        have hx := h.evOk x
        rw [hu] at hx
        refine ⟨_, s, h, ?_, hk, fun w' _ => ?_⟩
        · split <;> exact hx
        · have := hrun (some ⟨β j, 0, none⟩) len (κ j) l r w' hbl hbr hlr hrc
          simp only [Option.map_none] at this
          simp only [execOp, E, hu, den, Sem.run_bind, Option.map_none]
          rw [this]
          simp only [Result.andThen_ok, Sem.run_pure]
          congr 2
          by_cases hl : l = 0
          · subst hl
            by_cases hz : κ j = 0 <;> simp [hz, Addr.add_zero', den]
          · rw [if_neg hl]
            by_cases hz : κ j = l <;> simp [hz, den, Addr.add_lit]
      · exact hk.elim
    · rename_i n e he
      split at hc
      · obtain ⟨inf, hinf, rfl⟩ := Option.map_eq_some_iff.1 hc
        simp only [vcOp] at hk
        obtain ⟨s1, h1, hk1⟩ := leaf_sound h hk
        split at hk1
        · rename_i a hden
          exact ⟨_, s1, h1, rfl, hk1, fun w' _ => by
            have hz : (if n = 0 then a else a.add (0 * inf.size)) = a := by
              split
              · rfl
              · rw [Nat.zero_mul, Addr.add_zero']
            simp only [execOp, E, hden, Option.map_none, Sem.run_bind, Instr.sliceAt, run_underlying he, Result.andThen_ok, Instr.sureAddr, Instr.sliceBounds, Sem.run_pure, run_sizeOf' hinf, hz, Nat.sub_zero]
            rfl⟩
        · exact hk1.elim
      · cases hc
    · cases hc
  case field t x f =>
    split at hc
    · rename_i fs hfs
      split at hc
      · rename_i fd hfd
        obtain ⟨n, hn, rfl⟩ := Option.map_eq_some_iff.1 hc
        simp only [vcOp] at hk
        split at hk
        · rename_i cs hu
          obtain ⟨v, hv, hrun⟩ := run_part (P := P) hn cs fd.offset _ hk
          exact ⟨_, s, h, rfl, hv, fun w' _ => by
            simp only [execOp, E, hu, den, Sem.run_bind, Instr.field, run_underlying hfs, Result.andThen_ok, hfd, asAgg, Sem.run_pure, hrun]⟩
        · exact hk.elim
      · cases hc
    · cases hc
  case index t x i =>
    split at hc
    · rename_i n e he
      split at hc
      · rename_i inf hinf
        obtain ⟨m, hm, rfl⟩ := Option.map_eq_some_iff.1 hc
        simp only [vcOp] at hk
        split at hk
        · rename_i cs ki j hu hi
          obtain ⟨h0, hlt, hk⟩ := hk
          obtain ⟨v, hv, hrun⟩ := run_part (P := P) hm cs (j.toNat * inf.size) _ hk
          exact ⟨_, s, h, rfl, hv, fun w' _ => by
            simp only [execOp, E, hu, hi, den, Sem.run_bind, Instr.index, asIntOf, Sem.run_pure, Result.andThen_ok, run_underlying he, h0, hlt, and_self, if_true, run_sizeOf' hinf, hrun]⟩
        · exact hk.elim
      · cases hc
    · cases hc
  case lookup t x y ok =>
    split at hc
    · rename_i kt et ht
      split at hc
      · rename_i ks inf hks hi
        obtain ⟨z, hz, rfl⟩ := Option.map_eq_some_iff.1 hc
        simp only [vcOp] at hk
        split at hk
        · rename_i j kv hu hv
          obtain ⟨ha, es, clock, r, hj, hr, hk⟩ := hk
          obtain ⟨_, hh⟩ := h.blk j _ hj
          refine ⟨_, s, h, rfl, hk, fun w' hw' => ?_⟩
          rcases hw' with hw' | hw'
          · cases hw'
          have hh' : w'.heap[β j]? = some (.map es.toArray clock) := by
            rw [hw'.block _ (Array.getElem?_eq_some_iff.1 hh).1 (h.notKept hj rfl)]; exact hh
          simp only [execOp, E, hu, hv, den, Sem.run_bind, run_lookup' w' ht hks hi hz hh' ha hr ok, Result.andThen_ok, Sem.run_pure]
        · exact hk.elim
      · cases hc
    · cases hc
  case makeMap t r =>
    cases r with
    | none => simp only [Option.some.injEq] at hc; subst hc; cases hq
    | some r => cases hc
  case mapUpdate t x y v =>
    split at hc
    · obtain ⟨z, _, rfl⟩ := Option.map_eq_some_iff.1 hc; cases hq
    · cases hc
  case range t x =>
    split at hc
    · simp only [Option.some.injEq] at hc; subst hc; cases hq
    · cases hc
  case next x b =>
    cases b with
    | false => simp only [Option.some.injEq] at hc; subst hc; cases hq
    | true => cases hc
  case entry x =>
    simp only [Option.some.injEq] at hc; subst hc
    simp only [vcOp] at hk
    split at hk
    · rename_i j hu
      obtain ⟨m, since, seen, es, clock, e, hj, hm, he, hnd, hk⟩ := hk
      obtain ⟨_, _, hh1⟩ := h.blk j _ hj
      obtain ⟨_, hh2⟩ := h.blk m _ hm
      refine ⟨_, s, h, rfl, hk, fun w' hw' => ?_⟩
      rcases hw' with hw' | hw'
      · cases hw'
      have hw1 : w'.heap[β j]? = some (.mapIter (some (β m)) since (seen.toArray.push e.born) clock) := by
        rw [hw'.block _ (Array.getElem?_eq_some_iff.1 hh1).1 (h.notKept hj rfl), hh1]; simp
      have hw2 : w'.heap[β m]? = some (.map es.toArray clock) := by
        rw [hw'.block _ (Array.getElem?_eq_some_iff.1 hh2).1 (h.notKept hm rfl)]; exact hh2
      have hr := run_entry_at (P := P) w' (β j) (β m) since seen.toArray es.toArray clock e hw1 hw2 (by simpa using he) (by simpa using hnd)
      simp only [execOp, E, hu, den, Sem.run_bind, hr, Result.andThen_ok, Sem.run_pure]
    · exact hk.elim
  case alloc t =>
    split at hc
    · obtain ⟨z, _, rfl⟩ := Option.map_eq_some_iff.1 hc; cases hq
    · cases hc
  case box t x => simp only [Option.some.injEq] at hc; subst hc; cases hq
  case buildSlice t n parts =>
    split at hc
    · split at hc
      · split at hc
        · split at hc
          · simp only [Option.some.injEq] at hc; subst hc; cases hq
          · cases hc
        · cases hc
      · cases hc
    · cases hc
  case makeSlice t l c =>
    exfalso
    (repeat' split at hc) <;> first | (simp only [Option.some.injEq] at hc; subst hc; cases hq) | cases hc
  case store t x v =>
    obtain ⟨z, _, rfl⟩ := Option.map_eq_some_iff.1 hc; cases hq
end
end Go.Proofs.YtcjdbfnnbejmeaaGreat.Vc
