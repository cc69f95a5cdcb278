/- Plain lemmas of our own, no statement of the seat: pieces of code, loops over a function. -/
import Derived.Test.YtdglpgepgmdbdaaGreatDoorVcI
import Derived.RangeFuncLeaves
import Derived.RangeFuncOwn
namespace Go.Proofs.YtdglpgepgmdbdaaGreatDoor.Vc
set_option linter.unusedSectionVars false
variable [Drew]
set_option linter.unusedSimpArgs false
set_option linter.unusedVariables false
open Go.RowKit
section
variable {fr : Option Nat} {fn : Nat} {ds : List Deferred} {P : Program} {X : Ctx} {β κ : Nat → Nat} {s : St} {tm : Array Value} {w w' : World}
def SemI (P : Program) (fr : Option Nat) (fn : Nat) (X : Ctx) (ds : List Deferred) (c : Code) (s : St) (Q : Exit → Act → World → Prop) : Prop :=
 ∀ β κ tm w, Rel X β κ s tm w → c.wpIn (Fr fr) fn P Q ⟨tm, ds⟩ w
def SemE (X : Ctx) (ds : List Deferred) (i : Nat) (s : St) (Q : Exit → Act → World → Prop) : Prop := ∀ β κ tm w, Rel X β κ s tm w → Q (.exit i) ⟨tm, ds⟩ w
def SemR (X : Ctx) (ds : List Deferred) (s : St) (Q : Exit → Act → World → Prop) : Prop := ∀ β κ tm w, Rel X β κ s tm w → Q .ret ⟨tm, ds⟩ w
def SemN (X : Ctx) (ds : List Deferred) (s : St) (Q : Exit → Act → World → Prop) : Prop := ∀ β κ tm w, Rel X β κ s tm w → Q .normal ⟨tm, ds⟩ w
theorem sem_vc (hmix : P.follows .mixedOrders = true) {c : Code} {vc : VCode} (hX : X.keep = []) (hc : comp P X.n c = some vc) {Q : Exit → Act → World → Prop}
  (h : CodeT ⟨P, X.ng⟩ vc s (fun s' => SemN X ds s' Q) (fun i s' => SemE X ds i s' Q) (fun s' => SemR X ds s' Q) .mk .mk .mk) : SemI P fr fn X ds c s Q := fun β κ tm w hr =>
 wpIn_mono (code_sound hmix c X vc hX hc β κ s tm w _ _ _ hr h) fun e a w hq => by
  cases e with
  | normal => obtain ⟨β, κ, s', tm, rfl, h1, h2⟩ := hq; exact h2 _ _ _ _ h1
  | exit i => obtain ⟨β, κ, s', tm, rfl, h1, h2⟩ := hq; exact h2 _ _ _ _ h1
  | ret => obtain ⟨β, κ, s', tm, rfl, h1, h2⟩ := hq; exact h2 _ _ _ _ h1
  | _ => exact hq.elim
theorem sem_seq (hmix : P.follows .mixedOrders = true) {a b : Code} {va : VCode} (hX : X.keep = []) (hc : comp P X.n a = some va) {Q : Exit → Act → World → Prop}
  (h : CodeT ⟨P, X.ng⟩ va s (fun s' => SemI P fr fn X ds b s' Q) (fun i s' => SemE X ds i s' Q) (fun s' => SemR X ds s' Q) .mk .mk .mk) : SemI P fr fn X ds (.seq a b) s Q := fun β κ tm w hr =>
 wpIn_seq (wpIn_mono (code_sound hmix a X va hX hc β κ s tm w _ _ _ hr h) fun e a w hq => by
  cases e with
  | normal => obtain ⟨β, κ, s', tm, rfl, h1, h2⟩ := hq; exact h2 _ _ _ _ h1
  | exit i => obtain ⟨β, κ, s', tm, rfl, h1, h2⟩ := hq; exact h2 _ _ _ _ h1
  | ret => obtain ⟨β, κ, s', tm, rfl, h1, h2⟩ := hq; exact h2 _ _ _ _ h1
  | _ => exact hq.elim)
theorem sem_seqS {a b : Code} {Q : Exit → Act → World → Prop} (h : SemI P fr fn X ds a s (Exit.then (fun a' w' => b.wpIn (Fr fr) fn P Q a' w') Q)) : SemI P fr fn X ds (.seq a b) s Q := fun β κ tm w hr => wpIn_seq (h β κ tm w hr)
theorem sem_cond {c : Operand} {a b : Code} {Q : Exit → Act → World → Prop} {t : Bool} (hc : s.ev c = .val (.bool t)) (h1 : t = true → SemI P fr fn X ds a s Q) (h2 : t = false → SemI P fr fn X ds b s Q) : SemI P fr fn X ds (.cond c a b) s Q := fun β κ tm w hr =>
 wpIn_cond_split (t := t) (by rw [hr.eval ds c, hc]; rfl) (fun e => h1 e β κ tm w hr) (fun e => h2 e β κ tm w hr)
theorem sem_block {id : Nat} {b : Code} {Q : Exit → Act → World → Prop} (h : SemI P fr fn X ds b s (Exit.inBlock id Q)) : SemI P fr fn X ds (.block id b) s Q := fun β κ tm w hr => wpIn_block (h β κ tm w hr)
theorem sem_ret {Q : Exit → Act → World → Prop} (h : SemR X ds s Q) : SemI P fr fn X ds .ret s Q := fun β κ tm w hr => wpIn_ret (h β κ tm w hr)
theorem sem_skip {Q : Exit → Act → World → Prop} (h : SemN X ds s Q) : SemI P fr fn X ds .skip s Q := fun β κ tm w hr => wpIn_skip (h β κ tm w hr)
theorem sem_mono {c : Code} {Q Q' : Exit → Act → World → Prop} (h : SemI P fr fn X ds c s Q) (hq : ∀ e a w, Q e a w → Q' e a w) : SemI P fr fn X ds c s Q' := fun β κ tm w hr => wpIn_mono (h β κ tm w hr) hq
theorem sem_loop {b : Code} {Q : Exit → Act → World → Prop} (Y : Type) (vals : Y → List (Nat × SV)) (blks : Y → List Blk) (Φ : Y → RO → Prop) (μ : Y → Nat) (y0 : Y) (ρ0 : List Nat)
  (h0 : Matches ρ0 (vals y0) (blks y0) s) (h1 : inScope X.ng ρ0 (vals y0) (blks y0) = true) (h2 : Φ y0 s.R)
  (hr : ∀ y env R', RO.le s.R R' → (∀ p ∈ vals y, env p.1 = p.2) → Φ y R' → SemI P fr fn { X with R0 := s.R } ds b ⟨env, blks y, R'⟩
   (Exit.then (fun a' w' => ∃ β κ s' tm, a' = ⟨tm, ds⟩ ∧ Rel { X with R0 := s.R } β κ s' tm w' ∧ ∃ y' ρ, μ y' < μ y ∧ Matches ρ (vals y') (blks y') s' ∧ inScope X.ng ρ (vals y') (blks y') = true ∧ Φ y' s'.R) Q)) : SemI P fr fn X ds (.loop b) s Q := by
 intro β κ tm w h
 let X' : Ctx := { X with R0 := s.R }
 have hXr : Rel X' β κ s tm w := { h with
  le := fun a v ha => ha
  shr := fun j b cap T sz cs hj => { h.shr j b cap T sz cs hj with }
  own := fun j F hj => { h.own j F hj with } }
 obtain ⟨β00, κ00, env0, g0, hv0⟩ := hXr.scrub h0 h1
 refine wpIn_loop_ghost (fun n a w => ∃ y β κ env' R' tm, a = ⟨tm, ds⟩ ∧ n = μ y ∧ Rel X' β κ ⟨env', blks y, R'⟩ tm w ∧ (∀ p ∈ vals y, env' p.1 = p.2) ∧ Φ y R') (μ y0) ⟨y0, β00, κ00, env0, s.R, tm, rfl, rfl, g0, hv0, h2⟩ ?_
 rintro n a w1 ⟨y, β1, κ1, env1, R1, tm1, rfl, rfl, g1, hv1, hΦ1⟩
 refine wpIn_mono (hr y env1 R1 g1.le hv1 hΦ1 β1 κ1 tm1 w1 g1) fun e a' w' hq => ?_
 cases e with
 | normal =>
  obtain ⟨β2, κ2, s2, tm2, rfl, g2, y', ρ2, hμ, hm, hs, hΦ⟩ := hq
  obtain ⟨β3, κ3, env2, h2', hv2⟩ := g2.scrub hm hs
  exact ⟨μ y', hμ, y', β3, κ3, env2, s2.R, tm2, rfl, rfl, h2', hv2, hΦ⟩
 | _ => exact hq
theorem Rel.up {R0 : RO} (hle : RO.le X.R0 R0) (h : Rel { X with R0 := R0 } β κ s tm w) : Rel X β κ s tm w := { h with
 le := fun a v ha => h.le a v (hle a v ha)
 shr := fun j b cap T sz cs hj => { h.shr j b cap T sz cs hj with }
 own := fun j F hj => { h.own j F hj with } }
structure Still (w w' : World) (n0 : Nat) : Prop where
 os : w'.os = w.os
 tape : w'.tape = w.tape
 output : w'.output = w.output
 size : w.heap.size ≤ w'.heap.size
 block : ∀ k, k < n0 → w'.heap[k]? = w.heap[k]?
 cells : ∀ (k : Nat) (o : Obj), w.heap[k]? = some o → (o.isCells = true ∨ o.isWalk = true) → w'.heap[k]? = some o
 drawn : Drew.d * w.drawn ≤ Drew.d * w'.drawn
theorem still_put {n0 l : Nat} {o : Obj} (o' : Obj) (hn : n0 ≤ l) (hl : w.heap[l]? = some o) (h1 : o.isCells = false) (h2 : o.isWalk = false) : Still w (w.putObj l o') n0 where
 os := rfl
 tape := rfl
 output := rfl
 size := by simp
 block := fun k hk => World.putObj_heap_other (by omega)
 cells := fun k ob hk hc => by
  rw [World.putObj_heap_other]
  ·exact hk
  ·rintro rfl
   rw [hl] at hk
   cases hk
   rcases hc with hc | hc
   ·rw [h1] at hc; cases hc
   ·rw [h2] at hc; cases hc
 drawn := Nat.le_refl _
theorem cell_obj {a : Addr} {v : Value} (h : w.cell? a = some v) : ∃ o : Obj, w.heap[a.block]? = some o ∧ o.isCells = true := cells_of_cell h
theorem Still.eq {n0 : Nat} (h : Still w w' n0) {k : Nat} {o : Obj} (hk : w.heap[k]? = some o) (hc : o.isCells = true ∨ o.isWalk = true) : w'.heap[k]? = w.heap[k]? := by rw [hk]; exact h.cells k o hk hc
theorem Still.cellEq {n0 : Nat} (h : Still w w' n0) {a : Addr} {v : Value} (hv : w.cell? a = some v) : w'.heap[a.block]? = w.heap[a.block]? := by
 obtain ⟨o, ho, hc⟩ := cell_obj hv
 exact h.eq ho (.inl hc)
theorem BlkOK.obj {own : Nat → Prop} {L j : Nat} {b : Blk} (h : BlkOK β κ w own L j b) (hl : b.live = true) : ∃ o : Obj, w.heap[β j]? = some o ∧ (o.isCells = true ∨ o.isWalk = true) := by
 cases b with
 | dead => cases hl
 | shr => cases hl
 | own => cases hl
 | box cs => obtain ⟨_, _, T, h⟩ := h; exact ⟨_, h, .inl rfl⟩
 | row T sz cs => obtain ⟨_, arr, h, _⟩ := h; exact ⟨_, h, .inl rfl⟩
 | mp es c => exact ⟨_, h.2, .inr rfl⟩
 | it m a b c => exact ⟨_, h.2.2, .inr rfl⟩
theorem Rel.still (h : Rel X β κ s tm w) (hw : Still w w' X.w0.heap.size) : Rel X β κ s tm w' where
 size := h.size
 env := h.env
 ok := h.ok
 below := ⟨hw.os.trans h.below.os, hw.tape.trans h.below.tape, hw.output.trans h.below.output, Nat.le_trans h.below.size hw.size, fun k hk hg => (hw.block k hk).trans (h.below.block k hk hg), Nat.le_trans h.below.drawn hw.drawn⟩
 le := h.le
 blk := fun j b hj => (h.blk j b hj).heap fun hl => by obtain ⟨o, ho, hc⟩ := (h.blk j b hj).obj hl; exact hw.eq ho hc
 inj := h.inj
 ro := fun a v ha => by
  obtain ⟨h1, h2, h3⟩ := h.ro a v ha
  exact ⟨by rw [World.cell?_of_block (hw.cellEq h1)]; exact h1, h2.imp id fun hh => ⟨hh.1, hh.2.of_eq (hw.cellEq h1)⟩, h3⟩
 kept := fun p hp => by
  obtain ⟨h1, h2⟩ := h.kept p hp
  exact ⟨by rw [hw.eq h1 (.inl rfl)]; exact h1, h2⟩
 shr := fun j b cap T sz cs hj => by
  have h1 := h.shr j b cap T sz cs hj
  obtain ⟨arr, h2, h3⟩ := h1.heap
  exact { h1 with heap := ⟨arr, by rw [hw.eq h2 (.inl rfl)]; exact h2, h3⟩ }
 own := fun j F hj => let h1 := h.own j F hj; h1.move (fun a v hf => hw.cellEq (h1.cell a v hf)) h1.apart h1.ro h1.shr h1.one
 pos := h.pos
 len := h.len
def Sharp (X : Ctx) (β κ : Nat → Nat) (s : St) (w : World) : Ctx := { w0 := w, R0 := s.R, B := s.R, n := X.n, g := Gset β s.blk, ng := s.blk.length, β0 := β, κ0 := κ }
theorem Rel.sharp (h : Rel X β κ s tm w) (hns : s.blk.all Blk.noShr = true) : Rel (Sharp X β κ s w) β κ s tm w where
 size := h.size
 env := h.env
 ok := h.ok
 below := KeptG.refl _ _
 le := fun a v ha => ha
 blk := fun j b hj => (h.blk j b hj).own fun hl _ => .inr ⟨j, b, hj, hl, rfl⟩
 inj := h.inj
 ro := fun a v ha => ⟨(h.ro a v ha).1, .inl ha, (h.ro a v ha).2.2⟩
 kept := fun p hp => by cases hp
 shr := fun j b cap T sz cs hj => by have := List.all_eq_true.1 hns _ (List.mem_of_getElem? hj); cases this
 own := fun j F hj => by have := List.all_eq_true.1 hns _ (List.mem_of_getElem? hj); cases this
 pos := fun i hi => ⟨rfl, rfl⟩
 len := Nat.le_refl _
theorem Rel.unsharp {s' : St} {β' κ' : Nat → Nat} {tm' : Array Value} (h : Rel X β κ s tm w) (h1 : Rel (Sharp X β κ s w) β' κ' s' tm' w') : KeptG X.g X.w0 w' ∧ RO.le X.R0 s'.R ∧ ∀ a v, s'.R a v → w'.cell? a = some v ∧ (X.B a v ∨ (X.own a.block ∧ Loose w' a.block)) := by
 have hg : ∀ k, Gset β s.blk k → X.own k := fun k ⟨i, b, hi, hl, e⟩ => by rw [e]; exact (h.blk i b hi).base hl
 refine ⟨h.below.trans h1.below fun k hk => hg k hk, fun a v ha => h1.le a v (h.le a v ha), fun a v ha => ?_⟩
 obtain ⟨g1, g2, g3⟩ := h1.ro a v ha
 refine ⟨g1, ?_⟩
 rcases g2 with g2 | ⟨g2, g4⟩
 ·obtain ⟨k1, k2, k3⟩ := h.ro a v g2
  refine k2.imp id fun hh => ⟨hh.1, hh.2.of_eq (h1.below.block _ (block_lt_of_cell k1) ?_)⟩
  rintro ⟨i, b, hi, hl, e⟩
  exact k3 i b hi hl e
 ·refine .inr ⟨?_, g4⟩
  rcases g2 with g2 | g2
  ·exact .inl (Nat.le_trans h.below.size g2)
  ·exact hg _ g2
theorem op_inF {r : Option Nat} {n : Nat} {P : Program} {o : Oper} {a : Act} {w : World} {K : Act → World → Prop} {Q : Exit → Act → World → Prop} (hd : noDefer o = true) (h : o.wp P a w K (fun _ _ _ => False)) : o.wpIn (Fr r) n P a w K Q := by
 refine ⟨fun _ _ => trivial, ?_⟩
 rw [Oper.semAt_eq _ _ _ (fun c hc => by rw [noDefer, hc] at hd; cases hd)]
 unfold Oper.wp at h
 generalize (execOp a.eval o).run P w = res at *
 cases res with
 | ok x w' =>
  cases x <;> simp only [Oper.upon] at h <;> simp only [Oper.uponIn] <;>
   first
    | exact h
    | exact h.elim
    | exact ⟨fun e => (by cases e), callsIn_fr (Calls.mono h fun e w'' he => by
      cases e with
      | returned v => exact he
      | panicked c => exact he.elim
      | outgrown => obtain ⟨_, _, hf⟩ := he; exact hf.elim)⟩
    | exact ⟨fun e => (by cases e), rowsIn_fr h⟩
 | halt x w' => cases x <;> simp only [Oper.upon] at h <;> simp only [Oper.uponIn] <;> exact h.elim
theorem steps_pre {n : Nat} {ops : Array Oper} (hn : X.n = n) (hd : ops.all noDefer = true) {Q : Exit → Act → World → Prop} {K : St → Prop} {pl2 : List Nat}
  (hQ : ∀ β κ s tm w, Rel X β κ s tm w → K s → wpOpsIn (Fr fr) fn P ops Q pl2 ⟨tm, ds⟩ w) : ∀ (pl : List Nat) (steps : List VStep), compSteps P true n ops pl = some steps →
  ∀ β κ s tm w, Rel X β κ s tm w → vcSteps ⟨P, X.ng⟩ steps s K → wpOpsIn (Fr fr) fn P ops Q (pl ++ pl2) ⟨tm, ds⟩ w
 | [], steps, hc, β, κ, s, tm, w, h, hk => by
  simp only [compSteps, Option.some.injEq] at hc
  subst hc
  exact hQ β κ s tm w h hk
 | i :: rest, steps, hc, β, κ, s, tm, w, h, hk => by
  simp only [compSteps] at hc
  split at hc
  ·rename_i x xs hx hxs
   simp only [Option.some.injEq] at hc
   subst hc
   obtain ⟨o, vo, ho, hvo, h1, h2⟩ := step_sound (ds := ds) hn hx h hk
   have h3 := h2 (fun _ _ _ => False)
   rw [List.cons_append, wpOpsIn_cons]
   unfold wpOp at h3
   unfold wpOpIn
   simp only [ho] at h3 ⊢
   have hdo : noDefer o = true := by
    obtain ⟨hi, rfl⟩ := Array.getElem?_eq_some_iff.1 ho
    exact Array.all_eq_true.1 hd i hi
   have go : ∀ a' w', (∃ β' κ' s' v, a' = ⟨setD tm o.dst v, ds⟩ ∧ (vo.tail = false → Ext w w') ∧ Rel X β' κ' s' (setD tm o.dst v) w' ∧ vcSteps ⟨P, X.ng⟩ xs s' K) → wpOpsIn (Fr fr) fn P ops Q (rest ++ pl2) a' w' := by
    rintro a' w' ⟨β', κ', s', v, rfl, _, h', hk'⟩
    exact steps_pre hn hd hQ rest xs hxs _ _ _ _ _ h' hk'
   split
   ·rename_i hw
    simp only [hw, if_true] at h3
    refine Oper.wpIn_mono go (op_inF hdo (h3.resolve_right fun hh => ?_))
    obtain ⟨_, _, _, hf⟩ := hh
    exact hf
   ·rename_i hw
    simp only [hw] at h3
    exact ⟨fun _ _ => trivial, go _ _ h3⟩
  ·cases hc
theorem sem_region_pre {id : Nat} {ops : Array Oper} (pl1 pl2 : List Nat) (hsp : List.range ops.size = pl1 ++ pl2) (hd : ops.all noDefer = true) {l : List VStep} (hc : compSteps P true X.n ops pl1 = some l) {Q : Exit → Act → World → Prop}
  (h : StepsT ⟨P, X.ng⟩ l s (fun s' => ∀ β κ tm w, Rel X β κ s' tm w → wpOpsIn (Fr fr) fn P ops Q pl2 ⟨tm, ds⟩ w) .mk) : SemI P fr fn X ds (.region id ops false) s Q := fun β κ tm w hr =>
 wpIn_region (by rw [hsp]; exact steps_pre rfl hd (fun β κ s tm w hr hk => hk β κ tm w hr) _ _ hc β κ s tm w hr h)
theorem yield_run {l : Nat} (ρ : Operand → Value) (x : Operand) (args : Array Operand) (argTypes : Array TypeId) (hx : ρ x = .func (.yield l) #[] #[])
  (dst : Option Tmp) (type : TypeId) (pos : String) (after : Array Edge) (guard : Option (Nat × Bool)) (w : World) :
  (execOp ρ ⟨dst, .call ⟨.value x, args, argTypes⟩, type, pos, after, guard⟩).run P w = (Instr.yield l (args.map ρ)).run P w := by
 simp [execOp, resolve, hx, Deferred.ofValue, Sem.run_bind, Sem.run_pure, Result.andThen_ok, invoke]
theorem rel_startS {xs : List SV} {bs : List Blk} {R : RO} {β0 κ0 : Nat → Nat} {n : Nat} (hlen : xs.length ≤ n) (hxs : (xs.all (SV.ok bs.length)) = true) (hns : (bs.all Blk.noShr) = true) (hG : Granted w β0 κ0 bs R) :
  Rel { w0 := w, R0 := R, B := R, n := n, g := Gset β0 bs, ng := bs.length, β0 := β0, κ0 := κ0 } β0 κ0 ⟨envS xs, bs, R⟩ ((xs.map (den β0 κ0)).toArray ++ Array.replicate (n - xs.length) undef) w where
 size := by simp only [Array.size_append, List.size_toArray, Array.size_replicate, List.length_map]; show xs.length + (n - xs.length) = n; omega
 env := fun t => by
  simp only [envS]
  rcases Nat.lt_or_ge t xs.length with hlt | hge
  ·simp [Array.getD_eq_getD_getElem?, Array.getElem?_append, hlt, List.getD_eq_getElem?_getD]
  ·rw [Array.getD_eq_getD_getElem?, Array.getElem?_append, List.size_toArray, List.length_map, if_neg (by omega), List.getD_eq_getElem?_getD, List.getElem?_eq_none hge, Array.getElem?_replicate]
   split <;> rfl
 ok := fun t => by
  simp only [envS, List.getD_eq_getElem?_getD]
  cases hx : xs[t]? with
  | none => rfl
  | some x => exact List.all_eq_true.1 hxs x (List.mem_of_getElem? hx)
 below := KeptG.refl _ _
 le := fun a v ha => ha
 blk := fun j b hj => (hG.blk j b hj).own fun hl _ => .inr ⟨j, b, hj, hl, rfl⟩
 inj := hG.inj
 ro := fun a v ha => ⟨(hG.ro a v ha).1, .inl ha, (hG.ro a v ha).2⟩
 kept := fun p hp => by cases hp
 shr := fun j b cap T sz cs hj => by have := List.all_eq_true.1 hns _ (List.mem_of_getElem? hj); cases this
 own := fun j F hj => by have := List.all_eq_true.1 hns _ (List.mem_of_getElem? hj); cases this
 pos := fun i hi => ⟨rfl, rfl⟩
 len := Nat.le_refl _
def valS (tm : Array Value) : St := ⟨fun t => .val (tm.getD t undef), [], fun _ _ => False⟩
theorem rel_vals (tm : Array Value) (w : World) : Rel { w0 := w, R0 := fun _ _ => False, B := fun _ _ => False, n := tm.size } id id (valS tm) tm w where
 size := rfl
 env := fun t => rfl
 ok := fun t => rfl
 below := KeptG.refl _ _
 le := fun a v ha => ha
 blk := fun j b hj => by simp [valS] at hj
 inj := fun i j b b' hi => by simp [valS] at hi
 ro := fun a v ha => ha.elim
 kept := fun p hp => by cases hp
 shr := fun j b cap T sz cs hj => by simp [valS] at hj
 own := fun j F hj => by simp [valS] at hj
 pos := fun i hi => absurd hi (Nat.not_lt_zero _)
 len := Nat.zero_le _
theorem pure_op_in {ops : Array Oper} {Q : Exit → Act → World → Prop} {K : Act → World → Prop} {i : Nat} {o : Oper} {vo : VOp} {v : Value} (ho : ops[i]? = some o) (hd : noDefer o = true) (hw : Region.wanted o (yielded ops tm) = true) (hvo : compOp P true o = some vo) (hq : vo.quiet = true)
  (hv : vcOp ⟨P, 0⟩ vo (valS tm) fun sv _ => sv = .val v) (hk : K ⟨setD tm o.dst v, ds⟩ w) : wpOpIn (Fr fr) fn P ops Q i K ⟨tm, ds⟩ w := by
 obtain ⟨sv, s', h', hok, hk', hrun⟩ := quiet_sound hvo hq (rel_vals tm w) hv ds
 subst hk'
 unfold wpOpIn
 simp only [ho, hw, if_true]
 refine op_inF hd ?_
 unfold Oper.wp
 rw [hrun w (.inr (KeptG.refl _ _))]
 simp only [Oper.upon, put_tmps]
 exact hk
theorem Rel.back {s' : St} {β' κ' : Nat → Nat} {tm' : Array Value} (h : Rel X β κ s tm w) (hX : X.keep = []) (h1 : Rel (Sharp X β κ s w) β' κ' s' tm' w') : Rel X β' κ' s' tm' w' := by
 have hm : ∀ k, (Sharp X β κ s w).own k → X.own k := fun k hk => hk.elim (fun h2 => .inl (Nat.le_trans h.below.size h2)) fun ⟨i, b, hi, hl, e⟩ => by rw [e]; exact (h.blk i b hi).base hl
 obtain ⟨u1, u2, u3⟩ := h.unsharp h1
 exact {
  size := h1.size
  env := h1.env
  ok := h1.ok
  below := u1
  le := u2
  blk := fun j b hj => (h1.blk j b hj).own fun _ ho => hm _ ho
  inj := h1.inj
  ro := fun a v ha => ⟨(u3 a v ha).1, (u3 a v ha).2, (h1.ro a v ha).2.2⟩
  kept := fun p hp => by rw [hX] at hp; cases hp
  shr := fun j b cap T sz cs hj => { h1.shr j b cap T sz cs hj with
   base := hm _ (h1.shr j b cap T sz cs hj).base
   kept := fun p hp => by rw [hX] at hp; cases hp }
  own := fun j F hj => { h1.own j F hj with
   own := fun a v hf => ⟨hm _ ((h1.own j F hj).own a v hf).1, ((h1.own j F hj).own a v hf).2⟩
   kept := fun a v hf p hp => by rw [hX] at hp; cases hp }
  pos := fun i hi => by
   obtain ⟨g1, g2⟩ := h.pos i hi
   obtain ⟨g3, g4⟩ := h1.pos i (Nat.lt_of_lt_of_le hi h.len)
   exact ⟨g3.trans g1, g4.trans g2⟩
  len := Nat.le_trans h.len h1.len }
theorem Rel.notG (h : Rel X β κ s tm w) {l : Nat} {o : Obj} (hl : w.heap[l]? = some o) (h1 : o.isCells = false) (h2 : o.isWalk = false) : ¬ Gset β s.blk l := by
 rintro ⟨i, b, hi, hlv, e⟩
 obtain ⟨o', ho, hc⟩ := (h.blk i b hi).obj hlv
 rw [← e, hl] at ho
 cases ho
 rcases hc with hc | hc
 ·rw [h1] at hc; cases hc
 ·rw [h2] at hc; cases hc
theorem Rel.slots {s' : St} {β' κ' : Nat → Nat} {tm' : Array Value} {w1 : World} (h : Rel X β κ s tm w) (h1 : Rel X β' κ' s' tm' w1) (hl : s.blk.length ≤ s'.blk.length) (hβ : ∀ i, i < s.blk.length → β' i = β i ∧ κ' i = κ i) : Rel X β' κ' ⟨s.env, s'.blk, s'.R⟩ tm w1 := { h1 with
 size := h.size
 env := fun t => by rw [h.env t]; exact (den_congr hβ (h.ok t)).symm
 ok := fun t => ok_mono hl (h.ok t)
 shr := fun j b cap T sz cs hj => { h1.shr j b cap T sz cs hj with }
 own := fun j F hj => { h1.own j F hj with } }
theorem ret_fin {fn : Func} {rs : List RV} {wz : World} {R : RO} {Post : RO → Value → Prop} (hX : X = { w0 := wz, R0 := R, B := R, n := fn.ntmps }) (hr : compRes P fn.results.toList = some rs) (h : Rel X β κ s tm w) (hk : vcRet rs s Post) :
  ∃ v, (results fn tm).run P w = .ok v w ∧ ∃ v1 R', Ending.returned v = Ending.returned v1 ∧ RO.le R R' ∧ (∀ a v, R' a v → w.cell? a = some v ∧ (R a v ∨ (wz.heap.size ≤ a.block ∧ Loose w a.block))) ∧ Ext wz w ∧ Post R' v1 := by
 subst hX
 obtain ⟨s', us, h2, hk2, _, hrun⟩ := res_sound _ _ s _ hr h hk
 exact ⟨_, results_run hrun, _, s'.R, rfl, h2.le, fun a v ha => ⟨(h2.ro a v ha).1, (h2.ro a v ha).2.1.imp id fun h => ⟨h.1.resolve_right id, h.2⟩⟩, h2.below.below, hk2⟩
theorem rel_startR {args : List Value} {R : RO} {n : Nat} (hlen : args.length ≤ n) (hR : ∀ a v, R a v → w.cell? a = some v) :
  Rel { w0 := w, R0 := R, B := R, n := n } id id ⟨envOf args, [], R⟩ (args.toArray ++ Array.replicate (n - args.length) undef) w where
 size := by simp only [Array.size_append, List.size_toArray, Array.size_replicate]; show args.length + (n - args.length) = n; omega
 env := fun t => by
  simp only [envOf, den]
  rcases Nat.lt_or_ge t args.length with hlt | hge
  ·simp [Array.getD_eq_getD_getElem?, Array.getElem?_append, hlt, List.getD_eq_getElem?_getD]
  ·rw [Array.getD_eq_getD_getElem?, Array.getElem?_append, List.size_toArray, if_neg (by omega), List.getD_eq_getElem?_getD, List.getElem?_eq_none hge, Array.getElem?_replicate]
   split <;> rfl
 ok := fun t => rfl
 below := KeptG.refl _ _
 le := fun a v ha => ha
 blk := fun j b hj => by simp at hj
 inj := fun i j b b' hi => by simp at hi
 ro := fun a v ha => ⟨hR a v ha, .inl ha, fun j b hj => by simp at hj⟩
 kept := fun p hp => by cases hp
 shr := fun j b cap T sz cs hj => by simp at hj
 own := fun j F hj => by simp at hj
 pos := fun i hi => absurd hi (Nat.not_lt_zero _)
 len := Nat.zero_le _
end
end Go.Proofs.YtdglpgepgmdbdaaGreatDoor.Vc
