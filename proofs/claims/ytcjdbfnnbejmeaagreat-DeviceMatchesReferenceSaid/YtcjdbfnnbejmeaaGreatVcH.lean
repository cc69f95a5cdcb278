/- Plain lemmas of our own, no statement of the seat: whole bodies, and the contract of a function. -/
import Derived.Test.YtcjdbfnnbejmeaaGreatVcW
import Derived.Deep.LoopGhost
import Derived.Sort.LoopGhostIn
import Derived.OrdersIn
namespace Go.Proofs.YtcjdbfnnbejmeaaGreat.Vc
set_option linter.unusedSimpArgs false
set_option linter.unusedVariables false
open Go.RowKit
section
/-- Where every function and every depth is let by. -/
def Fr (r : Option Nat) : Fence := { Fence.wide with round := r }
theorem callsIn_fr {r : Option Nat} {n : Nat} {P : Program} {f : FuncId} {args : Array Value} {w : World} {R : Ending → World → Prop} (h : Calls P f args w R) : CallsIn (Fr r) n P f args w R := callsIn_wide.2 h
theorem rowsIn_fr {r : Option Nat} {n : Nat} {P : Program} {row : String} {args : Array Value} {w : World} {R : Value → World → Prop} (h : Rows P row args w R) : RowsIn (Fr r) n P row args w R := fun c cs _ =>
  let ⟨v, w', h1, s⟩ := h c cs
  ⟨v, w', h1, stepsIn_wide.2 s⟩
theorem op_in {r : Option Nat} {n : Nat} {P : Program} {o : Oper} {a : Act} {w : World} {K : Act → World → Prop} {Q : Exit → Act → World → Prop} (hQ : ¬ LetsOut Q) (hd : noDefer o = true) (h : o.wp P a w K Q ∨ (o.asks P a w ∧ LetsOut Q)) : o.wpIn (Fr r) n P a w K Q := by
  have h := h.resolve_right fun h => hQ h.2
  refine ⟨fun _ _ => trivial, ?_⟩
  rw [Oper.semAt_eq _ _ _ (fun c hc => by rw [noDefer, hc] at hd; cases hd)]
  unfold Oper.wp at h
  generalize (execOp a.eval o).run P w = res at *
  cases res with
  | ok x w' =>
    cases x <;> simp only [Oper.upon] at h <;> simp only [Oper.uponIn] <;>
      first
        | exact h
        | exact ⟨fun e => (by cases e), callsIn_fr h⟩
        | exact ⟨fun e => (by cases e), rowsIn_fr h⟩
  | halt x w' => cases x <;> simp only [Oper.upon] at h <;> simp only [Oper.uponIn] <;> exact h
theorem ops_in {r : Option Nat} {n : Nat} {P : Program} {ops : Array Oper} {Q : Exit → Act → World → Prop} (hQ : ¬ LetsOut Q) (hd : ops.all noDefer = true) : ∀ (pl : List Nat) (a : Act) (w : World), wpOps P ops Q pl a w → wpOpsIn (Fr r) n P ops Q pl a w
  | [], _, _, h => h
  | i :: rest, a, w, h => by
    rw [wpOps_cons] at h
    rw [wpOpsIn_cons]
    unfold wpOp at h
    unfold wpOpIn
    split
    · rename_i ho
      simp only [ho] at h
      exact ops_in hQ hd rest a w h
    · rename_i o ho
      simp only [ho] at h
      have hdo : noDefer o = true := by
        obtain ⟨hi, rfl⟩ := Array.getElem?_eq_some_iff.1 ho
        exact Array.all_eq_true.1 hd i hi
      split
      · rename_i hw
        simp only [hw, if_true] at h
        exact Oper.wpIn_mono (fun a w h => ops_in hQ hd rest a w h) (op_in hQ hdo h)
      · rename_i hw
        simp only [hw] at h
        exact ⟨fun _ _ => trivial, ops_in hQ hd rest _ w h⟩
theorem region_in {r : Option Nat} {n : Nat} {P : Program} {id : Nat} {ops : Array Oper} {Q : Exit → Act → World → Prop} {a : Act} {w : World} (hQ : ¬ LetsOut Q) (hd : ops.all noDefer = true) (h : wpOps P ops Q (List.range ops.size) a w) : (Code.region id ops false).wpIn (Fr r) n P Q a w :=
  wpIn_region (ops_in hQ hd _ a w h)
theorem region_any_in {r : Option Nat} {n : Nat} {P : Program} {id : Nat} {ops : Array Oper} {Q : Exit → Act → World → Prop} {a : Act} {w : World} (hm : P.follows .mixedOrders = true) (hQ : ¬ LetsOut Q) (hd : ops.all noDefer = true)
    (h : wpAny P .any ops Q ops.size (Array.replicate ops.size false) a { w with drawn := w.drawn + 1 }) : (Code.region id ops true).wpIn (Fr r) n P Q a w :=
  wpIn_region_draw fun t => ops_in hQ hd _ a _ (by
    simp only [Region.schedule, hm, Bool.true_or, if_true]
    exact wpAny_sound ops.size t _ a _ h)
variable {fr : Option Nat} {fn : Nat} {ds : List Deferred} {P : Program} {X : Ctx}
def Out (ds : List Deferred) (X : Ctx) (kn : St → Prop) (ke : Nat → St → Prop) (kr : St → Prop) : Exit → Act → World → Prop
  | .normal, a, w => ∃ β κ s tm, a = ⟨tm, ds⟩ ∧ Rel X β κ s tm w ∧ kn s
  | .exit i, a, w => ∃ β κ s tm, a = ⟨tm, ds⟩ ∧ Rel X β κ s tm w ∧ ke i s
  | .ret, a, w => ∃ β κ s tm, a = ⟨tm, ds⟩ ∧ Rel X β κ s tm w ∧ kr s
  | _, _, _ => False

theorem out_no {kn : St → Prop} {ke : Nat → St → Prop} {kr : St → Prop} : ¬ LetsOut (Out ds X kn ke kr) := fun ⟨_, _, h⟩ => h

def look (t : Nat) : List (Nat × SV) → Option SV
  | [] => none
  | p :: r => if p.1 = t then some p.2 else look t r
theorem look_mem {t : Nat} {x : SV} : ∀ {vals : List (Nat × SV)}, look t vals = some x → (t, x) ∈ vals
  | [], h => by simp [look] at h
  | p :: r, h => by
    simp only [look] at h
    split at h
    · rename_i hp
      simp only [Option.some.injEq] at h
      subst hp h
      simp
    · exact List.mem_cons_of_mem _ (look_mem h)
theorem look_of_mem : ∀ {vals : List (Nat × SV)}, keysOK vals = true → ∀ p ∈ vals, look p.1 vals = some p.2
  | [], _, p, h => by simp at h
  | q :: r, hk, p, h => by
    simp only [keysOK, Bool.and_eq_true, List.all_eq_true, bne_iff_ne, ne_eq] at hk
    simp only [look]
    rcases List.mem_cons.1 h with rfl | h
    · rw [if_pos rfl]
    · rw [if_neg (fun e => hk.1 p h e.symm)]
      exact look_of_mem hk.2 p h
theorem BlkOK.unren {β κ : Nat → Nat} {w : World} {own : Nat → Prop} {L i n : Nat} {ρ : List Nat} {b : Blk} (h : BlkOK β κ w own L (rn ρ i) (renB ρ b)) (hsc : scB n b = true) :
    BlkOK (fun i => β (rn ρ i)) (fun i => κ (rn ρ i)) w own n i b := by
  cases b with
  | dead => trivial
  | shr => trivial
  | own => trivial
  | box cs =>
    obtain ⟨g1, g2, T, g3⟩ := h
    refine ⟨g1, fun c hc => List.all_eq_true.1 hsc c hc, T, ?_⟩
    rw [g3, List.map_map]
    congr 3
    exact List.map_congr_left fun c _ => (den_ren ρ c).symm
  | row T sz cs => exact h
  | mp es c => exact h
  | it m a b c =>
    obtain ⟨g1, g2, g3⟩ := h
    exact ⟨g1, by simpa [scB] using hsc, g3⟩
/-- Blocks made since are dropped; others get new numbers. -/
theorem Rel.scrub {β κ : Nat → Nat} {s : St} {tm : Array Value} {w : World} (h : Rel X β κ s tm w) {ρ : List Nat} {vals : List (Nat × SV)} {blks : List Blk} (hm : Matches ρ vals blks s) (hs : inScope X.ng ρ vals blks = true) :
    ∃ β' κ' env', Rel X β' κ' ⟨env', blks, s.R⟩ tm w ∧ ∀ p ∈ vals, env' p.1 = p.2 := by
  obtain ⟨hv, hb⟩ := hm
  simp only [inScope, Bool.and_eq_true, List.all_eq_true, decide_eq_true_eq, List.mem_range, beq_iff_eq] at hs
  obtain ⟨⟨⟨⟨⟨hkeys, hvo⟩, hbo⟩, hinj⟩, hng⟩, hpos⟩ := hs
  have hlook : ∀ i b, blks[i]? = some b → b ≠ .dead ∧ (∀ F, b ≠ .own F) → s.blk[rn ρ i]? = some (renB ρ b) := fun i b hi hne => by
    have := blkM_spec blks 0 hb i b hi
    rw [Nat.zero_add] at this
    rcases this with e | ⟨F, G, e, _⟩ | e
    · exact absurd e hne.1
    · exact absurd e (hne.2 F)
    · exact e.2
  have hlookO : ∀ i F, blks[i]? = some (Blk.own F) → ∃ G, s.blk[rn ρ i]? = some (.own G) ∧ RO.le F G := fun i F hi => by
    have := blkM_spec blks 0 hb i _ hi
    rw [Nat.zero_add] at this
    rcases this with e | ⟨F', G, e, h1, h2⟩ | e
    · cases e
    · simp only [Blk.own.injEq] at e
      subst e
      exact ⟨G, h1, h2⟩
    · exact absurd rfl (e.1 F)
  have hlive : ∀ b : Blk, b.live = true → b ≠ .dead ∧ ∀ F, b ≠ .own F := fun b hb => ⟨fun e => (by subst e; cases hb), fun F e => (by subst e; cases hb)⟩
  have hbl : ∀ i b, blks[i]? = some b → i < blks.length := fun i b hi => (List.getElem?_eq_some_iff.1 hi).1
  refine ⟨fun i => β (rn ρ i), fun i => κ (rn ρ i), fun t => match look t vals with | some x => x | none => .val (den β κ (s.env t)), ?_, fun p hp => by simp only [look_of_mem hkeys p hp]⟩
  refine { size := h.size, env := fun t => ?_, ok := fun t => ?_, below := h.below, le := h.le, blk := fun i b hi => ?_, inj := fun i j b b' hi hj hl1 hl2 he => ?_, ro := fun a v ha => ?_, kept := fun p hp => ?_, shr := fun j b cap T sz cs hj => ?_, own := fun j F hj => ?_, pos := fun i hi => by simp only [hpos i hi]; exact h.pos i hi, len := hng }
  · dsimp only
    split
    · rename_i x hx
      rw [den_ren, ← hv _ (look_mem hx)]
      exact h.env t
    · exact h.env t
  · dsimp only
    split
    · rename_i x hx
      exact hvo _ (look_mem hx)
    · rfl
  · by_cases hd : b = .dead
    · subst hd; trivial
    · by_cases ho : ∃ F, b = .own F
      · obtain ⟨F, rfl⟩ := ho; trivial
      · exact (h.blk _ _ (hlook i b hi ⟨hd, fun F e => ho ⟨F, e⟩⟩)).unren (hbo b (List.mem_of_getElem? hi))
  · exact rnInj_spec hinj (hbl _ _ hi) (hbl _ _ hj) (h.inj _ _ _ _ (hlook i b hi (hlive b hl1)) (hlook j b' hj (hlive b' hl2)) (by rw [renB_live]; exact hl1) (by rw [renB_live]; exact hl2) he)
  · obtain ⟨g1, g2, g3⟩ := h.ro a v ha
    exact ⟨g1, g2, fun i b hi hl => g3 _ _ (hlook i b hi (hlive b hl)) (by rw [renB_live]; exact hl)⟩
  · obtain ⟨g1, g2, g3, g4⟩ := h.kept p hp
    exact ⟨g1, g2, fun i b hi hl => g3 _ _ (hlook i b hi (hlive b hl)) (by rw [renB_live]; exact hl), g4⟩
  · have h1 := h.shr _ _ _ _ _ _ (hlook j _ hj ⟨by simp, by simp⟩)
    exact { h1 with
      apart := fun i c hi hl => h1.apart _ _ (hlook i c hi (hlive c hl)) (by rw [renB_live]; exact hl)
      one := fun j' b' cap' T' sz' cs' hj' e => rnInj_spec hinj (hbl _ _ hj') (hbl _ _ hj) (h1.one _ _ _ _ _ _ (hlook j' _ hj' ⟨by simp, by simp⟩) e) }
  · obtain ⟨G, hG, hle⟩ := hlookO j F hj
    have h1 := h.own _ _ hG
    exact { cell := fun a v hf => h1.cell a v (hle a v hf)
            own := fun a v hf => h1.own a v (hle a v hf)
            apart := fun a v hf i c hi hl => h1.apart a v (hle a v hf) _ _ (hlook i c hi (hlive c hl)) (by rw [renB_live]; exact hl)
            ro := fun a v hf => h1.ro a v (hle a v hf)
            shr := fun a v hf i b cap T sz cs hi => h1.shr a v (hle a v hf) _ _ _ _ _ _ (hlook i _ hi ⟨by simp, by simp⟩)
            kept := fun a v hf => h1.kept a v (hle a v hf)
            one := fun a v hf i F' hi hne a' v' hf' => by
              obtain ⟨G', hG', hle'⟩ := hlookO i F' hi
              exact h1.one a v (hle a v hf) _ _ hG' (fun e => hne (rnInj_spec hinj (hbl _ _ hi) (hbl _ _ hj) e)) a' v' (hle' a' v' hf') }

theorem getD_replicate (n j : Nat) : (Array.replicate n false).getD j false = false := by
  rw [Array.getD_eq_getD_getElem?, Array.getElem?_replicate]
  split <;> rfl
theorem tree_region (hmix : P.follows .mixedOrders = true) (hX : X.keep = []) {id : Nat} {ops : Array Oper} {md : Bool} {t : PT} {vt : VT} (hnd : ops.all noDefer = true) (hok : treeOK P md ops t = true) (hc : compT P md X.n ops t = some vt) {β κ : Nat → Nat} {s : St} {tm : Array Value} {w : World}
    (h : Rel X β κ s tm w) {kn : St → Prop} {ke : Nat → St → Prop} {kr : St → Prop} (hk : vcVT ⟨P, X.ng⟩ vt s kn) : (Code.region id ops true).wpIn (Fr fr) fn P (Out ds X kn ke kr) ⟨tm, ds⟩ w := by
  have hdrew := h.ext (w' := { w with drawn := w.drawn + 1 }) ⟨rfl, rfl, rfl, Nat.le_refl _, fun _ _ => rfl, by simp⟩
  simp only [treeOK, Bool.and_eq_true] at hok
  obtain ⟨⟨hns, hG⟩, hck⟩ := hok
  refine region_any_in hmix out_no hnd (wpAny_of_F (T := tailT P md ops t.pairs) (Φ := []) _ _ _ _ ?_)
  have hG' := hG
  simp only [pairsOK, Bool.and_eq_true, decide_eq_true_eq] at hG'
  refine tree_sound (K := kn) hG hns hX (fun _ _ _ hq => hq) (fun β κ s tm w hr hk => ⟨β, κ, s, tm, rfl, hr, hk⟩) _ t vt [] _ _ [] [] β κ s tm _ hc hck ?_ (by rw [keepX hX]; exact hdrew) hk (by simp [cnt])
  have hdn : ∀ p ∈ t.pairs, ∀ d z t', allocOf P ops p.1 = some (d, z, t') → d < tm.size := fun p hp d z t' ha => by
    obtain ⟨x, hx⟩ := compT_dn t vt hc p hp
    rw [h.size]
    exact (compStep_alloc ha hx).2
  constructor
  · exact fun p hp => hp
  · exact hG'.1
  · simp
  · simp
  · exact fun j _ => getD_replicate _ _
  · exact fun j hj => .inl hj
  · intro j; simp [getD_replicate]
  · exact hdn
  · intro q hq; cases hq
  · intro q hq; cases hq
  · intro q hq; cases hq
  · intro i k _ hk; cases hk
  · exact .nil
  · exact .nil
  · intro k o _ hk; rw [getD_replicate] at hk; cases hk
  · intro p hp; cases hp
theorem code_vt {pg : PG} {t : VT} {s : St} {kn : St → Prop} {ke : Nat → St → Prop} {kr : St → Prop} (hk : vcCode pg t.code s kn ke kr) : vcVT pg t s kn := by
  unfold VT.code at hk
  split at hk
  · rename_i l hl
    exact lin_sound t l s hl hk
  · exact hk
theorem planLin_spec {n : Nat} {ops : Array Oper} {G : List (Nat × Option Nat)} {v : VT} (h : planLin P n ops G = some v) : ∃ t, treeOK P true ops t = true ∧ compT P true n ops t = some v := by
  unfold planLin at h
  simp only at h
  split at h
  · rename_i hok
    split at h
    · rename_i v' hv
      split at h
      · simp only [Option.some.injEq] at h
        subst h
        exact ⟨_, hok, hv⟩
      · cases h
    · cases h
  · cases h
theorem region_sound (hmix : P.follows .mixedOrders = true) (hX : X.keep = []) {id : Nat} {ops : Array Oper} {draw : Bool} {vc : VCode} (hc : compRegion P X.n ops draw = some vc) {β κ : Nat → Nat} {s : St} {tm : Array Value} {w : World}
    (h : Rel X β κ s tm w) {kn : St → Prop} {ke : Nat → St → Prop} {kr : St → Prop} (hk : vcCode ⟨P, X.ng⟩ vc s kn ke kr) : (Code.region id ops draw).wpIn (Fr fr) fn P (Out ds X kn ke kr) ⟨tm, ds⟩ w := by
  unfold compRegion at hc
  split at hc
  case isFalse => cases hc
  rename_i hnd
  unfold compRegion1 at hc
  cases draw with
  | true =>
    simp only [if_true] at hc
    split at hc
    · rename_i v hv
      obtain ⟨t, hok, hvt⟩ := planLin_spec hv
      simp only [Option.some.injEq] at hc
      subst hc
      exact tree_region hmix hX hnd hok hvt h (code_vt hk)
    · split at hc
      · rename_i v hv
        obtain ⟨t, hok, hvt⟩ := planLin_spec hv
        simp only [Option.some.injEq] at hc
        subst hc
        exact tree_region hmix hX hnd hok hvt h (code_vt hk)
      · split at hc
        · rename_i hok
          obtain ⟨vt, hvt, rfl⟩ := Option.map_eq_some_iff.1 hc
          exact tree_region hmix hX hnd hok hvt h (code_vt hk)
        · split at hc
          · rename_i hok
            obtain ⟨vt, hvt, rfl⟩ := Option.map_eq_some_iff.1 hc
            exact tree_region hmix hX hnd hok hvt h (code_vt hk)
          · cases hc
  | false =>
    simp only [Bool.false_eq_true, if_false] at hc
    obtain ⟨l, hl, rfl⟩ := Option.map_eq_some_iff.1 hc
    exact region_in out_no hnd (steps_plain (K := kn) rfl (fun β κ s tm w hr hk => ⟨β, κ, s, tm, rfl, hr, hk⟩) _ _ hl β κ s tm w h hk)

theorem code_sound (hmix : P.follows .mixedOrders = true) : ∀ (c : Code) (X : Ctx) (vc : VCode), X.keep = [] → comp P X.n c = some vc → ∀ β κ s tm w kn ke kr, Rel X β κ s tm w → vcCode ⟨P, X.ng⟩ vc s kn ke kr → c.wpIn (Fr fr) fn P (Out ds X kn ke kr) ⟨tm, ds⟩ w := by
  intro c
  induction c with
  | skip =>
    intro X vc hX hc β κ s tm w kn ke kr h hk
    simp only [comp, Option.some.injEq] at hc; subst hc
    exact wpIn_skip ⟨β, κ, s, tm, rfl, h, hk⟩
  | region id ops draw =>
    intro X vc hX hc β κ s tm w kn ke kr h hk
    simp only [comp] at hc
    split at hc
    · rename_i v hv
      simp only [Option.some.injEq] at hc; subst hc
      exact region_sound hmix hX hv h hk
    · simp only [Option.some.injEq] at hc; subst hc
      exact hk.elim
  | seq a b iha ihb =>
    intro X vc hX hc β κ s tm w kn ke kr h hk
    simp only [comp] at hc
    split at hc
    · rename_i x y hx hy
      simp only [Option.some.injEq] at hc; subst hc
      refine wpIn_seq (wpIn_mono (iha X x hX hx β κ s tm w _ ke kr h hk) fun e a' w' hq => ?_)
      cases e with
      | normal =>
        obtain ⟨β', κ', s', tm', rfl, h', hk'⟩ := hq
        exact ihb X y hX hy β' κ' s' tm' w' kn ke kr h' hk'
      | exit i => exact hq
      | ret => exact hq
      | _ => exact hq.elim
    · cases hc
  | cond c a b iha ihb =>
    intro X vc hX hc β κ s tm w kn ke kr h hk
    simp only [comp] at hc
    split at hc
    · rename_i x y hx hy
      simp only [Option.some.injEq] at hc; subst hc
      simp only [vcCode] at hk
      split at hk
      · rename_i t ht
        refine wpIn_cond_split (t := t) (by rw [h.eval ds c, ht]; rfl) (fun e => iha X x hX hx β κ s tm w kn ke kr h (hk.1 e)) (fun e => ihb X y hX hy β κ s tm w kn ke kr h (hk.2 e))
      · exact hk.elim
    · cases hc
  | block id b ih =>
    intro X vc hX hc β κ s tm w kn ke kr h hk
    simp only [comp] at hc
    obtain ⟨x, hx, rfl⟩ := Option.map_eq_some_iff.1 hc
    refine wpIn_block (wpIn_mono (ih X x hX hx β κ s tm w _ _ kr h hk) fun e a' w' hq => ?_)
    cases e with
    | normal => exact hq
    | exit i =>
      obtain ⟨β', κ', s', tm', rfl, h', hk'⟩ := hq
      simp only [Exit.inBlock]
      split
      · rename_i hi; exact ⟨β', κ', s', tm', rfl, h', hk'.1 hi⟩
      · rename_i hi; exact ⟨β', κ', s', tm', rfl, h', hk'.2 hi⟩
    | ret => exact hq
    | _ => exact hq.elim
  | loop b ih =>
    intro X vc hX hc β κ s tm w kn ke kr h hk
    simp only [comp] at hc
    obtain ⟨x, hx, rfl⟩ := Option.map_eq_some_iff.1 hc
    simp only [vcCode] at hk
    obtain ⟨Y, vals, blks, Φ, μ, ⟨y0, ρ0, hm0, hs0, hΦ0⟩, hround⟩ := hk
    -- the context of the rounds: the facts at the loop's start
    let X' : Ctx := { X with R0 := s.R }
    have toX : ∀ β' κ' s' tm' w', Rel X' β' κ' s' tm' w' → Rel X β' κ' s' tm' w' := fun β' κ' s' tm' w' h' => { h' with
      le := fun a v ha => h'.le a v (h.le a v ha)
      shr := fun j b cap T sz cs hj => { h'.shr j b cap T sz cs hj with }
      own := fun j F hj => { h'.own j F hj with } }
    have hXr : Rel X' β κ s tm w := { h with
      le := fun a v ha => ha
      shr := fun j b cap T sz cs hj => { h.shr j b cap T sz cs hj with }
      own := fun j F hj => { h.own j F hj with } }
    obtain ⟨β00, κ00, env0, h0, hv0⟩ := hXr.scrub hm0 hs0
    refine wpIn_loop_ghost (fun n a w => ∃ y β κ env' R' tm, a = ⟨tm, ds⟩ ∧ n = μ y ∧ Rel X' β κ ⟨env', blks y, R'⟩ tm w ∧ (∀ p ∈ vals y, env' p.1 = p.2) ∧ Φ y R') (μ y0) ⟨y0, β00, κ00, env0, s.R, tm, rfl, rfl, h0, hv0, hΦ0⟩ ?_
    rintro n a w1 ⟨y, β1, κ1, env1, R1, tm1, rfl, rfl, h1, hv1, hΦ1⟩
    refine wpIn_mono (ih X' x hX hx β1 κ1 _ tm1 w1 _ ke kr h1 (hround y env1 R1 h1.le hv1 hΦ1)) fun e a' w' hq => ?_
    cases e with
    | normal =>
      obtain ⟨β2, κ2, s2, tm2, rfl, h2, y', ρ2, hμ, hm, hs, hΦ⟩ := hq
      obtain ⟨β3, κ3, env2, h2', hv2⟩ := h2.scrub hm hs
      exact ⟨μ y', hμ, y', β3, κ3, env2, s2.R, tm2, rfl, rfl, h2', hv2, hΦ⟩
    | exit i =>
      obtain ⟨β2, κ2, s2, tm2, rfl, h2, hk2⟩ := hq
      exact ⟨β2, κ2, s2, tm2, rfl, toX _ _ _ _ _ h2, hk2⟩
    | ret =>
      obtain ⟨β2, κ2, s2, tm2, rfl, h2, hk2⟩ := hq
      exact ⟨β2, κ2, s2, tm2, rfl, toX _ _ _ _ _ h2, hk2⟩
    | _ => exact hq.elim
  | exit id =>
    intro X vc hX hc β κ s tm w kn ke kr h hk
    simp only [comp, Option.some.injEq] at hc; subst hc
    exact wpIn_exit ⟨β, κ, s, tm, rfl, h, hk⟩
  | ret =>
    intro X vc hX hc β κ s tm w kn ke kr h hk
    simp only [comp, Option.some.injEq] at hc; subst hc
    exact wpIn_ret ⟨β, κ, s, tm, rfl, h, hk⟩
  | _ => intro X vc hX hc β κ s tm w kn ke kr h hk; simp only [comp, Option.some.injEq] at hc; subst hc; exact hk.elim

/-! ### Results -/
inductive RV where
  | tmp (t : Nat)
  | cell (t : Nat) (n : Option Nat)
def compRes (P : Program) : List ResultVar → Option (List RV)
  | [] => some []
  | .tmp t :: r => (compRes P r).map (.tmp t :: ·)
  | .cell t T :: r => match sizeOfAgg P T, compRes P r with
    | some n, some r => some (.cell t n :: r)
    | _, _ => none
def vcRes (s : St) : List RV → (List Value → St → Prop) → Prop
  | [], k => k [] s
  | .tmp t :: r, k => leaf (s.env t) s fun v s' => vcRes s' r fun vs s'' => k (v :: vs) s''
  | .cell t n :: r, k => match s.env t with
    | .loc j o => match n with
      | none => cellsAt s j o 1 fun us s' => vcRes s' r fun vs s'' => k (us.headD undef :: vs) s''
      | some n => cellsAt s j o n fun us s' => vcRes s' r fun vs s'' => k (.agg us.toArray :: vs) s''
    | _ => False
def resVal : List Value → Value
  | [v] => v
  | vs => .tuple vs.toArray
def vcRet (rs : List RV) (s : St) (Post : RO → Value → Prop) : Prop := vcRes s rs fun vs s' => Post s'.R (resVal vs)

def rvRun (tm : Array Value) : ResultVar → Sem Value
  | .tmp t => pure (tm.getD t undef)
  | .cell a t => do loadVar t (← asAddr (tm.getD a undef))
theorem res_sound {β κ : Nat → Nat} {tm : Array Value} {w : World} : ∀ (rs : List ResultVar) (vs : List RV) (s : St) (k : List Value → St → Prop), compRes P rs = some vs → Rel X β κ s tm w → vcRes s vs k →
    ∃ s' us, Rel X β κ s' tm w ∧ k us s' ∧ us.length = rs.length ∧ (rs.mapM (rvRun tm)).run P w = .ok us w
  | [], vs, s, k, hc, h, hk => by
    simp only [compRes, Option.some.injEq] at hc; subst hc
    exact ⟨s, [], h, hk, rfl, rfl⟩
  | .tmp t :: rs, vs, s, k, hc, h, hk => by
    simp only [compRes] at hc
    obtain ⟨r, hr, rfl⟩ := Option.map_eq_some_iff.1 hc
    obtain ⟨s1, h1, hk1⟩ := leaf_sound h hk
    obtain ⟨s2, us, h2, hk2, hl, hrun⟩ := res_sound rs r s1 _ hr h1 hk1
    refine ⟨s2, _, h2, hk2, by simp [hl], ?_⟩
    have ht := h.env t
    simp only [List.mapM_cons, rvRun, Sem.run_bind, Sem.run_pure, Result.andThen_ok, hrun, ht]
  | .cell t T :: rs, vs, s, k, hc, h, hk => by
    simp only [compRes] at hc
    split at hc
    · rename_i n r hn hr
      simp only [Option.some.injEq] at hc; subst hc
      simp only [vcRes] at hk
      have ht := h.env t
      unfold sizeOfAgg at hn
      split at hn
      · rename_i d inf hd hinf
        split at hk
        · rename_i j o hu
          rw [hu] at ht
          split at hn
          · rename_i ha
            simp only [Option.some.injEq] at hn; subst hn
            obtain ⟨s1, us, h1, hk1, hl1, hv⟩ := cellsAt_sound inf.size s j o _ h hk
            obtain ⟨s2, us2, h2, hk2, hl, hrun⟩ := res_sound rs r s1 _ hr h1 hk1
            refine ⟨s2, _, h2, hk2, by simp [hl], ?_⟩
            have hld := run_loadCells_list (P := P) w ⟨β j, o, none⟩ us (fun i v hi => by rw [Addr.add_lit]; exact hv i v hi)
            rw [hl1] at hld
            simp only [List.mapM_cons, rvRun, Sem.run_bind, ht, den, asAddr, Sem.run_pure, Result.andThen_ok, loadVar, run_isAgg' hd, ha, if_true, run_sizeOf' hinf, hld, hrun]
          · rename_i ha
            simp only [Option.some.injEq] at hn; subst hn
            obtain ⟨s1, us, h1, hk1, hl1, hv⟩ := cellsAt_sound 1 s j o _ h hk
            obtain ⟨s2, us2, h2, hk2, hl, hrun⟩ := res_sound rs r s1 _ hr h1 hk1
            refine ⟨s2, _, h2, hk2, by simp [hl], ?_⟩
            match us, hl1 with
            | [u], _ =>
              have hcell := hv 0 u rfl
              simp only [Nat.add_zero] at hcell
              simp only [List.mapM_cons, rvRun, Sem.run_bind, ht, den, asAddr, Sem.run_pure, Result.andThen_ok, loadVar, run_isAgg' hd, ha, List.headD_cons]
              simp [hcell, hrun]
        · exact hk.elim
      · cases hn
    · cases hc

theorem results_run {fn : Func} {tm : Array Value} {w : World} {us : List Value} (h : (fn.results.toList.mapM (rvRun tm)).run P w = .ok us w) : (results fn tm).run P w = .ok (resVal us) w := by
  have he : results fn tm = ((Functor.map List.toArray (fn.results.toList.mapM (rvRun tm))) >>= fun vs => pure (if h : vs.size = 1 then vs[0] else .tuple vs)) := by
    unfold results
    rw [Array.mapM_eq_mapM_toList]
    congr
  rw [he]
  simp only [Sem.run_bind, Sem.run_map, h, Result.andThen_ok]
  match us with
  | [] => rfl
  | [v] => rfl
  | _ :: _ :: _ => simp [resVal]

def envOf (args : List Value) : Nat → SV := fun t => .val (args.getD t undef)

def compFn (P : Program) (fn : Func) : Option (VCode × List RV) :=
  match fn.body with
  | some c => match comp P fn.ntmps c, compRes P fn.results.toList with
    | some vc, some rs => some (vc, rs)
    | _, _ => none
  | none => none
/-- The contract of a function, from the condition over its body. -/
theorem callsR_of_vc (hmix : P.follows .mixedOrders = true) {f : FuncId} {fn : Func} {c : Code} {vc : VCode} {rs : List RV} (hf : P.funcs[f]? = some fn) (hb : fn.body = some c) (hc : comp P fn.ntmps c = some vc)
    (hr : compRes P fn.results.toList = some rs) {args : List Value} {R : RO} {Post : RO → Value → Prop} (hlen : args.length ≤ fn.ntmps)
    (h : vcCode ⟨P, 0⟩ vc ⟨envOf args, [], R⟩ (fun s => vcRet rs s Post) (fun _ _ => False) (fun s => vcRet rs s Post)) : CallsR P f args R Post := by
  intro w hR
  let X : Ctx := { w0 := w, R0 := R, B := R, n := fn.ntmps }
  have hstart : Rel X id id ⟨envOf args, [], R⟩ (args.toArray ++ Array.replicate (fn.ntmps - args.length) undef) w :=
    { size := by simp only [Array.size_append, List.size_toArray, Array.size_replicate]; show args.length + (fn.ntmps - args.length) = fn.ntmps; omega
      env := fun t => by
        simp only [envOf, den]
        rcases Nat.lt_or_ge t args.length with hlt | hge
        · simp [Array.getD_eq_getD_getElem?, Array.getElem?_append, hlt, List.getD_eq_getElem?_getD]
        · rw [Array.getD_eq_getD_getElem?, Array.getElem?_append, List.size_toArray, if_neg (by omega), List.getD_eq_getElem?_getD, List.getElem?_eq_none hge, Array.getElem?_replicate]
          split <;> rfl
      ok := fun t => rfl
      below := KeptG.refl _ _
      le := fun a v ha => ha
      blk := fun j b hj => by simp at hj
      inj := fun i j b b' hi => by simp at hi
      ro := fun a v ha => ⟨hR a v ha, .inl ha, fun j b hj => by simp at hj⟩
      kept := fun p hp => by cases hp
      shr := fun j b cap T sz cs hj => by simp at hj
      own := fun j F hj => by simp at hj
      pos := fun i hi => absurd hi (Nat.not_lt_zero _)
      len := Nat.zero_le _ }
  refine calls_of_wp hf hb ?_
  rw [List.size_toArray]
  refine wp_mono (wpIn_wide.1 (code_sound (fr := none) (fn := 0) (ds := []) hmix c X vc rfl hc id id _ _ w _ _ _ hstart h)) fun e a' w' hq => ?_
  have fin : (∃ β κ s tm, a' = ⟨tm, []⟩ ∧ Rel X β κ s tm w' ∧ vcRet rs s Post) → a'.defers = [] ∧ ∃ v, (results fn a'.tmps).run P w' = .ok v w' ∧
      ∃ v_1 R', Ending.returned v = Ending.returned v_1 ∧ RO.le R R' ∧ (∀ a v, R' a v → w'.cell? a = some v ∧ (R a v ∨ (w.heap.size ≤ a.block ∧ Loose w' a.block))) ∧ Ext w w' ∧ Post R' v_1 := by
    rintro ⟨β, κ, s, tm, rfl, h1, hk⟩
    obtain ⟨s', us, h2, hk2, _, hrun⟩ := res_sound _ _ s _ hr h1 hk
    exact ⟨rfl, _, results_run hrun, _, s'.R, rfl, h2.le, fun a v ha => ⟨(h2.ro a v ha).1, (h2.ro a v ha).2.1.imp id fun h => ⟨h.1.resolve_right id, h.2⟩⟩, h2.below.below, hk2⟩
  cases e with
  | normal => exact fin hq
  | ret => exact fin hq
  | exit i => obtain ⟨_, _, _, _, _, _, hk⟩ := hq; exact hk.elim
  | _ => exact hq.elim
theorem callsR (hmix : P.follows .mixedOrders = true) {f : FuncId} {fn : Func} {vc : VCode} {rs : List RV} (hf : P.funcs[f]? = some fn) (hc : compFn P fn = some (vc, rs)) {args : List Value} {R : RO} {Post : RO → Value → Prop}
    (hlen : args.length ≤ fn.ntmps) (h : vcCode ⟨P, 0⟩ vc ⟨envOf args, [], R⟩ (fun s => vcRet rs s Post) (fun _ _ => False) (fun s => vcRet rs s Post)) : CallsR P f args R Post := by
  unfold compFn at hc
  split at hc
  · rename_i c hb
    split at hc
    · rename_i vc' rs' h1 h2
      simp only [Option.some.injEq, Prod.mk.injEq] at hc
      obtain ⟨rfl, rfl⟩ := hc
      exact callsR_of_vc hmix hf hb h1 h2 hlen h
    · cases hc
  · cases hc

/-! ### Functions to which blocks are handed -/
def envS (xs : List SV) : Nat → SV := fun t => xs.getD t (.val undef)
def Blk.out : Blk → Blk
  | .shr .. => .dead
  | .own _ => .dead
  | b => b
/-- The result: what a slot holds, as it is; else values. -/
def vcResS (s : St) (rs : List RV) (k : SV → St → Prop) : Prop :=
  match rs with
  | [.tmp t] => k (s.env t) s
  | rs => vcRes s rs fun vs s' => k (.val (resVal vs)) s'
def vcRetS (rs : List RV) (s : St) (Post : RO → List Blk → SV → Prop) : Prop := vcResS s rs fun r s' => Post s'.R (s'.blk.map Blk.out) r
theorem resS_sound {fn : Func} {β κ : Nat → Nat} {tm : Array Value} {w : World} {vs : List RV} {s : St} {k : SV → St → Prop} (hr : compRes P fn.results.toList = some vs) (h : Rel X β κ s tm w) (hk : vcResS s vs k) :
    ∃ s' r, Rel X β κ s' tm w ∧ SV.ok s'.blk.length r = true ∧ k r s' ∧ (results fn tm).run P w = .ok (den β κ r) w := by
  unfold vcResS at hk
  split at hk
  · rename_i t
    refine ⟨s, s.env t, h, h.ok t, hk, ?_⟩
    have : fn.results.toList = [.tmp t] := by
      match hl : fn.results.toList with
      | [] => rw [hl] at hr; simp [compRes] at hr
      | .tmp t' :: r =>
        rw [hl] at hr
        simp only [compRes] at hr
        obtain ⟨r', hr', e⟩ := Option.map_eq_some_iff.1 hr
        simp only [List.cons.injEq, RV.tmp.injEq] at e
        obtain ⟨rfl, rfl⟩ := e
        match r with
        | [] => rfl
        | .tmp _ :: _ => simp only [compRes] at hr'; obtain ⟨_, _, e⟩ := Option.map_eq_some_iff.1 hr'; cases e
        | .cell _ _ :: _ => simp only [compRes] at hr'; (repeat' split at hr') <;> simp at hr'
      | .cell _ _ :: _ =>
        rw [hl] at hr
        simp only [compRes] at hr
        (repeat' split at hr) <;> simp at hr
    have h1 : (fn.results.toList.mapM (rvRun tm)).run P w = .ok [den β κ (s.env t)] w := by
      rw [this]
      simp [rvRun, h.env t]
    exact results_run h1
  · obtain ⟨s', us, h2, hk2, _, hrun⟩ := res_sound _ _ s _ hr h hk
    exact ⟨s', _, h2, rfl, hk2, results_run hrun⟩
theorem out_live (b : Blk) : b.out.live = b.live := by cases b <;> rfl
theorem BlkOK.out {β κ : Nat → Nat} {w : World} {own : Nat → Prop} {L i : Nat} {b : Blk} (h : BlkOK β κ w own L i b) : BlkOK β κ w (fun _ => True) L i b.out := by
  cases b with
  | dead => trivial
  | shr => trivial
  | own => trivial
  | box cs => exact ⟨trivial, h.2⟩
  | row T sz cs => exact ⟨trivial, h.2⟩
  | mp es c => exact ⟨trivial, h.2⟩
  | it m a b c => exact ⟨trivial, h.2⟩
theorem callsS (hmix : P.follows .mixedOrders = true) {f : FuncId} {fn : Func} {vc : VCode} {rs : List RV} (hf : P.funcs[f]? = some fn) (hc : compFn P fn = some (vc, rs)) {xs : List SV} {bs : List Blk} {R : RO} {Post : RO → List Blk → SV → Prop}
    (hlen : xs.length ≤ fn.ntmps) (hxs : (xs.all (SV.ok bs.length)) = true) (hns : (bs.all Blk.noShr) = true)
    (h : vcCode ⟨P, bs.length⟩ vc ⟨envS xs, bs, R⟩ (fun s => vcRetS rs s Post) (fun _ _ => False) (fun s => vcRetS rs s Post)) : CallsS P f xs bs R Post := by
  unfold compFn at hc
  split at hc
  case h_2 => cases hc
  rename_i c hb
  split at hc
  case h_2 => cases hc
  rename_i vc' rs' hcc hr
  simp only [Option.some.injEq, Prod.mk.injEq] at hc
  obtain ⟨rfl, rfl⟩ := hc
  intro w β0 κ0 hG
  let X : Ctx := { w0 := w, R0 := R, B := R, n := fn.ntmps, g := Gset β0 bs, ng := bs.length, β0 := β0, κ0 := κ0 }
  have hgo : ∀ i b, bs[i]? = some b → b.live = true → X.own (β0 i) := fun i b hi hl => .inr ⟨i, b, hi, hl, rfl⟩
  have hstart : Rel X β0 κ0 ⟨envS xs, bs, R⟩ ((xs.map (den β0 κ0)).toArray ++ Array.replicate (fn.ntmps - xs.length) undef) w :=
    { size := by simp only [Array.size_append, List.size_toArray, Array.size_replicate, List.length_map]; show xs.length + (fn.ntmps - xs.length) = fn.ntmps; omega
      env := fun t => by
        simp only [envS]
        rcases Nat.lt_or_ge t xs.length with hlt | hge
        · simp [Array.getD_eq_getD_getElem?, Array.getElem?_append, hlt, List.getD_eq_getElem?_getD]
        · rw [Array.getD_eq_getD_getElem?, Array.getElem?_append, List.size_toArray, List.length_map, if_neg (by omega), List.getD_eq_getElem?_getD, List.getElem?_eq_none hge, Array.getElem?_replicate]
          split <;> rfl
      ok := fun t => by
        simp only [envS, List.getD_eq_getElem?_getD]
        cases hx : xs[t]? with
        | none => rfl
        | some x => exact List.all_eq_true.1 hxs x (List.mem_of_getElem? hx)
      below := KeptG.refl _ _
      le := fun a v ha => ha
      blk := fun j b hj => (hG.blk j b hj).own fun hl _ => hgo j b hj hl
      inj := hG.inj
      ro := fun a v ha => ⟨(hG.ro a v ha).1, .inl ha, (hG.ro a v ha).2⟩
      kept := fun p hp => by cases hp
      shr := fun j b cap T sz cs hj => by have := List.all_eq_true.1 hns _ (List.mem_of_getElem? hj); cases this
      own := fun j F hj => by have := List.all_eq_true.1 hns _ (List.mem_of_getElem? hj); cases this
      pos := fun i hi => ⟨rfl, rfl⟩
      len := Nat.le_refl _ }
  refine calls_of_wp hf hb ?_
  rw [show (xs.map (den β0 κ0)).toArray.size = xs.length by simp]
  refine wp_mono (wpIn_wide.1 (code_sound (fr := none) (fn := 0) (ds := []) hmix c X _ rfl hcc β0 κ0 _ _ w _ _ _ hstart h)) fun e a' w' hq => ?_
  have fin : (∃ β κ s tm, a' = ⟨tm, []⟩ ∧ Rel X β κ s tm w' ∧ vcRetS rs' s Post) → a'.defers = [] ∧ ∃ v, (results fn a'.tmps).run P w' = .ok v w' ∧
      ∃ β' κ' bs' r R', Ending.returned v = .returned (den β' κ' r) ∧ RO.le R R' ∧ Granted w' β' κ' bs' R' ∧
    SV.ok bs'.length r = true ∧ bs.length ≤ bs'.length ∧ (∀ b ∈ bs', b.noShr = true) ∧ (∀ i, i < bs.length → β' i = β0 i ∧ κ' i = κ0 i) ∧
    (∀ j b, bs'[j]? = some b → b.live = true → w.heap.size ≤ β' j ∨ Gset β0 bs (β' j)) ∧ (∀ a v, R' a v → R a v ∨ ((w.heap.size ≤ a.block ∨ Gset β0 bs a.block) ∧ Loose w' a.block)) ∧ KeptG (Gset β0 bs) w w' ∧ Post R' bs' r := by
    rintro ⟨β, κ, s, tm, rfl, h1, hk⟩
    obtain ⟨s', r, h2, hok, hk2, hrun⟩ := resS_sound hr h1 hk
    have hget : ∀ j b, (s'.blk.map Blk.out)[j]? = some b → ∃ b0 : Blk, s'.blk[j]? = some b0 ∧ b = b0.out := fun j b hj => by
      rw [List.getElem?_map] at hj
      obtain ⟨b0, h0, rfl⟩ := Option.map_eq_some_iff.1 hj
      exact ⟨b0, h0, rfl⟩
    refine ⟨rfl, _, hrun, β, κ, s'.blk.map Blk.out, r, s'.R, rfl, h2.le, ⟨fun j b hj => ?_, fun i j b b' hi hj hl1 hl2 he => ?_, fun a v ha => ⟨(h2.ro a v ha).1, fun j b hj hl => ?_⟩⟩, by rw [List.length_map]; exact hok, by rw [List.length_map]; exact h2.len, fun b hb => ?_, h2.pos, fun j b hj hl => ?_, fun a v ha => (h2.ro a v ha).2.1, h2.below, hk2⟩
    · obtain ⟨b0, h0, rfl⟩ := hget j b hj
      rw [List.length_map]
      exact (h2.blk j b0 h0).out
    · obtain ⟨b1, h1, rfl⟩ := hget i b hi
      obtain ⟨b2, h3, rfl⟩ := hget j b' hj
      rw [out_live] at hl1 hl2
      exact h2.inj i j b1 b2 h1 h3 hl1 hl2 he
    · obtain ⟨b0, h0, rfl⟩ := hget j b hj
      rw [out_live] at hl
      exact (h2.ro a v ha).2.2 j b0 h0 hl
    · obtain ⟨b0, _, rfl⟩ := List.mem_map.1 hb
      cases b0 <;> rfl
    · obtain ⟨b0, h0, rfl⟩ := hget j b hj
      rw [out_live] at hl
      exact (h2.blk j b0 h0).base hl
  cases e with
  | normal => exact fin hq
  | ret => exact fin hq
  | exit i => obtain ⟨_, _, _, _, _, _, hk⟩ := hq; exact hk.elim
  | _ => exact hq.elim
end
end Go.Proofs.YtcjdbfnnbejmeaaGreat.Vc
