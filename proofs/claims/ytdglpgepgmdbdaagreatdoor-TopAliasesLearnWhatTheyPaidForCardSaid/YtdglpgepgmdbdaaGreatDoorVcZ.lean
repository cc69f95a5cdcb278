/- Plain lemmas of our own, no statement of the seat: a range over a function, round by round, and the marks that it leaves. -/
import Derived.Test.YtdglpgepgmdbdaaGreatDoorVcY
namespace Go.Proofs.YtdglpgepgmdbdaaGreatDoor.Vc
set_option linter.unusedSectionVars false
variable [Drew]
set_option linter.unusedSimpArgs false
set_option linter.unusedVariables false
open Go.RowKit
section
variable {P : Program} {X : Ctx} {β κ : Nat → Nat} {s : St} {tm : Array Value} {w w' : World}
def MKs (X : Ctx) (rs : List Nat) (w : World) : Prop := rs.Nodup ∧ ∀ r ∈ rs, X.w0.heap.size ≤ r ∧ w.heap[r]? = some (.deferred (some []))
def dsOf (rs : List Nat) : List Deferred := rs.map fun r => { target := .collected r, args := #[] }
theorem MKs.kept {rs : List Nat} {g : Nat → Prop} (h : MKs X rs w) (hk : KeptG g w w') (hg : ∀ r ∈ rs, ¬ g r) : MKs X rs w' :=
 ⟨h.1, fun r hr => ⟨(h.2 r hr).1, (hk.block r (Array.getElem?_eq_some_iff.1 (h.2 r hr).2).1 (hg r hr)).trans (h.2 r hr).2⟩⟩
theorem MKs.ext {rs : List Nat} (h : MKs X rs w) (hk : Ext w w') : MKs X rs w' :=
 ⟨h.1, fun r hr => ⟨(h.2 r hr).1, (hk.block r (Array.getElem?_eq_some_iff.1 (h.2 r hr).2).1).trans (h.2 r hr).2⟩⟩
theorem MKs.put {rs : List Nat} (h : MKs X rs w) {l : Nat} (o : Obj) (hl : l ∉ rs) : MKs X rs (w.putObj l o) :=
 ⟨h.1, fun r hr => ⟨(h.2 r hr).1, (World.putObj_heap_other (k := r) (by rintro rfl; exact hl hr)).trans (h.2 r hr).2⟩⟩
def SemM (P : Program) (n : Nat) (X : Ctx) (rs : List Nat) (c : Code) (s : St) (Q : Exit → Act → World → Prop) : Prop :=
 ∀ β κ tm w, Rel X β κ s tm w → MKs X rs w → c.wpIn (Fr none) n P Q ⟨tm, dsOf rs⟩ w
def SemMX (X : Ctx) (rs : List Nat) (e : Exit) (s : St) (Q : Exit → Act → World → Prop) : Prop := ∀ β κ tm w, Rel X β κ s tm w → MKs X rs w → Q e ⟨tm, dsOf rs⟩ w
theorem semM0 {n : Nat} {c : Code} {Q : Exit → Act → World → Prop} (h : SemM P n X [] c s Q) : SemI P none n X [] c s Q := fun β κ tm w hr => h β κ tm w hr ⟨List.nodup_nil, fun r hr => by cases hr⟩
theorem semM_vc (hmix : P.follows .mixedOrders = true) {n : Nat} {rs : List Nat} {c : Code} {vc : VCode} (hX : X.keep = []) (hns : s.blk.all Blk.noShr = true) (hc : comp P X.n c = some vc) {Q : Exit → Act → World → Prop}
  (h : CodeT ⟨P, s.blk.length⟩ vc s (fun s' => SemMX X rs .normal s' Q) (fun i s' => SemMX X rs (.exit i) s' Q) (fun s' => SemMX X rs .ret s' Q) .mk .mk .mk) : SemM P n X rs c s Q := by
 intro β κ tm w hr hmk
 have hsh := hr.sharp hns
 refine wpIn_mono (code_sound (fr := none) (fn := n) (ds := dsOf rs) hmix c (Sharp X β κ s w) vc rfl hc β κ _ tm w _ _ _ hsh h) ?_
 intro e a w1 hq
 have key : ∀ β' κ' s' tm', Rel (Sharp X β κ s w) β' κ' s' tm' w1 → Rel X β' κ' s' tm' w1 ∧ MKs X rs w1 := fun β' κ' s' tm' h1 =>
  ⟨hr.back hX h1, hmk.kept h1.below fun r hr' => hr.notG (hmk.2 r hr').2 rfl rfl⟩
 cases e with
 | normal => obtain ⟨β', κ', s', tm', rfl, h1, h2⟩ := hq; exact h2 _ _ _ _ (key _ _ _ _ h1).1 (key _ _ _ _ h1).2
 | exit i => obtain ⟨β', κ', s', tm', rfl, h1, h2⟩ := hq; exact h2 _ _ _ _ (key _ _ _ _ h1).1 (key _ _ _ _ h1).2
 | ret => obtain ⟨β', κ', s', tm', rfl, h1, h2⟩ := hq; exact h2 _ _ _ _ (key _ _ _ _ h1).1 (key _ _ _ _ h1).2
 | _ => exact hq.elim
theorem semM_seq (hmix : P.follows .mixedOrders = true) {n : Nat} {rs : List Nat} {a b : Code} {va : VCode} (hX : X.keep = []) (hns : s.blk.all Blk.noShr = true) (hc : comp P X.n a = some va) {Q : Exit → Act → World → Prop}
  (h : CodeT ⟨P, s.blk.length⟩ va s (fun s' => SemM P n X rs b s' Q) (fun i s' => SemMX X rs (.exit i) s' Q) (fun s' => SemMX X rs .ret s' Q) .mk .mk .mk) : SemM P n X rs (.seq a b) s Q := fun β κ tm w hr hmk =>
 wpIn_seq (semM_vc (Q := Exit.then (fun a' w' => b.wpIn (Fr none) n P Q a' w') Q) hmix hX hns hc h β κ tm w hr hmk)
theorem semM_seqS {n : Nat} {rs : List Nat} {a b : Code} {Q : Exit → Act → World → Prop} (h : SemM P n X rs a s (Exit.then (fun a' w' => b.wpIn (Fr none) n P Q a' w') Q)) : SemM P n X rs (.seq a b) s Q := fun β κ tm w hr hm => wpIn_seq (h β κ tm w hr hm)
theorem semM_block {n : Nat} {rs : List Nat} {id : Nat} {b : Code} {Q : Exit → Act → World → Prop} (h : SemM P n X rs b s (Exit.inBlock id Q)) : SemM P n X rs (.block id b) s Q := fun β κ tm w hr hm => wpIn_block (h β κ tm w hr hm)
theorem semM_loop {n : Nat} {rs : List Nat} {b : Code} {Q : Exit → Act → World → Prop} (Y : Type) (vals : Y → List (Nat × SV)) (blks : Y → List Blk) (Φ : Y → RO → Prop) (μ : Y → Nat) (y0 : Y) (ρ0 : List Nat)
  (h0 : Matches ρ0 (vals y0) (blks y0) s) (h1 : inScope X.ng ρ0 (vals y0) (blks y0) = true) (h2 : Φ y0 s.R)
  (hr : ∀ y env R' rs, RO.le s.R R' → (∀ p ∈ vals y, env p.1 = p.2) → Φ y R' → SemM P n { X with R0 := s.R } rs b ⟨env, blks y, R'⟩
   (Exit.then (fun a' w' => ∃ β κ s' tm rs', a' = ⟨tm, dsOf rs'⟩ ∧ Rel { X with R0 := s.R } β κ s' tm w' ∧ MKs { X with R0 := s.R } rs' w' ∧ ∃ y' ρ, μ y' < μ y ∧ Matches ρ (vals y') (blks y') s' ∧ inScope X.ng ρ (vals y') (blks y') = true ∧ Φ y' s'.R) Q)) : SemM P n X rs (.loop b) s Q := by
 intro β κ tm w h hmk
 let X' : Ctx := { X with R0 := s.R }
 have hXr : Rel X' β κ s tm w := { h with
  le := fun a v ha => ha
  shr := fun j b cap T sz cs hj => { h.shr j b cap T sz cs hj with }
  own := fun j F hj => { h.own j F hj with } }
 obtain ⟨β00, κ00, env0, g0, hv0⟩ := hXr.scrub h0 h1
 refine wpIn_loop_ghost (fun n a w => ∃ y β κ env' R' tm rs, a = ⟨tm, dsOf rs⟩ ∧ n = μ y ∧ Rel X' β κ ⟨env', blks y, R'⟩ tm w ∧ MKs X' rs w ∧ (∀ p ∈ vals y, env' p.1 = p.2) ∧ Φ y R') (μ y0) ⟨y0, β00, κ00, env0, s.R, tm, rs, rfl, rfl, g0, hmk, hv0, h2⟩ ?_
 rintro n a w1 ⟨y, β1, κ1, env1, R1, tm1, rs1, rfl, rfl, g1, hm1, hv1, hΦ1⟩
 refine wpIn_mono (hr y env1 R1 rs1 g1.le hv1 hΦ1 β1 κ1 tm1 w1 g1 hm1) fun e a' w' hq => ?_
 cases e with
 | normal =>
  obtain ⟨β2, κ2, s2, tm2, rs2, rfl, g2, hm2, y', ρ2, hμ, hm, hs, hΦ⟩ := hq
  obtain ⟨β3, κ3, env2, h2', hv2⟩ := g2.scrub hm hs
  exact ⟨μ y', hμ, y', β3, κ3, env2, s2.R, tm2, rs2, rfl, rfl, h2', hm2, hv2, hΦ⟩
 | _ => exact hq
theorem retM_fin {n : Nat} {fn : Func} {rv : List RV} {wz : World} {R : RO} {Post : RO → Value → Prop} (hX : X = { w0 := wz, R0 := R, B := R, n := fn.ntmps }) (hc : compRes P fn.results.toList = some rv) (hk : vcRet rv s Post) :
  ∀ (rs : List Nat) (w : World), Rel X β κ s tm w → MKs X rs w → LeavesInM (Fr none) n P fn tm (fun e w' => ∃ v R', e = .returned v ∧ RO.le R R' ∧ (∀ a v, R' a v → w'.cell? a = some v ∧ (R a v ∨ (wz.heap.size ≤ a.block ∧ Loose w' a.block))) ∧ Ext wz w' ∧ Post R' v) (dsOf rs) .returning w
 | [], w, hr, _ => ret_fin hX hc hr hk
 | r :: rs, w, hr, hm => by
  obtain ⟨hnd, hall⟩ := hm
  obtain ⟨hb, hd⟩ := hall r (by simp)
  rw [List.nodup_cons] at hnd
  refine ⟨by simp, .inl ⟨r, _, rfl, run_takeDeferred hd, retM_fin hX hc hk rs _ (hr.still (still_put _ hb hd rfl rfl)) ?_⟩⟩
  exact MKs.put ⟨hnd.2, fun r' hr' => hall r' (by simp [hr'])⟩ _ hnd.1
theorem BlkOK.trunc {β' κ' : Nat → Nat} {own : Nat → Prop} {L L' j : Nat} {b : Blk} (h : BlkOK β' κ' w own L' j b) (hj : j < L) (hβ : ∀ i, i < L → β' i = β i ∧ κ' i = κ i) (hsc : scB L b = true) : BlkOK β κ w own L j b := by
 obtain ⟨e1, e2⟩ := hβ j hj
 cases b with
 | dead => trivial
 | shr => trivial
 | own => trivial
 | box cs =>
  obtain ⟨h1, h2, T, h3⟩ := h
  simp only [scB, List.all_eq_true] at hsc
  refine ⟨e1 ▸ h1, hsc, T, ?_⟩
  rw [e1] at h3
  rw [h3, List.map_congr_left fun c hc => den_congr hβ (hsc c hc)]
 | row T sz cs =>
  obtain ⟨h1, arr, h2, h3, h4, h5, h6⟩ := h
  rw [e1] at h1 h2
  rw [e2] at h4 h5 h6
  exact ⟨h1, arr, h2, h3, h4, h5, h6⟩
 | mp es c => exact ⟨e1 ▸ h.1, by rw [← e1]; exact h.2⟩
 | it m a b c =>
  simp only [scB, decide_eq_true_eq] at hsc
  exact ⟨e1 ▸ h.1, hsc, by rw [← e1, ← (hβ m hsc).1]; exact h.2.2⟩
theorem Rel.trunc {β' κ' : Nat → Nat} {s' : St} {tm' : Array Value} {w1 : World} (h : Rel X β κ s tm w) (hX : X.keep = []) (h1 : Rel X β' κ' s' tm' w1) (hl : s.blk.length ≤ s'.blk.length) (hβ : ∀ i, i < s.blk.length → β' i = β i ∧ κ' i = κ i)
  (hns : s'.blk.all Blk.noShr = true) (hsc : (s'.blk.take s.blk.length).all (scB s.blk.length) = true) (hR : RO.le s.R s'.R) : Rel X β κ ⟨s.env, s'.blk.take s.blk.length, s.R⟩ tm w1 := by
 have hlt : (s'.blk.take s.blk.length).length = s.blk.length := by rw [List.length_take, Nat.min_eq_left hl]
 have hget : ∀ (j : Nat) (b : Blk), (s'.blk.take s.blk.length)[j]? = some b → j < s.blk.length ∧ s'.blk[j]? = some b := fun j b hj => by
  rw [List.getElem?_take] at hj
  split at hj
  ·exact ⟨‹_›, hj⟩
  ·cases hj
 exact {
  size := h.size
  env := h.env
  ok := fun t => by show SV.ok (s'.blk.take s.blk.length).length _ = true; rw [hlt]; exact h.ok t
  below := h1.below
  le := h.le
  blk := fun j b hj => by
   show BlkOK β κ w1 X.own (s'.blk.take s.blk.length).length j b
   obtain ⟨k1, k2⟩ := hget j b hj
   rw [hlt]
   exact (h1.blk j b k2).trunc k1 hβ (List.all_eq_true.1 hsc b (List.mem_of_getElem? hj))
  inj := fun i j b b' hi hj l1 l2 e => by
   obtain ⟨k1, k2⟩ := hget i b hi
   obtain ⟨k3, k4⟩ := hget j b' hj
   exact h1.inj i j b b' k2 k4 l1 l2 (by rw [(hβ i k1).1, (hβ j k3).1]; exact e)
  ro := fun a v ha => by
   obtain ⟨g1, g2, g3⟩ := h1.ro a v (hR a v ha)
   refine ⟨g1, g2, fun j b hj hlv => ?_⟩
   obtain ⟨k1, k2⟩ := hget j b hj
   rw [← (hβ j k1).1]
   exact g3 j b k2 hlv
  kept := fun p hp => by rw [hX] at hp; cases hp
  shr := fun j b cap T sz cs hj => by have := List.all_eq_true.1 hns _ (List.mem_of_getElem? (hget _ _ hj).2); cases this
  own := fun j F hj => by have := List.all_eq_true.1 hns _ (List.mem_of_getElem? (hget _ _ hj).2); cases this
  pos := h.pos
  len := by show X.ng ≤ (s'.blk.take s.blk.length).length; rw [hlt]; exact h.len }
theorem Rel.facts {R' : RO} {B0 : Nat} (h : Rel X β κ s tm w) (hX : X.keep = []) (hns : s.blk.all Blk.noShr = true) (hR : RO.le s.R R') (hf : ∀ a v, R' a v → w.cell? a = some v ∧ (s.R a v ∨ (B0 ≤ a.block ∧ Loose w a.block))) (hB : ∀ (j : Nat) (b : Blk), s.blk[j]? = some b → b.live = true → β j < B0) (hB0 : X.w0.heap.size ≤ B0) :
  Rel X β κ { s with R := R' } tm w := { h with
 le := fun a v ha => hR a v (h.le a v ha)
 ro := fun a v ha => by
  obtain ⟨g1, g2⟩ := hf a v ha
  rcases g2 with g2 | ⟨g2, g3⟩
  ·exact h.ro a v g2
  ·exact ⟨g1, .inr ⟨.inl (Nat.le_trans hB0 g2), g3⟩, fun j b hj hl e => by have := hB j b hj hl; omega⟩
 kept := fun p hp => by rw [hX] at hp; cases hp
 shr := fun j b cap T sz cs hj => by have := List.all_eq_true.1 hns _ (List.mem_of_getElem? hj); cases this
 own := fun j F hj => by have := List.all_eq_true.1 hns _ (List.mem_of_getElem? hj); cases this }
def Anew (X : Ctx) (s : St) (w : World) : Ctx := { w0 := w, R0 := s.R, B := s.R, n := X.n }
theorem Rel.anew {w1 : World} (h : Rel X β κ s tm w) (hd : ∀ (j : Nat) (b : Blk), s.blk[j]? = some b → b = .dead) (hR : ∀ a v, s.R a v → w1.cell? a = some v) : Rel (Anew X s w1) β κ s tm w1 where
 size := h.size
 env := h.env
 ok := h.ok
 below := KeptG.refl _ _
 le := fun a v ha => ha
 blk := fun j b hj => by rw [hd j b hj]; trivial
 inj := fun i j b b' hi _ hl => by rw [hd i b hi] at hl; cases hl
 ro := fun a v ha => ⟨hR a v ha, .inl ha, fun j b hj hl => by rw [hd j b hj] at hl; cases hl⟩
 kept := fun p hp => by cases hp
 shr := fun j b cap T sz cs hj => by cases hd j _ hj
 own := fun j F hj => by cases hd j _ hj
 pos := fun i hi => absurd hi (Nat.not_lt_zero _)
 len := Nat.zero_le _
def IterC (P : Program) (F : FuncId) (vs : List Value) (R : RO) (m : Nat) (El : Nat → RO → Value → Prop) : Prop :=
 ∀ (n l : Nat) (w : World) (J : Nat → World → Prop), (∀ a v, R a v → w.cell? a = some v) →
  (∀ k W W', J k W → Ext W W' → J k W') → J 0 w →
  (∀ k W R' v, k < m → J k W → w.heap.size ≤ W.heap.size → RO.le R R' → (∀ a u, R' a u → W.cell? a = some u ∧ (R a u ∨ (w.heap.size ≤ a.block ∧ Loose W a.block))) → El k R' v →
   YieldAt (Fr none) (n - 1) P l #[v] W fun e W' => e = .returned (.bool true) ∧ J (k + 1) W' ∧ W.heap.size ≤ W'.heap.size ∧ ∀ a u, R' a u → W'.heap[a.block]? = W.heap[a.block]?) →
  CallsIn (Fr none) n P F (.func (.yield l) #[] #[] :: vs).toArray w fun e W' => (∃ v, e = .returned v) ∧ J m W'
def EndOK (L : Nat) (I : List Blk → Prop) (R : RO) (s2 : St) : Prop := I (s2.blk.take L) ∧ (s2.blk.take L).all (scB L) = true ∧ s2.blk.all Blk.noShr = true
theorem capVals_map : ∀ {cs : List Cap} {vs : List Value}, capVals cs = some vs → cs.map (capV β) = vs
 | [], vs, h => by simp only [capVals, Option.some.injEq] at h; subst h; rfl
 | .v x :: r, vs, h => by
  simp only [capVals, Option.map_eq_some_iff] at h
  obtain ⟨us, h1, rfl⟩ := h
  rw [List.map_cons, capVals_map h1]
  rfl
 | .l .. :: _, vs, h => by cases h
theorem semM_range (hmix : P.follows .mixedOrders = true) {n : Nat} {g : Operand} {p : Tmp} {asg body : Code} {va vb : VCode} {Q : Exit → Act → World → Prop} {rs : List Nat} {F : FuncId} {caps : List Cap} {vs : List Value} {m : Nat} {El : Nat → RO → Value → Prop} (Inv : Nat → List Blk → Prop)
  (hXk : X.keep = []) (hg : s.ev g = .fn F caps) (hcv : capVals caps = some vs) (heg : ∀ args w, (callFunc F args).run P w = .ok (.enter F args) w)
  (hit : IterC P F vs s.R m El) (hca : comp P X.n asg = some va) (hcb : comp P X.n body = some vb) (hp : p < X.n) (h0 : Inv 0 s.blk)
  (hlive : ∀ (k : Nat) (bl : List Blk), Inv k bl → bl.all Blk.noShr = true ∧ ∀ (j : Nat) (b : Blk), bl[j]? = some b → b.live = true → ∃ b0 : Blk, s.blk[j]? = some b0 ∧ b0.live = true)
  (hround : ∀ k bl R' v, k < m → bl.length = s.blk.length → Inv k bl → RO.le s.R R' → El k R' v →
   CodeT ⟨P, s.blk.length⟩ va (St.put ⟨s.env, bl, R'⟩ (some p) (.val v)) (fun s1 => s1.blk.all Blk.noShr = true ∧ CodeT ⟨P, s1.blk.length⟩ vb s1 (EndOK s.blk.length (Inv (k + 1)) R') (fun _ _ => False) (fun _ => False) .mk .mk .mk) (fun _ _ => False) (fun _ => False) .mk .mk .mk)
  (hend : ∀ D bl, bl.length = s.blk.length → Inv m bl → SemMX X (D :: rs) .normal ⟨s.env, bl, s.R⟩ Q) : SemM P n X rs (.rangeFunc g #[p] asg body) s Q := by
 intro β κ tm w hr hmk
 have hval : (⟨tm, dsOf rs⟩ : Act).eval g = .func (.func F) #[] vs.toArray := (hr.eval _ g).trans (by rw [hg]; simp only [den]; rw [capVals_map hcv])
 have hXw : X.w0.heap.size ≤ w.heap.size := hr.below.size
 refine wpIn_rangeFunc ?_
 intro fnid _
 obtain ⟨rec, hrec⟩ : ∃ rec : LoopState → Option Code → Loop, rec = fun st pe => { state := st, pending := pe, fn := fnid, tmps := tm, params := #[p], assign := asg, body := body, defers := w.heap.size } := ⟨_, rfl⟩
 obtain ⟨W1, hW1⟩ : ∃ W1, (w.alloc (.deferred (some []))).alloc (.loop (rec .ready none)) = W1 := ⟨_, rfl⟩
 have hext : Ext w W1 := by rw [← hW1]; exact (ext_alloc w _).tr (ext_alloc _ _)
 have hs1 : W1.heap.size = w.heap.size + 2 := by rw [← hW1]; simp
 have hL1 : W1.heap[w.heap.size + 1]? = some (.loop (rec .ready none)) := by
  rw [← hW1]; have := World.alloc_heap_new (w.alloc (.deferred (some []))) (.loop (rec .ready none)); rwa [World.size_alloc] at this
 have hD1 : W1.heap[w.heap.size]? = some (.deferred (some [])) := by
  rw [← hW1]; exact ((ext_alloc (w.alloc (.deferred (some []))) (.loop (rec .ready none))).block _ (by simp)).trans (World.alloc_heap_new w _)
 have hmlt : ∀ r ∈ rs, r < w.heap.size := fun r hr' => (Array.getElem?_eq_some_iff.1 (hmk.2 r hr').2).1
 have hmk1 : MKs X (w.heap.size :: rs) W1 := by
  have h1 := hmk.ext hext
  refine ⟨List.nodup_cons.2 ⟨fun hin => by have := hmlt _ hin; omega, h1.1⟩, fun r hr' => ?_⟩
  rcases List.mem_cons.1 hr' with rfl | hr'
  ·exact ⟨hXw, hD1⟩
  ·exact h1.2 r hr'
 have hnotin : w.heap.size + 1 ∉ w.heap.size :: rs := fun hin => by
  rcases List.mem_cons.1 hin with h | h
  ·omega
  ·have := hmlt _ h; omega
 obtain ⟨J, hJ⟩ : ∃ J : Nat → World → Prop, J = fun k W => W.heap[w.heap.size + 1]? = some (.loop (rec .ready none)) ∧ MKs X (w.heap.size :: rs) W ∧ ∃ bl, bl.length = s.blk.length ∧ Rel X β κ ⟨s.env, bl, s.R⟩ tm W ∧ Inv k bl := ⟨_, rfl⟩
 refine ⟨w.heap.size + 1, [{ target := .collected w.heap.size, args := #[] }], W1, { target := .fn (.func F) vs.toArray, args := #[.func (.yield (w.heap.size + 1)) #[] #[]] }, W1, F,
  (.func (.yield (w.heap.size + 1)) #[] #[] :: vs).toArray, W1, ?_, ?_, fun _ _ => trivial, ?_, fun h => (by cases h), ?_⟩
 ·rw [← hW1, hrec]; exact run_enterLoop_outer _ _ _ _ _
 ·simp only [resolve, hval]
  simp [go_sem]
 ·simp [invoke, go_sem, heg]
 refine CallsIn.mono (hit (n - 1) (w.heap.size + 1) W1 J (fun a v ha => ((hr.ext hext).ro a v ha).1) ?_ ?_ ?_) ?_
 ·intro k W W' hj he
  rw [hJ] at hj ⊢
  obtain ⟨g1, g2, bl, g3, g4, g5⟩ := hj
  exact ⟨(he.block _ (Array.getElem?_eq_some_iff.1 g1).1).trans g1, g2.ext he, bl, g3, g4.ext he, g5⟩
 ·rw [hJ]
  exact ⟨hL1, hmk1, s.blk, rfl, hr.ext hext, h0⟩
 ·intro k W R' v hk hj hsz hle hf hEl
  rw [hJ] at hj
  obtain ⟨hL2, hmk2, bl, hbl, hrel, hInv⟩ := hj
  obtain ⟨hnsb, hlv⟩ := hlive k bl hInv
  have hrF := hrel.facts (R' := R') (B0 := W1.heap.size) hXk hnsb hle hf (fun j b hj hl => by
   obtain ⟨b0, hb0, hl0⟩ := hlv j b hj hl
   have := (hr.blk j b0 hb0).lt hl0
   omega) (by omega)
  have hrP : Rel X β κ (St.put ⟨s.env, bl, R'⟩ (some p) (.val v)) (tm.setIfInBounds p v) W := hrF.put (some p) (fun t e => by cases e; exact hp) (.val v) rfl
  refine ⟨fnid, _, asg, body, (run_yield hL2 (by rw [hrec]; rfl)).trans (by rw [hrec]), ?_⟩
  have hfold : ((rec .ready none).params.zip #[v]).foldl (fun tmps (t, a) => tmps.setIfInBounds t a) (rec .ready none).tmps = tm.setIfInBounds p v := by
   rw [hrec]; simp
  rw [hrec] at hfold
  rw [hfold]
  refine roundIn_of_wpIn trivial ?_
  have hcT := hround k bl R' v hk hbl hInv hle hEl
  have hns2 : (St.put ⟨s.env, bl, R'⟩ (some p) (.val v)).blk.all Blk.noShr = true := hnsb
  have hshP := hrP.sharp hns2
  have hng : (St.put ⟨s.env, bl, R'⟩ (some p) (.val v)).blk.length = s.blk.length := hbl
  rw [← hng] at hcT
  have hlt2 : w.heap.size + 1 < W.heap.size := (Array.getElem?_eq_some_iff.1 hL2).1
  refine wpIn_mono (code_sound (fr := some (w.heap.size + 1)) (fn := n - 1 - 1) (ds := []) hmix asg (Sharp X β κ (St.put ⟨s.env, bl, R'⟩ (some p) (.val v)) W) va rfl hca β κ _ _ W _ _ _ hshP hcT) ?_
  intro e a3 W3 hq
  cases e with
  | normal =>
   obtain ⟨β3, κ3, s3, tm3, rfl, hrel3, hns3, hvB⟩ := hq
   have hL3 : W3.heap[w.heap.size + 1]? = some (.loop (rec .ready none)) := (hrel3.below.block _ hlt2 (hrP.notG hL2 rfl rfl)).trans hL2
   have hmk3 : MKs X (w.heap.size :: rs) W3 := hmk2.kept hrel3.below fun r hr' => hrP.notG (hmk2.2 r hr').2 rfl rfl
   have hb3 := hrP.back hXk hrel3
   have hpos3 := hrel3.pos
   have hlen3 := hrel3.len
   have hle3 := hrel3.le
   refine ⟨_, run_beginRound hL3 (by rw [hrec]), ?_⟩
   have hr4 := hb3.still (still_put (.loop { rec .ready none with state := .busy }) (by omega) hL3 rfl rfl)
   have hlt3 : w.heap.size + 1 < W3.heap.size := (Array.getElem?_eq_some_iff.1 hL3).1
   have hL4 : (W3.putObj (w.heap.size + 1) (.loop { rec .ready none with state := .busy })).heap[w.heap.size + 1]? = some (.loop { rec .ready none with state := .busy }) := World.putObj_heap_same hlt3
   have hmk4 := hmk3.put (.loop { rec .ready none with state := .busy }) hnotin
   have hs4 : (W3.putObj (w.heap.size + 1) (.loop { rec .ready none with state := .busy })).heap.size = W3.heap.size := by simp
   have ho4 : ∀ k, k ≠ w.heap.size + 1 → (W3.putObj (w.heap.size + 1) (.loop { rec .ready none with state := .busy })).heap[k]? = W3.heap[k]? := fun k hk => World.putObj_heap_other (by omega)
   generalize W3.putObj (w.heap.size + 1) (.loop { rec .ready none with state := .busy }) = W4 at hr4 hL4 hmk4 hs4 ho4 ⊢
   have hsh4 := hr4.sharp hns3
   refine wpIn_mono (code_sound (fr := some (w.heap.size + 1)) (fn := n - 1 - 1) (ds := []) hmix body (Sharp X β3 κ3 s3 W4) vb rfl hcb β3 κ3 _ _ W4 _ _ _ hsh4 hvB) ?_
   intro e a5 W5 hq
   cases e with
   | normal =>
    obtain ⟨β5, κ5, s5, tm5, rfl, hrel5, hI5, hsc5, hns5⟩ := hq
    rw [hng] at hI5 hsc5
    have hL5 : W5.heap[w.heap.size + 1]? = some (.loop { rec .ready none with state := .busy }) := (hrel5.below.block _ (Array.getElem?_eq_some_iff.1 hL4).1 (hr4.notG hL4 rfl rfl)).trans hL4
    have hmk5 : MKs X (w.heap.size :: rs) W5 := hmk4.kept hrel5.below fun r hr' => hr4.notG (hmk4.2 r hr').2 rfl rfl
    have hb5 := hr4.back hXk hrel5
    have hpos5 := hrel5.pos
    have hlen5 := hrel5.len
    have hle5 := hrel5.le
    have hl3 : s.blk.length ≤ s3.blk.length := by rw [← hng]; exact hlen3
    have hl5 : s3.blk.length ≤ s5.blk.length := hlen5
    have hR5 : RO.le R' s5.R := fun a v ha => hle5 a v (hle3 a v ha)
    refine ⟨_, _, run_endRound none hL5, rfl, ?_, ?_, ?_⟩
    ·rw [hJ]
     have hts := Rel.trunc (s := ⟨s.env, bl, s.R⟩) hrel hXk hb5 (by show bl.length ≤ _; omega) (fun i hi => by
      have hi' : i < s.blk.length := by rw [← hbl]; exact hi
      obtain ⟨g1, g2⟩ := hpos3 i (by show i < (St.put ⟨s.env, bl, R'⟩ (some p) (.val v)).blk.length; omega)
      obtain ⟨g3, g4⟩ := hpos5 i (by show i < s3.blk.length; omega)
      exact ⟨g3.trans g1, g4.trans g2⟩) hns5 (by show (s5.blk.take bl.length).all (scB bl.length) = true; rw [hbl]; exact hsc5) (fun a v ha => hR5 a v (hle a v ha))
     refine ⟨?_, hmk5.put _ hnotin, s5.blk.take bl.length, by rw [List.length_take]; omega, hts.still (still_put _ (by omega) hL5 rfl rfl), by rw [hbl]; exact hI5⟩
     rw [World.putObj_heap_same (Array.getElem?_eq_some_iff.1 hL5).1, hrec]
     rfl
    ·have k1 := hrel3.below.size
     have k2 := hrel5.below.size
     have k3 : (W5.putObj (w.heap.size + 1) (.loop { rec .ready none with state := .busy })).heap.size = W5.heap.size := by simp
     have k4 : W3.heap.size ≤ W5.heap.size := by rw [← hs4]; exact k2
     have k5 : ∀ o, (W5.putObj (w.heap.size + 1) o).heap.size = W5.heap.size := fun o => by simp
     rw [k5]
     exact Nat.le_trans k1 k4
    ·intro a u ha
     obtain ⟨c1, _, c3⟩ := hrF.ro a u ha
     have hne : a.block ≠ w.heap.size + 1 := fun e => by
      obtain ⟨o, ho, hoc⟩ := cell_obj c1
      rw [e, hL2] at ho
      cases ho
      cases hoc
     have hab : a.block < W.heap.size := block_lt_of_cell c1
     have d3 : W3.heap[a.block]? = W.heap[a.block]? := hrel3.below.block _ hab (fun ⟨i, b, hi, hlb, e⟩ => c3 i b hi hlb e)
     have ha5 := hle3 a u ha
     obtain ⟨c4, _, c6⟩ := hr4.ro a u ha5
     have d5 : W5.heap[a.block]? = W4.heap[a.block]? := hrel5.below.block _ (block_lt_of_cell c4) (fun ⟨i, b, hi, hlb, e⟩ => c6 i b hi hlb e)
     rw [World.putObj_heap_other (by omega), d5, ho4 _ hne, d3]
   | exit i => obtain ⟨_, _, _, _, _, _, hf⟩ := hq; exact hf.elim
   | ret => obtain ⟨_, _, _, _, _, _, hf⟩ := hq; exact hf.elim
   | _ => exact hq.elim
  | exit i => obtain ⟨_, _, _, _, _, _, hf⟩ := hq; exact hf.elim
  | ret => obtain ⟨_, _, _, _, _, _, hf⟩ := hq; exact hf.elim
  | _ => exact hq.elim
 ·rintro e W' ⟨⟨v, rfl⟩, hj⟩
  rw [hJ] at hj
  obtain ⟨hL2, hmk2, bl, hbl, hrel, hInv⟩ := hj
  refine ⟨_, _, run_endLoop hL2 (by rw [hrec]; simp), ?_⟩
  have hr4 := hrel.still (still_put (.loop { rec .ready none with state := .exhausted }) (by omega) hL2 rfl rfl)
  have hmk4 := hmk2.put (.loop { rec .ready none with state := .exhausted }) hnotin
  generalize W'.putObj (w.heap.size + 1) (.loop { rec .ready none with state := .exhausted }) = W4 at hr4 hmk4 ⊢
  rw [show (rec .ready none).pending = none by rw [hrec]]
  exact hend w.heap.size bl hbl hInv β κ tm W4 hr4 hmk4
theorem sem_yield {n N : Nat} (hN : X.n = N) {id : Nat} {ops : Array Oper} (pl1 : List Nat) (i : Nat) (pl2 : List Nat) (hsp : List.range ops.size = pl1 ++ i :: pl2) (hd : ops.all noDefer = true) {l1 l2 : List VStep} (hc1 : compSteps P true N ops pl1 = some l1) (hc2 : compSteps P true N ops pl2 = some l2)
  {y a d l : Nat} (hop : ∃ at' ty pos after, ops[i]? = some ⟨some d, .call ⟨.value (.tmp y), #[.tmp a], at'⟩, ty, pos, after, none⟩) (hdn : d < N) {Q : Exit → Act → World → Prop}
  (h : StepsT ⟨P, X.ng⟩ l1 s (fun s' => ∃ v, s'.env y = .val (.func (.yield l) #[] #[]) ∧ s'.env a = .val v ∧ (∀ (j : Nat) (b : Blk), s'.blk[j]? = some b → b = .dead) ∧
   ∀ w1, KeptG X.g X.w0 w1 → (∀ u x, s'.R u x → w1.cell? u = some x ∧ (X.B u x ∨ (X.own u.block ∧ Loose w1 u.block))) →
    YieldAt (Fr none) (n - 1) P l #[v] w1 fun e W' => e = .returned (.bool true) ∧ (∀ u x, s'.R u x → W'.cell? u = some x) ∧
     StepsT ⟨P, 0⟩ l2 (s'.put (some d) (.val (.bool true))) (fun s'' => SemN (Anew X s' W') [] s'' Q) .mk) .mk) : SemI P none n X [] (.region id ops false) s Q := by
 subst hN
 intro β κ tm w hr
 refine wpIn_region ?_
 rw [hsp]
 refine steps_pre rfl hd (fun β κ s' tm w hr hk => ?_) _ _ hc1 β κ s tm w hr h
 obtain ⟨v, hy, ha, hdead, hY⟩ := hk
 obtain ⟨at', ty, pos, after, ho⟩ := hop
 have ey : (⟨tm, []⟩ : Act).eval (.tmp y) = .func (.yield l) #[] #[] := (hr.eval [] (.tmp y)).trans (by show den β κ (s'.env y) = _; rw [hy]; rfl)
 have ea : (⟨tm, []⟩ : Act).eval (.tmp a) = v := (hr.eval [] (.tmp a)).trans (by show den β κ (s'.env a) = _; rw [ha]; rfl)
 rw [wpOpsIn_cons]
 unfold wpOpIn
 simp only [ho]
 rw [if_pos (by simp [Region.wanted])]
 refine ⟨fun _ _ => trivial, ?_⟩
 rw [show (Fr none).round = none from rfl, Oper.semAt_none, yield_run _ _ _ _ ey]
 obtain ⟨gf, tmps, assign, body, hrun, hround⟩ := hY w hr.below (fun u x hu => ⟨(hr.ro u x hu).1, (hr.ro u x hu).2.1⟩)
 rw [show (#[Operand.tmp a] : Array Operand).map (⟨tm, []⟩ : Act).eval = #[v] by simp [ea]]
 rw [hrun, Oper.uponIn_round]
 refine ⟨fun e => (by cases e), RoundIn.mono hround ?_⟩
 rintro e w' ⟨rfl, hfc, hst⟩
 show wpOpsIn (Fr none) n P ops _ pl2 ⟨tm.setIfInBounds d (.bool true), []⟩ w'
 have hA := (hr.anew hdead hfc).put (some d) (fun t e => by cases e; exact hdn) (.val (.bool true)) rfl
 have := steps_pre (X := Anew X s' w') (fr := none) (fn := n) (ds := []) (pl2 := []) rfl hd (Q := Q) (K := fun s'' => SemN (Anew X s' w') [] s'' Q) (fun β κ s'' tm w hr hk => hk β κ tm w hr) pl2 l2 hc2 β κ _ _ w' hA hst
 rw [List.append_nil] at this
 exact this
theorem iter_loop {n N : Nat} {b : Code} {Q : Exit → Act → World → Prop} {R : RO} {D : List Blk} (Y : Type) (Φ : Y → (Nat → SV) → World → Prop) (μ : Y → Nat) (y0 : Y) (h0 : Φ y0 s.env X.w0) (hX : X = { w0 := X.w0, R0 := R, B := R, n := N }) (hs : s = ⟨s.env, D, R⟩)
  (hr : ∀ y env W, Φ y env W → SemI P none n { w0 := W, R0 := R, B := R, n := N } [] b ⟨env, D, R⟩ (Exit.then (fun a' w' => ∃ y' β κ env' tm W', a' = ⟨tm, []⟩ ∧ μ y' < μ y ∧ Rel { w0 := W', R0 := R, B := R, n := N } β κ ⟨env', D, R⟩ tm w' ∧ Φ y' env' W') Q)) : SemI P none n X [] (.loop b) s Q := by
 intro β κ tm w h
 refine wpIn_loop_ghost (fun k a w => ∃ y β κ env tm W, a = ⟨tm, []⟩ ∧ k = μ y ∧ Rel { w0 := W, R0 := R, B := R, n := N } β κ ⟨env, D, R⟩ tm w ∧ Φ y env W) (μ y0) ⟨y0, β, κ, s.env, tm, X.w0, rfl, rfl, by rw [← hX, ← hs]; exact h, h0⟩ ?_
 rintro k a w1 ⟨y, β1, κ1, env1, tm1, W1, rfl, rfl, g1, hΦ⟩
 refine wpIn_mono (hr y env1 W1 hΦ β1 κ1 tm1 w1 g1) fun e a' w' hq => ?_
 cases e with
 | normal => obtain ⟨y', β2, κ2, env2, tm2, W2, rfl, hμ, g2, hΦ2⟩ := hq; exact ⟨μ y', hμ, y', β2, κ2, env2, tm2, W2, rfl, rfl, g2, hΦ2⟩
 | _ => exact hq
theorem Rel.drop (h : Rel X β κ s tm w) (j : Nat) : Rel X β κ { s with blk := s.blk.set j .dead } tm w := by
 have hget : ∀ (i : Nat) (c : Blk), (s.blk.set j .dead)[i]? = some c → c ≠ .dead → s.blk[i]? = some c := fun i c hi hne => by
  rw [List.getElem?_set] at hi
  split at hi
  ·split at hi
   ·cases hi; exact absurd rfl hne
   ·cases hi
  ·exact hi
 have hlv : ∀ b : Blk, b.live = true → b ≠ .dead := fun b hl e => by rw [e] at hl; cases hl
 exact {
  size := h.size
  env := h.env
  ok := fun t => by show SV.ok (s.blk.set j .dead).length _ = true; rw [List.length_set]; exact h.ok t
  below := h.below
  le := h.le
  blk := fun i b hi => by
   show BlkOK β κ w X.own (s.blk.set j .dead).length i b
   rw [List.length_set]
   by_cases hb : b = .dead
   ·rw [hb]; trivial
   ·exact h.blk i b (hget i b hi hb)
  inj := fun a b c d ha hb hl1 hl2 e => h.inj a b c d (hget a c ha (hlv c hl1)) (hget b d hb (hlv d hl2)) hl1 hl2 e
  ro := fun a v ha => ⟨(h.ro a v ha).1, (h.ro a v ha).2.1, fun i b hi hl => (h.ro a v ha).2.2 i b (hget i b hi (hlv b hl)) hl⟩
  kept := fun p hp => by
   obtain ⟨h1, h2, h3, h4⟩ := h.kept p hp
   exact ⟨h1, h2, fun i b hi hl => h3 i b (hget i b hi (hlv b hl)) hl, h4⟩
  shr := fun i b cap T sz cs hi => by
   have hs := h.shr i b cap T sz cs (hget i _ hi (by simp))
   exact { hs with
    apart := fun i' b' hi' hl => hs.apart i' b' (hget i' b' hi' (hlv b' hl)) hl
    one := fun i' b' cap' T' sz' cs' hi' => hs.one i' b' cap' T' sz' cs' (hget i' _ hi' (by simp)) }
  own := fun i F hi => by
   have hs := h.own i F (hget i _ hi (by simp))
   exact hs.move (fun a v hf => rfl) (fun a v hf i' b' hi' hl => hs.apart a v hf i' b' (hget i' b' hi' (hlv b' hl)) hl) hs.ro (fun a v hf i' b' cap T sz cs hi' => hs.shr a v hf i' b' cap T sz cs (hget i' _ hi' (by simp))) (fun a v hf i' G hi' => hs.one a v hf i' G (hget i' _ hi' (by simp)))
  pos := h.pos
  len := by show X.ng ≤ (s.blk.set j .dead).length; rw [List.length_set]; exact h.len }
theorem sem_frzD {fr : Option Nat} {fn : Nat} {ds : List Deferred} {c : Code} {Q : Exit → Act → World → Prop} (j : Nat) {T sz : Nat} {cs : List Value} (hj : s.blk[j]? = some (.row T sz cs)) (h : ∀ b cap R', RO.le s.R R' → RowIn R' b cs → cs.length ≤ cap * sz →
      SemI P fr fn X ds c ⟨fun t => unsl j b cap (s.env t), (s.blk.map (unslB j b cap)).set j .dead, R'⟩ Q) : SemI P fr fn X ds c s Q := by
  intro β κ tm w hr
  obtain ⟨R', h1, h2, h3, h4⟩ := hr.frz hj
  have h5 := h4.drop j
  refine h (β j) (κ j) R' h1 h2 h3 β κ tm w ?_
  simp only [frz, List.set_set] at h5
  exact h5
theorem sem_anew {fr : Option Nat} {fn : Nat} {ds : List Deferred} {c : Code} {Q : Exit → Act → World → Prop} (hd : ∀ (j : Nat) (b : Blk), s.blk[j]? = some b → b = .dead)
  (h : ∀ w, KeptG X.g X.w0 w → (∀ a v, s.R a v → w.cell? a = some v ∧ (X.B a v ∨ (X.own a.block ∧ Loose w a.block))) → SemI P fr fn (Anew X s w) ds c s Q) : SemI P fr fn X ds c s Q := fun β κ tm w hr =>
 h w hr.below (fun a v ha => ⟨(hr.ro a v ha).1, (hr.ro a v ha).2.1⟩) β κ tm w (hr.anew hd fun a v ha => (hr.ro a v ha).1)
def ItOK (R R5 : RO) (wz W : World) : Prop := wz.heap.size ≤ W.heap.size ∧ ∀ a v, R5 a v → W.cell? a = some v ∧ (R a v ∨ (wz.heap.size ≤ a.block ∧ Loose W a.block))
theorem ItOK.next {R R5 : RO} {wz W W' : World} (h : ItOK R R5 wz W) (h1 : W.heap.size ≤ W'.heap.size) (h2 : ∀ a u, R5 a u → W'.heap[a.block]? = W.heap[a.block]?) : ItOK R R5 wz W' :=
 ⟨Nat.le_trans h.1 h1, fun a v ha => ⟨by rw [World.cell?_of_block (h2 a v ha)]; exact (h.2 a v ha).1, (h.2 a v ha).2.imp id fun hh => ⟨hh.1, hh.2.of_eq (h2 a v ha)⟩⟩⟩
theorem ItOK.ext {R R5 : RO} {wz W W' : World} (h : ItOK R R5 wz W) (he : Ext W W') : ItOK R R5 wz W' :=
 h.next he.size fun a u ha => he.block _ (block_lt_of_cell (h.2 a u ha).1)
def ItY (P : Program) (n l : Nat) (wz : World) (R : RO) (m : Nat) (El : Nat → RO → Value → Prop) (J : Nat → World → Prop) : Prop :=
 ∀ k W R' v, k < m → J k W → wz.heap.size ≤ W.heap.size → RO.le R R' → (∀ a u, R' a u → W.cell? a = some u ∧ (R a u ∨ (wz.heap.size ≤ a.block ∧ Loose W a.block))) → El k R' v →
   YieldAt (Fr none) (n - 1) P l #[v] W fun e W' => e = .returned (.bool true) ∧ J (k + 1) W' ∧ W.heap.size ≤ W'.heap.size ∧ ∀ a u, R' a u → W'.heap[a.block]? = W.heap[a.block]?
end
end Go.Proofs.YtdglpgepgmdbdaaGreatDoor.Vc
