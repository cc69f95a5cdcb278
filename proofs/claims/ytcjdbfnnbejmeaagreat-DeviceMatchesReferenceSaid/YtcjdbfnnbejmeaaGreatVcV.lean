/- Plain lemmas of our own, no statement of the seat: a region whose order is open, its plan carried out. -/
import Derived.Test.YtcjdbfnnbejmeaaGreatVcU
namespace Go.Proofs.YtcjdbfnnbejmeaaGreat.Vc
set_option linter.unusedSimpArgs false
set_option linter.unusedVariables false
open Go.RowKit
section
variable {md : Bool} {ds : List Deferred} {P : Program} {X : Ctx} {β κ : Nat → Nat} {s : St} {tm : Array Value} {w w' : World} {ops : Array Oper} {G pr : List (Nat × Option Nat)} {pc : List Nat} {S L : Array Bool} {pend : List Pnd} {Φ : List ((Nat → Prop) × World)}
variable {Q : Exit → Act → World → Prop}

theorem wpOp_puts {j : Nat} {oj : Oper} (hj : ops[j]? = some oj) (hsj : ∀ cs b, oj.op ≠ .select cs b) (hQ : ∀ c a w, ¬ Q (.panic c) a w) {K : Act → World → Prop} : ∀ (l : List Pnd),
    (∀ p ∈ l, ∃ oa : Oper, oa.dst = some p.d ∧ oa.apart ops oj = true) → ∀ {a : Act} {w : World}, wpOp P ops Q j K a w → wpOp P ops Q j (fun a' w' => ∃ a0, a' = putsP a0 l ∧ K a0 w') (putsP a l) w
  | [], _, a, w, h => wpOp_mono (fun a' w' hh => ⟨a', rfl, hh⟩) h
  | p :: r, hp, a, w, h => by
    obtain ⟨oa, hd, hap⟩ := hp p (by simp)
    have h1 := wpOp_put_right (oi := oa) (v := p.ptr) hj hap hsj hQ (wpOp_puts hj hsj hQ r (fun q hq => hp q (List.mem_cons_of_mem _ hq)) h)
    rw [hd] at h1
    refine wpOp_mono (fun a' w' hh => ?_) h1
    obtain ⟨a1, rfl, a0, rfl, hk⟩ := hh
    exact ⟨a0, rfl, hk⟩
theorem yields_puts {pure : Bool} {KK : Nat → Prop} {wb : World} {o : Oper} {v : Value} (hs : ∀ cs b, o.op ≠ .select cs b) : ∀ (l : List Pnd), (∀ p ∈ l, ∃ oa : Oper, oa.dst = some p.d ∧ oa.apart ops o = true) →
    ∀ {a : Act}, YieldsK P ops pure KK wb o v a → YieldsK P ops pure KK wb o v (putsP a l)
  | [], _, a, h => h
  | p :: r, hp, a, h => by
    obtain ⟨oa, hd, hap⟩ := hp p (by simp)
    obtain ⟨ap1, ap2, ap3⟩ := Oper.apart_spec hap
    have h1 := yields_puts hs r (fun q hq => hp q (List.mem_cons_of_mem _ hq)) h
    refine h1.of_same (execOp_put o hs _ _ _ fun d hd' => ap1 d (by rw [hd, hd'])) (wanted_put o _ _ _ fun d hd' => ap1 d (by rw [hd, hd']))
theorem apartP_spec {i : Nat} {o : Oper} (h : apartP P ops pr i = true) (ho : ops[i]? = some o) : ∀ p ∈ pr, (∃ oa, ops[p.1]? = some oa ∧ oa.apart ops o = true) ∧
    ∀ k d m v, p.2 = some k → storeOf P ops k = some (d, m, v) → waits .any ops k i = true ∨ ∀ dd, o.dst = some dd → tmpIs v dd = false := by
  intro p hp
  simp only [apartP, ho, List.all_eq_true] at h
  have h1 := h p hp
  simp only [Bool.and_eq_true] at h1
  refine ⟨?_, fun k d m v hk hs => ?_⟩
  · have h2 := h1.1
    split at h2
    · rename_i oa hoa; exact ⟨oa, hoa, h2⟩
    · cases h2
  · have h2 := h1.2
    rw [hk] at h2
    simp only [hs, Bool.or_eq_true] at h2
    rcases h2 with h2 | h2
    · exact .inl h2
    · refine .inr fun dd hdd => ?_
      rw [hdd] at h2
      simpa using h2
theorem Inv.aparts (h : Inv P ops G pr pc S L pend Φ tm w) {j : Nat} {o : Oper} (ha : apartP P ops pr j = true) (ho : ops[j]? = some o) : ∀ p ∈ pend, ∃ oa : Oper, oa.dst = some p.d ∧ oa.apart ops o = true := by
  intro p hp
  obtain ⟨oa, hoa, h1⟩ := (apartP_spec ha ho _ (h.pin p hp)).1
  obtain ⟨z, hz, _⟩ := h.pal p hp
  obtain ⟨o', ho', _, _, hd, _⟩ := allocOf_spec hz
  simp only at hoa
  rw [hoa] at ho'
  simp only [Option.some.injEq] at ho'
  subst ho'
  exact ⟨oa, hd, h1⟩
theorem eval_setD {v : Operand} {d : Option Nat} (u : Value) (h : ∀ dd, d = some dd → tmpIs v dd = false) : (⟨setD tm d u, []⟩ : Act).eval v = (⟨tm, []⟩ : Act).eval v := by
  rw [← put_tmps]
  refine Act.eval_put fun dd hd hv => ?_
  have := h dd hd
  subst hv
  simp [tmpIs] at this
theorem size_setD (d : Option Nat) (u : Value) : (setD tm d u).size = tm.size := by cases d <;> simp [setD]
theorem Inv.step (h : Inv P ops G pr pc S L pend Φ tm w) {j : Nat} (hst : stepOK P ops pr S j = true) {o : Oper} (ho : ops[j]? = some o) (v : Value) (hw : w.heap.size ≤ w'.heap.size) {Φ' : List ((Nat → Prop) × World)}
    (hb : ∀ p ∈ Φ', p.2.heap.size ≤ w'.heap.size ∧ ∀ q ∈ pend, p.1 q.b ∨ p.2.heap.size ≤ q.b) : Inv P ops G pr pc (S.setIfInBounds j true) (L.setIfInBounds j true) pend Φ' (setD tm o.dst v) w' := by
  simp only [stepOK, Bool.and_eq_true, Bool.not_eq_true', List.contains_eq_mem, decide_eq_false_iff_not] at hst
  obtain ⟨⟨hr, hl⟩, hap⟩ := hst
  have hrL := h.rdy hr hl
  have hSun : S.getD j true = false := (mem_ready.1 (show j ∈ Region.ready .any ops S by simpa [Vc.rdy] using hr)).1
  have hLun := getD_lt (mem_ready.1 hrL).1
  have hSlt := getD_lt hSun
  refine { h with sS := by simp [h.sS], sL := by simp [h.sL], nS := fun i hi => ?_, lzG := fun i hi => (h.lzG i hi).imp id getD_set_true, eq := fun i => ?_, dn := fun p hp d z t ha => ?_, pst := fun q hq hs => ?_, ask := fun i k hi hk => ?_, cl := closed_set h.cl hrL, base := hb }
  · rw [getD_set_ne false (fun e => hl (by rw [e]; exact hi))]
    exact h.nS i hi
  · by_cases hij : j = i
    · subst hij
      simp only [getD_set_self hLun.1, getD_set_self hSlt.1, true_or]
    · rw [getD_set_ne false hij, getD_set_ne false hij]
      exact h.eq i
  · rw [size_setD]; exact h.dn p hp d z t ha
  · obtain ⟨k, m, u, hk, hs', hc⟩ := h.pst q hq hs
    refine ⟨k, m, u, hk, hs', ?_⟩
    rw [eval_setD]
    · exact hc
    · rcases (apartP_spec hap ho _ (h.pin q hq)).2 k _ _ _ hk hs' with h1 | h1
      · have hLk : L.getD k false = true := (h.eq k).2 (.inr ⟨q, hq, .inr ⟨hs, hk⟩⟩)
        have := waits_listed h.cl h1 hLk
        rw [hLun.2] at this; cases this
      · exact h1
  · obtain ⟨⟨d, m, u, hs', hsz, hone⟩, hwt⟩ := h.ask i k hi hk
    have hev : (⟨setD tm o.dst v, []⟩ : Act).eval u = (⟨tm, []⟩ : Act).eval u := by
      refine eval_setD _ ?_
      rcases (apartP_spec hap ho _ hi).2 k _ _ _ rfl hs' with h1 | h1
      · rw [hwt j hSun hl] at h1; cases h1
      · exact h1
    refine ⟨⟨d, m, u, hs', by rw [hev]; exact hsz, by rw [hev]; exact hone⟩, fun i' hi' hl' => hwt i' ?_ hl'⟩
    by_cases hij : j = i'
    · subst hij; exact hSun
    · rw [getD_set_ne true hij] at hi'; exact hi'
/-- A step of the plan is taken. -/
theorem head_sound {n : Nat} (hn : X.n = n) (hns : Region.noSelect ops = true) (hQp : ∀ c a w, ¬ Q (.panic c) a w) (h : Inv P ops G pr pc S L pend Φ tm w) (hrel : Rel { X with keep := pend.map Pnd.kp } β κ s tm w) {j : Nat} (hst : stepOK P ops pr S j = true)
    {x : VStep} (hx : compStep P md n ops j = some x) {K : St → Prop} (hk : vcSteps ⟨P, X.ng⟩ [x] s K) {C : Act → World → Prop}
    (hC : ∀ β' κ' s' tm' w', Inv P ops G pr pc (S.setIfInBounds j true) (L.setIfInBounds j true) pend Φ tm' w' → Rel { X with keep := pend.map Pnd.kp } β' κ' s' tm' w' → K s' →
      (tailT P md ops G j = false → ∀ p ∈ Φ, KeptG p.1 p.2 w → KeptG p.1 p.2 w') → C (putsP ⟨tm', ds⟩ pend) w') (hjG : j ∉ lz G) :
    wpOp P ops Q j C (putsP ⟨tm, ds⟩ pend) w := by
  obtain ⟨o, vo, ho, hvo, _, h2⟩ := step_soundM (X := { X with keep := pend.map Pnd.kp }) hn hx hrel hk
  have hap : apartP P ops pr j = true := by
    simp only [stepOK, Bool.and_eq_true] at hst; exact hst.2
  refine wpOp_mono (fun a' w' hh => ?_) (wpOp_puts ho (fun cs b => Region.noSelect_spec hns j o cs b ho) hQp pend (h.aparts hap ho) (h2 Q))
  obtain ⟨a0, rfl, β', κ', s', v, rfl, hext, hsz, hr', hk'⟩ := hh
  refine hC β' κ' s' _ w' (h.step hst ho v hsz fun p hp => ⟨Nat.le_trans (h.base p hp).1 hsz, (h.base p hp).2⟩) hr' hk' fun hT p hp hkp => hkp.ext (hext ?_)
  simp only [tailT, opTail, ho, Option.bind_some, hvo, Bool.and_eq_false_iff, Bool.not_eq_false', List.contains_eq_mem, decide_eq_true_eq] at hT
  exact hT.resolve_right hjG

/-! ### The plan catches up -/
theorem box_gen (hG : pairsOK P ops G = true) {i : Nat} {k : Option Nat} (h : Inv P ops G ((i, k) :: pr) pc S L pend Φ tm w) (hrel : Rel { X with keep := pend.map Pnd.kp } β κ s tm w) {q : Pnd} (hq : q ∈ pend) (hqi : q.i = i)
    {S' : Array Bool} (hsz : S'.size = S.size) (hS' : ∀ j, S'.getD j false = true ↔ S.getD j false = true ∨ i = j ∨ k = some j) (hLi : L.getD i false = true) (hLk : ∀ j, k = some j → L.getD j false = true)
    (hdn : q.d < X.n) {cs : List SV} (hcs : ∀ x ∈ cs, SV.ok s.blk.length x = true) (hc : (cs.map (den β κ)).toArray = q.c) :
    ∃ β' κ' tm' pend', Inv P ops G pr pc S' L pend' Φ tm' w ∧ Rel { X with keep := pend'.map Pnd.kp } β' κ' ⟨upd s.env q.d (.loc s.blk.length 0), s.blk ++ [.box cs], s.R⟩ tm' w ∧ putsP ⟨tm', ds⟩ pend' = putsP ⟨tm, ds⟩ pend := by
  have hqk : q.k = k := by
    have := lz_inj h.prN (h.pin q hq) (List.mem_cons_self (a := (i, k))) (.inl hqi) (.inl rfl)
    simp only [Prod.mk.injEq] at this
    exact this.2
  have mem : ∀ {p}, p ∈ pend.filter (fun p => p.i != q.i) → p ∈ pend ∧ p.i ≠ q.i := fun hp => by
    obtain ⟨h1, h2⟩ := List.mem_filter.1 hp
    exact ⟨h1, by simpa using h2⟩
  obtain ⟨zq, hzq, _⟩ := h.pal q hq
  have hother : ∀ {p : Pnd} {k' m v}, (p.i, some k') ∈ (i, k) :: pr → storeOf P ops k' = some (p.d, m, v) → tmpIs v q.d = false := fun {p k' m v} hp hs => by
    obtain ⟨d, z, t, ha, _, hst⟩ := pairsOK_spec hG _ (h.prG _ hp)
    obtain ⟨m2, v2, hs2, _, _, hvt⟩ := hst k' rfl
    rw [hs] at hs2
    simp only [Option.some.injEq, Prod.mk.injEq] at hs2
    obtain ⟨_, _, rfl⟩ := hs2
    exact hvt _ (h.prG _ (h.pin q hq)) _ _ _ hzq
  have hother' : ∀ {i' k' d m v}, (i', some k') ∈ (i, k) :: pr → storeOf P ops k' = some (d, m, v) → tmpIs v q.d = false := fun {i' k' d m v} hp hs => by
    obtain ⟨d2, z, t, ha, _, hst⟩ := pairsOK_spec hG _ (h.prG _ hp)
    obtain ⟨m2, v2, hs2, _, _, hvt⟩ := hst k' rfl
    rw [hs] at hs2
    simp only [Option.some.injEq, Prod.mk.injEq] at hs2
    obtain ⟨_, _, rfl⟩ := hs2
    exact hvt _ (h.prG _ (h.pin q hq)) _ _ _ hzq
  have hev : ∀ {v : Operand}, tmpIs v q.d = false → (⟨setD tm (some q.d) q.ptr, []⟩ : Act).eval v = (⟨tm, []⟩ : Act).eval v := fun hv => eval_setD _ fun dd hd => by
    simp only [Option.some.injEq] at hd
    subst hd; exact hv
  refine ⟨updN β s.blk.length q.b, updN κ s.blk.length 0, setD tm (some q.d) q.ptr, pend.filter (fun p => p.i != q.i), ?_, ?_, ?_⟩
  · refine { prG := fun p hp => h.prG p (List.mem_cons_of_mem _ hp), prN := lz_tail h.prN, sS := by rw [hsz]; exact h.sS, sL := h.sL, nS := fun j hj => ?_, lzG := fun j hj => ?_, eq := fun j => ?_, dn := fun p hp d z t ha => ?_, pin := fun p hp => ?_, pal := fun p hp => h.pal p (mem hp).1, pst := fun p hp hs => ?_, ask := fun i' k' hi hk => ?_, ni := h.ni.filter _, nb := h.nb.filter _, cl := h.cl, base := fun p hp => ⟨(h.base p hp).1, fun p' hp' => (h.base p hp).2 p' (mem hp').1⟩ }
    · have h1 : ¬ S'.getD j false = true := fun hj' => by
        rcases (hS' j).1 hj' with h2 | h2
        · rw [h.nS j (mem_lz.2 (by
            obtain ⟨p, hp, e⟩ := mem_lz.1 hj
            exact ⟨p, List.mem_cons_of_mem _ hp, e⟩))] at h2; cases h2
        · exact lz_head h.prN h2 hj
      simpa using h1
    · rcases h.lzG j hj with h1 | h1
      · obtain ⟨p, hp, hpj⟩ := mem_lz.1 h1
        rcases List.mem_cons.1 hp with rfl | hp'
        · exact .inr ((hS' j).2 (.inr hpj))
        · exact .inl (mem_lz.2 ⟨p, hp', hpj⟩)
      · exact .inr ((hS' j).2 (.inl h1))
    · constructor
      · intro hj
        rcases (h.eq j).1 hj with h1 | ⟨p, hp, h1⟩
        · exact .inl ((hS' j).2 (.inl h1))
        · by_cases hpq : p.i = q.i
          · have := pw_inj h.ni hp hq hpq
            subst this
            refine .inl ((hS' j).2 (.inr ?_))
            rcases h1 with h1 | h1
            · exact .inl (by rw [← h1, hqi])
            · exact .inr (by rw [← hqk]; exact h1.2)
          · exact .inr ⟨p, List.mem_filter.2 ⟨hp, by simpa using hpq⟩, h1⟩
      · rintro (h1 | ⟨p, hp, h1⟩)
        · rcases (hS' j).1 h1 with h2 | rfl | h2
          · exact h.sub h2
          · exact hLi
          · exact hLk j h2
        · exact (h.eq j).2 (.inr ⟨p, (mem hp).1, h1⟩)
    · rw [size_setD]; exact h.dn p (List.mem_cons_of_mem _ hp) d z t ha
    · rcases List.mem_cons.1 (h.pin p (mem hp).1) with h1 | h1
      · simp only [Prod.mk.injEq] at h1
        exact absurd (h1.1.trans hqi.symm) (mem hp).2
      · exact h1
    · obtain ⟨k', m, v, hk', hs', hc'⟩ := h.pst p (mem hp).1 hs
      refine ⟨k', m, v, hk', hs', ?_⟩
      have hpin := h.pin p (mem hp).1
      rw [hk'] at hpin
      rw [hev (hother hpin hs')]; exact hc'
    · obtain ⟨⟨d, m, v, hs', h1, h2⟩, h3⟩ := h.ask i' k' (List.mem_cons_of_mem _ hi) hk
      have he := hev (hother' (List.mem_cons_of_mem _ hi) hs')
      refine ⟨⟨d, m, v, hs', by rw [he]; exact h1, by rw [he]; exact h2⟩, fun j hj hl => ?_⟩
      have hjf := getD_lt hj
      have hn : ¬ (S.getD j false = true ∨ i = j ∨ k = some j) := fun hh => by
        have := (hS' j).2 hh
        rw [hjf.2] at this; cases this
      refine h3 j (getD_true_false (by rw [← hsz]; exact hjf.1) fun hh => hn (.inl hh)) fun hl' => ?_
      obtain ⟨p, hp, hpj⟩ := mem_lz.1 hl'
      rcases List.mem_cons.1 hp with rfl | hp'
      · exact hn (.inr hpj)
      · exact hl (mem_lz.2 ⟨p, hp', hpj⟩)
  · have h1 := (hrel.keepUse (l' := (pend.filter (fun p => p.i != q.i)).map Pnd.kp) (List.mem_map_of_mem hq) (fun p hp => by
      obtain ⟨p', hp', rfl⟩ := List.mem_map.1 hp
      exact ⟨List.mem_map_of_mem (mem hp').1, fun e => (mem hp').2 (congrArg Pnd.i (pw_inj h.nb (mem hp').1 hq e))⟩) hcs hc).put (some q.d) (fun t ht => by
        simp only [Option.some.injEq] at ht; subst ht; exact hdn) (.loc s.blk.length 0) (by simp [SV.ok])
    simp only [den, updN, if_true] at h1
    exact h1
  · rw [puts_filter _ pend h.ni (fun p hp hne => h.nd hG hp hq hne) hq, put_puts, put_tmps]
    intro p hp e
    simp only [Option.some.injEq] at e
    exact h.nd hG (mem hp).1 hq (mem hp).2 e.symm
end
end Go.Proofs.YtcjdbfnnbejmeaaGreat.Vc
