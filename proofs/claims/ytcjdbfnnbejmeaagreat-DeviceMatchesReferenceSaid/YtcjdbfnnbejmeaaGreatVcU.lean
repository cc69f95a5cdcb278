/- Plain lemmas of our own, no statement of the seat: a region whose order is open, step by step. -/
import Derived.Test.YtcjdbfnnbejmeaaGreatVcT
namespace Go.Proofs.YtcjdbfnnbejmeaaGreat.Vc
set_option linter.unusedSimpArgs false
set_option linter.unusedVariables false
open Go.RowKit
section
variable {md : Bool} {ds : List Deferred} {P : Program} {X : Ctx} {β κ : Nat → Nat} {s : St} {tm : Array Value} {w w' : World} {ops : Array Oper} {G pr : List (Nat × Option Nat)} {pc : List Nat} {S L : Array Bool} {pend : List Pnd} {Φ : List ((Nat → Prop) × World)}

theorem Inv.alloc (h : Inv P ops G pr pc S L pend Φ tm w) (hrel : Rel { X with keep := pend.map Pnd.kp } β κ s tm w) {i : Nat} {k : Option Nat} (hi : (i, k) ∈ pr) (hr : i ∈ Region.ready .any ops L)
    {d : Nat} {z : List Value} {t : TypeId} (ha : allocOf P ops i = some (d, z, t)) (o : Obj) :
    Inv P ops G pr pc S (L.setIfInBounds i true) (⟨i, k, d, t, w.heap.size, z.toArray, false⟩ :: pend) Φ tm (w.alloc o) := by
  have hun := getD_lt (mem_ready.1 hr).1
  have hext : Ext w (w.alloc o) := ext_alloc w o
  refine { h with sL := by simp [h.sL], eq := fun j => ?_, pin := fun q hq => ?_, pal := fun q hq => ?_, pst := fun q hq hs => ?_, ni := ?_, nb := ?_, cl := closed_set h.cl hr, base := fun p hp => ?_ }
  · by_cases hij : i = j
    · subst hij
      simp only [getD_set_self hun.1, true_iff]
      exact .inr ⟨⟨i, k, d, t, w.heap.size, z.toArray, false⟩, List.mem_cons_self, .inl rfl⟩
    · rw [getD_set_ne false hij, h.eq j]
      constructor
      · rintro (h1 | ⟨q, hq, h1⟩)
        · exact .inl h1
        · exact .inr ⟨q, List.mem_cons_of_mem _ hq, h1⟩
      · rintro (h1 | ⟨q, hq, h1⟩)
        · exact .inl h1
        · rcases List.mem_cons.1 hq with rfl | hq'
          · rcases h1 with h1 | h1
            · exact absurd h1 hij
            · exact absurd h1.1 (by simp)
          · exact .inr ⟨q, hq', h1⟩
  · rcases List.mem_cons.1 hq with rfl | hq'
    · exact hi
    · exact h.pin q hq'
  · rcases List.mem_cons.1 hq with rfl | hq'
    · exact ⟨z, ha, fun _ => rfl⟩
    · exact h.pal q hq'
  · rcases List.mem_cons.1 hq with rfl | hq'
    · exact absurd hs (by simp)
    · exact h.pst q hq' hs
  · refine List.pairwise_cons.2 ⟨fun q hq e => ?_, h.ni⟩
    have := (h.eq i).2 (.inr ⟨q, hq, .inl e.symm⟩)
    rw [hun.2] at this; cases this
  · refine List.pairwise_cons.2 ⟨fun q hq e => ?_, h.nb⟩
    have h1 := (Array.getElem?_eq_some_iff.1 (hrel.kept _ (List.mem_map_of_mem hq)).1).1
    simp only [Pnd.kp] at h1 e
    omega
  · obtain ⟨h1, h2⟩ := h.base p hp
    refine ⟨Nat.le_trans h1 hext.size, fun q hq => ?_⟩
    rcases List.mem_cons.1 hq with rfl | hq'
    · exact .inr h1
    · exact h2 q hq'
def fillP (i : Nat) (c : Array Value) (p : Pnd) : Pnd := if p.i = i then { p with c := c, st := true } else p
theorem fillP_i (i : Nat) (c : Array Value) (p : Pnd) : (fillP i c p).i = p.i ∧ (fillP i c p).k = p.k ∧ (fillP i c p).d = p.d ∧ (fillP i c p).b = p.b ∧ (fillP i c p).t = p.t := by
  unfold fillP; split <;> exact ⟨rfl, rfl, rfl, rfl, rfl⟩
theorem Inv.store (h : Inv P ops G pr pc S L pend Φ tm w) {i k : Nat} (hi : (i, some k) ∈ pr) (hr : k ∈ Region.ready .any ops L) {q : Pnd} (hq : q ∈ pend) (hqi : q.i = i)
    {m : Nat} {v : Operand} (hs : storeOf P ops k = some (q.d, m, v)) (hw : w.heap.size ≤ w'.heap.size) :
    Inv P ops G pr pc S (L.setIfInBounds k true) (pend.map (fillP i ((⟨tm, []⟩ : Act).eval v).cells)) Φ tm w' := by
  have hun := getD_lt (mem_ready.1 hr).1
  have hqk : q.k = some k := by
    have := lz_inj h.prN (h.pin q hq) hi (.inl hqi) (.inl rfl)
    simp only [Prod.mk.injEq] at this
    exact this.2
  have get : ∀ {q'}, q' ∈ pend.map (fillP i ((⟨tm, []⟩ : Act).eval v).cells) → ∃ p ∈ pend, q' = fillP i ((⟨tm, []⟩ : Act).eval v).cells p := fun hq' => by
    obtain ⟨p, hp, e⟩ := List.mem_map.1 hq'
    exact ⟨p, hp, e.symm⟩
  refine { h with sL := by simp [h.sL], eq := fun j => ?_, pin := fun q' hq' => ?_, pal := fun q' hq' => ?_, pst := fun q' hq' hst => ?_, ni := ?_, nb := ?_, cl := closed_set h.cl hr, base := fun p hp => ?_ }
  · by_cases hkj : k = j
    · subst hkj
      simp only [getD_set_self hun.1, true_iff]
      refine .inr ⟨_, List.mem_map_of_mem hq, .inr ⟨?_, ?_⟩⟩
      · simp [fillP, hqi]
      · rw [(fillP_i _ _ _).2.1]; exact hqk
    · rw [getD_set_ne false hkj, h.eq j]
      constructor
      · rintro (h1 | ⟨p, hp, h1⟩)
        · exact .inl h1
        · refine .inr ⟨_, List.mem_map_of_mem hp, ?_⟩
          rw [(fillP_i _ _ _).1, (fillP_i _ _ _).2.1]
          rcases h1 with h1 | h1
          · exact .inl h1
          · refine .inr ⟨?_, h1.2⟩
            unfold fillP; split
            · rfl
            · exact h1.1
      · rintro (h1 | ⟨q', hq', h1⟩)
        · exact .inl h1
        · obtain ⟨p, hp, rfl⟩ := get hq'
          rw [(fillP_i _ _ _).1, (fillP_i _ _ _).2.1] at h1
          refine .inr ⟨p, hp, ?_⟩
          rcases h1 with h1 | ⟨h1, h2⟩
          · exact .inl h1
          · unfold fillP at h1
            split at h1
            · rename_i hpi
              have := pw_inj h.ni hp hq (by rw [hpi, hqi])
              subst this
              rw [hqk] at h2
              simp only [Option.some.injEq] at h2
              exact absurd h2 hkj
            · exact .inr ⟨h1, h2⟩
  · obtain ⟨p, hp, rfl⟩ := get hq'
    rw [(fillP_i _ _ _).1, (fillP_i _ _ _).2.1]
    exact h.pin p hp
  · obtain ⟨p, hp, rfl⟩ := get hq'
    obtain ⟨z, hz, hc⟩ := h.pal p hp
    refine ⟨z, by rw [(fillP_i _ _ _).1, (fillP_i _ _ _).2.2.1, (fillP_i _ _ _).2.2.2.2]; exact hz, fun hst => ?_⟩
    unfold fillP at hst ⊢
    split at hst
    · cases hst
    · rename_i hne
      rw [if_neg hne]; exact hc hst
  · obtain ⟨p, hp, rfl⟩ := get hq'
    unfold fillP at hst ⊢
    split at hst
    · rename_i hpi
      have := pw_inj h.ni hp hq (by rw [hpi, hqi])
      subst this
      simp only [hpi, if_true]
      exact ⟨k, m, v, hqk, hs, rfl⟩
    · rename_i hne
      rw [if_neg hne]
      exact h.pst p hp hst
  · refine List.pairwise_map.2 (h.ni.imp fun {a b} hab => ?_)
    rw [(fillP_i _ _ _).1, (fillP_i _ _ _).1]; exact hab
  · refine List.pairwise_map.2 (h.nb.imp fun {a b} hab => ?_)
    rw [(fillP_i _ _ _).2.2.2.1, (fillP_i _ _ _).2.2.2.1]; exact hab
  · obtain ⟨h1, h2⟩ := h.base p hp
    refine ⟨Nat.le_trans h1 hw, fun q' hq' => ?_⟩
    obtain ⟨p', hp', rfl⟩ := get hq'
    rw [(fillP_i _ _ _).2.2.2.1]
    exact h2 p' hp'

variable {Q : Exit → Act → World → Prop}
/-- What is taken whenever that is, is taken. -/
theorem lazy_sound (hG : pairsOK P ops G = true) (h : Inv P ops G pr pc S L pend Φ tm w) (hrel : Rel { X with keep := pend.map Pnd.kp } β κ s tm w) {j : Nat} (hj : j ∈ Region.ready .any ops L) (hlz : j ∈ lz pr)
    (hask : ∀ i, (i, some j) ∈ pr → ∃ d m v, storeOf P ops j = some (d, m, v) ∧ ((⟨tm, []⟩ : Act).eval v).cells.size = m ∧ ∀ c ∈ ((⟨tm, []⟩ : Act).eval v).cells.toList, c.oneCell' = true)
    {C : Act → World → Prop} (hC : ∀ pend' w', Inv P ops G pr pc S (L.setIfInBounds j true) pend' Φ tm w' → Rel { X with keep := pend'.map Pnd.kp } β κ s tm w' → (∀ p ∈ Φ, KeptG p.1 p.2 w → KeptG p.1 p.2 w') → C (putsP ⟨tm, ds⟩ pend') w') :
    wpOp P ops Q j C (putsP ⟨tm, ds⟩ pend) w := by
  obtain ⟨⟨i, k⟩, hp, hpj⟩ := mem_lz.1 hlz
  obtain ⟨d, z, t, ha, hdd, hst⟩ := pairsOK_spec hG _ (h.prG _ hp)
  simp only at hpj ha
  by_cases hij : i = j
  · subst hij
    obtain ⟨o, ho, hop, hgd, hdst, hcomp⟩ := allocOf_spec ha
    unfold wpOp
    simp only [ho, Region.wanted, hgd, if_true, Oper.wp, alloc_run hop hcomp, Oper.upon, hdst]
    refine .inl (hC (⟨i, k, d, t, w.heap.size, z.toArray, false⟩ :: pend) _ (h.alloc hrel hp hj ha _) (hrel.keepNew _ _) fun p hp hk => hk.ext (ext_alloc _ _))
  · have hk : k = some j := hpj.resolve_left hij
    subst hk
    obtain ⟨m, v, hs, hm, hwt, hvt⟩ := hst j rfl
    have hun := getD_lt (mem_ready.1 hj).1
    have hLi := waits_ready h.cl hwt hj
    obtain ⟨q, hq, hqi⟩ : ∃ q ∈ pend, q.i = i := by
      rcases (h.eq i).1 hLi with h1 | ⟨q, hq, h1⟩
      · rw [h.nS i (mem_lz.2 ⟨_, hp, .inl rfl⟩)] at h1; cases h1
      · refine ⟨q, hq, ?_⟩
        have := lz_inj h.prN (h.pin q hq) hp (j := i) (by
          rcases h1 with h1 | h1
          · exact .inl h1
          · exact .inr h1.2) (.inl rfl)
        simp only [Prod.mk.injEq] at this
        exact this.1
    have hqk : q.k = some j := by
      have := lz_inj h.prN (h.pin q hq) hp (.inl hqi) (.inl rfl)
      simp only [Prod.mk.injEq] at this
      exact this.2
    have hqst : q.st = false := by
      cases hst : q.st with
      | false => rfl
      | true =>
        have := (h.eq j).2 (.inr ⟨q, hq, .inr ⟨hst, hqk⟩⟩)
        rw [hun.2] at this; cases this
    obtain ⟨z', hz', hc⟩ := h.pal q hq
    rw [hqi, ha] at hz'
    simp only [Option.some.injEq, Prod.mk.injEq] at hz'
    obtain ⟨rfl, rfl, rfl⟩ := hz'
    have hqc := hc hqst
    obtain ⟨d', m', v', hs', hsz, hone⟩ := hask i hp
    rw [hs] at hs'
    simp only [Option.some.injEq, Prod.mk.injEq] at hs'
    obtain ⟨rfl, rfl, rfl⟩ := hs'
    obtain ⟨o, t', inf, ho, hop, hgd, hdst, hinf, hinfs⟩ := storeOf_spec hs
    obtain ⟨hk1, hk2, hk3, hk4⟩ := hrel.kept _ (List.mem_map_of_mem hq)
    simp only [Pnd.kp, hqc] at hk1
    have hdlt : q.d < (⟨tm, []⟩ : Act).tmps.size := h.dn _ hp _ _ _ ha
    have hev : (putsP ⟨tm, ds⟩ pend).eval v = (⟨tm, []⟩ : Act).eval v := eval_puts _ _ _ fun p hp' => by
      obtain ⟨z2, hz2, _⟩ := h.pal p hp'
      exact hvt _ (h.prG _ (h.pin p hp')) _ _ _ hz2
    have hea : (putsP ⟨tm, ds⟩ pend).eval (.tmp q.d) = .pointer (some ⟨q.b, 0, none⟩) := by
      rw [puts_filter _ pend h.ni (fun p hp' hne => h.nd hG hp' hq hne) hq]
      exact eval_put_self _ _ (by rw [size_puts]; exact hdlt)
    have hrun := run_storeAt hinf q.b 0 ((⟨tm, []⟩ : Act).eval v) z.toArray q.t w hk1 (by rw [hsz, hinfs]) (by rw [hinfs, hm]; simp) hone
    have hput : putAt 0 z.toArray.toList ((⟨tm, []⟩ : Act).eval v).cells.toList = ((⟨tm, []⟩ : Act).eval v).cells.toList := by
      have hl : ((⟨tm, []⟩ : Act).eval v).cells.toList.length = z.length := by rw [Array.length_toList, hsz, hm]
      rw [putAt_eq _ _ _ (by simp [hl])]
      have : ((⟨tm, []⟩ : Act).eval v).cells.size = z.length := by rw [hsz, hm]
      simp [this]
    rw [hput] at hrun
    have hg := grown_setRow w q.b _ ((⟨tm, []⟩ : Act).eval v).cells.toList.toArray q.t hk1
    have hex : (execOp (putsP ⟨tm, ds⟩ pend).eval o).run P w = .ok .skip (w.setRow q.b ((⟨tm, []⟩ : Act).eval v).cells.toList.toArray) := by
      obtain ⟨dst, op, type, pos, after, guard⟩ := o
      simp only at hop
      subst hop
      simp only [execOp, Sem.run_bind, hev, hea, hrun]
      simp
    unfold wpOp
    simp only [ho, Region.wanted, hgd, if_true, Oper.wp, hex, Oper.upon, hdst, Act.put]
    have hputs : putsP ⟨tm, ds⟩ (pend.map (fillP i ((⟨tm, []⟩ : Act).eval v).cells)) = putsP ⟨tm, ds⟩ pend := puts_map _ _ (fun p => ⟨(fillP_i _ _ _).2.2.1, (fillP_i _ _ _).2.2.2.1⟩) _
    rw [← hputs]
    refine .inl (hC _ _ (h.store hp hj hq hqi hs hg.1.size) ?_ fun p hp' hkp => ?_)
    · refine hrel.keepSet (List.mem_map_of_mem hq) hg.1 hg.2 fun x hx => ?_
      simp only [List.map_map, List.mem_map, Function.comp_apply] at hx
      obtain ⟨p, hp', rfl⟩ := hx
      unfold fillP
      split
      · rename_i hpi
        have := pw_inj h.ni hp' hq (by rw [hpi, hqi])
        subst this
        exact .inl (by simp [Pnd.kp])
      · rename_i hpi
        exact .inr ⟨List.mem_map_of_mem hp', fun e => hpi (by
          have := pw_inj h.nb hp' hq e
          rw [this, hqi])⟩
    · exact hkp.grown hg.1 ((h.base p hp').2 q hq).symm
end
end Go.Proofs.YtcjdbfnnbejmeaaGreat.Vc
